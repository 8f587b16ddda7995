/- An act as cells, and read. -/
import Derived.Test.YtejjobbgceoljaaStF
set_option linter.unusedSimpArgs false
set_option linter.unusedVariables false
namespace Go.Proofs.Ytejjobbgceoljaa
open Go.RowKit Go.ChangeShapes Go.WideShapes Go.ChangeAt Go.Deep

/-- a slice's three words -/
structure Sl where
  A : Option Addr
  n : Nat
  c : Nat
deriving DecidableEq
structure Ac where
  kind : Int
  name : List UInt8
  dst : List UInt8
  b : Sl
  num : Int
  keep : Sl
deriving DecidableEq
def Ac.arr (x : Ac) : Array Value := #[Value.int .i64 x.kind, Value.string (textOf x.name), Value.string (textOf x.dst), Value.slice x.b.A x.b.n x.b.c, Value.int .i64 x.num, Value.slice x.keep.A x.keep.n x.keep.c]
theorem Ac.arr_size (x : Ac) : x.arr.size = 6 := by simp [Ac.arr]
@[go_sem] theorem Ac.csize (x : Ac) : csize x.arr = 6 := Ac.arr_size x
@[go_sem] theorem Ac.arr_0 (x : Ac) : x.arr[0]? = some (.int .i64 x.kind) := rfl
@[go_sem] theorem Ac.arr_1 (x : Ac) : x.arr[1]? = some (.string (textOf x.name)) := rfl
@[go_sem] theorem Ac.arr_2 (x : Ac) : x.arr[2]? = some (.string (textOf x.dst)) := rfl
@[go_sem] theorem Ac.arr_3 (x : Ac) : x.arr[3]? = some (.slice x.b.A x.b.n x.b.c) := rfl
@[go_sem] theorem Ac.arr_4 (x : Ac) : x.arr[4]? = some (.int .i64 x.num) := rfl
@[go_sem] theorem Ac.arr_5 (x : Ac) : x.arr[5]? = some (.slice x.keep.A x.keep.n x.keep.c) := rfl
theorem Ac.arr_one (x : Ac) : x.arr.all (·.oneCell') = true := by simp [Ac.arr, Value.oneCell']
@[go_sem] theorem Ac.extract_all (x : Ac) : x.arr.extract 0 6 = x.arr := by
  have := Ac.arr_size x
  rw [← this]; simp
theorem Ac.set_0 (x : Ac) (u : Int) : x.arr.setIfInBounds 0 (.int .i64 u) = ({ x with kind := u } : Ac).arr := rfl
theorem Ac.set_1 (x : Ac) (u : List UInt8) : x.arr.setIfInBounds 1 (.string (textOf u)) = ({ x with name := u } : Ac).arr := rfl
theorem Ac.set_2 (x : Ac) (u : List UInt8) : x.arr.setIfInBounds 2 (.string (textOf u)) = ({ x with dst := u } : Ac).arr := rfl
theorem Ac.set_3 (x : Ac) (u : Sl) : x.arr.setIfInBounds 3 (.slice u.A u.n u.c) = ({ x with b := u } : Ac).arr := rfl
theorem Ac.set_4 (x : Ac) (u : Int) : x.arr.setIfInBounds 4 (.int .i64 u) = ({ x with num := u } : Ac).arr := rfl
theorem Ac.set_5 (x : Ac) (u : Sl) : x.arr.setIfInBounds 5 (.slice u.A u.n u.c) = ({ x with keep := u } : Ac).arr := rfl
/-- the one without anything -/
def noAc : Ac := ⟨0, [], [], ⟨none, 0, 0⟩, 0, ⟨none, 0, 0⟩⟩
@[go_sem] theorem noAc_agg : Value.agg #[Value.int IntKind.i64 0, Value.string { data := #[] }, Value.string { data := #[] }, Value.slice none 0 0, Value.int IntKind.i64 0, Value.slice none 0 0] = Value.agg noAc.arr := rfl
@[go_sem] theorem noAc_cells : Obj.cells #[Value.int IntKind.i64 0, Value.string { data := #[] }, Value.string { data := #[] }, Value.slice none 0 0, Value.int IntKind.i64 0, Value.slice none 0 0] 35 = Obj.cells noAc.arr 35 := rfl
def loadAc (v : Value) : Sem Value := Instr.loadAt 35 v
def storeAc (v x : Value) : Sem Unit := Instr.storeAt 35 v x
@[go_sem ↓] theorem loadAc_is (v : Value) : Instr.loadAt 35 v = loadAc v := rfl
@[go_sem ↓] theorem storeAc_is (v x : Value) : Instr.storeAt 35 v x = storeAc v x := rfl
@[go_sem] theorem load_ac (W : World) (b o : Nat) (h : Has W b o 6) : (loadAc (.pointer (some ⟨b, o, none⟩))).run Try.prog W = .ok (.agg (cellsAt W b o 6)) W :=
  run_loadAt_has W b o 6 _ _ Try.underlying35 rfl (by kernel_rfl) h
@[go_sem] theorem store_ac_new (W : World) (c : Array Value) (x : Ac) (b : Nat) (hb : b = W.heap.size) (hc : csize c = 6) :
    (storeAc (.pointer (some ⟨b, 0, none⟩)) (.agg x.arr)).run Try.prog (W.alloc (.cells c 35)) = .ok () (W.alloc (.cells x.arr 35)) := by
  subst hb; exact run_storeAt_new W _ c x.arr (by rw [Ac.arr_size]; kernel_rfl) (by rw [Ac.arr_size]; exact hc) (Ac.arr_one x)
/-- a whole one into cells that are there -/
def setAc (W : World) (b o : Nat) (x : Ac) : World := W.setCells b o x.arr.toList
@[go_sem] theorem store_ac (W : World) (b o : Nat) (x : Ac) (h : W.there b o 6) : (storeAc (.pointer (some ⟨b, o, none⟩)) (.agg x.arr)).run Try.prog W = .ok () (setAc W b o x) :=
  run_storeAt_mid W b o _ x.arr (by rw [Ac.arr_size]; exact h) (by rw [Ac.arr_size]; kernel_rfl) (Ac.arr_one x)
theorem Box.putAc {W : World} {b : Nat} {c : Array Value} (h : Box W b c) (hc : c.size = 6) (x : Ac) : Box (setAc W b 0 x) b x.arr := h.setAll x.arr (by rw [Ac.arr_size, hc])
theorem setAc_below {w W : World} {B : Nat} (h : Below B w W) (b o : Nat) (x : Ac) (hb : B ≤ b) : Below B w (setAc W b o x) := below_setCells hb _ o W h
theorem setAc_grown {w W : World} {g : Nat} (h : w.grownBy W (some g)) (o : Nat) (x : Ac) : w.grownBy (setAc W g o x) (some g) := grown_setCells _ o W h
theorem setAc_other (W : World) (b o : Nat) (x : Ac) (p : Addr) (h : p.block ≠ b) : (setAc W b o x).cell? p = W.cell? p := World.cell?_setCells_out b _ o W p (fun hb _ => absurd hb h)
theorem Box.putAc_other {W : World} {b b2 o : Nat} {c : Array Value} (h : Box W b c) (x : Ac) (hne : b ≠ b2) : Box (setAc W b2 o x) b c := h.grown (setAc_grown (w := W) (g := b2) (World.grownBy.refl _ _) o x) (fun e => hne (by injection e))
theorem infoAc : ∃ i : TypeInfo, Try.prog.info? 35 = some i ∧ i.zero = some (.agg noAc.arr) ∧ i.size = 6 ∧ i.bytes ≤ 400 := by
  cases h : Try.prog.info? 35 with
  | none => exact absurd h (by have : (Try.prog.info? 35).isSome = true := by kernel_rfl
                               intro e; rw [e] at this; cases this)
  | some i =>
    have h1 : (Try.prog.info? 35).map (·.size) = some 6 := by kernel_rfl
    have h2 : (Try.prog.info? 35).map (fun i => decide (i.bytes ≤ 400)) = some true := by kernel_rfl
    have h3 : (Try.prog.info? 35).map (·.zero) = some (some (.agg noAc.arr)) := by kernel_rfl
    rw [h] at h1 h2 h3
    simp at h1 h2 h3
    exact ⟨i, rfl, h3, h1, h2⟩
def mkAc (ps : Array (Nat × Value)) : Sem Value := Instr.build 35 ps
@[go_sem ↓] theorem mkAc_is (ps : Array (Nat × Value)) : Instr.build 35 ps = mkAc ps := rfl
theorem places_ac (w : World) (fs : Array Field) (h : Try.prog.underlying 35 = some (.struct fs)) : (Array.mapM (fun f => Prod.mk f.offset <$> sizeOf f.type) fs : Sem (Array (Nat × Nat))).run Try.prog w = .ok #[(0, 1), (1, 1), (2, 1), (3, 1), (4, 1), (5, 1)] w := by
  have e := Try.underlying35
  rw [h] at e
  cases e
  show _ = _
  kernel_rfl
@[go_sem] theorem run_mkAc_z (w : World)  : (mkAc #[]).run Try.prog w = .ok (.agg (Ac.mk 0 [] [] ⟨none, 0, 0⟩ 0 ⟨none, 0, 0⟩).arr) w := by
  obtain ⟨i0, hi0, hz0, _, _⟩ := infoAc
  exact run_build w _ _ i0 noAc.arr _ _ _ Try.underlying35 hi0 hz0 (places_ac w _ Try.underlying35) rfl
def mkAcs (n : Nat) (ps : Array (Nat × Value)) : Sem Value := Instr.buildSlice 22 n ps
@[go_sem ↓] theorem mkAcs_is (n : Nat) (ps : Array (Nat × Value)) : Instr.buildSlice 22 n ps = mkAcs n ps := rfl
@[go_sem] theorem run_mkAcs (w : World) (x : Ac) : (mkAcs 1 #[(0, .agg x.arr)]).run Try.prog w = .ok (.slice (some ⟨w.heap.size, 0, none⟩) 1 1) (w.alloc (.cells x.arr 35)) := by
  obtain ⟨i0, hi0, hz0, hz1, hzb⟩ := infoAc
  exact run_slice_lit w _ _ i0 (.agg noAc.arr) 6 Try.underlying22 hi0 hz0 hz1 (Ac.arr_size noAc) (by omega) (by omega) x.arr (Ac.arr_size x)
@[go_sem] theorem run_mkAcs0 (w : World) : (mkAcs 0 #[]).run Try.prog w = .ok (.slice (some ⟨w.heap.size, 0, none⟩) 0 0) (w.alloc (.cells #[] 35)) := by
  obtain ⟨i0, hi0, hz0, hz1, hzb⟩ := infoAc
  have hne : ¬ i0.size = 0 := by omega
  simp [mkAcs, Instr.buildSlice, run_underlying Try.underlying22, sizeOf, typeInfo, zeroValue, hi0, hz0, hz1, Instr.fill, newRow, hne]
  rw [show (Array.range 0) = (#[] : Array Nat) from by simp [Array.range], Array.map_empty]
/-! ### rows of bytes, and of numbers -/
def u8A (b : UInt8) : Array Value := #[bv b]
theorem u8A_size (b : UInt8) : (u8A b).size = 1 := rfl
theorem u8A_one (b : UInt8) : (u8A b).all (·.oneCell') = true := by simp [u8A, bv, Value.oneCell']
abbrev RdY := RdR u8A 1
def i64A (z : Int) : Array Value := #[.int .i64 z]
theorem i64A_size (z : Int) : (i64A z).size = 1 := rfl
theorem i64A_one (z : Int) : (i64A z).all (·.oneCell') = true := by simp [i64A, Value.oneCell']
abbrev RdZ := RdR i64A 1
/-- an act, read: what its slices hold -/
def Ac.good (W : World) (B : Nat) (x : Ac) : Prop :=
  (-9223372036854775808 ≤ x.kind ∧ x.kind ≤ 9223372036854775807) ∧ x.name.length ≤ 9223372036854775807 ∧ x.dst.length ≤ 9223372036854775807 ∧ (-9223372036854775808 ≤ x.num ∧ x.num ≤ 9223372036854775807) ∧
  (∃ bs, RdY W B x.b.A x.b.n bs ∧ x.b.n ≤ 9223372036854775807) ∧ (∃ ks : List Int, RdZ W B x.keep.A x.keep.n ks ∧ (∀ z ∈ ks, -9223372036854775808 ≤ z ∧ z ≤ 9223372036854775807) ∧ x.keep.n ≤ 9223372036854775807)
section
variable {H : Type} {enc : TypeId × Value → H} {w : World} {base : Nat} {held : Bool} {fuel : Nat} {cs : List Value} {x : DataW H × List MemPlace}
set_option maxRecDepth 100000 in
theorem read_bytes (h : DataW.trod enc Try.prog w base (fun _ => true) held fuel 32 cs = some x) : ∃ (s : Sl) (bs : List UInt8), cs = [.slice s.A s.n s.c] ∧ RdY w w.heap.size s.A s.n bs ∧ s.n ≤ 9223372036854775807 := by
  obtain ⟨A, n, c, l, hs, hnc, hc, hll, hrd, hsp, hgd⟩ := read_rows u8A (fun _ => True) 1 (fun _ => rfl) Try.underlying32 (by kernel_rfl) (by omega) (fun n cs y hy => by
    obtain ⟨b, hb⟩ := read_u8 Try.underlying5 hy
    exact ⟨b, hb, trivial⟩) h
  exact ⟨⟨A, n, c⟩, l, hs, ⟨hll, hrd, hsp⟩, by show n ≤ _; omega⟩
set_option maxRecDepth 100000 in
theorem read_ints (h : DataW.trod enc Try.prog w base (fun _ => true) held fuel 33 cs = some x) : ∃ (s : Sl) (ks : List Int), cs = [.slice s.A s.n s.c] ∧ RdZ w w.heap.size s.A s.n ks ∧ (∀ z ∈ ks, -9223372036854775808 ≤ z ∧ z ≤ 9223372036854775807) ∧ s.n ≤ 9223372036854775807 := by
  obtain ⟨A, n, c, l, hs, hnc, hc, hll, hrd, hsp, hgd⟩ := read_rows i64A (fun z => -9223372036854775808 ≤ z ∧ z ≤ 9223372036854775807) 1 (fun _ => rfl) Try.underlying33 (by kernel_rfl) (by omega) (fun n cs y hy => by
    obtain ⟨z, hz, h1, h2⟩ := read_i64 Try.underlying3 hy
    exact ⟨z, hz, h1, h2⟩) h
  exact ⟨⟨A, n, c⟩, l, hs, ⟨hll, hrd, hsp⟩, hgd, by show n ≤ _; omega⟩
set_option maxRecDepth 100000 in
theorem read_ac (h : DataW.trod enc Try.prog w base (fun _ => true) held fuel 35 cs = some x) : ∃ x : Ac, cs = x.arr.toList ∧ x.good w w.heap.size := by
  obtain ⟨xs, n, _, _, hl, hxl, hf⟩ := DataW.trod_struct Try.underlying35 h
  rw [show Try.prog.cellsOf 35 = 6 by kernel_rfl] at hl
  obtain ⟨y0, h0⟩ := fld hxl hf 0 _ rfl
  obtain ⟨y1, h1⟩ := fld hxl hf 1 _ rfl
  obtain ⟨y2, h2⟩ := fld hxl hf 2 _ rfl
  obtain ⟨y3, h3⟩ := fld hxl hf 3 _ rfl
  obtain ⟨y4, h4⟩ := fld hxl hf 4 _ rfl
  obtain ⟨y5, h5⟩ := fld hxl hf 5 _ rfl
  obtain ⟨v0, e0, g0, g0b⟩ := read_i64 (by kernel_rfl) h0
  obtain ⟨v1, e1, g1⟩ := read_str (by kernel_rfl) h1
  obtain ⟨v2, e2, g2⟩ := read_str (by kernel_rfl) h2
  obtain ⟨v3, bs, e3, g3, g3b⟩ := read_bytes h3
  obtain ⟨v4, e4, g4, g4b⟩ := read_i64 (by kernel_rfl) h4
  obtain ⟨v5, ks, e5, g5, g5b, g5c⟩ := read_ints h5
  have c0 : (cs.drop 0).take 1 = [.int .i64 v0] := e0
  have c1 : (cs.drop 1).take 1 = [.string (textOf v1)] := e1
  have c2 : (cs.drop 2).take 1 = [.string (textOf v2)] := e2
  have c3 : (cs.drop 3).take 1 = [.slice v3.A v3.n v3.c] := e3
  have c4 : (cs.drop 4).take 1 = [.int .i64 v4] := e4
  have c5 : (cs.drop 5).take 1 = [.slice v5.A v5.n v5.c] := e5
  refine ⟨⟨v0, v1, v2, v3, v4, v5⟩, ?_, ⟨g0, g0b⟩, g1, g2, ⟨g4, g4b⟩, ⟨bs, g3, g3b⟩, ⟨ks, g5, g5b, g5c⟩⟩
  have e := seg cs 0 1
  rw [c0, seg cs (0 + 1) 1, c1, seg cs (0 + 1 + 1) 1, c2, seg cs (0 + 1 + 1 + 1) 1, c3, seg cs (0 + 1 + 1 + 1 + 1) 1, c4, seg cs (0 + 1 + 1 + 1 + 1 + 1) 1, c5, List.drop_of_length_le (i := 0 + 1 + 1 + 1 + 1 + 1 + 1) (by omega)] at e
  simpa [Ac.arr] using e
end
abbrev RdA := RdR Ac.arr 6
section
variable {H : Type} {enc : TypeId × Value → H} {W : World} {base : Nat} {v : Value} {d : DataW H} {ps : List MemPlace} {held : Bool}
set_option maxRecDepth 100000 in
theorem open_ac (hval : Value.okWide Try.prog W .any base 35 v) (h : DataW.Trod enc Try.prog W 0 (fun _ => true) held 35 v d ps) : ∃ x : Ac, v = .agg x.arr ∧ x.good W W.heap.size := by
  obtain ⟨cs, rfl, _⟩ := okWide_struct Try.underlying35 hval
  obtain ⟨fuel, hf⟩ := h
  obtain ⟨b, hcs, hr⟩ := read_ac hf
  have hc : cs.toList = b.arr.toList := hcs
  exact ⟨b, by rw [Array.toList_inj.1 hc], hr⟩
set_option maxRecDepth 100000 in
theorem open_acs (hval : Value.okWide Try.prog W .any base 22 v) (h : DataW.Trod enc Try.prog W 0 (fun _ => true) held 22 v d ps) :
    ∃ (A : Option Addr) (n c : Nat) (l : List Ac), v = .slice A n c ∧ RdA W W.heap.size A n l ∧ (∀ o ∈ l, o.good W W.heap.size) ∧ n ≤ 9223372036854775807 := by
  obtain ⟨a0, len, cap, rfl⟩ := okWide_slice Try.underlying22 hval
  obtain ⟨fuel, hf⟩ := h
  obtain ⟨A, n, c, l, hs, hnc, hc, hll, hrd, hsp, hgd⟩ := read_rows Ac.arr (fun x => x.good W W.heap.size) 6 Ac.arr_size Try.underlying22 (by kernel_rfl) (by omega) (fun n cs y hy => read_ac hy) hf
  simp only [Value.cells, List.cons.injEq, Value.slice.injEq, and_true] at hs
  obtain ⟨rfl, rfl, rfl⟩ := hs
  exact ⟨a0, len, cap, l, rfl, ⟨hll, hrd, hsp⟩, hgd, by omega⟩
set_option maxRecDepth 100000 in
theorem open_bys (hval : Value.okWide Try.prog W .any base 32 v) (h : DataW.Trod enc Try.prog W 0 (fun _ => true) held 32 v d ps) :
    ∃ (A : Option Addr) (n c : Nat) (l : List UInt8), v = .slice A n c ∧ RdY W W.heap.size A n l ∧ n ≤ 9223372036854775807 := by
  obtain ⟨a0, len, cap, rfl⟩ := okWide_slice Try.underlying32 hval
  obtain ⟨fuel, hf⟩ := h
  obtain ⟨s, bs, hs, hr, hn⟩ := read_bytes hf
  simp only [Value.cells, List.cons.injEq, Value.slice.injEq, and_true] at hs
  obtain ⟨rfl, rfl, rfl⟩ := hs
  exact ⟨s.A, s.n, s.c, bs, rfl, hr, hn⟩
set_option maxRecDepth 100000 in
theorem open_ints (hval : Value.okWide Try.prog W .any base 33 v) (h : DataW.Trod enc Try.prog W 0 (fun _ => true) held 33 v d ps) :
    ∃ (A : Option Addr) (n c : Nat) (l : List Int), v = .slice A n c ∧ RdZ W W.heap.size A n l ∧ (∀ z ∈ l, -9223372036854775808 ≤ z ∧ z ≤ 9223372036854775807) ∧ n ≤ 9223372036854775807 := by
  obtain ⟨a0, len, cap, rfl⟩ := okWide_slice Try.underlying33 hval
  obtain ⟨fuel, hf⟩ := h
  obtain ⟨s, ks, hs, hr, hg, hn⟩ := read_ints hf
  simp only [Value.cells, List.cons.injEq, Value.slice.injEq, and_true] at hs
  obtain ⟨rfl, rfl, rfl⟩ := hs
  exact ⟨s.A, s.n, s.c, ks, rfl, hr, hg, hn⟩
end

end Go.Proofs.Ytejjobbgceoljaa
