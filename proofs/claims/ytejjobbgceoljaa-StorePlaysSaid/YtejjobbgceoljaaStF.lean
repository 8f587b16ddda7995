/- A file of the document's store as cells. -/
import Derived.Test.YtejjobbgceoljaaTx
set_option linter.unusedSimpArgs false
set_option linter.unusedVariables false
namespace Go.Proofs.Ytejjobbgceoljaa
open Go.RowKit Go.ChangeShapes Go.WideShapes Go.ChangeAt Go.Deep

structure Fi where
  name : List UInt8
  b : List UInt8
  syn : Int
deriving DecidableEq
def Fi.arr (x : Fi) : Array Value := #[Value.string (textOf x.name), Value.string (textOf x.b), Value.int .i64 x.syn]
theorem Fi.arr_size (x : Fi) : x.arr.size = 3 := by simp [Fi.arr]
@[go_sem] theorem Fi.csize (x : Fi) : csize x.arr = 3 := Fi.arr_size x
@[go_sem] theorem Fi.arr_0 (x : Fi) : x.arr[0]? = some (.string (textOf x.name)) := rfl
@[go_sem] theorem Fi.arr_1 (x : Fi) : x.arr[1]? = some (.string (textOf x.b)) := rfl
@[go_sem] theorem Fi.arr_2 (x : Fi) : x.arr[2]? = some (.int .i64 x.syn) := rfl
theorem Fi.arr_one (x : Fi) : x.arr.all (·.oneCell') = true := by simp [Fi.arr, Value.oneCell']
@[go_sem] theorem Fi.extract_all (x : Fi) : x.arr.extract 0 3 = x.arr := by
  have := Fi.arr_size x
  rw [← this]; simp
theorem Fi.set_0 (x : Fi) (u : List UInt8) : x.arr.setIfInBounds 0 (.string (textOf u)) = ({ x with name := u } : Fi).arr := rfl
theorem Fi.set_1 (x : Fi) (u : List UInt8) : x.arr.setIfInBounds 1 (.string (textOf u)) = ({ x with b := u } : Fi).arr := rfl
theorem Fi.set_2 (x : Fi) (u : Int) : x.arr.setIfInBounds 2 (.int .i64 u) = ({ x with syn := u } : Fi).arr := rfl
/-- the one without anything -/
def noFi : Fi := ⟨[], [], 0⟩
@[go_sem] theorem noFi_agg : Value.agg #[Value.string { data := #[] }, Value.string { data := #[] }, Value.int IntKind.i64 0] = Value.agg noFi.arr := rfl
@[go_sem] theorem noFi_cells : Obj.cells #[Value.string { data := #[] }, Value.string { data := #[] }, Value.int IntKind.i64 0] 69 = Obj.cells noFi.arr 69 := rfl
def loadFi (v : Value) : Sem Value := Instr.loadAt 69 v
def storeFi (v x : Value) : Sem Unit := Instr.storeAt 69 v x
@[go_sem ↓] theorem loadFi_is (v : Value) : Instr.loadAt 69 v = loadFi v := rfl
@[go_sem ↓] theorem storeFi_is (v x : Value) : Instr.storeAt 69 v x = storeFi v x := rfl
@[go_sem] theorem load_fi (W : World) (b o : Nat) (h : Has W b o 3) : (loadFi (.pointer (some ⟨b, o, none⟩))).run Try.prog W = .ok (.agg (cellsAt W b o 3)) W :=
  run_loadAt_has W b o 3 _ _ Try.underlying69 rfl (by kernel_rfl) h
@[go_sem] theorem store_fi_new (W : World) (c : Array Value) (x : Fi) (b : Nat) (hb : b = W.heap.size) (hc : csize c = 3) :
    (storeFi (.pointer (some ⟨b, 0, none⟩)) (.agg x.arr)).run Try.prog (W.alloc (.cells c 69)) = .ok () (W.alloc (.cells x.arr 69)) := by
  subst hb; exact run_storeAt_new W _ c x.arr (by rw [Fi.arr_size]; kernel_rfl) (by rw [Fi.arr_size]; exact hc) (Fi.arr_one x)
/-- a whole one into cells that are there -/
def setFi (W : World) (b o : Nat) (x : Fi) : World := W.setCells b o x.arr.toList
@[go_sem] theorem store_fi (W : World) (b o : Nat) (x : Fi) (h : W.there b o 3) : (storeFi (.pointer (some ⟨b, o, none⟩)) (.agg x.arr)).run Try.prog W = .ok () (setFi W b o x) :=
  run_storeAt_mid W b o _ x.arr (by rw [Fi.arr_size]; exact h) (by rw [Fi.arr_size]; kernel_rfl) (Fi.arr_one x)
theorem Box.putFi {W : World} {b : Nat} {c : Array Value} (h : Box W b c) (hc : c.size = 3) (x : Fi) : Box (setFi W b 0 x) b x.arr := h.setAll x.arr (by rw [Fi.arr_size, hc])
theorem setFi_below {w W : World} {B : Nat} (h : Below B w W) (b o : Nat) (x : Fi) (hb : B ≤ b) : Below B w (setFi W b o x) := below_setCells hb _ o W h
theorem setFi_grown {w W : World} {g : Nat} (h : w.grownBy W (some g)) (o : Nat) (x : Fi) : w.grownBy (setFi W g o x) (some g) := grown_setCells _ o W h
theorem setFi_other (W : World) (b o : Nat) (x : Fi) (p : Addr) (h : p.block ≠ b) : (setFi W b o x).cell? p = W.cell? p := World.cell?_setCells_out b _ o W p (fun hb _ => absurd hb h)
theorem Box.putFi_other {W : World} {b b2 o : Nat} {c : Array Value} (h : Box W b c) (x : Fi) (hne : b ≠ b2) : Box (setFi W b2 o x) b c := h.grown (setFi_grown (w := W) (g := b2) (World.grownBy.refl _ _) o x) (fun e => hne (by injection e))
theorem infoFi : ∃ i : TypeInfo, Try.prog.info? 69 = some i ∧ i.zero = some (.agg noFi.arr) ∧ i.size = 3 ∧ i.bytes ≤ 400 := by
  cases h : Try.prog.info? 69 with
  | none => exact absurd h (by have : (Try.prog.info? 69).isSome = true := by kernel_rfl
                               intro e; rw [e] at this; cases this)
  | some i =>
    have h1 : (Try.prog.info? 69).map (·.size) = some 3 := by kernel_rfl
    have h2 : (Try.prog.info? 69).map (fun i => decide (i.bytes ≤ 400)) = some true := by kernel_rfl
    have h3 : (Try.prog.info? 69).map (·.zero) = some (some (.agg noFi.arr)) := by kernel_rfl
    rw [h] at h1 h2 h3
    simp at h1 h2 h3
    exact ⟨i, rfl, h3, h1, h2⟩
def mkFi (ps : Array (Nat × Value)) : Sem Value := Instr.build 69 ps
@[go_sem ↓] theorem mkFi_is (ps : Array (Nat × Value)) : Instr.build 69 ps = mkFi ps := rfl
theorem places_fi (w : World) (fs : Array Field) (h : Try.prog.underlying 69 = some (.struct fs)) : (Array.mapM (fun f => Prod.mk f.offset <$> sizeOf f.type) fs : Sem (Array (Nat × Nat))).run Try.prog w = .ok #[(0, 1), (1, 1), (2, 1)] w := by
  have e := Try.underlying69
  rw [h] at e
  cases e
  show _ = _
  kernel_rfl
@[go_sem] theorem run_mkFi_z (w : World)  : (mkFi #[]).run Try.prog w = .ok (.agg (Fi.mk [] [] 0).arr) w := by
  obtain ⟨i0, hi0, hz0, _, _⟩ := infoFi
  exact run_build w _ _ i0 noFi.arr _ _ _ Try.underlying69 hi0 hz0 (places_fi w _ Try.underlying69) rfl
@[go_sem] theorem run_mkFi_0 (w : World) (u0 : List UInt8) : (mkFi #[(0, .string (textOf u0))]).run Try.prog w = .ok (.agg (Fi.mk u0 [] 0).arr) w := by
  obtain ⟨i0, hi0, hz0, _, _⟩ := infoFi
  exact run_build w _ _ i0 noFi.arr _ _ _ Try.underlying69 hi0 hz0 (places_fi w _ Try.underlying69) rfl
@[go_sem] theorem run_mkFi_1 (w : World) (u1 : List UInt8) : (mkFi #[(1, .string (textOf u1))]).run Try.prog w = .ok (.agg (Fi.mk [] u1 0).arr) w := by
  obtain ⟨i0, hi0, hz0, _, _⟩ := infoFi
  exact run_build w _ _ i0 noFi.arr _ _ _ Try.underlying69 hi0 hz0 (places_fi w _ Try.underlying69) rfl
@[go_sem] theorem run_mkFi_2 (w : World) (u2 : Int) : (mkFi #[(2, .int .i64 u2)]).run Try.prog w = .ok (.agg (Fi.mk [] [] u2).arr) w := by
  obtain ⟨i0, hi0, hz0, _, _⟩ := infoFi
  exact run_build w _ _ i0 noFi.arr _ _ _ Try.underlying69 hi0 hz0 (places_fi w _ Try.underlying69) rfl
@[go_sem] theorem run_mkFi_01 (w : World) (u0 : List UInt8) (u1 : List UInt8) : (mkFi #[(0, .string (textOf u0)), (1, .string (textOf u1))]).run Try.prog w = .ok (.agg (Fi.mk u0 u1 0).arr) w := by
  obtain ⟨i0, hi0, hz0, _, _⟩ := infoFi
  exact run_build w _ _ i0 noFi.arr _ _ _ Try.underlying69 hi0 hz0 (places_fi w _ Try.underlying69) rfl
@[go_sem] theorem run_mkFi_02 (w : World) (u0 : List UInt8) (u2 : Int) : (mkFi #[(0, .string (textOf u0)), (2, .int .i64 u2)]).run Try.prog w = .ok (.agg (Fi.mk u0 [] u2).arr) w := by
  obtain ⟨i0, hi0, hz0, _, _⟩ := infoFi
  exact run_build w _ _ i0 noFi.arr _ _ _ Try.underlying69 hi0 hz0 (places_fi w _ Try.underlying69) rfl
@[go_sem] theorem run_mkFi_12 (w : World) (u1 : List UInt8) (u2 : Int) : (mkFi #[(1, .string (textOf u1)), (2, .int .i64 u2)]).run Try.prog w = .ok (.agg (Fi.mk [] u1 u2).arr) w := by
  obtain ⟨i0, hi0, hz0, _, _⟩ := infoFi
  exact run_build w _ _ i0 noFi.arr _ _ _ Try.underlying69 hi0 hz0 (places_fi w _ Try.underlying69) rfl
@[go_sem] theorem run_mkFi_012 (w : World) (u0 : List UInt8) (u1 : List UInt8) (u2 : Int) : (mkFi #[(0, .string (textOf u0)), (1, .string (textOf u1)), (2, .int .i64 u2)]).run Try.prog w = .ok (.agg (Fi.mk u0 u1 u2).arr) w := by
  obtain ⟨i0, hi0, hz0, _, _⟩ := infoFi
  exact run_build w _ _ i0 noFi.arr _ _ _ Try.underlying69 hi0 hz0 (places_fi w _ Try.underlying69) rfl
def mkFis (n : Nat) (ps : Array (Nat × Value)) : Sem Value := Instr.buildSlice 63 n ps
@[go_sem ↓] theorem mkFis_is (n : Nat) (ps : Array (Nat × Value)) : Instr.buildSlice 63 n ps = mkFis n ps := rfl
@[go_sem] theorem run_mkFis (w : World) (x : Fi) : (mkFis 1 #[(0, .agg x.arr)]).run Try.prog w = .ok (.slice (some ⟨w.heap.size, 0, none⟩) 1 1) (w.alloc (.cells x.arr 69)) := by
  obtain ⟨i0, hi0, hz0, hz1, hzb⟩ := infoFi
  exact run_slice_lit w _ _ i0 (.agg noFi.arr) 3 Try.underlying63 hi0 hz0 hz1 (Fi.arr_size noFi) (by omega) (by omega) x.arr (Fi.arr_size x)
@[go_sem] theorem run_mkFis0 (w : World) : (mkFis 0 #[]).run Try.prog w = .ok (.slice (some ⟨w.heap.size, 0, none⟩) 0 0) (w.alloc (.cells #[] 69)) := by
  obtain ⟨i0, hi0, hz0, hz1, hzb⟩ := infoFi
  have hne : ¬ i0.size = 0 := by omega
  simp [mkFis, Instr.buildSlice, run_underlying Try.underlying63, sizeOf, typeInfo, zeroValue, hi0, hz0, hz1, Instr.fill, newRow, hne]
  rw [show (Array.range 0) = (#[] : Array Nat) from by simp [Array.range], Array.map_empty]
/-- a function whose first result lies in a cell -/
theorem ret_fi {fn : Func} {p u : Tmp} (h : fn.results = #[.cell p 69, .tmp u]) (tmps : Array Value) (W : World) (b o : Nat) (hp : tmps.getD p undef = .pointer (some ⟨b, o, none⟩)) (hh : Has W b o 3) :
    (results fn tmps).run Try.prog W = .ok (.tuple #[.agg (cellsAt W b o 3), tmps.getD u undef]) W := by
  have hl := run_loadAt_has W b o 3 _ _ Try.underlying69 rfl (by kernel_rfl) hh
  simp only [Instr.loadAt, Instr.sureAddr, Sem.run_bind, Sem.run_pure, Result.andThen_ok] at hl
  rw [results_cell_tmp h, hp]
  simp [asAddr, Result.andThen, hl]
def Fi.good (x : Fi) : Prop := x.name.length ≤ 9223372036854775807 ∧ x.b.length ≤ 9223372036854775807 ∧ -9223372036854775808 ≤ x.syn ∧ x.syn ≤ 9223372036854775807
section
variable {H : Type} {enc : TypeId × Value → H} {w : World} {base : Nat} {spare : Nat → Bool} {held : Bool} {fuel : Nat} {cs : List Value} {x : DataW H × List MemPlace}
set_option maxRecDepth 100000 in
theorem read_fi (h : DataW.trod enc Try.prog w base spare held fuel 69 cs = some x) : ∃ x : Fi, cs = x.arr.toList ∧ x.good := by
  obtain ⟨xs, n, _, _, hl, hxl, hf⟩ := DataW.trod_struct Try.underlying69 h
  rw [show Try.prog.cellsOf 69 = 3 by kernel_rfl] at hl
  obtain ⟨y0, h0⟩ := fld hxl hf 0 _ rfl
  obtain ⟨y1, h1⟩ := fld hxl hf 1 _ rfl
  obtain ⟨y2, h2⟩ := fld hxl hf 2 _ rfl
  obtain ⟨v0, e0, g0⟩ := read_str (by kernel_rfl) h0
  obtain ⟨v1, e1, g1⟩ := read_str (by kernel_rfl) h1
  obtain ⟨v2, e2, g2, g2b⟩ := read_i64 (by kernel_rfl) h2
  have c0 : (cs.drop 0).take 1 = [.string (textOf v0)] := e0
  have c1 : (cs.drop 1).take 1 = [.string (textOf v1)] := e1
  have c2 : (cs.drop 2).take 1 = [.int .i64 v2] := e2
  refine ⟨⟨v0, v1, v2⟩, ?_, g0, g1, g2, g2b⟩
  have e := seg cs 0 1
  rw [c0, seg cs (0 + 1) 1, c1, seg cs (0 + 1 + 1) 1, c2, List.drop_of_length_le (i := 0 + 1 + 1 + 1) (by omega)] at e
  simpa [Fi.arr] using e
end
section
variable {H : Type} {enc : TypeId × Value → H} {W : World} {base : Nat} {v : Value} {d : DataW H} {ps : List MemPlace} {held : Bool}
set_option maxRecDepth 100000 in
theorem open_fi (hval : Value.okWide Try.prog W .any base 69 v) (h : DataW.Trod enc Try.prog W 0 (fun _ => true) held 69 v d ps) : ∃ x : Fi, v = .agg x.arr ∧ x.good := by
  obtain ⟨cs, rfl, _⟩ := okWide_struct Try.underlying69 hval
  obtain ⟨fuel, hf⟩ := h
  obtain ⟨b, hcs, hr⟩ := read_fi hf
  have hc : cs.toList = b.arr.toList := hcs
  exact ⟨b, by rw [Array.toList_inj.1 hc], hr⟩
set_option maxRecDepth 100000 in
theorem open_fis (hval : Value.okWide Try.prog W .any base 63 v) (h : DataW.Trod enc Try.prog W 0 (fun _ => true) held 63 v d ps) :
    ∃ (A : Option Addr) (n c : Nat) (l : List Fi), v = .slice A n c ∧ RdR Fi.arr 3 W W.heap.size A n l ∧ (∀ o ∈ l, o.good) ∧ n ≤ 9223372036854775807 := by
  obtain ⟨a0, len, cap, rfl⟩ := okWide_slice Try.underlying63 hval
  obtain ⟨fuel, hf⟩ := h
  obtain ⟨A, n, c, l, hs, hnc, hc, hll, hrd, hsp, hgd⟩ := read_rows Fi.arr Fi.good 3 Fi.arr_size Try.underlying63 (by kernel_rfl) (by omega) (fun n cs y hy => read_fi hy) hf
  simp only [Value.cells, List.cons.injEq, Value.slice.injEq, and_true] at hs
  obtain ⟨rfl, rfl, rfl⟩ := hs
  exact ⟨a0, len, cap, l, rfl, ⟨hll, hrd, hsp⟩, hgd, by omega⟩
end

end Go.Proofs.Ytejjobbgceoljaa
