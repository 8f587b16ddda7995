/- A health as cells. -/
import Derived.Test.YtjeeigdbfngjaaaTx
set_option linter.unusedSimpArgs false
set_option linter.unusedVariables false
namespace Go.Proofs.Ytjeeigdbfngjaaa
open Go.RowKit Go.ChangeShapes Go.WideShapes Go.ChangeAt Go.Deep

structure Hl where
  name : List UInt8
  down : Bool
  run : Int
deriving DecidableEq
def Hl.arr (x : Hl) : Array Value := #[Value.string (textOf x.name), Value.bool x.down, Value.int .i64 x.run]
theorem Hl.arr_size (x : Hl) : x.arr.size = 3 := by simp [Hl.arr]
@[go_sem] theorem Hl.csize (x : Hl) : csize x.arr = 3 := Hl.arr_size x
@[go_sem] theorem Hl.arr_0 (x : Hl) : x.arr[0]? = some (.string (textOf x.name)) := rfl
@[go_sem] theorem Hl.arr_1 (x : Hl) : x.arr[1]? = some (.bool x.down) := rfl
@[go_sem] theorem Hl.arr_2 (x : Hl) : x.arr[2]? = some (.int .i64 x.run) := rfl
theorem Hl.arr_one (x : Hl) : x.arr.all (·.oneCell') = true := by simp [Hl.arr, Value.oneCell']
@[go_sem] theorem Hl.extract_all (x : Hl) : x.arr.extract 0 3 = x.arr := by
  have := Hl.arr_size x
  rw [← this]; simp
theorem Hl.set_0 (x : Hl) (u : List UInt8) : x.arr.setIfInBounds 0 (.string (textOf u)) = ({ x with name := u } : Hl).arr := rfl
theorem Hl.set_1 (x : Hl) (u : Bool) : x.arr.setIfInBounds 1 (.bool u) = ({ x with down := u } : Hl).arr := rfl
theorem Hl.set_2 (x : Hl) (u : Int) : x.arr.setIfInBounds 2 (.int .i64 u) = ({ x with run := u } : Hl).arr := rfl
/-- the one without anything -/
def noHl : Hl := ⟨[], false, 0⟩
@[go_sem] theorem noHl_agg : Value.agg #[Value.string { data := #[] }, Value.bool false, Value.int IntKind.i64 0] = Value.agg noHl.arr := rfl
@[go_sem] theorem noHl_cells : Obj.cells #[Value.string { data := #[] }, Value.bool false, Value.int IntKind.i64 0] 23 = Obj.cells noHl.arr 23 := rfl
def loadHl (v : Value) : Sem Value := Instr.loadAt 23 v
def storeHl (v x : Value) : Sem Unit := Instr.storeAt 23 v x
@[go_sem ↓] theorem loadHl_is (v : Value) : Instr.loadAt 23 v = loadHl v := rfl
@[go_sem ↓] theorem storeHl_is (v x : Value) : Instr.storeAt 23 v x = storeHl v x := rfl
@[go_sem] theorem load_hl (W : World) (b o : Nat) (h : Has W b o 3) : (loadHl (.pointer (some ⟨b, o, none⟩))).run Try.prog W = .ok (.agg (cellsAt W b o 3)) W :=
  run_loadAt_has W b o 3 _ _ Try.underlying23 rfl (by kernel_rfl) h
@[go_sem] theorem store_hl_new (W : World) (c : Array Value) (x : Hl) (b : Nat) (hb : b = W.heap.size) (hc : csize c = 3) :
    (storeHl (.pointer (some ⟨b, 0, none⟩)) (.agg x.arr)).run Try.prog (W.alloc (.cells c 23)) = .ok () (W.alloc (.cells x.arr 23)) := by
  subst hb; exact run_storeAt_new W _ c x.arr (by rw [Hl.arr_size]; kernel_rfl) (by rw [Hl.arr_size]; exact hc) (Hl.arr_one x)
/-- a whole one into cells that are there -/
def setHl (W : World) (b o : Nat) (x : Hl) : World := W.setCells b o x.arr.toList
@[go_sem] theorem store_hl (W : World) (b o : Nat) (x : Hl) (h : W.there b o 3) : (storeHl (.pointer (some ⟨b, o, none⟩)) (.agg x.arr)).run Try.prog W = .ok () (setHl W b o x) :=
  run_storeAt_mid W b o _ x.arr (by rw [Hl.arr_size]; exact h) (by rw [Hl.arr_size]; kernel_rfl) (Hl.arr_one x)
theorem Box.putHl {W : World} {b : Nat} {c : Array Value} (h : Box W b c) (hc : c.size = 3) (x : Hl) : Box (setHl W b 0 x) b x.arr := h.setAll x.arr (by rw [Hl.arr_size, hc])
theorem setHl_below {w W : World} {B : Nat} (h : Below B w W) (b o : Nat) (x : Hl) (hb : B ≤ b) : Below B w (setHl W b o x) := below_setCells hb _ o W h
theorem setHl_grown {w W : World} {g : Nat} (h : w.grownBy W (some g)) (o : Nat) (x : Hl) : w.grownBy (setHl W g o x) (some g) := grown_setCells _ o W h
theorem setHl_other (W : World) (b o : Nat) (x : Hl) (p : Addr) (h : p.block ≠ b) : (setHl W b o x).cell? p = W.cell? p := World.cell?_setCells_out b _ o W p (fun hb _ => absurd hb h)
theorem Box.putHl_other {W : World} {b b2 o : Nat} {c : Array Value} (h : Box W b c) (x : Hl) (hne : b ≠ b2) : Box (setHl W b2 o x) b c := h.grown (setHl_grown (w := W) (g := b2) (World.grownBy.refl _ _) o x) (fun e => hne (by injection e))
def hlEq (x y : Hl) : Bool := (x.name == y.name) && ((x.down == y.down) && ((x.run == y.run) && true))
theorem hlEq_is (x y : Hl) : hlEq x y = decide (x = y) := by
  rw [Bool.eq_iff_iff]
  cases x; cases y
  simp [hlEq]
theorem hlEq_self (x : Hl) : hlEq x x = true := by simp [hlEq]
theorem hl_fields : Try.prog.underlying 23 = some (.struct (Try.prog.fieldsOf 23)) := by
  simp only [Program.fieldsOf, Try.underlying23]
theorem hl_list : ∃ f1 f2 f3 : Field, (Try.prog.fieldsOf 23).toList = [f1, f2, f3] ∧ (f1.name ≠ "_" ∧ f2.name ≠ "_" ∧ f3.name ≠ "_") ∧ (f1.type = 9 ∧ f1.offset = 0) ∧ (f2.type = 4 ∧ f2.offset = 1) ∧ (f3.type = 3 ∧ f3.offset = 2) := by
  refine ⟨_, _, _, by simp only [Program.fieldsOf, Try.underlying23]; rfl, ⟨?_, ?_, ?_⟩, ⟨rfl, rfl⟩, ⟨rfl, rfl⟩, ⟨rfl, rfl⟩⟩ <;> decide
theorem run_eq_hl (x y : Hl) (d : Nat) (W : World) : (Op.equalIn (d + 2) 23 (.agg x.arr) (.agg y.arr)).run Try.prog W = .ok (hlEq x y) W := by
  rw [run_equalIn_struct W (d + 1) _ _ _ hl_fields Try.stoodInHeld23]
  obtain ⟨f1, f2, f3, hl, ⟨n1, n2, n3⟩, ⟨t1, o1⟩, ⟨t2, o2⟩, ⟨t3, o3⟩⟩ := hl_list
  rw [hl]
  have p1 : ∀ z : Hl, (part f1.type z.arr f1.offset).run Try.prog W = .ok (.string (textOf z.name)) W := fun z => by
    rw [t1, o1]; exact part_one (by simp only [Try.underlying9]) (Hl.arr_0 z) W
  have p2 : ∀ z : Hl, (part f2.type z.arr f2.offset).run Try.prog W = .ok (.bool z.down) W := fun z => by
    rw [t2, o2]; exact part_one (by simp only [Try.underlying4]) (Hl.arr_1 z) W
  have p3 : ∀ z : Hl, (part f3.type z.arr f3.offset).run Try.prog W = .ok (.int .i64 z.run) W := fun z => by
    rw [t3, o3]; exact part_one (by simp only [Try.underlying3]) (Hl.arr_2 z) W
  exact (eqFields_cons _ _ _ _ _ n1 W _ _ _ _ (p1 x) (p1 y) (by rw [t1]; exact eq_string _ _ _ W) (eqFields_cons _ _ _ _ _ n2 W _ _ _ _ (p2 x) (p2 y) (by rw [t2]; exact eq_bool _ _ _ W) (eqFields_cons _ _ _ _ _ n3 W _ _ _ _ (p3 x) (p3 y) (by rw [t3]; exact eq_int _ _ _ W) (by simp [Op.eqFields]))))
@[go_sem ↓] theorem eq_hl (x y : Hl) (W : World) : (Op.equalIn 10000 23 (.agg x.arr) (.agg y.arr)).run Try.prog W = .ok (hlEq x y) W := run_eq_hl x y 9998 W
theorem infoHl : ∃ i : TypeInfo, Try.prog.info? 23 = some i ∧ i.zero = some (.agg noHl.arr) ∧ i.size = 3 ∧ i.bytes ≤ 400 := by
  cases h : Try.prog.info? 23 with
  | none => exact absurd h (by have : (Try.prog.info? 23).isSome = true := by kernel_rfl
                               intro e; rw [e] at this; cases this)
  | some i =>
    have h1 : (Try.prog.info? 23).map (·.size) = some 3 := by kernel_rfl
    have h2 : (Try.prog.info? 23).map (fun i => decide (i.bytes ≤ 400)) = some true := by kernel_rfl
    have h3 : (Try.prog.info? 23).map (·.zero) = some (some (.agg noHl.arr)) := by kernel_rfl
    rw [h] at h1 h2 h3
    simp at h1 h2 h3
    exact ⟨i, rfl, h3, h1, h2⟩
def mkHl (ps : Array (Nat × Value)) : Sem Value := Instr.build 23 ps
@[go_sem ↓] theorem mkHl_is (ps : Array (Nat × Value)) : Instr.build 23 ps = mkHl ps := rfl
theorem places_hl (w : World) (fs : Array Field) (h : Try.prog.underlying 23 = some (.struct fs)) : (Array.mapM (fun f => Prod.mk f.offset <$> sizeOf f.type) fs : Sem (Array (Nat × Nat))).run Try.prog w = .ok #[(0, 1), (1, 1), (2, 1)] w := by
  have e := Try.underlying23
  rw [h] at e
  cases e
  show _ = _
  kernel_rfl
@[go_sem] theorem run_mkHl_z (w : World)  : (mkHl #[]).run Try.prog w = .ok (.agg (Hl.mk [] false 0).arr) w := by
  obtain ⟨i0, hi0, hz0, _, _⟩ := infoHl
  exact run_build w _ _ i0 noHl.arr _ _ _ Try.underlying23 hi0 hz0 (places_hl w _ Try.underlying23) rfl
@[go_sem] theorem run_mkHl_0 (w : World) (u0 : List UInt8) : (mkHl #[(0, .string (textOf u0))]).run Try.prog w = .ok (.agg (Hl.mk u0 false 0).arr) w := by
  obtain ⟨i0, hi0, hz0, _, _⟩ := infoHl
  exact run_build w _ _ i0 noHl.arr _ _ _ Try.underlying23 hi0 hz0 (places_hl w _ Try.underlying23) rfl
@[go_sem] theorem run_mkHl_1 (w : World) (u1 : Bool) : (mkHl #[(1, .bool u1)]).run Try.prog w = .ok (.agg (Hl.mk [] u1 0).arr) w := by
  obtain ⟨i0, hi0, hz0, _, _⟩ := infoHl
  exact run_build w _ _ i0 noHl.arr _ _ _ Try.underlying23 hi0 hz0 (places_hl w _ Try.underlying23) rfl
@[go_sem] theorem run_mkHl_2 (w : World) (u2 : Int) : (mkHl #[(2, .int .i64 u2)]).run Try.prog w = .ok (.agg (Hl.mk [] false u2).arr) w := by
  obtain ⟨i0, hi0, hz0, _, _⟩ := infoHl
  exact run_build w _ _ i0 noHl.arr _ _ _ Try.underlying23 hi0 hz0 (places_hl w _ Try.underlying23) rfl
@[go_sem] theorem run_mkHl_01 (w : World) (u0 : List UInt8) (u1 : Bool) : (mkHl #[(0, .string (textOf u0)), (1, .bool u1)]).run Try.prog w = .ok (.agg (Hl.mk u0 u1 0).arr) w := by
  obtain ⟨i0, hi0, hz0, _, _⟩ := infoHl
  exact run_build w _ _ i0 noHl.arr _ _ _ Try.underlying23 hi0 hz0 (places_hl w _ Try.underlying23) rfl
@[go_sem] theorem run_mkHl_02 (w : World) (u0 : List UInt8) (u2 : Int) : (mkHl #[(0, .string (textOf u0)), (2, .int .i64 u2)]).run Try.prog w = .ok (.agg (Hl.mk u0 false u2).arr) w := by
  obtain ⟨i0, hi0, hz0, _, _⟩ := infoHl
  exact run_build w _ _ i0 noHl.arr _ _ _ Try.underlying23 hi0 hz0 (places_hl w _ Try.underlying23) rfl
@[go_sem] theorem run_mkHl_12 (w : World) (u1 : Bool) (u2 : Int) : (mkHl #[(1, .bool u1), (2, .int .i64 u2)]).run Try.prog w = .ok (.agg (Hl.mk [] u1 u2).arr) w := by
  obtain ⟨i0, hi0, hz0, _, _⟩ := infoHl
  exact run_build w _ _ i0 noHl.arr _ _ _ Try.underlying23 hi0 hz0 (places_hl w _ Try.underlying23) rfl
@[go_sem] theorem run_mkHl_012 (w : World) (u0 : List UInt8) (u1 : Bool) (u2 : Int) : (mkHl #[(0, .string (textOf u0)), (1, .bool u1), (2, .int .i64 u2)]).run Try.prog w = .ok (.agg (Hl.mk u0 u1 u2).arr) w := by
  obtain ⟨i0, hi0, hz0, _, _⟩ := infoHl
  exact run_build w _ _ i0 noHl.arr _ _ _ Try.underlying23 hi0 hz0 (places_hl w _ Try.underlying23) rfl
def mkHls (n : Nat) (ps : Array (Nat × Value)) : Sem Value := Instr.buildSlice 34 n ps
@[go_sem ↓] theorem mkHls_is (n : Nat) (ps : Array (Nat × Value)) : Instr.buildSlice 34 n ps = mkHls n ps := rfl
@[go_sem] theorem run_mkHls (w : World) (x : Hl) : (mkHls 1 #[(0, .agg x.arr)]).run Try.prog w = .ok (.slice (some ⟨w.heap.size, 0, none⟩) 1 1) (w.alloc (.cells x.arr 23)) := by
  obtain ⟨i0, hi0, hz0, hz1, hzb⟩ := infoHl
  exact run_slice_lit w _ _ i0 (.agg noHl.arr) 3 Try.underlying34 hi0 hz0 hz1 (Hl.arr_size noHl) (by omega) (by omega) x.arr (Hl.arr_size x)
@[go_sem] theorem run_mkHls0 (w : World) : (mkHls 0 #[]).run Try.prog w = .ok (.slice (some ⟨w.heap.size, 0, none⟩) 0 0) (w.alloc (.cells #[] 23)) := by
  obtain ⟨i0, hi0, hz0, hz1, hzb⟩ := infoHl
  have hne : ¬ i0.size = 0 := by omega
  simp [mkHls, Instr.buildSlice, run_underlying Try.underlying34, sizeOf, typeInfo, zeroValue, hi0, hz0, hz1, Instr.fill, newRow, hne]
  rw [show (Array.range 0) = (#[] : Array Nat) from by simp [Array.range], Array.map_empty]
/-- a function whose first result lies in a cell -/
theorem ret_hl {fn : Func} {p u : Tmp} (h : fn.results = #[.cell p 23, .tmp u]) (tmps : Array Value) (W : World) (b o : Nat) (hp : tmps.getD p undef = .pointer (some ⟨b, o, none⟩)) (hh : Has W b o 3) :
    (results fn tmps).run Try.prog W = .ok (.tuple #[.agg (cellsAt W b o 3), tmps.getD u undef]) W := by
  have hl := run_loadAt_has W b o 3 _ _ Try.underlying23 rfl (by kernel_rfl) hh
  simp only [Instr.loadAt, Instr.sureAddr, Sem.run_bind, Sem.run_pure, Result.andThen_ok] at hl
  rw [results_cell_tmp h, hp]
  simp [asAddr, Result.andThen, hl]
def Hl.good (x : Hl) : Prop := x.name.length ≤ 9223372036854775807 ∧ -9223372036854775808 ≤ x.run ∧ x.run ≤ 9223372036854775807
section
variable {H : Type} {enc : TypeId × Value → H} {w : World} {base : Nat} {spare : Nat → Bool} {held : Bool} {fuel : Nat} {cs : List Value} {x : DataW H × List MemPlace}
theorem read_hl (h : DataW.trod enc Try.prog w base spare held fuel 23 cs = some x) : ∃ x : Hl, cs = x.arr.toList ∧ x.good := by
  obtain ⟨xs, n, _, _, hl, hxl, hf⟩ := DataW.trod_struct Try.underlying23 h
  rw [show Try.prog.cellsOf 23 = 3 by kernel_rfl] at hl
  obtain ⟨y0, h0⟩ := fld hxl hf 0 _ rfl
  obtain ⟨y1, h1⟩ := fld hxl hf 1 _ rfl
  obtain ⟨y2, h2⟩ := fld hxl hf 2 _ rfl
  obtain ⟨v0, e0, g0⟩ := read_str (by kernel_rfl) h0
  obtain ⟨v1, e1, _⟩ := DataW.trod_bool (by kernel_rfl) h1
  obtain ⟨v2, e2, g2, g2b⟩ := read_i64 (by kernel_rfl) h2
  have c0 : (cs.drop 0).take 1 = [.string (textOf v0)] := e0
  have c1 : (cs.drop 1).take 1 = [.bool v1] := e1
  have c2 : (cs.drop 2).take 1 = [.int .i64 v2] := e2
  refine ⟨⟨v0, v1, v2⟩, ?_, g0, g2, g2b⟩
  have e := seg cs 0 1
  rw [c0, seg cs (0 + 1) 1, c1, seg cs (0 + 1 + 1) 1, c2, List.drop_of_length_le (i := 0 + 1 + 1 + 1) (by omega)] at e
  simpa [Hl.arr] using e
end
section
variable {H : Type} {enc : TypeId × Value → H} {W : World} {base : Nat} {v : Value} {d : DataW H} {ps : List MemPlace} {held : Bool}
theorem open_hl (hval : Value.okWide Try.prog W .any base 23 v) (h : DataW.Trod enc Try.prog W 0 (fun _ => true) held 23 v d ps) : ∃ x : Hl, v = .agg x.arr ∧ x.good := by
  obtain ⟨cs, rfl, _⟩ := okWide_struct Try.underlying23 hval
  obtain ⟨fuel, hf⟩ := h
  obtain ⟨b, hcs, hr⟩ := read_hl hf
  have hc : cs.toList = b.arr.toList := hcs
  exact ⟨b, by rw [Array.toList_inj.1 hc], hr⟩
theorem open_hls (hval : Value.okWide Try.prog W .any base 34 v) (h : DataW.Trod enc Try.prog W 0 (fun _ => true) held 34 v d ps) :
    ∃ (A : Option Addr) (n c : Nat) (l : List Hl), v = .slice A n c ∧ RdR Hl.arr 3 W W.heap.size A n l ∧ (∀ o ∈ l, o.good) ∧ n ≤ 9223372036854775807 := by
  obtain ⟨a0, len, cap, rfl⟩ := okWide_slice Try.underlying34 hval
  obtain ⟨fuel, hf⟩ := h
  obtain ⟨A, n, c, l, hs, hnc, hc, hll, hrd, hsp, hgd⟩ := read_rows Hl.arr Hl.good 3 Hl.arr_size Try.underlying34 (by kernel_rfl) (by omega) (fun n cs y hy => read_hl hy) hf
  simp only [Value.cells, List.cons.injEq, Value.slice.injEq, and_true] at hs
  obtain ⟨rfl, rfl, rfl⟩ := hs
  exact ⟨a0, len, cap, l, rfl, ⟨hll, hrd, hsp⟩, hgd, by omega⟩
end

end Go.Proofs.Ytjeeigdbfngjaaa
