/- A health as cells. -/
import Derived.Test.YtmpemeemlhmaaaaGreatQ6
import Derived.Test.YtmpemeemlhmaaaaGreatRows
set_option linter.unusedSimpArgs false
set_option linter.unusedVariables false
set_option maxRecDepth 100000
namespace Go.Proofs.YtmpemeemlhmaaaaGreat
open Go.RowKit Go.ChangeShapes Go.WideShapes Go.ChangeAt Go.Deep

structure Hl where
  name : List UInt8
  down : Bool
  run : Int
deriving DecidableEq
def Hl.arr (x : Hl) : Array Value := #[Value.string (textOf x.name), Value.bool x.down, Value.int .i64 x.run]
theorem Hl.arr_size (x : Hl) : x.arr.size = 3 := by simp [Hl.arr]
@[go_sem] theorem Hl.csize (x : Hl) : csize x.arr = 3 := Hl.arr_size x
@[go_sem] theorem Hl.arr_0 (x : Hl) : x.arr[0]? = some (.string (textOf x.name)) := rfl
@[go_sem] theorem Hl.arr_1 (x : Hl) : x.arr[1]? = some (.bool x.down) := rfl
@[go_sem] theorem Hl.arr_2 (x : Hl) : x.arr[2]? = some (.int .i64 x.run) := rfl
theorem Hl.arr_one (x : Hl) : x.arr.all (·.oneCell') = true := by simp [Hl.arr, Value.oneCell']
@[go_sem] theorem Hl.extract_all (x : Hl) : x.arr.extract 0 3 = x.arr := by
  have := Hl.arr_size x
  rw [← this]; simp
theorem Hl.set_0 (x : Hl) (u : List UInt8) : x.arr.setIfInBounds 0 (.string (textOf u)) = ({ x with name := u } : Hl).arr := rfl
theorem Hl.set_1 (x : Hl) (u : Bool) : x.arr.setIfInBounds 1 (.bool u) = ({ x with down := u } : Hl).arr := rfl
theorem Hl.set_2 (x : Hl) (u : Int) : x.arr.setIfInBounds 2 (.int .i64 u) = ({ x with run := u } : Hl).arr := rfl
/-- the one without anything -/
def noHl : Hl := ⟨[], false, 0⟩
@[go_sem] theorem noHl_agg : Value.agg #[Value.string { data := #[] }, Value.bool false, Value.int IntKind.i64 0] = Value.agg noHl.arr := rfl
@[go_sem] theorem noHl_cells : Obj.cells #[Value.string { data := #[] }, Value.bool false, Value.int IntKind.i64 0] 74 = Obj.cells noHl.arr 74 := rfl
def loadHl (v : Value) : Sem Value := Instr.loadAt 74 v
def storeHl (v x : Value) : Sem Unit := Instr.storeAt 74 v x
@[go_sem ↓] theorem loadHl_is (v : Value) : Instr.loadAt 74 v = loadHl v := rfl
@[go_sem ↓] theorem storeHl_is (v x : Value) : Instr.storeAt 74 v x = storeHl v x := rfl
@[go_sem] theorem load_hl (W : World) (b o : Nat) (h : Has W b o 3) : (loadHl (.pointer (some ⟨b, o, none⟩))).run Tryz.prog W = .ok (.agg (cellsAt W b o 3)) W :=
  run_loadAt_has W b o 3 _ _ Tryz.underlying74 rfl (by kernel_rfl) h
@[go_sem] theorem store_hl_new (W : World) (c : Array Value) (x : Hl) (b : Nat) (hb : b = W.heap.size) (hc : csize c = 3) :
    (storeHl (.pointer (some ⟨b, 0, none⟩)) (.agg x.arr)).run Tryz.prog (W.alloc (.cells c 74)) = .ok () (W.alloc (.cells x.arr 74)) := by
  subst hb; exact run_storeAt_new W _ c x.arr (by rw [Hl.arr_size]; kernel_rfl) (by rw [Hl.arr_size]; exact hc) (Hl.arr_one x)
/-- a whole one into cells that are there -/
def setHl (W : World) (b o : Nat) (x : Hl) : World := W.setCells b o x.arr.toList
@[go_sem] theorem store_hl (W : World) (b o : Nat) (x : Hl) (h : W.there b o 3) : (storeHl (.pointer (some ⟨b, o, none⟩)) (.agg x.arr)).run Tryz.prog W = .ok () (setHl W b o x) :=
  run_storeAt_mid W b o _ x.arr (by rw [Hl.arr_size]; exact h) (by rw [Hl.arr_size]; kernel_rfl) (Hl.arr_one x)
theorem Box.putHl {W : World} {b : Nat} {c : Array Value} (h : Box W b c) (hc : c.size = 3) (x : Hl) : Box (setHl W b 0 x) b x.arr := h.setAll x.arr (by rw [Hl.arr_size, hc])
theorem setHl_below {w W : World} {B : Nat} (h : Below B w W) (b o : Nat) (x : Hl) (hb : B ≤ b) : Below B w (setHl W b o x) := below_setCells hb _ o W h
theorem setHl_grown {w W : World} {g : Nat} (h : w.grownBy W (some g)) (o : Nat) (x : Hl) : w.grownBy (setHl W g o x) (some g) := grown_setCells _ o W h
theorem setHl_other (W : World) (b o : Nat) (x : Hl) (p : Addr) (h : p.block ≠ b) : (setHl W b o x).cell? p = W.cell? p := World.cell?_setCells_out b _ o W p (fun hb _ => absurd hb h)
theorem Box.putHl_other {W : World} {b b2 o : Nat} {c : Array Value} (h : Box W b c) (x : Hl) (hne : b ≠ b2) : Box (setHl W b2 o x) b c := h.grown (setHl_grown (w := W) (g := b2) (World.grownBy.refl _ _) o x) (fun e => hne (by injection e))
def hlEq (x y : Hl) : Bool := (x.name == y.name) && ((x.down == y.down) && ((x.run == y.run) && true))
theorem hlEq_is (x y : Hl) : hlEq x y = decide (x = y) := by
  rw [Bool.eq_iff_iff]
  cases x; cases y
  simp [hlEq]
theorem hlEq_self (x : Hl) : hlEq x x = true := by simp [hlEq]
theorem hl_fields : Tryz.prog.underlying 74 = some (.struct (Tryz.prog.fieldsOf 74)) := by
  simp only [Program.fieldsOf, Tryz.underlying74]
theorem hl_list : ∃ f1 f2 f3 : Field, (Tryz.prog.fieldsOf 74).toList = [f1, f2, f3] ∧ (f1.name ≠ "_" ∧ f2.name ≠ "_" ∧ f3.name ≠ "_") ∧ (f1.type = 9 ∧ f1.offset = 0) ∧ (f2.type = 4 ∧ f2.offset = 1) ∧ (f3.type = 3 ∧ f3.offset = 2) := by
  refine ⟨_, _, _, by simp only [Program.fieldsOf, Tryz.underlying74]; rfl, ⟨?_, ?_, ?_⟩, ⟨rfl, rfl⟩, ⟨rfl, rfl⟩, ⟨rfl, rfl⟩⟩ <;> decide
theorem run_eq_hl (x y : Hl) (d : Nat) (W : World) : (Op.equalIn (d + 2) 74 (.agg x.arr) (.agg y.arr)).run Tryz.prog W = .ok (hlEq x y) W := by
  rw [run_equalIn_struct W (d + 1) _ _ _ hl_fields Tryz.stoodInHeld74]
  obtain ⟨f1, f2, f3, hl, ⟨n1, n2, n3⟩, ⟨t1, o1⟩, ⟨t2, o2⟩, ⟨t3, o3⟩⟩ := hl_list
  rw [hl]
  have p1 : ∀ z : Hl, (part f1.type z.arr f1.offset).run Tryz.prog W = .ok (.string (textOf z.name)) W := fun z => by
    rw [t1, o1]; exact part_one (by simp only [Tryz.underlying9]) (Hl.arr_0 z) W
  have p2 : ∀ z : Hl, (part f2.type z.arr f2.offset).run Tryz.prog W = .ok (.bool z.down) W := fun z => by
    rw [t2, o2]; exact part_one (by simp only [Tryz.underlying4]) (Hl.arr_1 z) W
  have p3 : ∀ z : Hl, (part f3.type z.arr f3.offset).run Tryz.prog W = .ok (.int .i64 z.run) W := fun z => by
    rw [t3, o3]; exact part_one (by simp only [Tryz.underlying3]) (Hl.arr_2 z) W
  exact (eqFields_cons _ _ _ _ _ n1 W _ _ _ _ (p1 x) (p1 y) (by rw [t1]; exact eq_string _ _ _ W) (eqFields_cons _ _ _ _ _ n2 W _ _ _ _ (p2 x) (p2 y) (by rw [t2]; exact eq_bool _ _ _ W) (eqFields_cons _ _ _ _ _ n3 W _ _ _ _ (p3 x) (p3 y) (by rw [t3]; exact eq_int _ _ _ W) (by simp [Op.eqFields]))))
@[go_sem ↓] theorem eq_hl (x y : Hl) (W : World) : (Op.equalIn 10000 74 (.agg x.arr) (.agg y.arr)).run Tryz.prog W = .ok (hlEq x y) W := run_eq_hl x y 9998 W
theorem infoHl : ∃ i : TypeInfo, Tryz.prog.info? 74 = some i ∧ i.zero = some (.agg noHl.arr) ∧ i.size = 3 ∧ i.bytes ≤ 400 := by
  cases h : Tryz.prog.info? 74 with
  | none => exact absurd h (by have : (Tryz.prog.info? 74).isSome = true := by kernel_rfl
                               intro e; rw [e] at this; cases this)
  | some i =>
    have h1 : (Tryz.prog.info? 74).map (·.size) = some 3 := by kernel_rfl
    have h2 : (Tryz.prog.info? 74).map (fun i => decide (i.bytes ≤ 400)) = some true := by kernel_rfl
    have h3 : (Tryz.prog.info? 74).map (·.zero) = some (some (.agg noHl.arr)) := by kernel_rfl
    rw [h] at h1 h2 h3
    simp at h1 h2 h3
    exact ⟨i, rfl, h3, h1, h2⟩
def mkHl (ps : Array (Nat × Value)) : Sem Value := Instr.build 74 ps
@[go_sem ↓] theorem mkHl_is (ps : Array (Nat × Value)) : Instr.build 74 ps = mkHl ps := rfl
theorem places_hl (w : World) (fs : Array Field) (h : Tryz.prog.underlying 74 = some (.struct fs)) : (Array.mapM (fun f => Prod.mk f.offset <$> sizeOf f.type) fs : Sem (Array (Nat × Nat))).run Tryz.prog w = .ok #[(0, 1), (1, 1), (2, 1)] w := by
  have e := Tryz.underlying74
  rw [h] at e
  cases e
  show _ = _
  kernel_rfl
@[go_sem] theorem run_mkHl_z (w : World)  : (mkHl #[]).run Tryz.prog w = .ok (.agg (Hl.mk [] false 0).arr) w := by
  obtain ⟨i0, hi0, hz0, _, _⟩ := infoHl
  exact run_build w _ _ i0 noHl.arr _ _ _ Tryz.underlying74 hi0 hz0 (places_hl w _ Tryz.underlying74) rfl
@[go_sem] theorem run_mkHl_0 (w : World) (u0 : List UInt8) : (mkHl #[(0, .string (textOf u0))]).run Tryz.prog w = .ok (.agg (Hl.mk u0 false 0).arr) w := by
  obtain ⟨i0, hi0, hz0, _, _⟩ := infoHl
  exact run_build w _ _ i0 noHl.arr _ _ _ Tryz.underlying74 hi0 hz0 (places_hl w _ Tryz.underlying74) rfl
@[go_sem] theorem run_mkHl_1 (w : World) (u1 : Bool) : (mkHl #[(1, .bool u1)]).run Tryz.prog w = .ok (.agg (Hl.mk [] u1 0).arr) w := by
  obtain ⟨i0, hi0, hz0, _, _⟩ := infoHl
  exact run_build w _ _ i0 noHl.arr _ _ _ Tryz.underlying74 hi0 hz0 (places_hl w _ Tryz.underlying74) rfl
@[go_sem] theorem run_mkHl_2 (w : World) (u2 : Int) : (mkHl #[(2, .int .i64 u2)]).run Tryz.prog w = .ok (.agg (Hl.mk [] false u2).arr) w := by
  obtain ⟨i0, hi0, hz0, _, _⟩ := infoHl
  exact run_build w _ _ i0 noHl.arr _ _ _ Tryz.underlying74 hi0 hz0 (places_hl w _ Tryz.underlying74) rfl
@[go_sem] theorem run_mkHl_01 (w : World) (u0 : List UInt8) (u1 : Bool) : (mkHl #[(0, .string (textOf u0)), (1, .bool u1)]).run Tryz.prog w = .ok (.agg (Hl.mk u0 u1 0).arr) w := by
  obtain ⟨i0, hi0, hz0, _, _⟩ := infoHl
  exact run_build w _ _ i0 noHl.arr _ _ _ Tryz.underlying74 hi0 hz0 (places_hl w _ Tryz.underlying74) rfl
@[go_sem] theorem run_mkHl_02 (w : World) (u0 : List UInt8) (u2 : Int) : (mkHl #[(0, .string (textOf u0)), (2, .int .i64 u2)]).run Tryz.prog w = .ok (.agg (Hl.mk u0 false u2).arr) w := by
  obtain ⟨i0, hi0, hz0, _, _⟩ := infoHl
  exact run_build w _ _ i0 noHl.arr _ _ _ Tryz.underlying74 hi0 hz0 (places_hl w _ Tryz.underlying74) rfl
@[go_sem] theorem run_mkHl_12 (w : World) (u1 : Bool) (u2 : Int) : (mkHl #[(1, .bool u1), (2, .int .i64 u2)]).run Tryz.prog w = .ok (.agg (Hl.mk [] u1 u2).arr) w := by
  obtain ⟨i0, hi0, hz0, _, _⟩ := infoHl
  exact run_build w _ _ i0 noHl.arr _ _ _ Tryz.underlying74 hi0 hz0 (places_hl w _ Tryz.underlying74) rfl
@[go_sem] theorem run_mkHl_012 (w : World) (u0 : List UInt8) (u1 : Bool) (u2 : Int) : (mkHl #[(0, .string (textOf u0)), (1, .bool u1), (2, .int .i64 u2)]).run Tryz.prog w = .ok (.agg (Hl.mk u0 u1 u2).arr) w := by
  obtain ⟨i0, hi0, hz0, _, _⟩ := infoHl
  exact run_build w _ _ i0 noHl.arr _ _ _ Tryz.underlying74 hi0 hz0 (places_hl w _ Tryz.underlying74) rfl
def mkHls (n : Nat) (ps : Array (Nat × Value)) : Sem Value := Instr.buildSlice 25 n ps
@[go_sem ↓] theorem mkHls_is (n : Nat) (ps : Array (Nat × Value)) : Instr.buildSlice 25 n ps = mkHls n ps := rfl
@[go_sem] theorem run_mkHls (w : World) (x : Hl) : (mkHls 1 #[(0, .agg x.arr)]).run Tryz.prog w = .ok (.slice (some ⟨w.heap.size, 0, none⟩) 1 1) (w.alloc (.cells x.arr 74)) := by
  obtain ⟨i0, hi0, hz0, hz1, hzb⟩ := infoHl
  exact run_slice_lit w _ _ i0 (.agg noHl.arr) 3 Tryz.underlying25 hi0 hz0 hz1 (Hl.arr_size noHl) (by omega) (by omega) x.arr (Hl.arr_size x)
@[go_sem] theorem run_mkHls0 (w : World) : (mkHls 0 #[]).run Tryz.prog w = .ok (.slice (some ⟨w.heap.size, 0, none⟩) 0 0) (w.alloc (.cells #[] 74)) := by
  obtain ⟨i0, hi0, hz0, hz1, hzb⟩ := infoHl
  have hne : ¬ i0.size = 0 := by omega
  simp [mkHls, Instr.buildSlice, run_underlying Tryz.underlying25, sizeOf, typeInfo, zeroValue, hi0, hz0, hz1, Instr.fill, newRow, hne]
  rw [show (Array.range 0) = (#[] : Array Nat) from by simp [Array.range], Array.map_empty]
/-- a function whose first result lies in a cell -/
theorem ret_hl {fn : Func} {p u : Tmp} (h : fn.results = #[.cell p 74, .tmp u]) (tmps : Array Value) (W : World) (b o : Nat) (hp : tmps.getD p undef = .pointer (some ⟨b, o, none⟩)) (hh : Has W b o 3) :
    (results fn tmps).run Tryz.prog W = .ok (.tuple #[.agg (cellsAt W b o 3), tmps.getD u undef]) W := by
  have hl := run_loadAt_has W b o 3 _ _ Tryz.underlying74 rfl (by kernel_rfl) hh
  simp only [Instr.loadAt, Instr.sureAddr, Sem.run_bind, Sem.run_pure, Result.andThen_ok] at hl
  rw [results_cell_tmp h, hp]
  simp [asAddr, Result.andThen, hl]
def Hl.good (x : Hl) : Prop := x.name.length ≤ 9223372036854775807 ∧ -9223372036854775808 ≤ x.run ∧ x.run ≤ 9223372036854775807
section
variable {H : Type} {enc : TypeId × Value → H} {w : World} {base : Nat} {spare : Nat → Bool} {held : Bool} {fuel : Nat} {cs : List Value} {x : DataW H × List MemPlace}
theorem read_hl (h : DataW.trod enc Tryz.prog w base spare held fuel 74 cs = some x) : ∃ x : Hl, cs = x.arr.toList ∧ x.good := by
  obtain ⟨xs, n, _, _, hl, hxl, hf⟩ := DataW.trod_struct Tryz.underlying74 h
  rw [show Tryz.prog.cellsOf 74 = 3 by kernel_rfl] at hl
  obtain ⟨y0, h0⟩ := fld hxl hf 0 _ rfl
  obtain ⟨y1, h1⟩ := fld hxl hf 1 _ rfl
  obtain ⟨y2, h2⟩ := fld hxl hf 2 _ rfl
  obtain ⟨v0, e0, g0⟩ := read_str (by kernel_rfl) h0
  obtain ⟨v1, e1, _⟩ := DataW.trod_bool (by kernel_rfl) h1
  obtain ⟨v2, e2, g2, g2b⟩ := read_i64 (by kernel_rfl) h2
  have c0 : (cs.drop 0).take 1 = [.string (textOf v0)] := e0
  have c1 : (cs.drop 1).take 1 = [.bool v1] := e1
  have c2 : (cs.drop 2).take 1 = [.int .i64 v2] := e2
  refine ⟨⟨v0, v1, v2⟩, ?_, g0, g2, g2b⟩
  have e := seg cs 0 1
  rw [c0, seg cs (0 + 1) 1, c1, seg cs (0 + 1 + 1) 1, c2, List.drop_of_length_le (i := 0 + 1 + 1 + 1) (by omega)] at e
  simpa [Hl.arr] using e
end
section
variable {H : Type} {enc : TypeId × Value → H} {W : World} {base : Nat} {v : Value} {d : DataW H} {ps : List MemPlace} {held : Bool}
theorem open_hl (hval : Value.okWide Tryz.prog W .any base 74 v) (h : DataW.Trod enc Tryz.prog W 0 (fun _ => true) held 74 v d ps) : ∃ x : Hl, v = .agg x.arr ∧ x.good := by
  obtain ⟨cs, rfl, _⟩ := okWide_struct Tryz.underlying74 hval
  obtain ⟨fuel, hf⟩ := h
  obtain ⟨b, hcs, hr⟩ := read_hl hf
  have hc : cs.toList = b.arr.toList := hcs
  exact ⟨b, by rw [Array.toList_inj.1 hc], hr⟩
theorem open_hls (hval : Value.okWide Tryz.prog W .any base 25 v) (h : DataW.Trod enc Tryz.prog W 0 (fun _ => true) held 25 v d ps) :
    ∃ (A : Option Addr) (n c : Nat) (l : List Hl), v = .slice A n c ∧ RdR Hl.arr 3 W W.heap.size A n l ∧ (∀ o ∈ l, o.good) ∧ n ≤ 9223372036854775807 := by
  obtain ⟨a0, len, cap, rfl⟩ := okWide_slice Tryz.underlying25 hval
  obtain ⟨fuel, hf⟩ := h
  obtain ⟨A, n, c, l, hs, hnc, hc, hll, hrd, hsp, hgd⟩ := read_rows Hl.arr Hl.good 3 Hl.arr_size Tryz.underlying25 (by kernel_rfl) (by omega) (fun n cs y hy => read_hl hy) hf
  simp only [Value.cells, List.cons.injEq, Value.slice.injEq, and_true] at hs
  obtain ⟨rfl, rfl, rfl⟩ := hs
  exact ⟨a0, len, cap, l, rfl, ⟨hll, hrd, hsp⟩, hgd, by omega⟩
end

end Go.Proofs.YtmpemeemlhmaaaaGreat

namespace Go.Proofs.YtmpemeemlhmaaaaGreat
open Go.RowKit

/-- a letter of a name -/
def okCh (c : UInt8) : Bool := (decide (97 ≤ c.toNat) && decide (c.toNat ≤ 122)) || (decide (48 ≤ c.toNat) && decide (c.toNat ≤ 57)) || decide (c.toNat = 45) || decide (c.toNat = 46)
def okName (s : List UInt8) : Bool := s.all okCh && decide (1 ≤ s.length) && decide (s.length ≤ 24)
theorem all_take_succ (l : List UInt8) (p : UInt8 → Bool) (i : Nat) (hi : i < l.length) : (l.take (i + 1)).all p = ((l.take i).all p && p (l.getD i 0)) := by
  rw [List.take_succ_eq_append_getElem hi, List.all_append, List.getD_eq_getElem?_getD, List.getElem?_eq_getElem hi]
  simp
theorem all_false_of (l : List UInt8) (p : UInt8 → Bool) (i : Nat) (hi : i < l.length) (h : p (l.getD i 0) = false) : l.all p = false := by
  rw [List.all_eq_false]
  refine ⟨l.getD i 0, ?_, by rw [h]; simp⟩
  rw [List.getD_eq_getElem?_getD, List.getElem?_eq_getElem hi]
  exact List.getElem_mem hi

set_option maxRecDepth 100000 in
theorem name_any (s : List UInt8) (w : World) (hs : s.length ≤ 9223372036854775807) :
    Calls Tryz.prog 90 #[.string (textOf s)] w fun e w' => e = .returned (.bool (okName s)) ∧ Below w.heap.size w w' := by
  have hcv := run_text_bytes (P := Tryz.prog) 9 32 5 Tryz.underlying9 Tryz.underlying32 Tryz.underlying5 s
  have hb := textWorld_below w 5 s
  have hr := textWorld_reads w 5 s
  have HB := Lib.hid hb
  have HR := Lib.hid hr
  clear hb hr
  go_enter Tryz.func90, Tryz.ntmps90
  go_wp2
  clear hcv
  generalize textWorld w 5 s = W at HB HR ⊢
  generalize grownCap w s.length 0 5 = cp
  go_loop [8] (fun s8 => ∃ i : Nat, i ≤ s.length ∧ s8 = .int .i64 i ∧ (s.take i).all okCh = true) (fun s8 => s.length - (intOf s8).toNat)
  case atStart => exact ⟨0, by omega, rfl, rfl⟩
  case round =>
    obtain ⟨i, hi, rfl, hall⟩ := hrel
    have HA := Lib.hid hall
    clear hall
    by_cases hlt : i < s.length
    · have hin : (i : Int) < s.length := by omega
      obtain ⟨a, ha, hab, hcell⟩ := HR.out.at_ hlt
      injection ha with ha
      subst ha
      have e1 : (⟨w.heap.size, 0, none⟩ : Addr).add i = ⟨w.heap.size, i, none⟩ := by unfold Addr.add; split <;> simp_all
      rw [e1] at hcell
      clear e1
      have hsn := all_take_succ s okCh i hlt
      have hno := all_false_of s okCh i hlt
      have HS := Lib.hid hsn
      have HN := Lib.hid hno
      clear hsn hno
      unfold bv at hcell
      have hc : okCh (s.getD i 0) = okCh (s.getD i 0) := rfl
      have hlt8 := (s.getD i 0).toNat_lt
      obtain ⟨c, hcc⟩ : ∃ c, c = s.getD i 0 := ⟨_, rfl⟩
      rw [← hcc] at hcell HS HN hlt8
      clear hcc hc
      have hok : okCh c = ((decide (97 ≤ c.toNat) && decide (c.toNat ≤ 122)) || (decide (48 ≤ c.toNat) && decide (c.toNat ≤ 57)) || decide (c.toNat = 45) || decide (c.toNat = 46)) := rfl
      have HOK := Lib.hid hok
      clear hok
      generalize c.toNat = n at hcell hlt8 HOK
      rcases (show n < 45 ∨ n = 45 ∨ n = 46 ∨ n = 47 ∨ (48 ≤ n ∧ n ≤ 57) ∨ (57 < n ∧ n < 97) ∨ (97 ≤ n ∧ n ≤ 122) ∨ 122 < n by omega) with h | rfl | rfl | rfl | ⟨h, h'⟩ | ⟨h, h'⟩ | ⟨h, h'⟩ | h
      all_goals
        try (have h45 : ((n : Int) != 45) = true := by rw [bne_iff_ne]; omega)
        try (have h46 : ((n : Int) != 46) = true := by rw [bne_iff_ne]; omega)
      all_goals
        first
          | (have hk : okCh c = true := by rw [HOK.out]; simp <;> omega
             have HK := Lib.hid hk
             clear hk
             go_wp2
             go_round
             case rel => exact ⟨i + 1, by omega, by go_num, by rw [HS.out, HA.out, HK.out]; rfl⟩
             case measure => simp [intOf] <;> omega
             done)
          | (have hk : okCh c = false := by rw [HOK.out]; simp <;> omega
             have HK := Lib.hid hk
             clear hk
             go_wp2
             go_ret
             exact ⟨by simp [okName, HN.out HK.out], HB.out⟩)
    · obtain rfl : i = s.length := by omega
      have hall := HA.out
      rw [List.take_of_length_le (Nat.le_refl _)] at hall
      have HL := Lib.hid hall
      clear hall
      have hok : okName s = (decide (1 ≤ s.length) && decide (s.length ≤ 24)) := by simp [okName, HL.out]
      have HK := Lib.hid hok
      clear hok
      by_cases h1 : 1 ≤ s.length
      · by_cases h2 : s.length ≤ 24
        all_goals
          go_wp2
          go_ret
          exact ⟨by rw [HK.out]; simp [h1, h2] <;> omega, HB.out⟩
      · have h1' : ¬ (1 : Int) ≤ s.length := by omega
        go_wp2
        go_ret
        exact ⟨by rw [HK.out]; simp [h1], HB.out⟩
end Go.Proofs.YtmpemeemlhmaaaaGreat
