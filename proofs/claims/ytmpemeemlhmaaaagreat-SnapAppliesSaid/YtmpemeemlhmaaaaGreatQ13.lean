/- Equality of addresses, link addresses and backends by value. -/
import Derived.Test.YtmpemeemlhmaaaaGreatQ8
import Derived.Laws.StructEq
import Derived.ChangeKeysEq
import Derived.Test.YtmpemeemlhmaaaaGreatQ10
import Derived.Test.YtmpemeemlhmaaaaGreatQ3
set_option linter.unusedSimpArgs false
set_option linter.unusedVariables false
set_option maxRecDepth 100000
namespace Go.Proofs.YtmpemeemlhmaaaaGreat
open Go.RowKit

section
variable {P : Program}
end
theorem run_eq_mac (a b : Vector UInt8 6) (d : Nat) (W : World) : (Op.equalIn (d + 2) 57 (.agg (a.toList.map bv).toArray) (.agg (b.toList.map bv).toArray)).run Tryz.prog W = .ok (decide (a = b)) W := by
  rw [run_equal_bytes d Tryz.underlying57 (by kernel_rfl) Tryz.underlying5 _ _ (by simp) (by simp), vec_beq]
theorem run_eq_ip (a b : Vector UInt8 16) (d : Nat) (W : World) : (Op.equalIn (d + 2) 54 (.agg (a.toList.map bv).toArray) (.agg (b.toList.map bv).toArray)).run Tryz.prog W = .ok (decide (a = b)) W := by
  rw [run_equal_bytes d Tryz.underlying54 (by kernel_rfl) Tryz.underlying5 _ _ (by simp) (by simp), vec_beq]
theorem Adr.arr_bytes (a : Adr) : a.arr.extract 1 (1 + 16) = (a.b.toList.map bv).toArray := by
  apply Array.ext'
  simp [Adr.arr]
  exact List.take_of_length_le (by simp)
theorem adr_fields : Tryz.prog.underlying 56 = some (.struct (Tryz.prog.fieldsOf 56)) := by
  simp only [Program.fieldsOf, Tryz.underlying56]
theorem part_bool (c : Adr) (W : World) : (part 4 c.arr 0).run Tryz.prog W = .ok (.bool c.six) W :=
  part_one (P := Tryz.prog) (e := 4) (by simp only [Tryz.underlying4]) (Adr.arr_0 c) W
theorem part_ip (c : Adr) (W : World) : (part 54 c.arr 1).run Tryz.prog W = .ok (.agg (c.b.toList.map bv).toArray) W := by
  rw [part_row (P := Tryz.prog) (e := 54) (n := 16) (by simp only [Tryz.underlying54]) (by kernel_rfl) c.arr 1 W, Adr.arr_bytes]
theorem adr_list : ∃ f1 f2 : Field, (Tryz.prog.fieldsOf 56).toList = [f1, f2] ∧ f1.name ≠ "_" ∧ f2.name ≠ "_" ∧ f1.type = 4 ∧ f1.offset = 0 ∧ f2.type = 54 ∧ f2.offset = 1 := by
  refine ⟨_, _, by simp only [Program.fieldsOf, Tryz.underlying56]; rfl, ?_, ?_, rfl, rfl, rfl, rfl⟩ <;> decide
theorem eqFields_two {P : Program} (d : Nat) (xs ys : Array Value) (f1 f2 : Field) (h1 : f1.name ≠ "_") (h2 : f2.name ≠ "_") (W : World) (a1 b1 a2 b2 : Value) (r1 r2 : Bool)
    (p1 : (part f1.type xs f1.offset).run P W = .ok a1 W) (q1 : (part f1.type ys f1.offset).run P W = .ok b1 W) (e1 : (Op.equalIn d f1.type a1 b1).run P W = .ok r1 W)
    (p2 : (part f2.type xs f2.offset).run P W = .ok a2 W) (q2 : (part f2.type ys f2.offset).run P W = .ok b2 W) (e2 : (Op.equalIn d f2.type a2 b2).run P W = .ok r2 W) :
    (Op.eqFields d xs ys [f1, f2]).run P W = .ok (r1 && r2) W := by
  simp only [Op.eqFields, h1, h2, ne_eq, not_false_eq_true, if_true, Sem.run_bind, p1, q1, e1, Result.andThen_ok]
  cases r1
  · simp
  · simp only [Bool.not_true, Bool.false_eq_true, if_false, Sem.run_bind, p2, q2, e2, Result.andThen_ok]
    cases r2 <;> simp
theorem run_eq_adr (a b : Adr) (d : Nat) (W : World) : (Op.equalIn (d + 3) 56 (.agg a.arr) (.agg b.arr)).run Tryz.prog W = .ok (decide (a = b)) W := by
  rw [run_equalIn_struct W (d + 2) _ _ _ adr_fields Tryz.stoodInHeld56]
  obtain ⟨f1, f2, hl, n1, n2, t1, o1, t2, o2⟩ := adr_list
  rw [hl, eqFields_two (d + 2) a.arr b.arr f1 f2 n1 n2 W _ _ _ _ _ _ (by rw [t1, o1]; exact part_bool a W) (by rw [t1, o1]; exact part_bool b W) (by rw [t1]; exact eq_bool _ _ _ W)
    (by rw [t2, o2]; exact part_ip a W) (by rw [t2, o2]; exact part_ip b W) (by rw [t2]; exact run_eq_ip _ _ d W)]
  obtain ⟨s1, v1⟩ := a
  obtain ⟨s2, v2⟩ := b
  congr 1
  rw [Bool.eq_iff_iff]
  simp
@[go_sem ↓] theorem eq_adr (a b : Adr) (W : World) : (Op.equalIn 10000 56 (.agg a.arr) (.agg b.arr)).run Tryz.prog W = .ok (decide (a = b)) W := run_eq_adr a b 9997 W
end Go.Proofs.YtmpemeemlhmaaaaGreat

namespace Go.Proofs.YtmpemeemlhmaaaaGreat
open Go.RowKit

theorem Bk.arr_adr (x : Bk) : x.arr.extract 1 (1 + 17) = x.addr.arr := by
  apply Array.ext_getElem?
  intro j
  have hs := Bk.arr_size x
  have ha := Adr.arr_size x.addr
  rw [Array.getElem?_extract]
  by_cases hj : j < 17
  · rw [if_pos (by rw [hs]; omega), Nat.add_comm]
    exact Bk.arr_addr x j hj
  · rw [if_neg (by rw [hs]; omega), Array.getElem?_eq_none (by rw [ha]; omega)]
theorem Bk.arr_mac (x : Bk) : x.arr.extract 19 (19 + 6) = (x.mac.toList.map bv).toArray := by
  apply Array.ext_getElem?
  intro j
  have hs := Bk.arr_size x
  have hm : x.mac.toList.length = 6 := by simp
  rw [Array.getElem?_extract]
  by_cases hj : j < 6
  · rw [if_pos (by rw [hs]; omega), Nat.add_comm, Bk.arr_m x j hj]
    simp [hj, List.getElem?_toArray]
  · rw [if_neg (by rw [hs]; omega), Array.getElem?_eq_none (by simp; omega)]
theorem eq_float (a b : Nat) (d : Nat) (W : World) : (Op.equalIn (d + 1) 58 (fv a) (fv b)).run Tryz.prog W = .ok (Op.floatEq .f64 a b) W := by
  simp only [fv, Op.equalIn, Sem.run_bind, run_underlying Tryz.underlying58, Result.andThen_ok, if_true, Sem.run_pure]
theorem bk_fields : Tryz.prog.underlying 60 = some (.struct (Tryz.prog.fieldsOf 60)) := by
  simp only [Program.fieldsOf, Tryz.underlying60]
theorem bk_list : ∃ f1 f2 f3 f4 f5 f6 : Field, (Tryz.prog.fieldsOf 60).toList = [f1, f2, f3, f4, f5, f6] ∧ (f1.name ≠ "_" ∧ f2.name ≠ "_" ∧ f3.name ≠ "_" ∧ f4.name ≠ "_" ∧ f5.name ≠ "_" ∧ f6.name ≠ "_") ∧
    (f1.type = 9 ∧ f1.offset = 0) ∧ (f2.type = 56 ∧ f2.offset = 1) ∧ (f3.type = 3 ∧ f3.offset = 18) ∧ (f4.type = 57 ∧ f4.offset = 19) ∧ (f5.type = 58 ∧ f5.offset = 25) ∧ (f6.type = 4 ∧ f6.offset = 26) := by
  refine ⟨_, _, _, _, _, _, by simp only [Program.fieldsOf, Tryz.underlying60]; rfl, ⟨?_, ?_, ?_, ?_, ?_, ?_⟩, ⟨rfl, rfl⟩, ⟨rfl, rfl⟩, ⟨rfl, rfl⟩, ⟨rfl, rfl⟩, ⟨rfl, rfl⟩, ⟨rfl, rfl⟩⟩ <;> decide
/-- what == says of two backends -/
def bkEq (x y : Bk) : Bool := (x.name == y.name) && (decide (x.addr = y.addr) && ((x.port == y.port) && (decide (x.mac = y.mac) && (Op.floatEq .f64 x.w y.w && ((x.drain == y.drain) && true)))))
theorem run_eq_bk (x y : Bk) (d : Nat) (W : World) : (Op.equalIn (d + 4) 60 (.agg x.arr) (.agg y.arr)).run Tryz.prog W = .ok (bkEq x y) W := by
  rw [run_equalIn_struct W (d + 3) _ _ _ bk_fields Tryz.stoodInHeld60]
  obtain ⟨f1, f2, f3, f4, f5, f6, hl, ⟨n1, n2, n3, n4, n5, n6⟩, ⟨t1, o1⟩, ⟨t2, o2⟩, ⟨t3, o3⟩, ⟨t4, o4⟩, ⟨t5, o5⟩, ⟨t6, o6⟩⟩ := bk_list
  rw [hl]
  have p1 : ∀ z : Bk, (part f1.type z.arr f1.offset).run Tryz.prog W = .ok (.string (textOf z.name)) W := fun z => by
    rw [t1, o1]; exact part_one (by simp only [Tryz.underlying9]) (Bk.arr_0 z) W
  have p2 : ∀ z : Bk, (part f2.type z.arr f2.offset).run Tryz.prog W = .ok (.agg z.addr.arr) W := fun z => by
    rw [t2, o2, part_row (n := 17) (by simp only [Tryz.underlying56]) (by kernel_rfl) z.arr 1 W, Bk.arr_adr]
  have p3 : ∀ z : Bk, (part f3.type z.arr f3.offset).run Tryz.prog W = .ok (.int .i64 z.port) W := fun z => by
    rw [t3, o3]; exact part_one (by simp only [Tryz.underlying3]) (Bk.arr_18 z) W
  have p4 : ∀ z : Bk, (part f4.type z.arr f4.offset).run Tryz.prog W = .ok (.agg (z.mac.toList.map bv).toArray) W := fun z => by
    rw [t4, o4, part_row (n := 6) (by simp only [Tryz.underlying57]) (by kernel_rfl) z.arr 19 W, Bk.arr_mac]
  have p5 : ∀ z : Bk, (part f5.type z.arr f5.offset).run Tryz.prog W = .ok (fv z.w) W := fun z => by
    rw [t5, o5]; exact part_one (by simp only [Tryz.underlying58]) (Bk.arr_25 z) W
  have p6 : ∀ z : Bk, (part f6.type z.arr f6.offset).run Tryz.prog W = .ok (.bool z.drain) W := fun z => by
    rw [t6, o6]; exact part_one (by simp only [Tryz.underlying4]) (Bk.arr_26 z) W
  exact eqFields_cons _ _ _ _ _ n1 W _ _ _ _ (p1 x) (p1 y) (by rw [t1]; exact eq_string _ _ _ W)
    (eqFields_cons _ _ _ _ _ n2 W _ _ _ _ (p2 x) (p2 y) (by rw [t2]; exact run_eq_adr _ _ d W)
    (eqFields_cons _ _ _ _ _ n3 W _ _ _ _ (p3 x) (p3 y) (by rw [t3]; exact eq_int _ _ _ W)
    (eqFields_cons _ _ _ _ _ n4 W _ _ _ _ (p4 x) (p4 y) (by rw [t4]; exact run_eq_mac _ _ _ W)
    (eqFields_cons _ _ _ _ _ n5 W _ _ _ _ (p5 x) (p5 y) (by rw [t5]; exact eq_float _ _ _ W)
    (eqFields_cons _ _ _ _ _ n6 W _ _ _ _ (p6 x) (p6 y) (by rw [t6]; exact eq_bool _ _ _ W) (by simp [Op.eqFields]))))))
@[go_sem ↓] theorem eq_bk (x y : Bk) (W : World) : (Op.equalIn 10000 60 (.agg x.arr) (.agg y.arr)).run Tryz.prog W = .ok (bkEq x y) W := run_eq_bk x y 9996 W
/-- a link address as cells; its load, kept shut -/
def macA (m : Vector UInt8 6) : Array Value := (m.toList.map bv).toArray
theorem macA_size (m : Vector UInt8 6) : (macA m).size = 6 := by simp [macA]
def loadMac (v : Value) : Sem Value := Instr.loadAt 57 v
@[go_sem ↓] theorem loadMac_is (v : Value) : Instr.loadAt 57 v = loadMac v := rfl
@[go_sem] theorem load_mac (W : World) (b o : Nat) (h : Has W b o 6) : (loadMac (.pointer (some ⟨b, o, none⟩))).run Tryz.prog W = .ok (.agg (cellsAt W b o 6)) W :=
  run_loadAt_has W b o 6 _ _ Tryz.underlying57 rfl (by kernel_rfl) h
theorem Bk.arr_macA (x : Bk) (j : Nat) (hj : j < 6) : x.arr[19 + j]? = (macA x.mac)[j]? := by
  rw [Nat.add_comm, Bk.arr_m x j hj]
  simp [macA, hj, List.getElem?_toArray]
@[go_sem] theorem Has_bk_mac (w : World) (x : Bk) (t : TypeId) : Has (w.alloc (.cells x.arr t)) w.heap.size 19 6 = True := by
  simp only [eq_iff_iff, iff_true]; exact (new_at w x.arr t 19 6 (macA x.mac) (macA_size _) (fun j hj => Bk.arr_macA x j hj)).1
@[go_sem] theorem cellsAt_bk_mac (w : World) (x : Bk) (t : TypeId) : cellsAt (w.alloc (.cells x.arr t)) w.heap.size 19 6 = macA x.mac :=
  (new_at w x.arr t 19 6 (macA x.mac) (macA_size _) (fun j hj => Bk.arr_macA x j hj)).2
@[go_sem ↓] theorem eq_mac (a b : Vector UInt8 6) (W : World) : (Op.equalIn 10000 57 (.agg (macA a)) (.agg (macA b))).run Tryz.prog W = .ok (decide (a = b)) W := run_eq_mac a b 9998 W
end Go.Proofs.YtmpemeemlhmaaaaGreat

namespace Go.Proofs.YtmpemeemlhmaaaaGreat
open Go.RowKit

@[go_sem] theorem Has2_bk (w : World) (ob : Obj) (x : Bk) (t : TypeId) : Has ((w.alloc ob).alloc (.cells x.arr t)) (w.heap.size + 1) 0 27 = True := by
  have := Has_bk_new (w.alloc ob) x t
  rwa [show (w.alloc ob).heap.size = w.heap.size + 1 by simp] at this
@[go_sem] theorem cellsAt2_bk (w : World) (ob : Obj) (x : Bk) (t : TypeId) : cellsAt ((w.alloc ob).alloc (.cells x.arr t)) (w.heap.size + 1) 0 27 = x.arr := by
  have := cellsAt_bk_new (w.alloc ob) x t
  rwa [show (w.alloc ob).heap.size = w.heap.size + 1 by simp] at this
@[go_sem] theorem Has2_addr (w : World) (ob : Obj) (x : Bk) (t : TypeId) : Has ((w.alloc ob).alloc (.cells x.arr t)) (w.heap.size + 1) 1 17 = True := by
  have := Has_bk_addr (w.alloc ob) x t
  rwa [show (w.alloc ob).heap.size = w.heap.size + 1 by simp] at this
@[go_sem] theorem cellsAt2_addr (w : World) (ob : Obj) (x : Bk) (t : TypeId) : cellsAt ((w.alloc ob).alloc (.cells x.arr t)) (w.heap.size + 1) 1 17 = x.addr.arr := by
  have := cellsAt_bk_addr (w.alloc ob) x t
  rwa [show (w.alloc ob).heap.size = w.heap.size + 1 by simp] at this
@[go_sem] theorem Has2_mac (w : World) (ob : Obj) (x : Bk) (t : TypeId) : Has ((w.alloc ob).alloc (.cells x.arr t)) (w.heap.size + 1) 19 6 = True := by
  have := Has_bk_mac (w.alloc ob) x t
  rwa [show (w.alloc ob).heap.size = w.heap.size + 1 by simp] at this
@[go_sem] theorem cellsAt2_mac (w : World) (ob : Obj) (x : Bk) (t : TypeId) : cellsAt ((w.alloc ob).alloc (.cells x.arr t)) (w.heap.size + 1) 19 6 = macA x.mac := by
  have := cellsAt_bk_mac (w.alloc ob) x t
  rwa [show (w.alloc ob).heap.size = w.heap.size + 1 by simp] at this
/-- two backends are alike, by the document -/
def sameOne (x y : Bk) : Bool := (x.name == y.name) && decide (x.addr = y.addr) && (x.port == y.port) && decide (x.mac = y.mac) && (x.drain == y.drain) && decide (wPut x.w = wPut y.w)
set_option maxHeartbeats 4000000 in
set_option maxRecDepth 100000 in
theorem sameOne_any (x y : Bk) (hx : x.w < 18446744073709551616) (hy : y.w < 18446744073709551616) (w : World) :
    Calls Tryz.prog 71 #[.agg x.arr, .agg y.arr] w fun e w' => e = .returned (.bool (sameOne x y)) ∧ Below w.heap.size w w' := by
  have hb0 : ∀ ob ob', Below w.heap.size w ((w.alloc ob).alloc ob') := fun ob ob' => ((Below.refl _ _).alloc (Nat.le_refl _) _).alloc (by simp) _
  have HB0 := Lib.hid hb0
  clear hb0
  have hs : sameOne x y = ((x.name == y.name) && decide (x.addr = y.addr) && (x.port == y.port) && decide (x.mac = y.mac) && (x.drain == y.drain) && decide (wPut x.w = wPut y.w)) := rfl
  have HS := Lib.hid hs
  clear hs
  cases k1 : x.name == y.name
  · go_enter Tryz.func71, Tryz.ntmps71
    go_wp2
    go_ret
    exact ⟨by rw [HS.out, k1]; rfl, HB0.out _ _⟩
  cases k2 : decide (x.addr = y.addr)
  · go_enter Tryz.func71, Tryz.ntmps71
    go_wp2
    go_ret
    exact ⟨by rw [HS.out, k1, k2]; rfl, HB0.out _ _⟩
  cases k3 : x.port == y.port
  · go_enter Tryz.func71, Tryz.ntmps71
    go_wp2
    go_ret
    exact ⟨by rw [HS.out, k1, k2, k3]; rfl, HB0.out _ _⟩
  cases k4 : decide (x.mac = y.mac)
  · go_enter Tryz.func71, Tryz.ntmps71
    go_wp2
    go_ret
    exact ⟨by rw [HS.out, k1, k2, k3, k4]; rfl, HB0.out _ _⟩
  cases k5 : x.drain == y.drain
  · go_enter Tryz.func71, Tryz.ntmps71
    go_wp2
    go_ret
    exact ⟨by rw [HS.out, k1, k2, k3, k4, k5]; rfl, HB0.out _ _⟩
  go_enter Tryz.func71, Tryz.ntmps71
  go_wp2_with (go_at_call 111; refine (refSame_any _ _ hx hy _).mono ?_; rintro e w' ⟨rfl, hb1⟩; have HB1 := Lib.hid hb1; clear hb1)
  go_ret
  exact ⟨by rw [HS.out, k1, k2, k3, k4, k5]; rfl, (HB0.out _ _).trans (HB1.out.mono (by simp; omega))⟩
end Go.Proofs.YtmpemeemlhmaaaaGreat

namespace Go.Proofs.YtmpemeemlhmaaaaGreat
open Go.RowKit

/-- a backend with another weight, with another mark -/
def Bk.toW (x : Bk) (v : Nat) : Bk := { x with w := v }
def Bk.toD (x : Bk) (d : Bool) : Bk := { x with drain := d }
@[go_sem] theorem Bk.set_w (x : Bk) (v : Nat) : x.arr.setIfInBounds 25 (.float .f64 v) = (x.toW v).arr := by
  apply Array.ext'
  simp [Bk.arr, Bk.toW, List.set_append, fv]
@[go_sem] theorem Bk.set_d (x : Bk) (d : Bool) : x.arr.setIfInBounds 26 (.bool d) = (x.toD d).arr := by
  apply Array.ext'
  simp [Bk.arr, Bk.toD, List.set_append]
@[go_sem] theorem store_float {P : Program} {w : World} {a : Addr} {m : Mode} (k : FloatKind) (n : Nat) : (store a (.float k n) m).run P w = stored P w a (.float k n) m := run_store P w a _ m rfl
/-- two backends are alike, by the program -/
def same1 (x y : Bk) : Bool := wSame x.w y.w && bkEq (x.toW 0) (y.toW 0)
set_option maxHeartbeats 4000000 in
set_option maxRecDepth 100000 in
theorem same1_any (x y : Bk) (w : World) :
    Calls Tryz.prog 80 #[.agg x.arr, .agg y.arr] w fun e w' => e = .returned (.bool (same1 x y)) ∧ Below w.heap.size w w' := by
  have hb0 : ∀ ob ob', Below w.heap.size w ((w.alloc ob).alloc ob') := fun ob ob' => ((Below.refl _ _).alloc (Nat.le_refl _) _).alloc (by simp) _
  have HB0 := Lib.hid hb0
  clear hb0
  have hs : same1 x y = (wSame x.w y.w && bkEq (x.toW 0) (y.toW 0)) := rfl
  have HS := Lib.hid hs
  clear hs
  have same_K : ∀ K, wSame x.w y.w = K → ∀ W, Calls Tryz.prog 81 #[.float .f64 x.w, .float .f64 y.w] W fun e w' => e = .returned (.bool K) ∧ W = w' := fun K h W => by
    have := same_any x.w y.w W
    rw [h] at this
    exact this
  cases k : wSame x.w y.w
  · have HK := Lib.hid k
    have HSA := Lib.hid (same_K _ k)
    clear k same_K
    go_enter Tryz.func80, Tryz.ntmps80
    go_wp2_with (go_at_call 81; refine (HSA.out _).mono ?_; rintro e w' ⟨rfl, rfl⟩)
    go_ret
    exact ⟨by rw [HS.out, HK.out]; rfl, HB0.out _ _⟩
  · have HK := Lib.hid k
    have HSA := Lib.hid (same_K _ k)
    clear k same_K
    go_enter Tryz.func80, Tryz.ntmps80
    go_wp2_with (go_at_call 81; refine (HSA.out _).mono ?_; rintro e w' ⟨rfl, rfl⟩)
    go_ret
    exact ⟨by rw [HS.out, HK.out]; rfl, HB0.out _ _⟩
end Go.Proofs.YtmpemeemlhmaaaaGreat

namespace Go.Proofs.YtmpemeemlhmaaaaGreat
open Go.RowKit

theorem cellsBk_one (l : List Bk) : ∀ u ∈ cellsBk l, u.oneCell' = true := by
  intro u hu
  obtain ⟨x, _, hx⟩ := List.mem_flatMap.1 hu
  exact Array.all_eq_true_iff_forall_mem.1 (Bk.arr_one x) u (by simpa using hx)
theorem infoBk : ∃ i : TypeInfo, Tryz.prog.info? 60 = some i ∧ i.zero = some (.agg noBk.arr) ∧ i.size = 27 ∧ i.bytes ≤ 200 := by
  cases h : Tryz.prog.info? 60 with
  | none => exact absurd h (by have : (Tryz.prog.info? 60).isSome = true := by kernel_rfl
                               intro e; rw [e] at this; cases this)
  | some i =>
    have h1 : (Tryz.prog.info? 60).map (·.size) = some 27 := by kernel_rfl
    have h2 : (Tryz.prog.info? 60).map (fun i => decide (i.bytes ≤ 200)) = some true := by kernel_rfl
    have h3 : (Tryz.prog.info? 60).map (·.zero) = some (some (.agg noBk.arr)) := by kernel_rfl
    rw [h] at h1 h2 h3
    simp at h1 h2 h3
    exact ⟨i, rfl, h3, h1, h2⟩
end Go.Proofs.YtmpemeemlhmaaaaGreat
