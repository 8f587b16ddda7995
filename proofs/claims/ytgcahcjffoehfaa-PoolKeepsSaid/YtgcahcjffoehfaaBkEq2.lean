/- Equality of backends by value. -/
import Derived.Test.YtgcahcjffoehfaaBkEq
set_option linter.unusedSimpArgs false
set_option linter.unusedVariables false
namespace Go.Proofs.Ytgcahcjffoehfaa
open Go.RowKit

theorem Bk.arr_adr (x : Bk) : x.arr.extract 1 (1 + 17) = x.addr.arr := by
  apply Array.ext_getElem?
  intro j
  have hs := Bk.arr_size x
  have ha := Adr.arr_size x.addr
  rw [Array.getElem?_extract]
  by_cases hj : j < 17
  · rw [if_pos (by rw [hs]; omega), Nat.add_comm]
    exact Bk.arr_addr x j hj
  · rw [if_neg (by rw [hs]; omega), Array.getElem?_eq_none (by rw [ha]; omega)]
theorem Bk.arr_mac (x : Bk) : x.arr.extract 19 (19 + 6) = (x.mac.toList.map bv).toArray := by
  apply Array.ext_getElem?
  intro j
  have hs := Bk.arr_size x
  have hm : x.mac.toList.length = 6 := by simp
  rw [Array.getElem?_extract]
  by_cases hj : j < 6
  · rw [if_pos (by rw [hs]; omega), Nat.add_comm, Bk.arr_m x j hj]
    simp [hj, List.getElem?_toArray]
  · rw [if_neg (by rw [hs]; omega), Array.getElem?_eq_none (by simp; omega)]
theorem eq_string (a b : List UInt8) (d : Nat) (W : World) : (Op.equalIn (d + 1) 9 (.string (textOf a)) (.string (textOf b))).run Try.prog W = .ok (a == b) W := by
  rw [run_equalIn_string W d _ _ _ Try.underlying9, textOf_toList, textOf_toList]
theorem eq_int (a b : Int) (d : Nat) (W : World) : (Op.equalIn (d + 1) 3 (.int .i64 a) (.int .i64 b)).run Try.prog W = .ok (a == b) W := by
  simp only [Op.equalIn, Sem.run_bind, run_underlying Try.underlying3, Result.andThen_ok, if_true, Sem.run_pure]
theorem eq_float (a b : Nat) (d : Nat) (W : World) : (Op.equalIn (d + 1) 34 (fv a) (fv b)).run Try.prog W = .ok (Op.floatEq .f64 a b) W := by
  simp only [fv, Op.equalIn, Sem.run_bind, run_underlying Try.underlying34, Result.andThen_ok, if_true, Sem.run_pure]
theorem eqFields_cons {P : Program} (d : Nat) (xs ys : Array Value) (f : Field) (fs : List Field) (h : f.name ≠ "_") (W : World) (a b : Value) (r r' : Bool)
    (p : (part f.type xs f.offset).run P W = .ok a W) (q : (part f.type ys f.offset).run P W = .ok b W) (e : (Op.equalIn d f.type a b).run P W = .ok r W)
    (rest : (Op.eqFields d xs ys fs).run P W = .ok r' W) : (Op.eqFields d xs ys (f :: fs)).run P W = .ok (r && r') W := by
  simp only [Op.eqFields, h, ne_eq, not_false_eq_true, if_true, Sem.run_bind, p, q, e, Result.andThen_ok]
  cases r
  · simp
  · simpa using rest
theorem bk_fields : Try.prog.underlying 36 = some (.struct (Try.prog.fieldsOf 36)) := by
  simp only [Program.fieldsOf, Try.underlying36]
theorem bk_list : ∃ f1 f2 f3 f4 f5 f6 : Field, (Try.prog.fieldsOf 36).toList = [f1, f2, f3, f4, f5, f6] ∧ (f1.name ≠ "_" ∧ f2.name ≠ "_" ∧ f3.name ≠ "_" ∧ f4.name ≠ "_" ∧ f5.name ≠ "_" ∧ f6.name ≠ "_") ∧
    (f1.type = 9 ∧ f1.offset = 0) ∧ (f2.type = 32 ∧ f2.offset = 1) ∧ (f3.type = 3 ∧ f3.offset = 18) ∧ (f4.type = 33 ∧ f4.offset = 19) ∧ (f5.type = 34 ∧ f5.offset = 25) ∧ (f6.type = 4 ∧ f6.offset = 26) := by
  refine ⟨_, _, _, _, _, _, by simp only [Program.fieldsOf, Try.underlying36]; rfl, ⟨?_, ?_, ?_, ?_, ?_, ?_⟩, ⟨rfl, rfl⟩, ⟨rfl, rfl⟩, ⟨rfl, rfl⟩, ⟨rfl, rfl⟩, ⟨rfl, rfl⟩, ⟨rfl, rfl⟩⟩ <;> decide
/-- what == says of two backends -/
def bkEq (x y : Bk) : Bool := (x.name == y.name) && (decide (x.addr = y.addr) && ((x.port == y.port) && (decide (x.mac = y.mac) && (Op.floatEq .f64 x.w y.w && ((x.drain == y.drain) && true)))))
theorem run_eq_bk (x y : Bk) (d : Nat) (W : World) : (Op.equalIn (d + 4) 36 (.agg x.arr) (.agg y.arr)).run Try.prog W = .ok (bkEq x y) W := by
  rw [run_equalIn_struct W (d + 3) _ _ _ bk_fields Try.stoodInHeld36]
  obtain ⟨f1, f2, f3, f4, f5, f6, hl, ⟨n1, n2, n3, n4, n5, n6⟩, ⟨t1, o1⟩, ⟨t2, o2⟩, ⟨t3, o3⟩, ⟨t4, o4⟩, ⟨t5, o5⟩, ⟨t6, o6⟩⟩ := bk_list
  rw [hl]
  have p1 : ∀ z : Bk, (part f1.type z.arr f1.offset).run Try.prog W = .ok (.string (textOf z.name)) W := fun z => by
    rw [t1, o1]; exact part_one (by simp only [Try.underlying9]) (Bk.arr_0 z) W
  have p2 : ∀ z : Bk, (part f2.type z.arr f2.offset).run Try.prog W = .ok (.agg z.addr.arr) W := fun z => by
    rw [t2, o2, part_row (n := 17) (by simp only [Try.underlying32]) (by kernel_rfl) z.arr 1 W, Bk.arr_adr]
  have p3 : ∀ z : Bk, (part f3.type z.arr f3.offset).run Try.prog W = .ok (.int .i64 z.port) W := fun z => by
    rw [t3, o3]; exact part_one (by simp only [Try.underlying3]) (Bk.arr_18 z) W
  have p4 : ∀ z : Bk, (part f4.type z.arr f4.offset).run Try.prog W = .ok (.agg (z.mac.toList.map bv).toArray) W := fun z => by
    rw [t4, o4, part_row (n := 6) (by simp only [Try.underlying33]) (by kernel_rfl) z.arr 19 W, Bk.arr_mac]
  have p5 : ∀ z : Bk, (part f5.type z.arr f5.offset).run Try.prog W = .ok (fv z.w) W := fun z => by
    rw [t5, o5]; exact part_one (by simp only [Try.underlying34]) (Bk.arr_25 z) W
  have p6 : ∀ z : Bk, (part f6.type z.arr f6.offset).run Try.prog W = .ok (.bool z.drain) W := fun z => by
    rw [t6, o6]; exact part_one (by simp only [Try.underlying4]) (Bk.arr_26 z) W
  exact eqFields_cons _ _ _ _ _ n1 W _ _ _ _ (p1 x) (p1 y) (by rw [t1]; exact eq_string _ _ _ W)
    (eqFields_cons _ _ _ _ _ n2 W _ _ _ _ (p2 x) (p2 y) (by rw [t2]; exact run_eq_adr _ _ d W)
    (eqFields_cons _ _ _ _ _ n3 W _ _ _ _ (p3 x) (p3 y) (by rw [t3]; exact eq_int _ _ _ W)
    (eqFields_cons _ _ _ _ _ n4 W _ _ _ _ (p4 x) (p4 y) (by rw [t4]; exact run_eq_mac _ _ _ W)
    (eqFields_cons _ _ _ _ _ n5 W _ _ _ _ (p5 x) (p5 y) (by rw [t5]; exact eq_float _ _ _ W)
    (eqFields_cons _ _ _ _ _ n6 W _ _ _ _ (p6 x) (p6 y) (by rw [t6]; exact eq_bool _ _ _ W) (by simp [Op.eqFields]))))))
@[go_sem ↓] theorem eq_bk (x y : Bk) (W : World) : (Op.equalIn 10000 36 (.agg x.arr) (.agg y.arr)).run Try.prog W = .ok (bkEq x y) W := run_eq_bk x y 9996 W
/-- a link address as cells; its load, kept shut -/
def macA (m : Vector UInt8 6) : Array Value := (m.toList.map bv).toArray
theorem macA_size (m : Vector UInt8 6) : (macA m).size = 6 := by simp [macA]
def loadMac (v : Value) : Sem Value := Instr.loadAt 33 v
@[go_sem ↓] theorem loadMac_is (v : Value) : Instr.loadAt 33 v = loadMac v := rfl
@[go_sem] theorem load_mac (W : World) (b o : Nat) (h : Has W b o 6) : (loadMac (.pointer (some ⟨b, o, none⟩))).run Try.prog W = .ok (.agg (cellsAt W b o 6)) W :=
  run_loadAt_has W b o 6 _ _ Try.underlying33 rfl (by kernel_rfl) h
theorem Bk.arr_macA (x : Bk) (j : Nat) (hj : j < 6) : x.arr[19 + j]? = (macA x.mac)[j]? := by
  rw [Nat.add_comm, Bk.arr_m x j hj]
  simp [macA, hj, List.getElem?_toArray]
@[go_sem] theorem Has_bk_mac (w : World) (x : Bk) (t : TypeId) : Has (w.alloc (.cells x.arr t)) w.heap.size 19 6 = True := by
  simp only [eq_iff_iff, iff_true]; exact (new_at w x.arr t 19 6 (macA x.mac) (macA_size _) (fun j hj => Bk.arr_macA x j hj)).1
@[go_sem] theorem cellsAt_bk_mac (w : World) (x : Bk) (t : TypeId) : cellsAt (w.alloc (.cells x.arr t)) w.heap.size 19 6 = macA x.mac :=
  (new_at w x.arr t 19 6 (macA x.mac) (macA_size _) (fun j hj => Bk.arr_macA x j hj)).2
@[go_sem ↓] theorem eq_mac (a b : Vector UInt8 6) (W : World) : (Op.equalIn 10000 33 (.agg (macA a)) (.agg (macA b))).run Try.prog W = .ok (decide (a = b)) W := run_eq_mac a b 9998 W
end Go.Proofs.Ytgcahcjffoehfaa
