/- Equality of addresses, link addresses and backends by value. -/
import Derived.Test.YtgcahcjffoehfaaBk
import Derived.Laws.StructEq
import Derived.ChangeKeysEq
set_option linter.unusedSimpArgs false
set_option linter.unusedVariables false
namespace Go.Proofs.Ytgcahcjffoehfaa
open Go.RowKit

section
variable {P : Program}
theorem eqItems_bytes (d : Nat) {e : TypeId} (he : P.underlying e = some (.int .u8)) (l m : List UInt8) (w : World) (hlm : l.length = m.length) : ∀ (j k : Nat), j + k = l.length →
    (Op.eqItems (d + 1) e 1 (l.map bv).toArray (m.map bv).toArray (List.range' k j)).run P w = .ok (l.drop k == m.drop k) w
  | 0, k, h => by
    have h1 : l.drop k = [] := List.drop_eq_nil_of_le (by omega)
    have h2 : m.drop k = [] := List.drop_eq_nil_of_le (by omega)
    simp [Op.eqItems, h1, h2]
  | j + 1, k, h => by
    have hk : k < l.length := by omega
    have hk' : k < m.length := by omega
    have hp : P.plainKey e = true := by simp [Program.plainKey, he]
    have p1 : (part e (l.map bv).toArray (k * 1)).run P w = .ok (bv l[k]) w := run_part_plain w hp (by simp [hk])
    have p2 : (part e (m.map bv).toArray (k * 1)).run P w = .ok (bv m[k]) w := run_part_plain w hp (by simp [hk'])
    have p3 : (Op.equalIn (d + 1) e (bv l[k]) (bv m[k])).run P w = .ok (l[k] == m[k]) w := by
      simp only [bv, Op.equalIn, Sem.run_bind, run_underlying he, Result.andThen_ok, if_true, Sem.run_pure]
      congr 1
      rw [Bool.eq_iff_iff]
      simp only [beq_iff_eq]
      constructor
      · intro h; exact UInt8.toNat_inj.1 (by omega)
      · intro h; rw [h]
    rw [List.range'_succ]
    simp only [Op.eqItems, Sem.run_bind, p1, p2, p3, Result.andThen_ok]
    have ih := eqItems_bytes d he l m w hlm j (k + 1) (by omega)
    have e3 : (l.drop k == m.drop k) = ((l[k] == m[k]) && (l.drop (k + 1) == m.drop (k + 1))) := by
      rw [List.drop_eq_getElem_cons hk, List.drop_eq_getElem_cons hk']; rfl
    rw [e3]
    cases (l[k] == m[k])
    · simp
    · simpa using ih
theorem run_equal_bytes (d : Nat) {t e : TypeId} {n : Nat} (hu : P.underlying t = some (.array n e)) (hsz : (P.info? e).map (·.size) = some 1) (he : P.underlying e = some (.int .u8)) (l m : List UInt8) (hl : l.length = n) (hm : m.length = n) (w : World) :
    (Op.equalIn (d + 2) t (.agg (l.map bv).toArray) (.agg (m.map bv).toArray)).run P w = .ok (l == m) w := by
  obtain ⟨i, hi, hs⟩ : ∃ i, P.info? e = some i ∧ i.size = 1 := by
    cases h : P.info? e with
    | none => simp [h] at hsz
    | some i => exact ⟨i, rfl, by simpa [h] using hsz⟩
  rw [run_equalIn_array w (d + 1) _ _ hu hi]
  have hc : P.cellsOf e = 1 := by simp [Program.cellsOf, hi, hs]
  rw [hc, List.range_eq_range', eqItems_bytes d he l m w (by omega) n 0 (by omega)]
  simp
end
theorem vec_beq {n : Nat} (a b : Vector UInt8 n) : (a.toList == b.toList) = decide (a = b) := by
  rw [Bool.eq_iff_iff]
  simp only [beq_iff_eq, decide_eq_true_eq]
  constructor
  · intro h; exact Vector.toList_inj.1 h
  · intro h; rw [h]
theorem run_eq_mac (a b : Vector UInt8 6) (d : Nat) (W : World) : (Op.equalIn (d + 2) 33 (.agg (a.toList.map bv).toArray) (.agg (b.toList.map bv).toArray)).run Try.prog W = .ok (decide (a = b)) W := by
  rw [run_equal_bytes d Try.underlying33 (by kernel_rfl) Try.underlying5 _ _ (by simp) (by simp), vec_beq]
theorem run_eq_ip (a b : Vector UInt8 16) (d : Nat) (W : World) : (Op.equalIn (d + 2) 30 (.agg (a.toList.map bv).toArray) (.agg (b.toList.map bv).toArray)).run Try.prog W = .ok (decide (a = b)) W := by
  rw [run_equal_bytes d Try.underlying30 (by kernel_rfl) Try.underlying5 _ _ (by simp) (by simp), vec_beq]
theorem Adr.arr_bytes (a : Adr) : a.arr.extract 1 (1 + 16) = (a.b.toList.map bv).toArray := by
  apply Array.ext'
  simp [Adr.arr]
  exact List.take_of_length_le (by simp)
theorem part_one {P : Program} {e : TypeId} (he : (match P.underlying e with | some (.struct _) | some (.array _ _) | none => false | _ => true) = true) {xs : Array Value} {off : Nat} {v : Value} (hx : xs[off]? = some v) (w : World) : (part e xs off).run P w = .ok v w := by
  cases hu : P.underlying e with
  | none => simp [hu] at he
  | some d => cases d <;> simp [hu] at he <;> simp [part, isAgg, run_underlying hu, hx]
theorem part_row {P : Program} {e : TypeId} {n : Nat} (he : (match P.underlying e with | some (.struct _) | some (.array _ _) => true | _ => false) = true) (hs : (P.info? e).map (·.size) = some n) (xs : Array Value) (off : Nat) (w : World) : (part e xs off).run P w = .ok (.agg (xs.extract off (off + n))) w := by
  obtain ⟨i, hi, hi2⟩ : ∃ i, P.info? e = some i ∧ i.size = n := by
    cases h : P.info? e with
    | none => simp [h] at hs
    | some i => exact ⟨i, rfl, by simpa [h] using hs⟩
  have hc : P.cellsOf e = n := by simp [Program.cellsOf, hi, hi2]
  cases hu : P.underlying e with
  | none => simp [hu] at he
  | some d => cases d <;> simp [hu] at he <;> simp [part, isAgg, run_underlying hu, run_sizeOf w hi, hc]
theorem adr_fields : Try.prog.underlying 32 = some (.struct (Try.prog.fieldsOf 32)) := by
  simp only [Program.fieldsOf, Try.underlying32]
theorem part_bool (c : Adr) (W : World) : (part 4 c.arr 0).run Try.prog W = .ok (.bool c.six) W :=
  part_one (P := Try.prog) (e := 4) (by simp only [Try.underlying4]) (Adr.arr_0 c) W
theorem part_ip (c : Adr) (W : World) : (part 30 c.arr 1).run Try.prog W = .ok (.agg (c.b.toList.map bv).toArray) W := by
  rw [part_row (P := Try.prog) (e := 30) (n := 16) (by simp only [Try.underlying30]) (by kernel_rfl) c.arr 1 W, Adr.arr_bytes]
theorem eq_bool (a b : Bool) (d : Nat) (W : World) : (Op.equalIn (d + 1) 4 (.bool a) (.bool b)).run Try.prog W = .ok (a == b) W := by
  simp only [Op.equalIn, Sem.run_bind, run_underlying Try.underlying4, Result.andThen_ok, Sem.run_pure]
theorem adr_list : ∃ f1 f2 : Field, (Try.prog.fieldsOf 32).toList = [f1, f2] ∧ f1.name ≠ "_" ∧ f2.name ≠ "_" ∧ f1.type = 4 ∧ f1.offset = 0 ∧ f2.type = 30 ∧ f2.offset = 1 := by
  refine ⟨_, _, by simp only [Program.fieldsOf, Try.underlying32]; rfl, ?_, ?_, rfl, rfl, rfl, rfl⟩ <;> decide
theorem eqFields_two {P : Program} (d : Nat) (xs ys : Array Value) (f1 f2 : Field) (h1 : f1.name ≠ "_") (h2 : f2.name ≠ "_") (W : World) (a1 b1 a2 b2 : Value) (r1 r2 : Bool)
    (p1 : (part f1.type xs f1.offset).run P W = .ok a1 W) (q1 : (part f1.type ys f1.offset).run P W = .ok b1 W) (e1 : (Op.equalIn d f1.type a1 b1).run P W = .ok r1 W)
    (p2 : (part f2.type xs f2.offset).run P W = .ok a2 W) (q2 : (part f2.type ys f2.offset).run P W = .ok b2 W) (e2 : (Op.equalIn d f2.type a2 b2).run P W = .ok r2 W) :
    (Op.eqFields d xs ys [f1, f2]).run P W = .ok (r1 && r2) W := by
  simp only [Op.eqFields, h1, h2, ne_eq, not_false_eq_true, if_true, Sem.run_bind, p1, q1, e1, Result.andThen_ok]
  cases r1
  · simp
  · simp only [Bool.not_true, Bool.false_eq_true, if_false, Sem.run_bind, p2, q2, e2, Result.andThen_ok]
    cases r2 <;> simp
theorem run_eq_adr (a b : Adr) (d : Nat) (W : World) : (Op.equalIn (d + 3) 32 (.agg a.arr) (.agg b.arr)).run Try.prog W = .ok (decide (a = b)) W := by
  rw [run_equalIn_struct W (d + 2) _ _ _ adr_fields Try.stoodInHeld32]
  obtain ⟨f1, f2, hl, n1, n2, t1, o1, t2, o2⟩ := adr_list
  rw [hl, eqFields_two (d + 2) a.arr b.arr f1 f2 n1 n2 W _ _ _ _ _ _ (by rw [t1, o1]; exact part_bool a W) (by rw [t1, o1]; exact part_bool b W) (by rw [t1]; exact eq_bool _ _ _ W)
    (by rw [t2, o2]; exact part_ip a W) (by rw [t2, o2]; exact part_ip b W) (by rw [t2]; exact run_eq_ip _ _ d W)]
  obtain ⟨s1, v1⟩ := a
  obtain ⟨s2, v2⟩ := b
  congr 1
  rw [Bool.eq_iff_iff]
  simp
@[go_sem ↓] theorem eq_adr (a b : Adr) (W : World) : (Op.equalIn 10000 32 (.agg a.arr) (.agg b.arr)).run Try.prog W = .ok (decide (a = b)) W := run_eq_adr a b 9997 W
end Go.Proofs.Ytgcahcjffoehfaa
