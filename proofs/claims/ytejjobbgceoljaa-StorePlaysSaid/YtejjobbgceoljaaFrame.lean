/- A law's frame, whatever its parameters: where the call returns true and all that lay in memory is as it was, the law's specification is met. -/
import Derived.Test.YtejjobbgceoljaaRows
import Derived.WalkKit
import Derived.ProofKit
import Derived.OpenShut
import Derived.Carry
import Derived.Test.YtejjobbgceoljaaMem
set_option linter.unusedSimpArgs false
set_option linter.unusedVariables false
namespace Go.Proofs.Ytejjobbgceoljaa
open Go.ChangeShapes Go.WideShapes Go.ChangeAt Go.RowKit

theorem own : ownKnob Try.prog.godebug = none := by kernel_rfl
theorem laidOut : laidOutB Try.prog = true := by kernel_rfl

section
variable {H : Type} {enc : TypeId × Value → H} {P : Program}

theorem trodAll_below (hl : laidOutB P = true) {W W' : World} (hb : Below W.heap.size W W') : ∀ {ts : List TypeId} {vs : List Value} {ds : List (DataW H)} {ps : List MemPlace},
    (ts.all fun t => P.readableRec t && decide (t < P.types.size)) = true → (∀ x ∈ ps, x.block < W.heap.size) →
    DataW.TrodAll enc P W 0 (fun _ => true) true ts vs ds ps → DataW.TrodAll enc P W' 0 (fun b => decide (b < W.heap.size)) true ts vs ds ps
  | [], vs, ds, ps, _, _, h => by
    obtain ⟨rfl, rfl, rfl⟩ := trodAll_nil h
    exact trodAll_mk0
  | t :: ts, vs, ds, ps, hr, hlt, h => by
    obtain ⟨v, vs', d, ds', p, q, rfl, rfl, rfl, h1, h2⟩ := trodAll_cons h
    simp only [List.all_cons, Bool.and_eq_true, decide_eq_true_eq] at hr
    exact trodAll_cons_mk (Below.trod hl hr.1.1 hr.1.2 h1 hb (fun x hx => hlt x (List.mem_append_left _ hx)))
      (trodAll_below hl hb hr.2 (fun x hx => hlt x (List.mem_append_right _ hx)) h2)

theorem law_post {f : Func} {s : ChangeSpec} (hl : laidOutB P = true) {W W' : World} {args : Array Value} {ds gs : List (DataW H)} {before : List MemPlace}
    (hvars : s.vars = []) (hr : (f.params.toList.all fun t => P.readableRec t && decide (t < P.types.size)) = true) (T : TypeId) (hT : P.underlying T = some .bool) (hres : f.resultTypes = #[T])
    (hW : DataW.Whole enc P f.params.toList s.vars false W args.toList ds gs before)
    (hs : s.fn H ds = { results := [.lit (.bool true)], args := ds })
    (hb : Below W.heap.size W W') : s.post enc P f false true false false W args (.bool true) W' := by
  have hlt : ∀ p ∈ before, p.block < W.heap.size := fun p hp => hW.lt p hp
  have hW' := hW
  obtain ⟨p, q, hA, hV, rfl, hfz, hnd⟩ := hW
  rw [hvars] at hV
  obtain ⟨rfl, rfl⟩ := trodVars_none hV
  refine ⟨ds, [], p ++ [], [], p, [], hW', ?_, ?_, ?_, ?_, fun h => by cases h⟩
  · rw [List.append_nil, hs, hres]
    exact trodAll_mk1 (shut_bool hT true)
  · rw [List.append_nil, hs]
    exact trodAll_below hl hb hr (fun x hx => hlt x (List.mem_append_left _ hx)) hA
  · rw [List.append_nil, hs, hvars]
    rfl
  · exact hb.frame _
end

/-! ### arguments, opened -/
section
open Go.ChangeMaps (open_string)
variable {H : Type} {enc : TypeId × Value → H} {P : Program} {W : World} {base : Nat} {T E : TypeId} {v : Value} {d : DataW H} {ps : List MemPlace}

theorem open_u8 (ht : P.underlying T = some (.int .u8)) (hval : Value.okWide P W .any base T v) (h : DataW.Trod enc P W 0 (fun _ => true) true T v d ps) : ∃ u : Nat, v = .int .u8 (u : Nat) ∧ u < 256 := by
  obtain ⟨x, rfl, rfl, rfl, wx⟩ := open_int ht hval h
  have hx : 0 ≤ x ∧ x ≤ 255 := by simpa [Lit.wf, IntKind.min, IntKind.max, IntKind.signed, IntKind.bits] using wx
  exact ⟨x.toNat, by rw [Int.toNat_of_nonneg hx.1], by omega⟩
theorem open_u32 (ht : P.underlying T = some (.int .u32)) (hval : Value.okWide P W .any base T v) (h : DataW.Trod enc P W 0 (fun _ => true) true T v d ps) : ∃ u : Nat, v = .int .u32 (u : Nat) ∧ u < 4294967296 := by
  obtain ⟨x, rfl, rfl, rfl, wx⟩ := open_int ht hval h
  have hx : 0 ≤ x ∧ x ≤ 4294967295 := by simpa [Lit.wf, IntKind.min, IntKind.max, IntKind.signed, IntKind.bits] using wx
  exact ⟨x.toNat, by rw [Int.toNat_of_nonneg hx.1], by omega⟩
theorem open_u64 (ht : P.underlying T = some (.int .u64)) (hval : Value.okWide P W .any base T v) (h : DataW.Trod enc P W 0 (fun _ => true) true T v d ps) : ∃ u : Nat, v = .int .u64 (u : Nat) ∧ u < 18446744073709551616 := by
  obtain ⟨x, rfl, rfl, rfl, wx⟩ := open_int ht hval h
  have hx : 0 ≤ x ∧ x ≤ 18446744073709551615 := by simpa [Lit.wf, IntKind.min, IntKind.max, IntKind.signed, IntKind.bits] using wx
  exact ⟨x.toNat, by rw [Int.toNat_of_nonneg hx.1], by omega⟩
theorem open_i64 (ht : P.underlying T = some (.int .i64)) (hval : Value.okWide P W .any base T v) (h : DataW.Trod enc P W 0 (fun _ => true) true T v d ps) : ∃ x : Int, v = .int .i64 x ∧ (-9223372036854775808 ≤ x ∧ x ≤ 9223372036854775807) := by
  obtain ⟨x, rfl, rfl, rfl, wx⟩ := open_int ht hval h
  exact ⟨x, rfl, by simpa [Lit.wf, IntKind.min, IntKind.max, IntKind.signed, IntKind.bits] using wx⟩
theorem open_bl (ht : P.underlying T = some .bool) (hval : Value.okWide P W .any base T v) (h : DataW.Trod enc P W 0 (fun _ => true) true T v d ps) : ∃ b : Bool, v = .bool b := by
  obtain ⟨x, rfl, _, _⟩ := open_bool ht hval h
  exact ⟨x, rfl⟩
theorem open_str (ht : P.underlying T = some .string) (hval : Value.okWide P W .any base T v) (h : DataW.Trod enc P W 0 (fun _ => true) true T v d ps) : ∃ s : ByteArray, v = .string s ∧ s.size ≤ maxLen := by
  obtain ⟨x, rfl, _, _, h⟩ := open_string ht hval h
  exact ⟨x, rfl, h⟩

/-- a slice of integers: its cells -/
theorem open_ints_rd {k : IntKind} (ht : P.underlying T = some (.slice E)) (he : P.underlying E = some (.int k)) (hc : P.cellsOf E = 1) (hval : Value.okWide P W .any base T v) (h : DataW.Trod enc P W 0 (fun _ => true) true T v d ps) :
    ∃ (A : Option Addr) (n c : Nat) (l : List Int), v = .slice A n c ∧ n ≤ c ∧ c ≤ 9223372036854775807 ∧ Rd W W.heap.size 1 A n (l.map (Value.int k)) ∧ ∀ x ∈ l, (Lit.int k x).wf = true := by
  obtain ⟨a0, len, cap, rfl⟩ := okWide_slice ht hval
  obtain ⟨fuel, hf⟩ := h
  rcases open_ints ht he hc hf with ⟨hcs, hx⟩ | ⟨a, len', cap', zs, hcs, _, hl, hm, hz, hx, hcell, hwz⟩
  · simp only [Value.cells, List.cons.injEq, Value.slice.injEq, and_true] at hcs
    obtain ⟨rfl, rfl, rfl⟩ := hcs
    exact ⟨none, 0, 0, [], rfl, Nat.le_refl _, by omega, Rd.nil, by simp⟩
  · simp only [Value.cells, List.cons.injEq, Value.slice.injEq, and_true] at hcs
    obtain ⟨rfl, rfl, rfl⟩ := hcs
    unfold maxLen at hm
    rw [if_pos rfl] at hz
    refine ⟨some a, len, cap, zs.take len, rfl, hl, by omega, ⟨by rw [List.length_map, List.length_take]; omega, fun h0 => ⟨a, rfl, ?_, fun j u hu => ?_⟩⟩, fun x hx => hwz x (List.mem_of_mem_take hx)⟩
    · have := World.block_lt_of_cell? _ _ (hcell 0 (by omega))
      rwa [add_block] at this
    · have hj : j < len := by
        rcases Nat.lt_or_ge j len with h1 | h1
        · exact h1
        · rw [List.getElem?_eq_none (by rw [List.length_map, List.length_take]; omega)] at hu; cases hu
      rw [hcell j (by omega)]
      rw [List.getElem?_map, List.getElem?_take_of_lt hj, List.getElem?_eq_getElem (by omega)] at hu
      simp only [Option.map_some, Option.some.injEq] at hu
      rw [← hu, List.getD_eq_getElem?_getD, List.getElem?_eq_getElem (by omega)]
      rfl
theorem open_bytes (ht : P.underlying T = some (.slice E)) (he : P.underlying E = some (.int .u8)) (hc : P.cellsOf E = 1) (hval : Value.okWide P W .any base T v) (h : DataW.Trod enc P W 0 (fun _ => true) true T v d ps) :
    ∃ (A : Option Addr) (n c : Nat) (l : List UInt8), v = .slice A n c ∧ n ≤ c ∧ c ≤ 9223372036854775807 ∧ RdB W W.heap.size A n l := by
  obtain ⟨A, n, c, l, rfl, h1, h2, h3, h4⟩ := open_ints_rd ht he hc hval h
  refine ⟨A, n, c, l.map fun x => UInt8.ofNat x.toNat, rfl, h1, h2, ?_⟩
  unfold RdB
  rw [List.map_map]
  have e : l.map (bv ∘ fun x => UInt8.ofNat x.toNat) = l.map (Value.int .u8) := by
    refine List.map_congr_left (fun x hx => ?_)
    have hw := h4 x hx
    have hx2 : 0 ≤ x ∧ x ≤ 255 := by simpa [Lit.wf, IntKind.min, IntKind.max, IntKind.signed, IntKind.bits] using hw
    simp only [Function.comp, bv]
    congr 1
    rw [UInt8.toNat_ofNat']
    omega
  rw [e]
  exact h3
/-- a 64-bit number as a cell -/
def qv (n : Nat) : Value := .int .u64 (n : Nat)
theorem open_u64s (ht : P.underlying T = some (.slice E)) (he : P.underlying E = some (.int .u64)) (hc : P.cellsOf E = 1) (hval : Value.okWide P W .any base T v) (h : DataW.Trod enc P W 0 (fun _ => true) true T v d ps) :
    ∃ (A : Option Addr) (n c : Nat) (l : List Nat), v = .slice A n c ∧ n ≤ c ∧ c ≤ 9223372036854775807 ∧ Rd W W.heap.size 1 A n (l.map qv) ∧ ∀ x ∈ l, x < 18446744073709551616 := by
  obtain ⟨A, n, c, l, rfl, h1, h2, h3, h4⟩ := open_ints_rd ht he hc hval h
  have hb : ∀ x ∈ l, 0 ≤ x ∧ x ≤ 18446744073709551615 := fun x hx => by
    have hw := h4 x hx
    simpa [Lit.wf, IntKind.min, IntKind.max, IntKind.signed, IntKind.bits] using hw
  refine ⟨A, n, c, l.map Int.toNat, rfl, h1, h2, ?_, fun x hx => ?_⟩
  · rw [List.map_map]
    have e : l.map (qv ∘ Int.toNat) = l.map (Value.int .u64) := by
      refine List.map_congr_left (fun x hx => ?_)
      simp only [Function.comp, qv]
      congr 1
      have := hb x hx
      omega
    rw [e]
    exact h3
  · obtain ⟨y, hy, rfl⟩ := List.mem_map.1 hx
    have := hb y hy
    omega
end

end Go.Proofs.Ytejjobbgceoljaa
