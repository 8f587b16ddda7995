/- The healths known by name: slices.Backward, a map. -/
import Derived.Test.YtjeeigdbfngjaaaHeI
import Derived.Test.YtjeeigdbfngjaaaVal
import Derived.RangeFuncNested
import Derived.Maps.OwnIn
import Derived.Maps.OwnSet
set_option linter.unusedSimpArgs false
set_option linter.unusedVariables false
namespace Go.Proofs.Ytjeeigdbfngjaaa
open Go.RowKit Go.Shelf

attribute [local go_sem] Oper.semAt_some

/-! ### the iterator -/
def backI (n : Nat) : List Nat := (List.range n).reverse
theorem backI_len (n : Nat) : (backI n).length = n := by simp [backI]
theorem backI_take (n j : Nat) (hj : j < n) : (backI n).take (n - 1 - j) ++ [j] = (backI n).take (n - j) := by
  have h : (backI n)[n - 1 - j]? = some j := by
    unfold backI
    rw [List.getElem?_reverse (by simp; omega), List.length_range, show n - 1 - (n - 1 - j) = j by omega, List.getElem?_range hj]
  obtain ⟨h1, h2⟩ := List.getElem?_eq_some_iff.1 h
  rw [show n - j = n - 1 - j + 1 by omega, List.take_succ_eq_append_getElem h1, h2]
/-- what the round must keep: what lay below n₀, and the box -/
def KpB (n₀ Bs : Nat) (W W' : World) : Prop := Below n₀ W W' ∧ W'.heap[Bs]? = W.heap[Bs]?
theorem KpB.refl (n₀ Bs : Nat) (W : World) : KpB n₀ Bs W W := ⟨Below.refl _ _, rfl⟩
theorem KpB.trans {n₀ Bs : Nat} {A B C : World} (h : KpB n₀ Bs A B) (k : KpB n₀ Bs B C) : KpB n₀ Bs A C := ⟨h.1.trans k.1, k.2.trans h.2⟩
theorem KpB.cell {n₀ Bs : Nat} {W W' : World} {v : Value} (h : KpB n₀ Bs W W') (hc : W.cell? ⟨Bs, 0, none⟩ = some v) : W'.cell? ⟨Bs, 0, none⟩ = some v := by
  rw [← hc]; simp only [World.cell?, h.2]
set_option maxRecDepth 100000 in
set_option maxHeartbeats 2000000 in
theorem back1_in (F : Fence) (n : Nat) (hf : F.fn 35) (hro : F.round = none) (hn : 1 ≤ n) (l Bs n₀ : Nat) (A : Option Addr) (len cap : Nat) (zs : List Hl) (hlen : len ≤ 100000) (J Jx : List Nat → World → Prop)
    (hY : ∀ pre x W, J pre W → pre.length < len → YieldAt F (n - 1) Try.prog l #[.int .i64 (x : Nat), .agg (zs.getD x noHl).arr] W fun e W' =>
      (e = .returned (.bool true) ∧ J (pre ++ [x]) W' ∧ KpB n₀ Bs W W') ∨ (e = .returned (.bool false) ∧ Jx (pre ++ [x]) W'))
    (W : World) (hBs : W.cell? ⟨Bs, 0, none⟩ = some (.slice A len cap)) (hR : RdH W n₀ A len zs) (h0 : J [] W) :
    CallsIn F n Try.prog 35 #[.func (.yield l) #[] #[], .pointer (some ⟨Bs, 0, none⟩)] W fun e W' => (∃ v, e = .returned v) ∧
      ((∃ ys, ys = backI len ∧ J ys W') ∨ (∃ pre, True ∧ Jx pre W')) := by
  have hzl := hR.1
  have hbl := backI_len len
  refine callsIn_of_wp Try.func35 rfl hf ?_ hro
  simp only [Try.ntmps35, List.size_toArray, List.length_cons, List.length_nil, Nat.reduceAdd, Nat.reduceSub, Array.replicate_succ, Array.replicate_zero, List.push_toArray, List.append_toArray, List.nil_append, List.cons_append]
  have hst : ∃ i0 : Int, (len : Int) - 1 = i0 ∧ ((i0 = -1 ∧ len = 0) ∨ (∃ j : Nat, i0 = j ∧ j + 1 = len)) := by
    refine ⟨_, rfl, ?_⟩
    rcases Nat.eq_zero_or_pos len with h | h
    · exact .inl ⟨by omega, h⟩
    · exact .inr ⟨len - 1, by omega, by omega⟩
  obtain ⟨i0, hi0, hst⟩ := hst
  gi_wp2
  gi_loopw [3] (fun i wr => ∃ i1 : Int, i = .int .i64 i1 ∧ ((i1 = -1 ∧ J (backI len) wr) ∨ (∃ j : Nat, i1 = j ∧ j < len ∧ J ((backI len).take (len - 1 - j)) wr)) ∧ KpB n₀ Bs W wr)
    (fun i _ => (intOf i + 1).toNat)
  case atStart =>
    refine ⟨i0, rfl, ?_, KpB.refl _ _ _⟩
    rcases hst with ⟨h1, h2⟩ | ⟨j, h1, h2⟩
    · refine .inl ⟨h1, ?_⟩
      have : backI len = [] := List.eq_nil_of_length_eq_zero (by omega)
      rw [this]; exact h0
    · refine .inr ⟨j, h1, by omega, ?_⟩
      rw [show len - 1 - j = 0 by omega]; exact h0
  case round =>
    obtain ⟨i1, rfl, hcase, hnx⟩ := hrel
    clear hst hi0
    have hBw : wr.cell? ⟨Bs, 0, none⟩ = some (.slice A len cap) := hnx.cell hBs
    rcases hcase with ⟨rfl, hJs⟩ | ⟨j, rfl, hjl, hJs⟩
    · gi_wp2
      go_end0
      exact ⟨⟨_, rfl⟩, .inl ⟨_, rfl, hJs⟩⟩
    · have hj0 : decide ((0 : Int) ≤ (j : Int)) = true := by simp
      have hjl2 : (j : Int) < len := by omega
      obtain ⟨b, o, rfl, hbb, hh, hc, _, _⟩ := (hR.below hnx.1).hl hjl
      obtain ⟨x, hx⟩ : ∃ x, x = zs.getD j noHl := ⟨_, rfl⟩
      rw [← hx] at hc
      have HSN := Lib.hid (show (backI len).take (len - 1 - j) ++ [j] = (backI len).take (len - j) from backI_take len j (by omega))
      obtain ⟨fn, tmps, assign, body, hy, hRd⟩ := hY _ j wr hJs (by rw [List.length_take]; omega)
      rw [← hx] at hy
      clear hx hbb
      gi_wp2
      refine hRd.mono ?_
      rintro e W3 (⟨rfl, hJ3, hk3⟩ | ⟨rfl, hJx3⟩)
      · gi_wp2
        go_roundw
        case rel =>
          refine ⟨_, rfl, ?_, hnx.trans hk3⟩
          rw [HSN.out] at hJ3
          rcases Nat.eq_zero_or_pos j with h | h
          · refine .inl ⟨by omega, ?_⟩
            rw [List.take_of_length_le (by omega)] at hJ3
            exact hJ3
          · refine .inr ⟨j - 1, by omega, by omega, ?_⟩
            rw [show len - 1 - (j - 1) = len - j by omega]; exact hJ3
        case measure => simp [intOf] <;> omega
      · gi_wp2
        refine bodyPost_ret (results_none rfl _ _ _) rfl ?_
        exact ⟨⟨_, rfl⟩, .inr ⟨_, trivial, hJx3⟩⟩
set_option maxHeartbeats 1000000 in
theorem back_any (A : Option Addr) (len cap : Nat) (w : World) :
    Calls Try.prog 27 #[.slice A len cap] w fun e w' => e = .returned (.func (.func 35) #[] #[.pointer (some ⟨w.heap.size, 0, none⟩)]) ∧ w.alloc (.cells #[.slice A len cap] 34) = w' := by
  go_enter Try.func27, Try.ntmps27
  go_wp2
  go_ret
  exact ⟨rfl, rfl⟩
theorem back_stops (F : Fence) (n : Nat) (hf : F.fn 35) (hro : F.round = none) (hn : 1 ≤ n) (Bs n₀ : Nat) (A : Option Addr) (len cap : Nat) (zs : List Hl) (hlen : len ≤ 100000) (w : World) (hBs : Bs < w.heap.size) (hn₀ : n₀ ≤ w.heap.size)
    (hc : w.cell? ⟨Bs, 0, none⟩ = some (.slice A len cap)) (hR : RdH w n₀ A len zs) :
    SeqStopsK F n Try.prog 35 #[.pointer (some ⟨Bs, 0, none⟩)] (fun x : Nat => #[Value.int .i64 (x : Nat), .agg (zs.getD x noHl).arr]) (KpB n₀ Bs) (fun ys => ys = backI len) (fun _ => True) len w := fun l J Jx W hW _ _ hY h0 => by
  have hc' := (hW.cell (p := ⟨Bs, 0, none⟩) hBs).trans hc
  exact back1_in F n hf hro hn l Bs n₀ A len cap zs hlen J Jx hY W hc' (hR.to hW hn₀) h0

/-! ### what the map says -/
section
variable {H : Type}
def hlD (x : Hl) : DataW H := .agg [.lit (.string x.name), .lit (.bool x.down), .lit (.int .i64 x.run)]
def hlElem : Value → Option (DataW H × List MemPlace)
  | .agg c => match c.toList with
    | [.string s, .bool b, .int .i64 r] => some (hlD ⟨s.data.toList, b, r⟩, [])
    | _ => none
  | _ => none
theorem hlElem_mk (x : Hl) : hlElem (H := H) (.agg x.arr) = some (hlD x, []) := by
  simp [hlElem, Hl.arr, textOf]
theorem hlElem_inv {v : Value} {z : DataW H × List MemPlace} (h : hlElem v = some z) : ∃ x : Hl, v = .agg x.arr ∧ z = (hlD x, []) := by
  unfold hlElem at h
  split at h
  · rename_i c
    split at h
    · rename_i s b r hc
      injection h with h
      refine ⟨⟨s.data.toList, b, r⟩, ?_, h.symm⟩
      have : c = #[.string s, .bool b, .int .i64 r] := by rw [← Array.toArray_toList (xs := c), hc]
      rw [this]
      simp [Hl.arr, textOf_data]
    · cases h
  · cases h
theorem hlD_inj {x y : Hl} (h : hlD (H := H) x = hlD y) : x = y := by
  cases x; cases y
  simp [hlD] at h
  obtain ⟨rfl, rfl, rfl⟩ := h
  rfl
def MapIs (D : DataW H) (f : List UInt8 → Option Hl) : Prop :=
  Maps.IsMap D ∧ ∀ s, Maps.has D (.string s) = (f s).isSome ∧ ∀ zd, D.atKey (.string s) zd = match f s with | some x => hlD x | none => zd
def knownF (l : List Hl) (pre : List Nat) (s : List UInt8) : Option Hl := (pre.reverse.map (fun k => l.getD k noHl)).find? (fun x => x.name == s)
theorem knownF_snoc (l : List Hl) (pre : List Nat) (p : Nat) (s : List UInt8) : knownF l (pre ++ [p]) s = if (l.getD p noHl).name == s then some (l.getD p noHl) else knownF l pre s := by
  unfold knownF
  rw [List.reverse_append]
  simp only [List.reverse_cons, List.reverse_nil, List.nil_append, List.cons_append, List.map_cons, List.find?_cons]
  cases (l.getD p noHl).name == s <;> rfl
theorem knownF_all (l : List Hl) (s : List UInt8) : knownF l (backI l.length) s = l.find? (fun x => x.name == s) := by
  unfold knownF backI
  rw [List.reverse_reverse]
  congr 1
  apply List.ext_getElem?
  intro i
  rw [List.getElem?_map]
  rcases Nat.lt_or_ge i l.length with h | h
  · rw [List.getElem?_range h, List.getElem?_eq_getElem h]
    simp only [Option.map_some]
    rw [List.getD_eq_getElem?_getD, List.getElem?_eq_getElem h]; rfl
  · rw [List.getElem?_eq_none (by simpa using h), List.getElem?_eq_none h]; rfl
theorem mapIs_nil (l : List Hl) : MapIs (H := H) (.map []) (knownF l []) := ⟨⟨[], rfl⟩, fun s => ⟨rfl, fun zd => rfl⟩⟩
theorem mapIs_put {D : DataW H} {l : List Hl} {pre : List Nat} (h : MapIs D (knownF l pre)) (k : Nat) (p : Hl) (hp : p = l.getD k noHl) : MapIs (D.put (.string p.name) (hlD p)) (knownF l (pre ++ [k])) := by
  obtain ⟨hm, hs⟩ := h
  have hk : Go.WideAt.IsKeyLit (.string p.name) := trivial
  refine ⟨hm.put _ _, fun s => ?_⟩
  rw [knownF_snoc, ← hp]
  by_cases hn : p.name = s
  · subst hn
    have : (p.name == p.name) = true := by simp
    rw [this]
    exact ⟨Maps.has_put_same hm hk _, fun zd => Maps.atKey_put_same hm hk _ _⟩
  · have hb : (p.name == s) = false := by simpa using hn
    rw [hb]
    have hne : (Lit.string s) ≠ .string p.name := fun e => hn (by injection e with e; exact e.symm)
    obtain ⟨h1, h2⟩ := hs s
    exact ⟨by rw [Maps.has_put_other hne]; exact h1, fun zd => by rw [Maps.atKey_put_other hne]; exact h2 zd⟩
end
end Go.Proofs.Ytjeeigdbfngjaaa
