/- Rows of texts and of numbers made side by side; a text's beginning. -/
import Derived.Test.YtejjobbgceoljaaSuC
set_option linter.unusedSimpArgs false
set_option linter.unusedVariables false
namespace Go.Proofs.Ytejjobbgceoljaa
open Go.RowKit

theorem text_take (l : List UInt8) (k : Nat) : (textOf l).extract 0 k = textOf (l.take k) := by
  apply ByteArray.ext
  simp [textOf]
theorem infoI : ∃ i : TypeInfo, Try.prog.info? 3 = some i ∧ i.zero = some (.int .i64 0) ∧ i.size = 1 ∧ i.bytes ≤ 400 := by
  cases h : Try.prog.info? 3 with
  | none => exact absurd h (by have : (Try.prog.info? 3).isSome = true := by kernel_rfl
                               intro e; rw [e] at this; cases this)
  | some i =>
    have h1 : (Try.prog.info? 3).map (·.size) = some 1 := by kernel_rfl
    have h2 : (Try.prog.info? 3).map (fun i => decide (i.bytes ≤ 400)) = some true := by kernel_rfl
    have h3 : (Try.prog.info? 3).map (·.zero) = some (some (.int .i64 0)) := by kernel_rfl
    rw [h] at h1 h2 h3
    simp at h1 h2 h3
    exact ⟨i, rfl, h3, h1, h2⟩
def cellsZ (l : List Int) : List Value := l.flatMap fun x => (i64A x).toList
theorem cellsZ_snoc (l : List Int) (z : Int) : cellsZ l ++ [.int .i64 z] = cellsZ (l ++ [z]) := by simp [cellsZ, i64A]
/-- rows that lie apart -/
def Apart (v1 v2 : Value) : Prop := ∀ g, v1.ownBlock = some g → v2.ownBlock ≠ some g
theorem Apart.symm {v1 v2 : Value} (h : Apart v1 v2) : Apart v2 v1 := fun g h1 h2 => h g h2 h1
/-- one row grows: the other lies on, and apart from it -/
theorem own_beside {w w' : World} {base size n : Nat} {e : TypeId} {v1 v1' v2 : Value} {xs : List Value} (h2 : w.ownsRow base e size v2 n xs) (ha : Apart v1 v2) (hg : w.grownBy w' v1.ownBlock) (hat : v1'.ownBlock = v1.ownBlock ∨ v1'.ownBlock = some w.heap.size) :
    w'.ownsRow base e size v2 n xs ∧ Apart v1' v2 := by
  refine ⟨h2.kept hg ?_, fun g h1 hh => ?_⟩
  · cases hv : v2.ownBlock with
    | none => exact .inl rfl
    | some g => exact .inr (fun e' => ha g e'.symm hv)
  · rcases hat with h | h
    · exact ha g (h ▸ h1) hh
    · rw [h] at h1
      injection h1 with h1
      have := (h2.lt g hh).2
      omega
theorem fresh_one (w : World) (v : Value) (t : TypeId) : Rd (w.alloc (.cells #[v] t)) (w.heap.size + 1) 1 (some ⟨w.heap.size, 0, none⟩) 1 [v] := by
  have := Rd.fresh w #[v] t 1 1 rfl
  simpa using this
/-! ### a crash, by place -/
theorem crL_at {L : List Fi} {ks : List Int} {k : Nat} (hk : k < L.length) : (crL L ks).getD k noFi = crX (L.getD k noFi) ks[k]? := by
  unfold crL
  rw [List.getD_eq_getElem?_getD, List.getElem?_mapIdx, List.getD_eq_getElem?_getD, List.getElem?_eq_getElem hk]
  rfl
theorem crL_names (L : List Fi) (ks : List Int) : namesF (crL L ks) = namesF L := by
  unfold namesF crL
  apply List.ext_getElem?
  intro i
  rw [List.getElem?_map, List.getElem?_mapIdx, List.getElem?_map]
  cases L[i]? <;> rfl
/-- what is synced of a file, by its place -/
theorem syn_at {L : List Fi} (hS : SrtF L) {k : Nat} (hk : k < L.length) : synV L ((namesF L).getD k []) = ((L.getD k noFi).syn, true) := by
  have h1 : (namesF L).getD k [] = (L.getD k noFi).name := by simp [namesF, List.getD_eq_getElem?_getD, hk]
  rw [h1]
  exact syn_yes (lookF_of_mem hS (getD_mem noFi L k hk))
def bytesF (L : List Fi) : List (List UInt8) := L.map Fi.b
def synsF (L : List Fi) : List Int := L.map Fi.syn
theorem bytesF_at {L : List Fi} {k : Nat} (hk : k < L.length) : (bytesF L).getD k [] = (L.getD k noFi).b := by simp [bytesF, List.getD_eq_getElem?_getD, hk]
theorem synsF_at {L : List Fi} {k : Nat} (hk : k < L.length) : (synsF L).getD k 0 = (L.getD k noFi).syn := by simp [synsF, List.getD_eq_getElem?_getD, hk]
theorem bytesF_take {L : List Fi} {k : Nat} (hk : k < L.length) : bytesF (L.take k) ++ [(L.getD k noFi).b] = bytesF (L.take (k + 1)) := by
  unfold bytesF
  rw [← take_snocR noFi L k hk, List.map_append]; rfl
theorem synsF_take {L : List Fi} {k : Nat} (hk : k < L.length) : synsF (L.take k) ++ [(L.getD k noFi).syn] = synsF (L.take (k + 1)) := by
  unfold synsF
  rw [← take_snocR noFi L k hk, List.map_append]; rfl
/-- what a crash leaves of a file, in numbers -/
theorem crX_nums {x : Fi} (h : 0 ≤ x.syn ∧ x.syn ≤ x.b.length) (o : Option Int) : ∃ k : Nat, (crX x o).syn = k ∧ (crX x o).b = x.b.take k ∧ x.syn ≤ k ∧ k ≤ x.b.length := by
  have := more_bd h o
  refine ⟨(x.syn + moreF x o).toNat, ?_, rfl, ?_, ?_⟩
  · show x.syn + moreF x o = _
    omega
  · omega
  · omega
end Go.Proofs.Ytejjobbgceoljaa
