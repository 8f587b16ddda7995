/- The document's store as a whole; its store as one. -/
import Derived.Test.YtejjobbgceoljaaStI
set_option linter.unusedSimpArgs false
set_option linter.unusedVariables false
namespace Go.Proofs.Ytejjobbgceoljaa
open Go.RowKit

/-- the document's store at p tells quota q, the files L in order, the fuse, and whether the power is gone -/
def RfS (W : World) (p : Nat) (q : Int) (L : List Fi) (fu : Int) (dn : Bool) : Prop :=
  ∃ A n c, Box W p (rfC q A n c fu dn) ∧ RdF W W.heap.size A n L ∧ (∀ a, A = some a → a.block ≠ p) ∧ SrtF L
theorem RfS.go {W W1 : World} {p : Nat} {q : Int} {L : List Fi} {fu : Int} {dn : Bool} (h : RfS W p q L fu dn) (hb : Below W.heap.size W W1) : RfS W1 p q L fu dn := by
  obtain ⟨A, n, c, h1, h2, h3, h4⟩ := h
  exact ⟨A, n, c, h1.go hb, h2.go hb, h3, h4⟩
theorem RfS.of_put {w w' : World} {p : Nat} {q fu : Int} {dn : Bool} {M : List Fi} {e : Ending} (h : PutP w p q fu dn M e w') (hp : p < w.heap.size) (hM : SrtF M) : RfS w' p q M fu dn := by
  obtain ⟨_, A, c, h1, h2, _⟩ := h
  exact ⟨A, _, c, h1, RdR.of_own rfl h2, fun a ha e => by have := (h2.lt a.block (by rw [ha]; rfl)).1; omega, hM⟩
theorem RfS.of_cut {w w' : World} {p : Nat} {q fu : Int} {dn : Bool} {f : Fi} {M : List Fi} {e : Ending} (h : CutP w p q fu dn f M e w') (hp : p < w.heap.size) (hM : SrtF M) : RfS w' p q M fu dn := by
  obtain ⟨_, A, c, h1, h2, _⟩ := h
  exact ⟨A, _, c, h1, RdR.of_own rfl h2, fun a ha e => by have := (h2.lt a.block (by rw [ha]; rfl)).1; omega, hM⟩
theorem atF_cases (L : List Fi) (s : List UInt8) : (atF L s = -1 ∧ lookF L s = none) ∨ ∃ i : Nat, atF L s = i ∧ i < L.length ∧ (L.getD i noFi).name = s ∧ lookF L s = some (L.getD i noFi) := by
  unfold atF lookF
  cases hf : L.findIdx? (fun x => x.name == s) with
  | none =>
    exact .inl ⟨rfl, List.find?_eq_none.2 (fun x hx => by have := List.findIdx?_eq_none_iff.1 hf x hx; simpa using this)⟩
  | some i =>
    obtain ⟨hi, hn, hno⟩ := List.findIdx?_eq_some_iff_getElem.1 hf
    have e : L.getD i noFi = L[i] := by rw [List.getD_eq_getElem?_getD, List.getElem?_eq_getElem hi]; rfl
    exact .inr ⟨i, rfl, hi, by rw [e]; simpa using hn, by rw [e]; exact List.find?_eq_some_iff_getElem.2 ⟨hn, i, hi, rfl, fun j hj => by simpa using hno j hj⟩⟩
end Go.Proofs.Ytejjobbgceoljaa
