/- The document's store: cut: the plain law. -/
import Derived.Test.YtejjobbgceoljaaStG
set_option linter.unusedSimpArgs false
set_option linter.unusedVariables false
namespace Go.Proofs.Ytejjobbgceoljaa
open Go.RowKit

/-- of the first i those but the one at a place -/
def cutL (L : List Fi) (at_ i : Nat) : List Fi := L.take (min at_ i) ++ (L.drop (at_ + 1)).take (i - (at_ + 1))
theorem cutL_skip (L : List Fi) (a : Nat) : cutL L a (a + 1) = cutL L a a := by
  unfold cutL
  rw [show min a (a + 1) = min a a by omega, show a + 1 - (a + 1) = 0 by omega, show a - (a + 1) = 0 by omega]
theorem cutL_next (L : List Fi) (a i : Nat) (hi : i < L.length) (hne : i ≠ a) {x : Fi} (hx : x = L.getD i noFi) : cutL L a (i + 1) = cutL L a i ++ [x] := by
  unfold cutL
  rcases Nat.lt_or_ge i a with h | h
  · rw [show min a (i + 1) = i + 1 by omega, show min a i = i by omega, show i + 1 - (a + 1) = 0 by omega, show i - (a + 1) = 0 by omega, List.take_zero, List.append_nil, List.append_nil, ← take_snocR noFi L i hi, ← hx]
  · have h2 : a < i := by omega
    rw [show min a (i + 1) = a by omega, show min a i = a by omega, show i + 1 - (a + 1) = i - (a + 1) + 1 by omega, List.append_assoc]
    congr 1
    have hd : i - (a + 1) < (L.drop (a + 1)).length := by rw [List.length_drop]; omega
    have hg : (L.drop (a + 1))[i - (a + 1)]? = some x := by
      rw [List.getElem?_drop, show a + 1 + (i - (a + 1)) = i by omega, List.getElem?_eq_getElem hi, hx, List.getD_eq_getElem?_getD, List.getElem?_eq_getElem hi]
      rfl
    obtain ⟨h3, h4⟩ := List.getElem?_eq_some_iff.1 hg
    rw [List.take_succ_eq_append_getElem hd, h4]
theorem cutL_all (L : List Fi) (a : Nat) (ha : a < L.length) : cutL L a L.length = L.eraseIdx a := by
  unfold cutL
  have h1 : (L.drop (a + 1)).take (L.length - (a + 1)) = L.drop (a + 1) := List.take_of_length_le (by rw [List.length_drop]; exact Nat.le_refl _)
  rw [show min a L.length = a by omega, h1, List.eraseIdx_eq_take_drop_succ]
theorem cutL_len (L : List Fi) (a i : Nat) : (cutL L a i).length ≤ i := by
  unfold cutL
  rw [List.length_append, List.length_take, List.length_take]
  omega
theorem cut_is {L : List Fi} (hs : SrtF L) : ∀ {a : Nat} (ha : a < L.length), L.eraseIdx a = cutF (L.getD a noFi).name L := by
  induction L with
  | nil => intro a ha; simp at ha
  | cons x r ih =>
    obtain ⟨h1, h2⟩ := List.pairwise_cons.1 hs
    intro a ha
    cases a with
    | zero =>
      have hr : r.filter (fun y => y.name != x.name) = r := List.filter_eq_self.2 fun y hy => by
        have := h1 y hy
        have hne : y.name ≠ x.name := fun e => by rw [e, bl_irrefl] at this; cases this
        simpa using hne
      show r = cutF x.name (x :: r)
      unfold cutF
      rw [List.filter_cons_of_neg (by simp), hr]
    | succ a =>
      rw [List.length_cons] at ha
      have ha' : a < r.length := by omega
      have hm : r.getD a noFi ∈ r := getD_mem noFi r a ha'
      have hne : x.name ≠ (r.getD a noFi).name := fun e => by have := h1 _ hm; rw [e, bl_irrefl] at this; cases this
      show x :: r.eraseIdx a = cutF (r.getD a noFi).name (x :: r)
      unfold cutF
      rw [List.filter_cons_of_pos (by simpa using hne), ih h2 ha']
      rfl
end Go.Proofs.Ytejjobbgceoljaa
