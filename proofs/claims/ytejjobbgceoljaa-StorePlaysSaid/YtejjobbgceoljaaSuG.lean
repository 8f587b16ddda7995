/- What an operation does to other files, and to the renamed one. -/
import Derived.Test.YtejjobbgceoljaaSuE
set_option linter.unusedSimpArgs false
set_option linter.unusedVariables false
namespace Go.Proofs.Ytejjobbgceoljaa
open Go.RowKit

theorem grF_name (L : List Fi) (s bs : List UInt8) : (grF L s bs).name = s := by
  unfold grF
  cases hl : lookF L s with
  | none => rfl
  | some f => have := lookF_name hl; exact this
theorem ren_why {L : List Fi} {s t : List UInt8} (h : whyRen L s t = 0) : lookF L t = none ∧ ∃ f, lookF L s = some f := by
  unfold whyRen at h
  split at h
  · cases h
  · split at h
    · cases h
    · rename_i h2
      split at h
      · rename_i h3
        exact ⟨h3, by cases hl : lookF L s with
          | none => exact absurd hl h2
          | some f => exact ⟨f, rfl⟩⟩
      · cases h
theorem ends_zero {why fu : Int} {dn : Bool} (h : (endsF why fu dn).1 = 0) : why = 0 := by
  by_cases hw : why = 0
  · exact hw
  · exact absurd h (ends_ne hw)
/-- an operation leaves every other file as it was; a renamed one goes by the other name alone -/
theorem names_law (q : Int) (m : Mo) (x : Ac) (bs : List UInt8) (ks : List Int) (hS : SrtF m.L) (hk : 0 ≤ x.kind ∧ x.kind ≤ 3) (y : Fi) (hy : y ∈ m.L) :
    (y.name = x.name ∧ (stepM q m x bs ks).2 = 0 ∧ x.kind = 2 → lookF (stepM q m x bs ks).1.L y.name = none ∧ lookF (stepM q m x bs ks).1.L x.dst = some ⟨x.dst, y.b, y.syn⟩) ∧
    (¬ (y.name = x.name ∧ (stepM q m x bs ks).2 = 0) → lookF (stepM q m x bs ks).1.L y.name = some y) := by
  have hl := lookF_of_mem hS hy
  refine ⟨fun ⟨hn, he, hk2⟩ => ?_, fun h => ?_⟩
  · unfold stepM at he ⊢
    rw [if_neg (by rw [hk2]; decide), if_neg (by rw [hk2]; decide), if_pos hk2] at he ⊢
    dsimp only at he ⊢
    obtain ⟨h1, f, h2⟩ := ren_why (ends_zero he)
    unfold renF
    rw [if_pos he, h2]
    dsimp only
    rw [hn] at hl ⊢
    rw [hl] at h2
    injection h2 with h2
    subst h2
    have hts : x.name ≠ x.dst := fun e => by rw [← e, hl] at h1; cases h1
    rw [lookF_put, lookF_put, if_neg hts, if_pos rfl, lookF_cut, if_pos rfl]
    exact ⟨rfl, rfl⟩
  · by_cases he : (stepM q m x bs ks).2 = 0
    · have hn : y.name ≠ x.name := fun e => h ⟨e, he⟩
      unfold stepM at he ⊢
      rcases (show x.kind = 0 ∨ x.kind = 1 ∨ x.kind = 2 ∨ x.kind = 3 by omega) with h | h | h | h
      · rw [if_pos h] at he ⊢
        dsimp only at he ⊢
        unfold appF
        rw [if_pos he, lookF_put, grF_name, if_neg hn]; exact hl
      · rw [if_neg (by rw [h]; decide), if_pos h] at he ⊢
        dsimp only at he ⊢
        unfold synF
        rw [if_pos he]
        cases hf : lookF m.L x.name with
        | none => exact hl
        | some f =>
          dsimp only
          rw [lookF_put]
          have hfn : f.name = x.name := lookF_name hf
          dsimp only
          rw [hfn, if_neg hn]; exact hl
      · rw [if_neg (by rw [h]; decide), if_neg (by rw [h]; decide), if_pos h] at he ⊢
        dsimp only at he ⊢
        obtain ⟨h1, f, h2⟩ := ren_why (ends_zero he)
        unfold renF
        rw [if_pos he, h2]
        dsimp only
        have hyt : y.name ≠ x.dst := fun e => by rw [e, h1] at hl; cases hl
        rw [lookF_put, if_neg hyt, lookF_cut, if_neg hn]; exact hl
      · rw [if_neg (by rw [h]; decide), if_neg (by rw [h]; decide), if_neg (by rw [h]; decide), if_pos h] at he ⊢
        dsimp only at he ⊢
        unfold remF
        rw [if_pos he, lookF_cut, if_neg hn]; exact hl
    · rw [step_err q m x bs ks he]; exact hl
theorem step_up (q : Int) (L : List Fi) (x : Ac) (bs : List UInt8) (ks : List Int) (hk : 0 ≤ x.kind ∧ x.kind ≤ 3) : (stepM q ⟨L, -1, false⟩ x bs ks).1.dn = false := by
  rw [(step_op q ⟨L, -1, false⟩ x bs ks hk).2.2]
  dsimp only
  by_cases hw : whyM q ⟨L, -1, false⟩ x = 0
  · rw [hw]; rfl
  · rw [ends_why hw]
theorem crL_syn {L : List Fi} {ks : List Int} {q : Int} (hG : GoodF q L) {k : Nat} (hk : k < L.length) : ((crL L ks).getD k noFi).syn = (((crL L ks).getD k noFi).b.length : Nat) := by
  rw [crL_at hk]
  have := crX_len (hG.2.1 _ (getD_mem noFi L k hk)).2 ks[k]?
  rw [this]; rfl
theorem read_of {L : List Fi} {s : List UInt8} {y : Fi} (h : lookF L s = some y) : readV L s false = (y.b, 0) ∧ synV L s = (y.syn, true) := by
  refine ⟨?_, syn_yes h⟩
  unfold readV
  rw [if_neg (by simp), h]
theorem read_no {L : List Fi} {s : List UInt8} (h : lookF L s = none) : readV L s false = ([], 5) := by
  unfold readV
  rw [if_neg (by simp), h]
theorem names_get {L : List Fi} {k : Nat} (hk : k < L.length) : (namesF L).getD k [] = (L.getD k noFi).name := by simp [namesF, List.getD_eq_getElem?_getD, hk]
theorem names_rise {L : List Fi} (hS : SrtF L) {k : Nat} (hk : k + 1 < L.length) : Op.bytesLess ((namesF L).getD k []) ((namesF L).getD (k + 1) []) = true := by
  rw [names_get (by omega), names_get hk]
  have := List.pairwise_iff_getElem.1 hS k (k + 1) (by omega) hk (by omega)
  rw [List.getD_eq_getElem?_getD, List.getElem?_eq_getElem (by omega), List.getD_eq_getElem?_getD, List.getElem?_eq_getElem hk]
  exact this
end Go.Proofs.Ytejjobbgceoljaa
