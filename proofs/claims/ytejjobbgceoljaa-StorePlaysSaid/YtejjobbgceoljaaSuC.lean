/- What is refused changes nothing; what is put behind counts. -/
import Derived.Test.YtejjobbgceoljaaSuA
set_option linter.unusedSimpArgs false
set_option linter.unusedVariables false
namespace Go.Proofs.Ytejjobbgceoljaa
open Go.RowKit

theorem step_err (q : Int) (m : Mo) (x : Ac) (bs : List UInt8) (ks : List Int) (h : (stepM q m x bs ks).2 ≠ 0) : (stepM q m x bs ks).1.L = m.L := by
  unfold stepM at h ⊢
  repeat' split
  · rename_i h0; rw [if_pos h0] at h; exact if_neg h
  · rename_i h0 h1; rw [if_neg h0, if_pos h1] at h; exact if_neg h
  · rename_i h0 h1 h2; rw [if_neg h0, if_neg h1, if_pos h2] at h; exact if_neg h
  · rename_i h0 h1 h2 h3; rw [if_neg h0, if_neg h1, if_neg h2, if_pos h3] at h; exact if_neg h
  · rfl
  · rename_i h0 h1 h2 h3 h4 h5
    rw [if_neg h0, if_neg h1, if_neg h2, if_neg h3, if_neg h4, if_pos h5] at h
    exact absurd rfl h
  · rfl
theorem step_app (q : Int) (m : Mo) (x : Ac) (bs : List UInt8) (ks : List Int) (hS : SrtF m.L) (hb : bs.length = x.b.n) (hk : x.kind = 0) (h : (stepM q m x bs ks).2 = 0) : sumF (stepM q m x bs ks).1.L = sumF m.L + x.b.n := by
  unfold stepM at h ⊢
  rw [if_pos hk] at h ⊢
  dsimp only at h ⊢
  unfold appF
  rw [if_pos h]
  have hs := sumF_put (grF m.L x.name bs) m.L hS
  have hn : (grF m.L x.name bs).name = x.name := by
    unfold grF
    cases hl : lookF m.L x.name with
    | none => rfl
    | some f => have := lookF_name hl; exact this
  rw [hn] at hs
  unfold grF at hs ⊢
  cases hl : lookF m.L x.name with
  | none =>
    rw [hl] at hs
    dsimp only at hs ⊢
    omega
  | some f =>
    rw [hl] at hs
    dsimp only at hs ⊢
    rw [List.length_append] at hs
    omega
/-- a file read by its place in the list -/
theorem read_at {L : List Fi} (hS : SrtF L) {k : Nat} (hk : k < L.length) : readV L ((namesF L).getD k []) false = ((L.getD k noFi).b, 0) := by
  have h1 : (namesF L).getD k [] = (L.getD k noFi).name := by simp [namesF, List.getD_eq_getElem?_getD, hk]
  unfold readV
  rw [if_neg (by simp), h1, lookF_of_mem hS (getD_mem noFi L k hk)]
theorem names_len (L : List Fi) : (namesF L).length = L.length := by simp [namesF]
theorem names_le {q : Int} {L : List Fi} (hG : GoodF q L) {k : Nat} (hk : k < L.length) : ((namesF L).getD k []).length ≤ 100000 := by
  have h1 : (namesF L).getD k [] = (L.getD k noFi).name := by simp [namesF, List.getD_eq_getElem?_getD, hk]
  rw [h1]
  exact (hG.2.1 _ (getD_mem noFi L k hk)).1
end Go.Proofs.Ytejjobbgceoljaa
