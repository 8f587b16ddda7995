/- What each act does to the model: lengths, errors. -/
import Derived.Test.YtejjobbgceoljaaStZ
import Derived.Test.YtejjobbgceoljaaFrame
set_option linter.unusedSimpArgs false
set_option linter.unusedVariables false
namespace Go.Proofs.Ytejjobbgceoljaa
open Go.RowKit

theorem put_len (f : Fi) : ∀ L : List Fi, (putF f L).length ≤ L.length + 1
  | [] => by simp [putF]
  | x :: r => by
    have := put_len f r
    unfold putF
    split
    · simp
    · split
      · simp
      · simp; omega
theorem cut_len (s : List UInt8) (L : List Fi) : (cutF s L).length ≤ L.length := List.length_filter_le _ _
theorem ren_len (L : List Fi) (s t : List UInt8) (r : Int × Int × Bool) : (renF L s t r).length ≤ L.length + 1 := by
  unfold renF
  split
  · cases lookF L s with
    | none => simp
    | some f => dsimp only; have := put_len ⟨t, f.b, f.syn⟩ (cutF s L); have := cut_len s L; omega
  · omega
theorem syn_len (L : List Fi) (s : List UInt8) (r : Int × Int × Bool) : (synF L s r).length ≤ L.length + 1 := by
  unfold synF
  split
  · cases lookF L s with
    | none => simp
    | some f => dsimp only; exact put_len _ _
  · omega
theorem app_len (L : List Fi) (s bs : List UInt8) (r : Int × Int × Bool) : (appF L s bs r).length ≤ L.length + 1 := by
  unfold appF
  split
  · exact put_len _ _
  · omega
theorem rem_len (L : List Fi) (s : List UInt8) (r : Int × Int × Bool) : (remF L s r).length ≤ L.length + 1 := by
  unfold remF
  split
  · have := cut_len s L; omega
  · omega
theorem step_len (q : Int) (m : Mo) (x : Ac) (bs : List UInt8) (ks : List Int) : (stepM q m x bs ks).1.L.length ≤ m.L.length + 1 := by
  unfold stepM
  repeat' split
  · exact app_len _ _ _ _
  · exact syn_len _ _ _
  · exact ren_len _ _ _ _
  · exact rem_len _ _ _
  · simp
  · simp [crL_len]
  · simp
/-- the error that an act has else -/
def whyM (q : Int) (m : Mo) (x : Ac) : Int := if x.kind = 0 then whyApp q m.L x.name x.b.n else if x.kind = 2 then whyRen m.L x.name x.dst else whyAt m.L x.name
theorem whyM_bd (q : Int) (m : Mo) (x : Ac) : whyM q m x ≠ 9 := by
  unfold whyM whyApp whyRen whyAt
  repeat' split
  all_goals decide
/-- an operation: its error, the fuse, the power -/
theorem step_op (q : Int) (m : Mo) (x : Ac) (bs : List UInt8) (ks : List Int) (h : 0 ≤ x.kind ∧ x.kind ≤ 3) :
    (stepM q m x bs ks).2 = (endsF (whyM q m x) m.fu m.dn).1 ∧ (stepM q m x bs ks).1.fu = (endsF (whyM q m x) m.fu m.dn).2.1 ∧ (stepM q m x bs ks).1.dn = (endsF (whyM q m x) m.fu m.dn).2.2 := by
  obtain ⟨h1, h2⟩ := h
  rcases (show x.kind = 0 ∨ x.kind = 1 ∨ x.kind = 2 ∨ x.kind = 3 by omega) with h | h | h | h
  · unfold stepM whyM; rw [if_pos h, if_pos h]; exact ⟨rfl, rfl, rfl⟩
  · unfold stepM whyM; rw [if_neg (by rw [h]; decide), if_pos h, if_neg (by rw [h]; decide), if_neg (by rw [h]; decide)]; exact ⟨rfl, rfl, rfl⟩
  · unfold stepM whyM; rw [if_neg (by rw [h]; decide), if_neg (by rw [h]; decide), if_pos h, if_neg (by rw [h]; decide), if_pos h]; exact ⟨rfl, rfl, rfl⟩
  · unfold stepM whyM; rw [if_neg (by rw [h]; decide), if_neg (by rw [h]; decide), if_neg (by rw [h]; decide), if_pos h, if_neg (by rw [h]; decide), if_neg (by rw [h]; decide)]; exact ⟨rfl, rfl, rfl⟩
/-- each act of a list that is few and short, read -/
theorem acts_read {w : World} {l : List Ac} (hg : ∀ o ∈ l, o.good w w.heap.size) (hf : fewA l = true) {i : Nat} (hi : i < l.length) : ∃ bs ks, AcW w (l.getD i noAc) bs ks := by
  have hm := getD_mem noAc l i hi
  obtain ⟨h1, h2, h3, h4, ⟨bs, h5, _⟩, ⟨ks, h6, _, _⟩⟩ := hg _ hm
  unfold fewA at hf
  rw [Bool.and_eq_true] at hf
  exact ⟨bs, ks, List.all_eq_true.1 hf.2 _ hm, h4, RdR.toB h5, h6⟩
theorem few_len {l : List Ac} (hf : fewA l = true) : l.length ≤ 80 := by
  unfold fewA at hf
  rw [Bool.and_eq_true] at hf
  simpa using hf.1
end Go.Proofs.Ytejjobbgceoljaa
