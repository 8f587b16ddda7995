/- Names in order, each once: the plain law. -/
import Derived.Test.YtjeeigdbfngjaaaHeG
import Derived.Test.YtjeeigdbfngjaaaOrd
set_option linter.unusedSimpArgs false
set_option linter.unusedVariables false
namespace Go.Proofs.Ytjeeigdbfngjaaa
open Go.RowKit

/-- what is had of a name -/
def pickH (l : List Hl) (s : List UInt8) : Hl := if posH l s < 0 then ⟨s, false, 0⟩ else l.getD (posH l s).toNat noHl
theorem pickH_name (l : List Hl) (s : List UInt8) : (pickH l s).name = s := by
  unfold pickH
  split
  · rfl
  · rename_i h
    unfold posH at h ⊢
    cases hf : l.findIdx? (fun x => x.name == s) with
    | none => rw [hf] at h; simp at h
    | some i =>
      obtain ⟨hi, hn, _⟩ := List.findIdx?_eq_some_iff_getElem.1 hf
      simp only [Int.toNat_natCast]
      rw [List.getD_eq_getElem?_getD, List.getElem?_eq_getElem hi]
      simpa using hn
def syncH (l : List Hl) (names : List (List UInt8)) : List Hl := (uniq names).map (pickH l)
/-! ### the least above the last -/
def AbvT (U : List (List UInt8)) (k : Nat) (s : List UInt8) : Bool := decide (k = 0) || Op.bytesLess (U.getD (k - 1) []) s
def BestT (U names : List (List UInt8)) (k i : Nat) (b : Int) : Prop :=
  (b = -1 ∧ ∀ j, j < i → AbvT U k (names.getD j []) = false) ∨
  (∃ m : Nat, b = m ∧ m < i ∧ AbvT U k (names.getD m []) = true ∧ ∀ j, j < i → AbvT U k (names.getD j []) = true → Op.bytesLess (names.getD j []) (names.getD m []) = false)
theorem best_skip {U names : List (List UInt8)} {k i : Nat} {b : Int} (h : BestT U names k i b) (ha : AbvT U k (names.getD i []) = false) : BestT U names k (i + 1) b := by
  rcases h with ⟨h1, h2⟩ | ⟨m, h1, h2, h3, h4⟩
  · refine .inl ⟨h1, fun j hj => ?_⟩
    by_cases e : j = i
    · rw [e]; exact ha
    · exact h2 j (by omega)
  · refine .inr ⟨m, h1, by omega, h3, fun j hj hab => ?_⟩
    by_cases e : j = i
    · rw [e, ha] at hab; cases hab
    · exact h4 j (by omega) hab
theorem best_first {U names : List (List UInt8)} {k i : Nat} {b : Int} (h : BestT U names k i b) (hb : b < 0) (ha : AbvT U k (names.getD i []) = true) : BestT U names k (i + 1) i := by
  rcases h with ⟨h1, h2⟩ | ⟨m, h1, _⟩
  · refine .inr ⟨i, rfl, by omega, ha, fun j hj hab => ?_⟩
    by_cases e : j = i
    · rw [e]; exact bl_irrefl _
    · rw [h2 j (by omega)] at hab; cases hab
  · omega
theorem best_less {U names : List (List UInt8)} {k i m : Nat} (h : BestT U names k i m) (ha : AbvT U k (names.getD i []) = true) (hl : Op.bytesLess (names.getD i []) (names.getD m []) = true) : BestT U names k (i + 1) i := by
  rcases h with ⟨h1, _⟩ | ⟨m', h1, h2, h3, h4⟩
  · omega
  · obtain rfl : m = m' := by omega
    refine .inr ⟨i, rfl, by omega, ha, fun j hj hab => ?_⟩
    by_cases e : j = i
    · rw [e]; exact bl_irrefl _
    · cases hc : Op.bytesLess (names.getD j []) (names.getD i [])
      · rfl
      · have := bl_trans _ _ _ hc hl
        rw [h4 j (by omega) hab] at this; cases this
theorem best_keep {U names : List (List UInt8)} {k i m : Nat} (h : BestT U names k i m) (ha : AbvT U k (names.getD i []) = true) (hl : Op.bytesLess (names.getD i []) (names.getD m []) = false) : BestT U names k (i + 1) m := by
  rcases h with ⟨h1, _⟩ | ⟨m', h1, h2, h3, h4⟩
  · omega
  · obtain rfl : m = m' := by omega
    refine .inr ⟨m, rfl, by omega, h3, fun j hj hab => ?_⟩
    by_cases e : j = i
    · rw [e]; exact hl
    · exact h4 j (by omega) hab
theorem abv_iff {U : List (List UInt8)} (hU : SrtT U) {k j : Nat} (hk : k ≤ U.length) (hj : j < U.length) : AbvT U k (U.getD j []) = decide (k ≤ j) := by
  rw [Bool.eq_iff_iff]
  unfold AbvT
  rw [Bool.or_eq_true, decide_eq_true_eq, decide_eq_true_eq]
  constructor
  · rintro (h | h)
    · omega
    · rcases Nat.lt_or_ge j k with h1 | h1
      · exfalso
        rcases Nat.lt_or_ge j (k - 1) with h2 | h2
        · have := bl_trans _ _ _ h (hU.lt h2 (by omega)); rw [bl_irrefl] at this; cases this
        · obtain rfl : j = k - 1 := by omega
          rw [bl_irrefl] at h; cases h
      · exact h1
  · intro h
    rcases Nat.eq_zero_or_pos k with h0 | h0
    · exact .inl h0
    · exact .inr (hU.lt (by omega) hj)
theorem best_end_none {names : List (List UInt8)} {k : Nat} {b : Int} (hk : k ≤ (uniq names).length) (h : BestT (uniq names) names k names.length b) (hb : b < 0) : k = (uniq names).length := by
  rcases h with ⟨_, h2⟩ | ⟨m, h1, _⟩
  · rcases Nat.lt_or_ge k (uniq names).length with hlt | hge
    · exfalso
      obtain ⟨j, hj, he⟩ := find_name ((mem_uniq _ names).1 (getD_memT hlt))
      have := h2 j hj
      rw [he, abv_iff (srt_uniq names) hk hlt] at this
      simp at this
    · omega
  · omega
theorem best_end_some {names : List (List UInt8)} {k m : Nat} (hk : k ≤ (uniq names).length) (h : BestT (uniq names) names k names.length m) : m < names.length ∧ names.getD m [] = (uniq names).getD k [] ∧ k < (uniq names).length := by
  rcases h with ⟨h1, _⟩ | ⟨m', h1, h2, h3, h4⟩
  · omega
  · obtain rfl : m = m' := by omega
    obtain ⟨j, hj, he⟩ := find_name ((mem_uniq (names.getD m []) names).2 (getD_memT h2))
    rw [← he, abv_iff (srt_uniq names) hk hj] at h3
    have hkj : k ≤ j := by simpa using h3
    have hlt : k < (uniq names).length := by omega
    obtain ⟨i, hi, hei⟩ := find_name ((mem_uniq _ names).1 (getD_memT hlt))
    have h5 := h4 i hi (by rw [hei, abv_iff (srt_uniq names) hk hlt]; simp)
    rw [hei, ← he] at h5
    refine ⟨h2, ?_, hlt⟩
    rcases Nat.lt_or_ge k j with h6 | h6
    · rw [(srt_uniq names).lt h6 hj] at h5; cases h5
    · obtain rfl : j = k := by omega
      exact he.symm
end Go.Proofs.Ytjeeigdbfngjaaa
