/- Numbers in as few bytes as they need, as lists (plain). -/
import Derived.Test.YtmpemeemlhmaaaaGreatQ1
set_option linter.unusedSimpArgs false
set_option linter.unusedVariables false
set_option maxRecDepth 100000
namespace Go.Proofs.YtmpemeemlhmaaaaGreat

/-- the digits of a number, at most so many and one -/
def varF : Nat → Nat → List UInt8
  | 0, n => [UInt8.ofNat n]
  | k + 1, n => if n < 128 then [UInt8.ofNat n] else UInt8.ofNat (n % 128 + 128) :: varF k (n / 128)
/-- a number's bytes -/
def varB (n : Nat) : List UInt8 := varF 9 n
/-- reading: the digits that are left, how many there were, what they came to -/
def varGo : List UInt8 → Nat → Nat → Option (Nat × Nat)
  | [], _, _ => none
  | c :: l, i, acc => if i = 9 ∧ 1 < c.toNat then none else if c.toNat < 128 then (if c.toNat = 0 ∧ 0 < i then none else some (acc + c.toNat * 128 ^ i, i + 1)) else varGo l (i + 1) (acc + (c.toNat - 128) * 128 ^ i)
def varG (l : List UInt8) : Option (Nat × Nat) := varGo l 0 0

theorem varF_small (k n : Nat) (h : n < 128) : varF k n = [UInt8.ofNat n] := by
  cases k with
  | zero => rfl
  | succ k => unfold varF; rw [if_pos h]
theorem varF_big (k n : Nat) (h : ¬ n < 128) : varF (k + 1) n = UInt8.ofNat (n % 128 + 128) :: varF k (n / 128) := by
  rw [varF, if_neg h]
theorem varF_len (k n : Nat) : 1 ≤ (varF k n).length ∧ (varF k n).length ≤ k + 1 := by
  induction k generalizing n with
  | zero => simp [varF]
  | succ k ih =>
    unfold varF
    split
    · simp
    · have := ih (n / 128); simp; omega
theorem varB_len (n : Nat) : 1 ≤ (varB n).length ∧ (varB n).length ≤ 10 := varF_len 9 n
theorem pow128_pos (i : Nat) : 0 < 128 ^ i := Nat.pow_pos (by omega)
theorem dig (n : Nat) (h : n < 256) : (UInt8.ofNat n).toNat = n := by simp [UInt8.toNat_ofNat]; omega
/-- so many digits are read: what they come to is less -/
theorem varGo_bd : ∀ (l : List UInt8) (i acc n k : Nat), i ≤ 9 → acc < 128 ^ i → varGo l i acc = some (n, k) → i < k ∧ k ≤ 10 ∧ k ≤ i + l.length ∧ n < 18446744073709551616
  | [], i, acc, n, k, hi, ha, h => by simp [varGo] at h
  | c :: l, i, acc, n, k, hi, ha, h => by
    unfold varGo at h
    split at h
    · cases h
    · rename_i h9
      split at h
      · rename_i hc
        split at h
        · cases h
        · injection h with h
          injection h with h1 h2
          subst h1 h2
          refine ⟨by omega, by omega, by simp, ?_⟩
          rcases Nat.lt_or_ge i 9 with hi9 | hi9
          · have h1 : c.toNat * 128 ^ i ≤ 127 * 128 ^ i := Nat.mul_le_mul_right _ (by omega)
            have h2 : 128 ^ (i + 1) ≤ 128 ^ 9 := Nat.pow_le_pow_right (by omega) (by omega)
            have h3 : 128 ^ (i + 1) = 128 * 128 ^ i := by rw [Nat.pow_succ, Nat.mul_comm]
            have h4 : (128 : Nat) ^ 9 = 9223372036854775808 := by decide
            omega
          · obtain rfl : i = 9 := by omega
            have h1 : c.toNat ≤ 1 := by omega
            have h2 : c.toNat * 128 ^ 9 ≤ 1 * 128 ^ 9 := Nat.mul_le_mul_right _ h1
            have h4 : (128 : Nat) ^ 9 = 9223372036854775808 := by decide
            omega
      · rename_i hc
        have hc2 := c.toNat_lt
        rcases Nat.lt_or_ge i 9 with hi9 | hi9
        · have h1 : (c.toNat - 128) * 128 ^ i ≤ 127 * 128 ^ i := Nat.mul_le_mul_right _ (by omega)
          have h3 : 128 ^ (i + 1) = 128 * 128 ^ i := by rw [Nat.pow_succ, Nat.mul_comm]
          have ih := varGo_bd l (i + 1) (acc + (c.toNat - 128) * 128 ^ i) n k (by omega) (by omega) h
          simp only [List.length_cons]
          omega
        · exfalso; omega
theorem varG_bd {l : List UInt8} {n k : Nat} (h : varG l = some (n, k)) : 0 < k ∧ k ≤ 10 ∧ k ≤ l.length ∧ n < 18446744073709551616 := by
  have := varGo_bd l 0 0 n k (by omega) (by simp) h
  omega
/-- what is laid is read -/
theorem varGo_put (t : List UInt8) : ∀ (k n i acc : Nat), i + k = 9 → n * 128 ^ i < 18446744073709551616 → (0 < i → 0 < n) → varGo (varF k n ++ t) i acc = some (acc + n * 128 ^ i, i + (varF k n).length)
  | 0, n, i, acc, hik, hn, h0 => by
    obtain rfl : i = 9 := by omega
    have h4 : (128 : Nat) ^ 9 = 9223372036854775808 := by decide
    have hn1 : n < 2 := by rw [h4] at hn; omega
    simp only [varF, List.cons_append, List.nil_append, List.length_cons, List.length_nil]
    unfold varGo
    rw [dig n (by omega), if_neg (by omega), if_pos (by omega), if_neg (by have := h0 (by omega); omega)]
  | k + 1, n, i, acc, hik, hn, h0 => by
    by_cases h : n < 128
    · rw [varF_small _ _ h]
      simp only [List.cons_append, List.nil_append, List.length_cons, List.length_nil]
      unfold varGo
      rw [dig n (by omega), if_neg (by omega), if_pos h, if_neg (by omega)]
    · rw [varF_big _ _ h]
      simp only [List.cons_append, List.length_cons]
      unfold varGo
      rw [dig _ (by omega), if_neg (by omega), if_neg (by omega), show n % 128 + 128 - 128 = n % 128 by omega]
      have h3 : 128 ^ (i + 1) = 128 * 128 ^ i := by rw [Nat.pow_succ, Nat.mul_comm]
      have h5 : n / 128 * 128 ^ (i + 1) = (n / 128 * 128) * 128 ^ i := by rw [h3, Nat.mul_assoc]
      have h6 : (n / 128 * 128) * 128 ^ i ≤ n * 128 ^ i := Nat.mul_le_mul_right _ (by omega)
      have ih := varGo_put t k (n / 128) (i + 1) (acc + n % 128 * 128 ^ i) (by omega) (by omega) (by omega)
      rw [ih, h5, Nat.add_assoc acc, ← Nat.add_mul, show n % 128 + n / 128 * 128 = n by omega]
      congr 2
      omega
theorem varG_put (n : Nat) (t : List UInt8) (hn : n < 18446744073709551616) : varG (varB n ++ t) = some (n, (varB n).length) := by
  have := varGo_put t 9 n 0 0 rfl (by simpa using hn) (by omega)
  unfold varG varB
  rw [this]
  simp
/-- what is read is laid just so -/
theorem varGo_inv : ∀ (l : List UInt8) (k i acc n j : Nat), i + k = 9 → acc < 128 ^ i → varGo l i acc = some (n, j) → ∃ m, n = acc + m * 128 ^ i ∧ (0 < i → 0 < m) ∧ l.take (j - i) = varF k m
  | [], k, i, acc, n, j, hik, ha, h => by simp [varGo] at h
  | c :: l, k, i, acc, n, j, hik, ha, h => by
    unfold varGo at h
    split at h
    · cases h
    · rename_i h9
      split at h
      · rename_i hc
        split at h
        · cases h
        · rename_i h0
          injection h with h
          injection h with h1 h2
          subst h1 h2
          refine ⟨c.toNat, rfl, by omega, ?_⟩
          rw [show i + 1 - i = 1 by omega, varF_small _ _ hc]
          simp
      · rename_i hc
        have hc2 := c.toNat_lt
        rcases Nat.lt_or_ge i 9 with hi9 | hi9
        · obtain ⟨k, rfl⟩ : ∃ k', k = k' + 1 := ⟨k - 1, by omega⟩
          have h1 : (c.toNat - 128) * 128 ^ i ≤ 127 * 128 ^ i := Nat.mul_le_mul_right _ (by omega)
          have h3 : 128 ^ (i + 1) = 128 * 128 ^ i := by rw [Nat.pow_succ, Nat.mul_comm]
          have hb := varGo_bd l (i + 1) _ n j (by omega) (by omega) h
          obtain ⟨m, m1, m2, m3⟩ := varGo_inv l k (i + 1) (acc + (c.toNat - 128) * 128 ^ i) n j (by omega) (by omega) h
          have hm := m2 (by omega)
          refine ⟨c.toNat - 128 + m * 128, ?_, by omega, ?_⟩
          · rw [m1, h3, Nat.add_mul, Nat.add_assoc, Nat.mul_assoc]
          · rw [show j - i = (j - (i + 1)) + 1 by omega, List.take_succ_cons, m3, varF_big _ _ (by omega), show (c.toNat - 128 + m * 128) / 128 = m by omega, show (c.toNat - 128 + m * 128) % 128 + 128 = c.toNat by omega]
            simp
        · exfalso; omega
theorem varG_inv {l : List UInt8} {n k : Nat} (h : varG l = some (n, k)) : l.take k = varB n := by
  obtain ⟨m, m1, _, m3⟩ := varGo_inv l 9 0 0 n k rfl (by simp) h
  have : n = m := by simpa using m1
  subst this
  exact m3
end Go.Proofs.YtmpemeemlhmaaaaGreat
