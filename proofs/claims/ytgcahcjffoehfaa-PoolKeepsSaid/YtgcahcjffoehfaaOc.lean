/- octet's calls, and the document's: what each answers. -/
import Derived.Test.YtgcahcjffoehfaaRows
import Derived.Test.YtgcahcjffoehfaaMem
import Derived.Deep.LoopGhost
import Derived.BigRegion
set_option linter.unusedSimpArgs false
set_option linter.unusedVariables false
namespace Go.Proofs.Ytgcahcjffoehfaa
open Go.RowKit

theorem infoU8 : (Try.prog.info? 5).map (fun i => (i.zero, i.size, i.bytes)) = some (some (.int .u8 0), 1, 1) := by kernel_rfl

/-- the bytes of a number, the least first -/
def lowB (n i : Nat) : UInt8 := UInt8.ofNat (n / 2 ^ (8 * i))
def lowPut (n k : Nat) : List UInt8 := (List.range k).map (lowB n)
def numPut (n k : Nat) (big : Bool) : List UInt8 := if big then (lowPut n k).reverse else lowPut n k

theorem rev_step (f : Nat → Int) (k m n i : Nat) (hm : m + k + 1 = n) (hkm : k < m) (hi : i < n) (x y : Int) (hx : x = f k) (hy : y = f m) :
    (if i = m then Value.int .u8 x else if i = k then Value.int .u8 y else Value.int .u8 (if i < k ∨ n - k ≤ i then f (n - 1 - i) else f i)) =
      Value.int .u8 (if i < k + 1 ∨ n - (k + 1) ≤ i then f (n - 1 - i) else f i) := by
  subst hx hy
  by_cases h1 : i = m
  · subst h1
    rw [if_pos rfl, if_pos (by omega)]
    congr 2; omega
  · rw [if_neg h1]
    by_cases h2 : i = k
    · subst h2
      rw [if_pos rfl, if_pos (by omega)]
      congr 2; omega
    · rw [if_neg h2]
      by_cases h3 : i < k ∨ n - k ≤ i
      · rw [if_pos h3, if_pos (by omega)]
      · rw [if_neg h3, if_neg (by omega)]

theorem lowB_int (n i : Nat) : ((lowB n i).toNat : Int) = (n : Int) / 2 ^ (8 * i) % 256 := by
  unfold lowB
  simp [UInt8.toNat_ofNat]

/-- the number of bytes, the greatest first -/
def bigNum (l : List UInt8) : Nat := l.foldl (fun a c => a * 256 + c.toNat) 0
theorem bigNum_snoc (l : List UInt8) (c : UInt8) : bigNum (l ++ [c]) = bigNum l * 256 + c.toNat := by simp [bigNum]
theorem bigNum_lt (l : List UInt8) : bigNum l < 256 ^ l.length := by
  have key : ∀ (l : List UInt8) (a k : Nat), a < 256 ^ k → l.foldl (fun a c => a * 256 + c.toNat) a < 256 ^ (k + l.length) := by
    intro l
    induction l with
    | nil => intro a k h; simpa using h
    | cons c l ih =>
      intro a k h
      have := ih (a * 256 + c.toNat) (k + 1) (by rw [Nat.pow_succ]; have := c.toNat_lt; omega)
      simp only [List.foldl_cons, List.length_cons]
      rw [show k + (l.length + 1) = k + 1 + l.length by omega]
      exact this
  have := key l 0 0 (by simp)
  rw [Nat.zero_add] at this
  exact this
theorem bigNum_lt64 (l : List UInt8) (h : l.length ≤ 8) : bigNum l < 18446744073709551616 := by
  have h1 := bigNum_lt l
  have h2 : 256 ^ l.length ≤ 256 ^ 8 := Nat.pow_le_pow_right (by omega) h
  omega
theorem take_succ_getD (l : List UInt8) (k : Nat) (h : k < l.length) : l.take (k + 1) = l.take k ++ [l.getD k 0] := by
  rw [List.take_succ_eq_append_getElem h, List.getD_eq_getElem?_getD, List.getElem?_eq_getElem h]
  rfl

theorem or_byte (a c : Nat) (ha : a * 256 < 18446744073709551616) (hc : c < 256) : bits .or .u64 ((a : Int) * 256) (c : Int) = ((a * 256 + c : Nat) : Int) := by
  rw [show (a : Int) * 256 = ((a * 256 : Nat) : Int) by omega, bits_or_u64_nat _ _ ha (by omega)]
  rw [show a * 256 = a <<< 8 by rw [Nat.shiftLeft_eq], Nat.shiftLeft_add_eq_or_of_lt (by omega)]

end Go.Proofs.Ytgcahcjffoehfaa
