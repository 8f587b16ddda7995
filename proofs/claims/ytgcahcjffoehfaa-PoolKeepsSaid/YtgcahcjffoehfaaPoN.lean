/- The plain laws of likeness: the program's Same is the document's. -/
import Derived.Test.YtgcahcjffoehfaaPoL
set_option linter.unusedSimpArgs false
set_option linter.unusedVariables false
namespace Go.Proofs.Ytgcahcjffoehfaa
open Go.RowKit

theorem wSame_put {x y : Nat} (hx : x < 18446744073709551616) (hy : y < 18446744073709551616) : wSame x y = decide (wPut x = wPut y) := by
  rw [Bool.eq_iff_iff]
  simp only [wSame, beq_iff_eq, decide_eq_true_eq]
  constructor
  · intro h; simp only [wPut, h]
  · intro h; exact numPut_inj (wBits_lt hx) (wBits_lt hy) h
theorem float_zero : Op.floatEq .f64 0 0 = true := by decide +kernel
theorem same1_is {x y : Bk} (hx : x.w < 18446744073709551616) (hy : y.w < 18446744073709551616) : same1 x y = sameOne x y := by
  unfold same1 sameOne bkEq Bk.toW
  rw [float_zero, wSame_put hx hy]
  cases (decide (wPut x.w = wPut y.w)) <;> cases (x.name == y.name) <;> cases (decide (x.addr = y.addr)) <;> cases (x.port == y.port) <;> cases (decide (x.mac = y.mac)) <;> cases (x.drain == y.drain) <;> rfl
theorem eqPool_is {l m : List Bk} (v v' : Int) (hf : ∀ x ∈ l, x.fine) (hg : ∀ x ∈ m, x.fine) : eqPool v l v' m = twins v l v' m := by
  unfold eqPool twins eqRows
  rw [Bool.and_assoc]
  congr 1
  by_cases hlm : l.length = m.length
  · congr 1
    rw [Bool.eq_iff_iff, List.all_eq_true, List.all_eq_true]
    have key : ∀ i, i ∈ List.range l.length → pairAt l m i = twinAt l m i := fun i hi => by
      have hi := List.mem_range.1 hi
      unfold pairAt twinAt
      have h1 : l.getD i noBk ∈ l := by rw [List.getD_eq_getElem?_getD, List.getElem?_eq_getElem hi]; simp
      have h2 : m.getD i noBk ∈ m := by rw [List.getD_eq_getElem?_getD, List.getElem?_eq_getElem (by omega)]; simp
      exact same1_is (hf _ h1).2 (hg _ h2).2
    constructor
    · intro h i hi; rw [← key i hi]; exact h i hi
    · intro h i hi; rw [key i hi]; exact h i hi
  · simp [hlm]
theorem twins_self (v : Int) (l : List Bk) : twins v l v l = true := by
  unfold twins twinAt sameOne
  simp
end Go.Proofs.Ytgcahcjffoehfaa
