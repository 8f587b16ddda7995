/- Names in order, each once. -/
import Derived.Test.YtejjobbgceoljaaGb
import Derived.Sort.Walk0
set_option linter.unusedSimpArgs false
set_option linter.unusedVariables false
namespace Go.Proofs.Ytejjobbgceoljaa
open Go.RowKit Go.ChangeShapes Go.WideShapes Go.ChangeAt Go.Deep

theorem bl_irrefl : ∀ a : List UInt8, Op.bytesLess a a = false
  | [] => rfl
  | x :: a => by rw [Op.bytesLess, bl_irrefl a]; simp
theorem bl_trans : ∀ a b c : List UInt8, Op.bytesLess a b = true → Op.bytesLess b c = true → Op.bytesLess a c = true
  | _, [], _, h, _ => by cases ‹List UInt8› <;> simp [Op.bytesLess] at h
  | _, _ :: _, [], _, h => by simp [Op.bytesLess] at h
  | [], _ :: _, _ :: _, _, _ => rfl
  | x :: a, y :: b, z :: c, h1, h2 => by
    have ih := bl_trans a b c
    simp only [Op.bytesLess, Bool.or_eq_true, Bool.and_eq_true, decide_eq_true_eq, beq_iff_eq, UInt8.lt_iff_toNat_lt, ← UInt8.toNat_inj] at h1 h2 ⊢
    rcases h1 with h1 | ⟨h1, h3⟩ <;> rcases h2 with h2 | ⟨h2, h4⟩
    · exact .inl (by omega)
    · exact .inl (by omega)
    · exact .inl (by omega)
    · exact .inr ⟨by omega, ih h3 h4⟩
theorem bl_total : ∀ a b : List UInt8, Op.bytesLess a b = false → Op.bytesLess b a = false → a = b
  | [], [], _, _ => rfl
  | [], _ :: _, h, _ => by simp [Op.bytesLess] at h
  | _ :: _, [], _, h => by simp [Op.bytesLess] at h
  | x :: a, y :: b, h1, h2 => by
    have ih := bl_total a b
    simp only [Op.bytesLess, Bool.or_eq_false_iff, Bool.and_eq_false_iff, decide_eq_false_iff_not, beq_eq_false_iff_ne, UInt8.lt_iff_toNat_lt, ne_eq, ← UInt8.toNat_inj] at h1 h2
    have e : x.toNat = y.toNat := by omega
    have e2 := UInt8.toNat_inj.1 e
    rw [e2, ih (h1.2.resolve_left (fun h => h e)) (h2.2.resolve_left (fun h => h e.symm))]
theorem bl_asymm {a b : List UInt8} (h : Op.bytesLess a b = true) : Op.bytesLess b a = false := by
  cases hc : Op.bytesLess b a
  · rfl
  · have := bl_trans _ _ _ h hc; rw [bl_irrefl] at this; cases this
def SrtT (ls : List (List UInt8)) : Prop := ls.Pairwise (fun a b => Op.bytesLess a b = true)
def insU (s : List UInt8) : List (List UInt8) → List (List UInt8)
  | [] => [s]
  | x :: r => if Op.bytesLess s x then s :: x :: r else if Op.bytesLess x s then x :: insU s r else x :: r
def uniq (names : List (List UInt8)) : List (List UInt8) := names.foldr insU []
theorem mem_insU (s y : List UInt8) : ∀ l, y ∈ insU s l ↔ y = s ∨ y ∈ l
  | [] => by simp [insU]
  | x :: r => by
    unfold insU
    split
    · simp
    · split
      · rw [List.mem_cons, mem_insU s y r, List.mem_cons]
        constructor
        · rintro (h | h | h)
          · exact .inr (.inl h)
          · exact .inl h
          · exact .inr (.inr h)
        · rintro (h | h | h)
          · exact .inr (.inl h)
          · exact .inl h
          · exact .inr (.inr h)
      · rename_i h1 h2
        have := bl_total s x (by simpa using h1) (by simpa using h2)
        subst this
        simp
theorem srt_insU (s : List UInt8) : ∀ l, SrtT l → SrtT (insU s l)
  | [], _ => List.pairwise_singleton _ _
  | x :: r, h => by
    unfold insU
    obtain ⟨h1, h2⟩ := List.pairwise_cons.1 h
    split
    · rename_i hs
      refine List.pairwise_cons.2 ⟨fun y hy => ?_, h⟩
      rcases List.mem_cons.1 hy with rfl | hy
      · exact hs
      · exact bl_trans _ _ _ hs (h1 y hy)
    · split
      · rename_i hs hx
        refine List.pairwise_cons.2 ⟨fun y hy => ?_, srt_insU s r h2⟩
        rcases (mem_insU s y r).1 hy with rfl | hy
        · exact hx
        · exact h1 y hy
      · exact h
theorem mem_uniq (s : List UInt8) : ∀ names, s ∈ uniq names ↔ s ∈ names
  | [] => by simp [uniq]
  | x :: r => by
    have ih := mem_uniq s r
    unfold uniq at ih ⊢
    rw [List.foldr_cons, mem_insU, ih, List.mem_cons]
theorem srt_uniq : ∀ names, SrtT (uniq names)
  | [] => List.Pairwise.nil
  | x :: r => by
    have ih := srt_uniq r
    unfold uniq at ih ⊢
    rw [List.foldr_cons]
    exact srt_insU _ _ ih
theorem len_insU (s : List UInt8) : ∀ l, (insU s l).length ≤ l.length + 1
  | [] => by simp [insU]
  | x :: r => by
    have := len_insU s r
    unfold insU
    split
    · simp
    · split
      · simp; omega
      · simp
theorem len_uniq : ∀ names, (uniq names).length ≤ names.length
  | [] => by simp [uniq]
  | x :: r => by
    have ih := len_uniq r
    have := len_insU x (uniq r)
    unfold uniq at ih this ⊢
    rw [List.foldr_cons, List.length_cons]; omega
theorem sorted_ext : ∀ P Q : List (List UInt8), SrtT P → SrtT Q → (∀ s, s ∈ P ↔ s ∈ Q) → P = Q
  | [], [], _, _, _ => rfl
  | [], y :: Q, _, _, h => by have := (h y).2 (List.mem_cons_self ..); cases this
  | x :: P, [], _, _, h => by have := (h x).1 (List.mem_cons_self ..); cases this
  | x :: P, y :: Q, hP, hQ, h => by
    obtain ⟨p1, p2⟩ := List.pairwise_cons.1 hP
    obtain ⟨q1, q2⟩ := List.pairwise_cons.1 hQ
    have e : x = y := by
      rcases List.mem_cons.1 ((h x).1 (List.mem_cons_self ..)) with h1 | h1
      · exact h1
      · rcases List.mem_cons.1 ((h y).2 (List.mem_cons_self ..)) with h2 | h2
        · exact h2.symm
        · have a := q1 x h1
          have b := p1 y h2
          have := bl_trans _ _ _ a b
          rw [bl_irrefl] at this; cases this
    subst e
    congr 1
    refine sorted_ext P Q p2 q2 (fun s => ?_)
    constructor
    · intro hs
      rcases List.mem_cons.1 ((h s).1 (List.mem_cons_of_mem _ hs)) with rfl | h1
      · have := p1 s hs; rw [bl_irrefl] at this; cases this
      · exact h1
    · intro hs
      rcases List.mem_cons.1 ((h s).2 (List.mem_cons_of_mem _ hs)) with rfl | h1
      · have := q1 s hs; rw [bl_irrefl] at this; cases this
      · exact h1
theorem SrtT.lt {U : List (List UInt8)} (h : SrtT U) {i j : Nat} (hij : i < j) (hj : j < U.length) : Op.bytesLess (U.getD i []) (U.getD j []) = true := by
  have := List.pairwise_iff_getElem.1 h i j (by omega) hj hij
  rw [List.getD_eq_getElem?_getD, List.getD_eq_getElem?_getD, List.getElem?_eq_getElem (by omega), List.getElem?_eq_getElem hj]
  exact this
theorem getD_memT {l : List (List UInt8)} {i : Nat} (hi : i < l.length) : l.getD i [] ∈ l := getD_mem [] l i hi
theorem find_name {names : List (List UInt8)} {s : List UInt8} (h : s ∈ names) : ∃ j, j < names.length ∧ names.getD j [] = s := by
  obtain ⟨j, hj, rfl⟩ := List.getElem_of_mem h
  exact ⟨j, hj, by rw [List.getD_eq_getElem?_getD, List.getElem?_eq_getElem hj]; rfl⟩
end Go.Proofs.Ytejjobbgceoljaa
