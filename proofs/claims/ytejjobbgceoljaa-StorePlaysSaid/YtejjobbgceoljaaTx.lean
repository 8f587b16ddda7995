/- Texts as cells. -/
import Derived.Test.YtejjobbgceoljaaGb
set_option linter.unusedSimpArgs false
set_option linter.unusedVariables false
namespace Go.Proofs.Ytejjobbgceoljaa
open Go.RowKit Go.ChangeShapes Go.WideShapes Go.ChangeAt Go.Deep

/-! ### texts -/
def txA (s : List UInt8) : Array Value := #[.string (textOf s)]
theorem txA_size (s : List UInt8) : (txA s).size = 1 := rfl
theorem txA_one (s : List UInt8) : (txA s).all (·.oneCell') = true := by simp [txA, Value.oneCell']
theorem txA_0 (s : List UInt8) : (txA s)[0]? = some (.string (textOf s)) := rfl
abbrev RdT := RdR txA 1
theorem RdR.text {W : World} {B n : Nat} {A : Option Addr} {l : List (List UInt8)} {k : Nat} (h : RdT W B A n l) (hk : k < n) : ∃ b o, A = some ⟨b, o, none⟩ ∧ b < B ∧ W.cell? ⟨b, o + k, none⟩ = some (.string (textOf (l.getD k []))) := by
  obtain ⟨b, o, hA, hb, hc⟩ := RdR.cell txA_size [] h hk
  refine ⟨b, o, hA, hb, ?_⟩
  have := hc 0 (by omega)
  rw [Nat.mul_one, Nat.add_zero] at this
  exact this
section
variable {H : Type} {enc : TypeId × Value → H} {W : World} {base : Nat} {v : Value} {d : DataW H} {ps : List MemPlace} {held : Bool}
set_option maxRecDepth 100000 in
theorem open_txts (hval : Value.okWide Try.prog W .any base 48 v) (h : DataW.Trod enc Try.prog W 0 (fun _ => true) held 48 v d ps) :
    ∃ (A : Option Addr) (n c : Nat) (l : List (List UInt8)), v = .slice A n c ∧ RdT W W.heap.size A n l ∧ (∀ s ∈ l, s.length ≤ 9223372036854775807) ∧ n ≤ 9223372036854775807 := by
  obtain ⟨a0, len, cap, rfl⟩ := okWide_slice Try.underlying48 hval
  obtain ⟨fuel, hf⟩ := h
  obtain ⟨A, n, c, l, hs, hnc, hc, hll, hrd, hsp, hgd⟩ := read_rows txA (fun s => s.length ≤ 9223372036854775807) 1 (fun _ => rfl) Try.underlying48 (by kernel_rfl) (by omega) (fun n cs y hy => read_str Try.underlying9 hy) hf
  simp only [Value.cells, List.cons.injEq, Value.slice.injEq, and_true] at hs
  obtain ⟨rfl, rfl, rfl⟩ := hs
  exact ⟨a0, len, cap, l, rfl, ⟨hll, hrd, hsp⟩, hgd, by omega⟩
end
def cellsT (l : List (List UInt8)) : List Value := l.flatMap fun x => (txA x).toList
theorem cellsT_snoc (l : List (List UInt8)) (s : List UInt8) : cellsT l ++ [.string (textOf s)] = cellsT (l ++ [s]) := by simp [cellsT, txA]
theorem infoTx : ∃ i : TypeInfo, Try.prog.info? 9 = some i ∧ i.zero = some (.string ⟨#[]⟩) ∧ i.size = 1 ∧ i.bytes ≤ 400 := by
  cases h : Try.prog.info? 9 with
  | none => exact absurd h (by have : (Try.prog.info? 9).isSome = true := by kernel_rfl
                               intro e; rw [e] at this; cases this)
  | some i =>
    have h1 : (Try.prog.info? 9).map (·.size) = some 1 := by kernel_rfl
    have h2 : (Try.prog.info? 9).map (fun i => decide (i.bytes ≤ 400)) = some true := by kernel_rfl
    have h3 : (Try.prog.info? 9).map (·.zero) = some (some (.string ⟨#[]⟩)) := by kernel_rfl
    rw [h] at h1 h2 h3
    simp at h1 h2 h3
    exact ⟨i, rfl, h3, h1, h2⟩
/-- texts are answered, in memory of the call's own -/
def TxP (w : World) (m : List (List UInt8)) (e : Ending) (w' : World) : Prop :=
  ∃ A n c, e = .returned (.slice A n c) ∧ m.length = n ∧ w'.ownsRow w.heap.size 9 1 (.slice A n c) n (cellsT m) ∧ Below w.heap.size w w'
end Go.Proofs.Ytejjobbgceoljaa
