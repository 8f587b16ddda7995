/- Texts: their bytes as a new row; how the walk writes what it asks of them. -/
import Derived.Test.YtejjobbgceoljaaMem
import Derived.Lib.ConvBytes
set_option linter.unusedSimpArgs false
set_option linter.unusedVariables false
namespace Go.Proofs.Ytejjobbgceoljaa
open Go.RowKit

@[go_sem, simp] theorem textOf_toList (l : List UInt8) : (textOf l).toList = l := ByteArray.toList_mk l
@[go_sem, simp] theorem textOf_size (l : List UInt8) : (textOf l).size = l.length := by simp [textOf, ByteArray.size]
theorem textOf_of (s : ByteArray) : s = textOf s.data.toList := (textOf_data s).symm

/-- '[]byte(s)': the world behind it -/
def textWorld (w : World) (e : TypeId) (s : List UInt8) : World := Lib.bytesWorld w e (textOf s)
theorem textWorld_below (w : World) (e : TypeId) (s : List UInt8) : Below w.heap.size w (textWorld w e s) :=
  ⟨rfl, rfl, rfl, by unfold textWorld; rw [Lib.bytesWorld_size]; omega, fun k hk => Lib.bytesWorld_at_old w e _ k hk⟩
theorem textWorld_reads (w : World) (e : TypeId) (s : List UInt8) : RdB (textWorld w e s) (w.heap.size + 1) (some ⟨w.heap.size, 0, none⟩) s.length s := by
  refine ⟨by simp, fun _ => ⟨_, rfl, Nat.lt_succ_self _, fun j u hu => ?_⟩⟩
  have hj : j < s.length := by
    rcases Nat.lt_or_ge j s.length with h1 | h1
    · exact h1
    · rw [List.getElem?_eq_none (by simpa using h1)] at hu; cases hu
  have e1 : (⟨w.heap.size, 0, none⟩ : Addr).add j = ⟨w.heap.size, j, none⟩ := by unfold Addr.add; split <;> simp_all
  rw [e1]
  unfold textWorld
  rw [Lib.bytesWorld_cell w e _ j (by rw [textOf_size]; exact hj)]
  rw [List.getElem?_map, List.getElem?_eq_getElem hj] at hu
  simp only [Option.map_some, Option.some.injEq] at hu
  rw [← hu]
  simp [textOf, bv, List.getD_eq_getElem?_getD, hj]
theorem run_text_bytes {P : Program} (src dst e : TypeId) (hs : P.underlying src = some .string) (hd : P.underlying dst = some (.slice e)) (he : P.underlying e = some (.int .u8)) (s : List UInt8) (w : World) :
    (convert src dst (.string (textOf s))).run P w = .ok (.slice (some ⟨w.heap.size, 0, none⟩) s.length (grownCap w s.length 0 e)) (textWorld w e s) := by
  have := Lib.run_convert_string_bytes (P := P) w src dst e (textOf s) hs hd he
  rw [textOf_size] at this
  exact this
end Go.Proofs.Ytejjobbgceoljaa
