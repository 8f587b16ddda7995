/- The document's store: Size, put. -/
import Derived.Test.YtejjobbgceoljaaStD
set_option linter.unusedSimpArgs false
set_option linter.unusedVariables false
namespace Go.Proofs.Ytejjobbgceoljaa
open Go.RowKit

theorem sumF_take (L : List Fi) (i : Nat) (hi : i < L.length) {x : Fi} (hx : x = L.getD i noFi) : sumF (L.take (i + 1)) = sumF (L.take i) + x.b.length := by
  rw [← take_snocR noFi L i hi, ← hx]; simp [sumF]
theorem sumF_app (L M : List Fi) : sumF (L ++ M) = sumF L + sumF M := by simp [sumF]
theorem sumF_le (L : List Fi) (i : Nat) : sumF (L.take i) ≤ sumF L := by
  have h := sumF_app (L.take i) (L.drop i)
  rw [List.take_append_drop] at h
  omega
set_option maxRecDepth 100000 in
set_option maxHeartbeats 2000000 in
theorem refSize_any (p : Nat) (q fu : Int) (A : Option Addr) (n c : Nat) (dn : Bool) (L : List Fi) (w : World) (hB : Box w p (rfC q A n c fu dn)) (hR : RdF w w.heap.size A n L) (hn : n ≤ 100000) (hs : sumF L ≤ 1000000000000) :
    Calls Try.prog 34 #[.pointer (some ⟨p, 0, none⟩)] w fun e w' => e = .returned (.int .i64 (sumF L : Nat)) ∧ Below w.heap.size w w' := by
  have hl := hB.lt
  have HB0 := Lib.hid hB
  have HR := Lib.hid hR
  have HN := Lib.hid hR.1
  clear hB hR
  go_enter Try.func34, Try.ntmps34
  go_wp2
  go_loopw [3, 4] (fun s3 s4 wr => ∃ (i k : Nat), i ≤ n ∧ s3 = .int .i64 (k : Nat) ∧ s4 = .int .i64 i ∧ sumF (L.take i) = k ∧ Below w.heap.size w wr) (fun _ s4 _ => n - (intOf s4).toNat)
  case atStart => exact ⟨0, 0, by omega, rfl, rfl, rfl, Below.refl _ _⟩
  case round =>
    obtain ⟨i, k, hin, rfl, rfl, hsum, hb⟩ := hrel
    have HSUM := Lib.hid hsum
    have HB := Lib.hid hb
    have hle := sumF_le L i
    obtain ⟨f1, f2, f3, f4⟩ := (HB0.out.below hb hl).facts
    rw [hsum] at hle
    have hk1 : k ≤ 1000000000000 := Nat.le_trans hle hs
    clear hsum hb hle
    by_cases hlt : i < n
    · have hi : (i : Int) < n := by omega
      obtain ⟨b, o, rfl, hbb, hh, hcl, _, hc1, _⟩ := (HR.out.below HB.out).fi hlt
      obtain ⟨x, hx⟩ : ∃ x, x = L.getD i noFi := ⟨_, rfl⟩
      rw [← hx] at hcl hc1
      have hnx := sumF_take L i (by rw [HN.out]; exact hlt) hx
      rw [HSUM.out] at hnx
      have hle2 := sumF_le L (i + 1)
      rw [hnx] at hle2
      have hk2 : k + x.b.length ≤ 1000000000000 := Nat.le_trans hle2 hs
      have HNX := Lib.hid hnx
      clear hx hbb hnx hle2 hcl
      go_wp2
      go_roundw
      case rel => exact ⟨i + 1, k + x.b.length, by omega, by go_num, by go_num, HNX.out, by first | exact HB.out | exact below_drewN HB.out _⟩
      case measure => simp [intOf] <;> omega
    · obtain rfl : i = n := by omega
      have hd : decide ((i : Int) < i) = false := by simp
      have HF := Lib.hid (show sumF L = k by rw [← HSUM.out, List.take_of_length_le (by rw [HN.out]; exact Nat.le_refl _)])
      go_wp2
      go_ret
      exact ⟨by rw [HF.out]; rfl, HB.out⟩

def cellsF (l : List Fi) : List Value := l.flatMap fun x => x.arr.toList
theorem cellsF_one (l : List Fi) : ∀ u ∈ cellsF l, u.oneCell' = true := rows_one Fi.arr Fi.arr_one l
theorem cellsF_snoc (l : List Fi) (x : Fi) : cellsF l ++ x.arr.toList = cellsF (l ++ [x]) := rows_snoc Fi.arr l x
/-- what a putting leaves: the box tells the new list, which is owned -/
def PutP (w : World) (p : Nat) (q fu : Int) (dn : Bool) (M : List Fi) (e : Ending) (w' : World) : Prop :=
  e = .returned (.tuple #[]) ∧ ∃ A c, Box w' p (rfC q A M.length c fu dn) ∧ w'.ownsRow w.heap.size 69 3 (.slice A M.length c) M.length (cellsF M) ∧ w.grownBy w' (some p)
end Go.Proofs.Ytejjobbgceoljaa
