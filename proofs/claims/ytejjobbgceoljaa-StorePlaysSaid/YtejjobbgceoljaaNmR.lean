/- Whether a text is a name: the document's way. -/
import Derived.Test.YtejjobbgceoljaaPoA
set_option linter.unusedSimpArgs false
set_option linter.unusedVariables false
namespace Go.Proofs.Ytejjobbgceoljaa
open Go.RowKit

theorem strAt (s : List UInt8) (i : Nat) (h : i < (textOf s).size) : (textOf s)[i]'h = s.getD i 0 := by
  have hi : i < s.length := by rw [textOf_size] at h; exact h
  rw [List.getD_eq_getElem?_getD, List.getElem?_eq_getElem hi]
  rfl

set_option maxRecDepth 100000 in
theorem refName_any (s : List UInt8) (w : World) (hs : s.length ≤ 9223372036854775807) :
    Calls Try.prog 41 #[.string (textOf s)] w fun e w' => e = .returned (.bool (okName s)) ∧ w = w' := by
  by_cases h1 : 1 ≤ s.length
  rotate_left
  · have hk : okName s = false := by simp [okName]; omega
    have HK := Lib.hid hk
    clear hk
    go_enter Try.func41, Try.ntmps41
    go_wp2
    go_ret
    exact ⟨by rw [HK.out]; rfl, rfl⟩
  by_cases h2 : s.length ≤ 24
  rotate_left
  · have hk : okName s = false := by simp [okName]; omega
    have HK := Lib.hid hk
    clear hk
    go_enter Try.func41, Try.ntmps41
    go_wp2
    go_ret
    exact ⟨by rw [HK.out]; rfl, rfl⟩
  go_enter Try.func41, Try.ntmps41
  go_wp2
  go_loop [3] (fun s3 => ∃ i : Nat, i ≤ s.length ∧ s3 = .int .i64 i ∧ (s.take i).all okCh = true) (fun s3 => s.length - (intOf s3).toNat)
  case atStart => exact ⟨0, by omega, rfl, rfl⟩
  case round =>
    obtain ⟨i, hi, rfl, hall⟩ := hrel
    have HA := Lib.hid hall
    clear hall
    by_cases hlt : i < s.length
    · have hin : (i : Int) < s.length := by omega
      have hsn := all_take_succ s okCh i hlt
      have hno := all_false_of s okCh i hlt
      have HS := Lib.hid hsn
      have HN := Lib.hid hno
      clear hsn hno
      have hcell : ∀ h : i < (textOf s).size, ((textOf s)[i]'h).toNat = (s.getD i 0).toNat := fun h => by rw [strAt]
      have hlt8 := (s.getD i 0).toNat_lt
      obtain ⟨c, hcc⟩ : ∃ c, c = s.getD i 0 := ⟨_, rfl⟩
      rw [← hcc] at hcell HS HN hlt8
      clear hcc
      have hok : okCh c = ((decide (97 ≤ c.toNat) && decide (c.toNat ≤ 122)) || (decide (48 ≤ c.toNat) && decide (c.toNat ≤ 57)) || decide (c.toNat = 45) || decide (c.toNat = 46)) := rfl
      have HOK := Lib.hid hok
      clear hok
      generalize c.toNat = n at hcell hlt8 HOK
      rcases (show n < 45 ∨ n = 45 ∨ n = 46 ∨ n = 47 ∨ (48 ≤ n ∧ n ≤ 57) ∨ (57 < n ∧ n < 97) ∨ (97 ≤ n ∧ n ≤ 122) ∨ 122 < n by omega) with h | rfl | rfl | rfl | ⟨h, h'⟩ | ⟨h, h'⟩ | ⟨h, h'⟩ | h
      all_goals
        try (have h45 : ((n : Int) == 45) = false := by rw [beq_eq_false_iff_ne]; omega)
        try (have h46 : ((n : Int) == 46) = false := by rw [beq_eq_false_iff_ne]; omega)
        first | (have : decide ((n : Int) ≤ 57) = true := by simp <;> omega) | (have : decide ((n : Int) ≤ 57) = false := by simp <;> omega) | skip
        first | (have : decide ((n : Int) ≤ 122) = true := by simp <;> omega) | (have : decide ((n : Int) ≤ 122) = false := by simp <;> omega) | skip
      all_goals
        first
          | (have hk : okCh c = true := by rw [HOK.out]; simp <;> omega
             have HK := Lib.hid hk
             clear hk
             go_wp2
             go_round
             case rel => exact ⟨i + 1, by omega, by go_num, by rw [HS.out, HA.out, HK.out]; rfl⟩
             case measure => simp [intOf] <;> omega
             done)
          | (have hk : okCh c = false := by rw [HOK.out]; simp <;> omega
             have HK := Lib.hid hk
             clear hk
             go_wp2
             go_ret
             exact ⟨by simp [okName, HN.out HK.out], rfl⟩)
    · obtain rfl : i = s.length := by omega
      have hall := HA.out
      rw [List.take_of_length_le (Nat.le_refl _)] at hall
      have hok : okName s = true := by simp [okName, hall, h1, h2]
      have HK := Lib.hid hok
      clear hok hall
      have hd : decide ((s.length : Int) < (s.length : Int)) = false := by simp
      go_wp2
      go_ret
      exact ⟨by rw [HK.out]; rfl, rfl⟩

end Go.Proofs.Ytejjobbgceoljaa
