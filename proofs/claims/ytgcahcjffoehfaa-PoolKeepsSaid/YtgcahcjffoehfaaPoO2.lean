/- slices.Index, Contains on texts. -/
import Derived.Test.YtgcahcjffoehfaaPoO
set_option linter.unusedSimpArgs false
set_option linter.unusedVariables false
namespace Go.Proofs.Ytgcahcjffoehfaa
open Go.RowKit

set_option maxRecDepth 100000 in
theorem index_any (ls : List (List UInt8)) (s : List UInt8) (A : Option Addr) (c : Nat) (w : World) (hR : RdS w w.heap.size A ls.length ls) (hn : ls.length < 4611686018427387904) :
    Calls Try.prog 63 #[.slice A ls.length c, .string (textOf s)] w fun e w' => ∃ r : Int, e = .returned (.int .i64 r) ∧ decide (0 ≤ r) = isOne ls s ∧ w = w' := by
  have HR := Lib.hid hR
  clear hR
  obtain ⟨n, hnl⟩ : ∃ n, n = ls.length := ⟨_, rfl⟩
  rw [← hnl] at HR hn ⊢
  have HN := Lib.hid hnl
  clear hnl
  go_enter Try.func63, Try.ntmps63
  go_wp2
  go_loop [8] (fun s8 => ∃ i : Nat, i ≤ n ∧ s8 = .int .i64 i ∧ ∀ k, k < i → ls.getD k [] ≠ s) (fun s8 => n - (intOf s8).toNat)
  case atStart => exact ⟨0, by omega, rfl, fun k hk => by omega⟩
  case round =>
    obtain ⟨i, hin, rfl, hno⟩ := hrel
    have HNO := Lib.hid hno
    clear hno
    by_cases hlt : i < n
    · have hi : (i : Int) < n := by omega
      obtain ⟨a, rfl, hbb, hc⟩ := HR.out.at_ hlt
      clear hbb
      obtain ⟨pn, hp⟩ : ∃ pn, pn = ls.getD i [] := ⟨_, rfl⟩
      rw [← hp] at hc
      have HP := Lib.hid hp
      clear hp
      by_cases hq : pn = s
      · have hbq : (s == pn) = true := by rw [hq]; simp
        have hpos : isOne ls s = true := isOne_at (i := i) (by have := HN.out; omega) (by rw [← HP.out, hq])
        have HPOS := Lib.hid hpos
        clear hpos hq
        go_wp2
        go_ret
        exact ⟨_, rfl, by rw [HPOS.out]; simp, rfl⟩
      · have hbq : (s == pn) = false := by simpa using (fun h : s = pn => hq h.symm)
        have HQ := Lib.hid hq
        clear hq
        go_wp2
        go_round
        case rel => exact ⟨i + 1, by omega, by go_num, fun k hk => by
          by_cases hki : k = i
          · rw [hki, ← HP.out]; exact HQ.out
          · exact HNO.out k (by omega)⟩
        case measure => simp [intOf] <;> omega
    · obtain rfl : i = n := by omega
      have hpos : isOne ls s = false := isOne_no (fun k hk => HNO.out k (by have := HN.out; omega))
      have HPOS := Lib.hid hpos
      clear hpos
      have hd : decide ((i : Int) < i) = false := by simp
      go_wp2
      go_ret
      exact ⟨_, rfl, by rw [HPOS.out]; simp, rfl⟩
theorem contains_any (ls : List (List UInt8)) (s : List UInt8) (A : Option Addr) (c : Nat) (w : World) (hR : RdS w w.heap.size A ls.length ls) (hn : ls.length < 4611686018427387904) :
    Calls Try.prog 46 #[.slice A ls.length c, .string (textOf s)] w fun e w' => e = .returned (.bool (isOne ls s)) ∧ w = w' := by
  have HR := Lib.hid hR
  clear hR
  go_enter Try.func46, Try.ntmps46
  go_wp2_with (go_at_call 63; refine (index_any ls s A c _ HR.out hn).mono ?_; rintro e w' ⟨r, rfl, hr, rfl⟩; have HD := Lib.hid hr; clear hr)
  go_ret
  exact ⟨by rw [← HD.out]; rfl, rfl⟩
end Go.Proofs.Ytgcahcjffoehfaa
