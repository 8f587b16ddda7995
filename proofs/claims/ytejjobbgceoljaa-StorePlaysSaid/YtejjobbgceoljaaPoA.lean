/- Names and backends: what each call answers. -/
import Derived.Test.YtejjobbgceoljaaRows
import Derived.Test.YtejjobbgceoljaaMem2
set_option linter.unusedSimpArgs false
set_option linter.unusedVariables false
namespace Go.Proofs.Ytejjobbgceoljaa
open Go.RowKit

/-- a letter of a name -/
def okCh (c : UInt8) : Bool := (decide (97 ≤ c.toNat) && decide (c.toNat ≤ 122)) || (decide (48 ≤ c.toNat) && decide (c.toNat ≤ 57)) || decide (c.toNat = 45) || decide (c.toNat = 46)
def okName (s : List UInt8) : Bool := s.all okCh && decide (1 ≤ s.length) && decide (s.length ≤ 24)
theorem all_take_succ (l : List UInt8) (p : UInt8 → Bool) (i : Nat) (hi : i < l.length) : (l.take (i + 1)).all p = ((l.take i).all p && p (l.getD i 0)) := by
  rw [List.take_succ_eq_append_getElem hi, List.all_append, List.getD_eq_getElem?_getD, List.getElem?_eq_getElem hi]
  simp
theorem all_false_of (l : List UInt8) (p : UInt8 → Bool) (i : Nat) (hi : i < l.length) (h : p (l.getD i 0) = false) : l.all p = false := by
  rw [List.all_eq_false]
  refine ⟨l.getD i 0, ?_, by rw [h]; simp⟩
  rw [List.getD_eq_getElem?_getD, List.getElem?_eq_getElem hi]
  exact List.getElem_mem hi

set_option maxRecDepth 100000 in
theorem name_any (s : List UInt8) (w : World) (hs : s.length ≤ 9223372036854775807) :
    Calls Try.prog 39 #[.string (textOf s)] w fun e w' => e = .returned (.bool (okName s)) ∧ Below w.heap.size w w' := by
  have hcv := run_text_bytes (P := Try.prog) 9 32 5 Try.underlying9 Try.underlying32 Try.underlying5 s
  have hb := textWorld_below w 5 s
  have hr := textWorld_reads w 5 s
  have HB := Lib.hid hb
  have HR := Lib.hid hr
  clear hb hr
  go_enter Try.func39, Try.ntmps39
  go_wp2
  clear hcv
  generalize textWorld w 5 s = W at HB HR ⊢
  generalize grownCap w s.length 0 5 = cp
  go_loop [8] (fun s8 => ∃ i : Nat, i ≤ s.length ∧ s8 = .int .i64 i ∧ (s.take i).all okCh = true) (fun s8 => s.length - (intOf s8).toNat)
  case atStart => exact ⟨0, by omega, rfl, rfl⟩
  case round =>
    obtain ⟨i, hi, rfl, hall⟩ := hrel
    have HA := Lib.hid hall
    clear hall
    by_cases hlt : i < s.length
    · have hin : (i : Int) < s.length := by omega
      obtain ⟨a, ha, hab, hcell⟩ := HR.out.at_ hlt
      injection ha with ha
      subst ha
      have e1 : (⟨w.heap.size, 0, none⟩ : Addr).add i = ⟨w.heap.size, i, none⟩ := by unfold Addr.add; split <;> simp_all
      rw [e1] at hcell
      clear e1
      have hsn := all_take_succ s okCh i hlt
      have hno := all_false_of s okCh i hlt
      have HS := Lib.hid hsn
      have HN := Lib.hid hno
      clear hsn hno
      unfold bv at hcell
      have hc : okCh (s.getD i 0) = okCh (s.getD i 0) := rfl
      have hlt8 := (s.getD i 0).toNat_lt
      obtain ⟨c, hcc⟩ : ∃ c, c = s.getD i 0 := ⟨_, rfl⟩
      rw [← hcc] at hcell HS HN hlt8
      clear hcc hc
      have hok : okCh c = ((decide (97 ≤ c.toNat) && decide (c.toNat ≤ 122)) || (decide (48 ≤ c.toNat) && decide (c.toNat ≤ 57)) || decide (c.toNat = 45) || decide (c.toNat = 46)) := rfl
      have HOK := Lib.hid hok
      clear hok
      generalize c.toNat = n at hcell hlt8 HOK
      rcases (show n < 45 ∨ n = 45 ∨ n = 46 ∨ n = 47 ∨ (48 ≤ n ∧ n ≤ 57) ∨ (57 < n ∧ n < 97) ∨ (97 ≤ n ∧ n ≤ 122) ∨ 122 < n by omega) with h | rfl | rfl | rfl | ⟨h, h'⟩ | ⟨h, h'⟩ | ⟨h, h'⟩ | h
      all_goals
        try (have h45 : ((n : Int) != 45) = true := by rw [bne_iff_ne]; omega)
        try (have h46 : ((n : Int) != 46) = true := by rw [bne_iff_ne]; omega)
      all_goals
        first
          | (have hk : okCh c = true := by rw [HOK.out]; simp <;> omega
             have HK := Lib.hid hk
             clear hk
             go_wp2
             go_round
             case rel => exact ⟨i + 1, by omega, by go_num, by rw [HS.out, HA.out, HK.out]; rfl⟩
             case measure => simp [intOf] <;> omega
             done)
          | (have hk : okCh c = false := by rw [HOK.out]; simp <;> omega
             have HK := Lib.hid hk
             clear hk
             go_wp2
             go_ret
             exact ⟨by simp [okName, HN.out HK.out], HB.out⟩)
    · obtain rfl : i = s.length := by omega
      have hall := HA.out
      rw [List.take_of_length_le (Nat.le_refl _)] at hall
      have HL := Lib.hid hall
      clear hall
      have hok : okName s = (decide (1 ≤ s.length) && decide (s.length ≤ 24)) := by simp [okName, HL.out]
      have HK := Lib.hid hok
      clear hok
      by_cases h1 : 1 ≤ s.length
      · by_cases h2 : s.length ≤ 24
        all_goals
          go_wp2
          go_ret
          exact ⟨by rw [HK.out]; simp [h1, h2] <;> omega, HB.out⟩
      · have h1' : ¬ (1 : Int) ≤ s.length := by omega
        go_wp2
        go_ret
        exact ⟨by rw [HK.out]; simp [h1], HB.out⟩
end Go.Proofs.Ytejjobbgceoljaa
