/- Slices of texts; is a text one of these? -/
import Derived.Test.YtgcahcjffoehfaaPoC
set_option linter.unusedSimpArgs false
set_option linter.unusedVariables false
namespace Go.Proofs.Ytgcahcjffoehfaa
open Go.RowKit

/-- a slice of texts reads as ls -/
def RdS (w : World) (B : Nat) (A : Option Addr) (n : Nat) (ls : List (List UInt8)) : Prop := Rd w B 1 A n (ls.map fun s => .string (textOf s))
theorem RdS.len {w : World} {B n : Nat} {A : Option Addr} {ls : List (List UInt8)} (h : RdS w B A n ls) : ls.length = n := by have := h.1; simpa using this
theorem RdS.at_ {w : World} {B n : Nat} {A : Option Addr} {ls : List (List UInt8)} (h : RdS w B A n ls) {k : Nat} (hk : k < n) : ∃ a, A = some a ∧ a.block < B ∧ w.cell? (a.add k) = some (.string (textOf (ls.getD k []))) := by
  obtain ⟨a, u, e, hb, hu, hc⟩ := Rd.pick h hk
  refine ⟨a, e, hb, ?_⟩
  rw [hc]
  have hl := h.len
  rw [List.getElem?_map, List.getElem?_eq_getElem (by omega)] at hu
  simp only [Option.map_some, Option.some.injEq] at hu
  rw [← hu, List.getD_eq_getElem?_getD, List.getElem?_eq_getElem (by omega)]
  rfl
def isOne (ls : List (List UInt8)) (s : List UInt8) : Bool := (List.range ls.length).any fun i => ls.getD i [] == s
theorem isOne_at {ls : List (List UInt8)} {s : List UInt8} {i : Nat} (hi : i < ls.length) (h : ls.getD i [] = s) : isOne ls s = true := by
  unfold isOne
  rw [List.any_eq_true]
  exact ⟨i, List.mem_range.2 hi, by rw [h]; simp⟩
theorem isOne_no {ls : List (List UInt8)} {s : List UInt8} (h : ∀ i, i < ls.length → ls.getD i [] ≠ s) : isOne ls s = false := by
  unfold isOne
  rw [List.any_eq_false]
  intro i hi
  simpa using h i (List.mem_range.1 hi)
set_option maxRecDepth 100000 in
theorem refHas_any (ls : List (List UInt8)) (s : List UInt8) (A : Option Addr) (c : Nat) (w : World) (hR : RdS w w.heap.size A ls.length ls) (hn : ls.length < 4611686018427387904) :
    Calls Try.prog 26 #[.slice A ls.length c, .string (textOf s)] w fun e w' => e = .returned (.bool (isOne ls s)) ∧ w = w' := by
  have HR := Lib.hid hR
  clear hR
  obtain ⟨n, hnl⟩ : ∃ n, n = ls.length := ⟨_, rfl⟩
  rw [← hnl] at HR hn ⊢
  have HN := Lib.hid hnl
  clear hnl
  go_enter Try.func26, Try.ntmps26
  go_wp2
  go_loop [5] (fun s5 => ∃ i : Nat, i ≤ n ∧ s5 = .int .i64 i ∧ ∀ k, k < i → ls.getD k [] ≠ s) (fun s5 => n - (intOf s5).toNat)
  case atStart => exact ⟨0, by omega, rfl, fun k hk => by omega⟩
  case round =>
    obtain ⟨i, hin, rfl, hno⟩ := hrel
    have HNO := Lib.hid hno
    clear hno
    by_cases hlt : i < n
    · have hi : (i : Int) < n := by omega
      obtain ⟨a, rfl, hbb, hc⟩ := HR.out.at_ hlt
      clear hbb
      obtain ⟨pn, hp⟩ : ∃ pn, pn = ls.getD i [] := ⟨_, rfl⟩
      rw [← hp] at hc
      have HP := Lib.hid hp
      clear hp
      by_cases hq : pn = s
      · have hbq : (pn == s) = true := by simpa using hq
        have hpos : isOne ls s = true := isOne_at (i := i) (by have := HN.out; omega) (by rw [← HP.out, hq])
        have HPOS := Lib.hid hpos
        clear hpos hq
        go_wp2
        go_ret
        exact ⟨by rw [HPOS.out]; rfl, rfl⟩
      · have hbq : (pn == s) = false := by simpa using hq
        have HQ := Lib.hid hq
        clear hq
        go_wp2
        go_round
        case rel => exact ⟨i + 1, by omega, by go_num, fun k hk => by
          by_cases hki : k = i
          · rw [hki, ← HP.out]; exact HQ.out
          · exact HNO.out k (by omega)⟩
        case measure => simp [intOf] <;> omega
    · obtain rfl : i = n := by omega
      have hpos : isOne ls s = false := isOne_no (fun k hk => HNO.out k (by have := HN.out; omega))
      have HPOS := Lib.hid hpos
      clear hpos
      have hd : decide ((i : Int) < i) = false := by simp
      go_wp2
      go_ret
      exact ⟨by rw [HPOS.out]; rfl, rfl⟩
end Go.Proofs.Ytgcahcjffoehfaa
