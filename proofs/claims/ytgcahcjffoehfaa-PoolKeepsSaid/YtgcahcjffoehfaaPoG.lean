/- The document's way of finding; few backends. -/
import Derived.Test.YtgcahcjffoehfaaPoD
set_option linter.unusedSimpArgs false
set_option linter.unusedVariables false
namespace Go.Proofs.Ytgcahcjffoehfaa
open Go.RowKit

theorem RdK.name {w : World} {B n : Nat} {A : Option Addr} {l : List Bk} {k : Nat} (h : RdK w B A n l) (hk : k < n) : ∃ b o, A = some ⟨b, o, none⟩ ∧ b < B ∧ w.cell? ⟨b, o + k * 27, none⟩ = some (.string (textOf (nm l k))) := by
  obtain ⟨b, o, hA, hb, hc⟩ := h.cell hk
  refine ⟨b, o, hA, hb, ?_⟩
  have := hc 0 (by omega)
  rw [Bk.arr_0] at this
  simpa [nm] using this
theorem hasN_at {l : List Bk} (hs : Srt l) {s : List UInt8} {i : Nat} (hi : i < l.length) (h : nm l i = s) : lowN l s = i ∧ hasN l s = true := by
  have h0 : cmpS (nm l i) s = 0 := cmpS_zero.2 h
  have hl : lowN l s = i := lowN_of (by omega) (fun k hk => by rw [← h]; exact hs.lt hk hi) (fun _ => by omega)
  refine ⟨hl, ?_⟩
  unfold hasN
  rw [hl]
  simp [hi, h0]
theorem hasN_none {l : List Bk} {s : List UInt8} (h : ∀ k, k < l.length → nm l k ≠ s) : hasN l s = false := by
  unfold hasN
  by_cases hl : lowN l s < l.length
  · have : ¬ cmpS (nm l (lowN l s)) s = 0 := fun h0 => h _ hl (cmpS_zero.1 h0)
    simp [this]
  · simp [hl]
/-- where the document finds a name -/
def posN (l : List Bk) (s : List UInt8) : Int := if hasN l s then (lowN l s : Nat) else -1
theorem posN_at {l : List Bk} (hs : Srt l) {s : List UInt8} {i : Nat} (hi : i < l.length) (h : nm l i = s) : posN l s = i := by
  obtain ⟨h1, h2⟩ := hasN_at hs hi h
  simp [posN, h1, h2]
theorem posN_none {l : List Bk} {s : List UInt8} (h : ∀ k, k < l.length → nm l k ≠ s) : posN l s = -1 := by
  simp [posN, hasN_none h]

set_option maxRecDepth 100000 in
theorem refFind_any (l : List Bk) (hs : Srt l) (s : List UInt8) (v : Int) (A : Option Addr) (c : Nat) (w : World) (hR : RdK w w.heap.size A l.length l) (hn : l.length < 4611686018427387904) :
    Calls Try.prog 42 #[.agg #[.int .i64 v, .slice A l.length c], .string (textOf s)] w fun e w' => e = .returned (.int .i64 (posN l s)) ∧ Below w.heap.size w w' := by
  have hb0 : ∀ ob, Below w.heap.size w (w.alloc ob) := fun ob => (Below.refl _ _).alloc (Nat.le_refl _) _
  have HB0 := Lib.hid hb0
  clear hb0
  have HR := Lib.hid (fun ob => hR.alloc (Nat.le_refl _) ob)
  have HS := Lib.hid hs
  clear hR hs
  obtain ⟨n, hnl⟩ : ∃ n, n = l.length := ⟨_, rfl⟩
  rw [← hnl] at HR hn ⊢
  have HN := Lib.hid hnl
  clear hnl
  go_enter Try.func42, Try.ntmps42
  go_wp2
  go_loop [5] (fun s5 => ∃ i : Nat, i ≤ n ∧ s5 = .int .i64 i ∧ ∀ k, k < i → nm l k ≠ s) (fun s5 => n - (intOf s5).toNat)
  case atStart => exact ⟨0, by omega, rfl, fun k hk => by omega⟩
  case round =>
    obtain ⟨i, hin, rfl, hno⟩ := hrel
    have HNO := Lib.hid hno
    clear hno
    by_cases hlt : i < n
    · have hi : (i : Int) < n := by omega
      obtain ⟨b, o, rfl, hbb, hc⟩ := (HR.out (.cells #[.int .i64 v, .slice A n c] 24)).name hlt
      clear hbb
      have hpn : nm l i = nm l i := rfl
      obtain ⟨pn, hp⟩ : ∃ pn, pn = nm l i := ⟨_, rfl⟩
      rw [← hp] at hc
      clear hpn
      have HP := Lib.hid hp
      clear hp
      by_cases hq : pn = s
      · have hbq : (pn == s) = true := by simpa using hq
        have hpos : posN l s = i := posN_at HS.out (by have := HN.out; omega) (by rw [← HP.out, hq])
        have HPOS := Lib.hid hpos
        clear hpos hq
        go_wp2
        go_ret
        exact ⟨by rw [HPOS.out]; rfl, HB0.out _⟩
      · have hbq : (pn == s) = false := by simpa using hq
        have HQ := Lib.hid hq
        clear hq
        go_wp2
        go_round
        case rel => exact ⟨i + 1, by omega, by go_num, fun k hk => by
          by_cases hki : k = i
          · rw [hki, ← HP.out]; exact HQ.out
          · exact HNO.out k (by omega)⟩
        case measure => simp [intOf] <;> omega
    · obtain rfl : i = n := by omega
      have hpos : posN l s = -1 := posN_none (fun k hk => HNO.out k (by have := HN.out; omega))
      have HPOS := Lib.hid hpos
      clear hpos
      have hd : decide ((i : Int) < i) = false := by simp
      go_wp2
      go_ret
      exact ⟨by rw [HPOS.out]; rfl, HB0.out _⟩

theorem range_all_false0 (p : Nat → Bool) (i n : Nat) (h : i < n) (hp : p i = false) : (List.range n).all p = false := by
  rw [List.all_eq_false]; exact ⟨i, List.mem_range.2 h, by rw [hp]; simp⟩
/-- few backends, with short names -/
def few (l : List Bk) : Bool := (List.range (min l.length 60)).all (fun i => decide ((nm l i).length ≤ 60)) && decide (l.length ≤ 40)
set_option maxRecDepth 100000 in
theorem few_any (l : List Bk) (v : Int) (A : Option Addr) (c : Nat) (w : World) (hR : RdK w w.heap.size A l.length l) (hn : l.length ≤ 9223372036854775807) :
    Calls Try.prog 11 #[.agg #[.int .i64 v, .slice A l.length c]] w fun e w' => e = .returned (.bool (few l)) ∧ Below w.heap.size w w' := by
  have hb0 : ∀ ob, Below w.heap.size w (w.alloc ob) := fun ob => (Below.refl _ _).alloc (Nat.le_refl _) _
  have HB0 := Lib.hid hb0
  clear hb0
  have HR := Lib.hid (fun ob => hR.alloc (Nat.le_refl _) ob)
  clear hR
  have hfew : few l = ((List.range (min l.length 60)).all (fun i => decide ((nm l i).length ≤ 60)) && decide (l.length ≤ 40)) := rfl
  have HFW := Lib.hid hfew
  clear hfew
  obtain ⟨n, hnl⟩ : ∃ n, n = l.length := ⟨_, rfl⟩
  rw [← hnl] at HR hn HFW ⊢
  clear hnl
  go_enter Try.func11, Try.ntmps11
  go_wp2
  go_loop [3] (fun s3 => ∃ i : Nat, i ≤ n ∧ i ≤ 60 ∧ s3 = .int .i64 i ∧ ∀ k, k < i → (nm l k).length ≤ 60) (fun s3 => n - (intOf s3).toNat)
  case atStart => exact ⟨0, by omega, by omega, rfl, fun k hk => by omega⟩
  case round =>
    obtain ⟨i, hin, hi60, rfl, hall⟩ := hrel
    have HA := Lib.hid hall
    clear hall
    by_cases hlt : i < n
    · have hi : (i : Int) < n := by omega
      by_cases h6 : i < 60
      · have hi6 : (i : Int) < 60 := by omega
        obtain ⟨b, o, rfl, hbb, hc⟩ := (HR.out (.cells #[.int .i64 v, .slice A n c] 24)).name hlt
        clear hbb
        obtain ⟨pn, hp⟩ : ∃ pn, pn = nm l i := ⟨_, rfl⟩
        rw [← hp] at hc
        have HP := Lib.hid hp
        clear hp
        by_cases hq : pn.length ≤ 60
        · have hq1 : (pn.length : Int) ≤ 60 := by omega
          go_wp2
          go_round
          case rel => exact ⟨i + 1, by omega, by omega, by go_num, fun k hk => by
            by_cases hki : k = i
            · rw [hki, ← HP.out]; exact hq
            · exact HA.out k (by omega)⟩
          case measure => simp [intOf] <;> omega
        · have hq1 : ¬ (pn.length : Int) ≤ 60 := by omega
          have hq2 : (60 : Int) < pn.length := by omega
          have hfw : few l = false := by
            rw [HFW.out, range_all_false0 _ i _ (by omega) (by rw [← HP.out]; simpa using hq)]; rfl
          have HF := Lib.hid hfw
          clear hfw
          go_wp2
          go_ret
          exact ⟨by rw [HF.out]; rfl, HB0.out _⟩
      · have hd : decide ((i : Int) < 60) = false := by simp; omega
        have hfw : few l = decide ((n : Int) ≤ 40) := by
          have h40 : ¬ n ≤ 40 := by omega
          rw [HFW.out]
          simp [h40]
          omega
        have HF := Lib.hid hfw
        clear hfw
        go_wp2
        go_ret
        exact ⟨by rw [HF.out]; rfl, HB0.out _⟩
    · obtain rfl : i = n := by omega
      have hd : decide ((i : Int) < i) = false := by simp
      have hfw : few l = decide ((i : Int) ≤ 40) := by
        rw [HFW.out]
        have : (List.range (min i 60)).all (fun i => decide ((nm l i).length ≤ 60)) = true := by
          rw [List.all_eq_true]
          intro k hk
          have := List.mem_range.1 hk
          simpa using HA.out k (by omega)
        rw [this, Bool.true_and, decide_eq_decide]
        omega
      have HF := Lib.hid hfw
      clear hfw
      go_wp2
      go_ret
      exact ⟨by rw [HF.out]; rfl, HB0.out _⟩
end Go.Proofs.Ytgcahcjffoehfaa
