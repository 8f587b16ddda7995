/- Finding a backend. -/
import Derived.Test.YtgcahcjffoehfaaPoC
set_option linter.unusedSimpArgs false
set_option linter.unusedVariables false
namespace Go.Proofs.Ytgcahcjffoehfaa
open Go.RowKit

def hasN (l : List Bk) (s : List UInt8) : Bool := decide (lowN l s < l.length) && decide (cmpS (nm l (lowN l s)) s = 0)
/-- what is found of a name -/
def gotN (l : List Bk) (s : List UInt8) : Bk := if hasN l s then l.getD (lowN l s) noBk else noBk
theorem gotN_no {l : List Bk} {s : List UInt8} (h : hasN l s = false) : gotN l s = noBk := by simp [gotN, h]
theorem gotN_yes {l : List Bk} {s : List UInt8} (h : hasN l s = true) : gotN l s = l.getD (lowN l s) noBk := by simp [gotN, h]
theorem enter_at1 (args : Array Value) (w : World) : (callFunc 58 args).run Try.prog w = .ok (.enter 58 args) w := by kernel_rfl

set_option maxRecDepth 100000 in
theorem search_any (l : List Bk) (hs : Srt l) (s : List UInt8) (A : Option Addr) (c : Nat) (w : World) (hR : RdK w w.heap.size A l.length l) (hn : l.length < 4611686018427387904) :
    Calls Try.prog 57 #[.slice A l.length c, .string (textOf s), .func (.func 58) #[] #[]] w
      fun e w' => e = .returned (.tuple #[.int .i64 (lowN l s), .bool (hasN l s)]) ∧ Below w.heap.size w w' := by
  have hen := enter_at1
  have HR := Lib.hid hR
  clear hR
  have HS := Lib.hid hs
  clear hs
  obtain ⟨n, hnl⟩ : ∃ n, n = l.length := ⟨_, rfl⟩
  rw [← hnl] at HR hn ⊢
  have HN := Lib.hid hnl
  clear hnl
  go_enter Try.func57, Try.ntmps57
  go_wp2
  go_loopw [9, 10] (fun s9 s10 wr => ∃ i j : Nat, i ≤ j ∧ j ≤ n ∧ s9 = .int .i64 i ∧ s10 = .int .i64 j ∧ (∀ k, k < i → cmpS (nm l k) s < 0) ∧ (∀ k, j ≤ k → k < n → ¬ cmpS (nm l k) s < 0) ∧ Below w.heap.size w wr) (fun s9 s10 _ => (intOf s10 - intOf s9).toNat)
  case atStart => exact ⟨0, n, by omega, Nat.le_refl _, rfl, rfl, fun k hk => by omega, fun k h1 h2 => by omega, Below.refl _ _⟩
  case round =>
    obtain ⟨i, j, hij, hjn, rfl, rfl, hlo, hhi, hb⟩ := hrel
    have HLO := Lib.hid hlo
    have HHI := Lib.hid hhi
    have HB := Lib.hid hb
    clear hlo hhi hb
    by_cases hlt : i < j
    · have hin : (i : Int) < j := by omega
      have hmn : (i + j) / 2 < n := by omega
      have hR1 := HR.out.below HB.out
      obtain ⟨b, o, rfl, hbb, hh, hc⟩ := hR1.at_ hmn
      have HBB := Lib.hid hbb
      clear hR1 hbb
      have hdn : ∀ k, k ≤ (i + j) / 2 → cmpS (nm l ((i + j) / 2)) s < 0 → cmpS (nm l k) s < 0 := fun k hk h => HS.out.down s hk (by have := HN.out; omega) h
      have hup : ∀ k, (i + j) / 2 ≤ k → k < n → ¬ cmpS (nm l ((i + j) / 2)) s < 0 → ¬ cmpS (nm l k) s < 0 := fun k hk hkn h => HS.out.up s hk (by have := HN.out; omega) h
      have HDN := Lib.hid hdn
      have HUP := Lib.hid hup
      clear hdn hup
      unfold nm at HDN HUP
      obtain ⟨x, hx⟩ : ∃ x, x = l.getD ((i + j) / 2) noBk := ⟨_, rfl⟩
      rw [← hx] at hc HDN HUP
      clear hx
      by_cases ht : cmpS x.name s < 0
      · have hd : decide (cmpS x.name s < 0) = true := by simpa using ht
        go_wp2_with (go_at_call 58; refine (at1_any x s _).mono ?_; rintro e w1 ⟨rfl, hb1⟩; clear hh hc; have HB1 := Lib.hid hb1; clear hb1)
        go_roundw
        case rel => exact ⟨(i + j) / 2 + 1, j, by omega, by omega, by go_num, by go_num, fun k hk => HDN.out k (by omega) ht, fun k h1 h2 => by have := HHI.out k h1 h2; omega, below2 HB.out HB1.out⟩
        case measure => simp [intOf] <;> omega
      · have hd : decide (cmpS x.name s < 0) = false := by simpa using ht
        go_wp2_with (go_at_call 58; refine (at1_any x s _).mono ?_; rintro e w1 ⟨rfl, hb1⟩; clear hh hc; have HB1 := Lib.hid hb1; clear hb1)
        go_roundw
        case rel => exact ⟨i, (i + j) / 2, by omega, by omega, by go_num, by go_num, HLO.out, fun k h1 h2 => by have := HUP.out k h1 h2 ht; unfold nm; omega, below2 HB.out HB1.out⟩
        case measure => simp [intOf] <;> omega
    · obtain rfl : i = j := by omega
      have hlo : lowN l s = i := lowN_of (by have := HN.out; omega) HLO.out (fun h => by have := HHI.out i (Nat.le_refl _) (by have := HN.out; omega); omega)
      have HLOW := Lib.hid hlo
      clear hlo
      by_cases hlt2 : i < n
      · have hin : (i : Int) < n := by omega
        have hR1 := HR.out.below HB.out
        obtain ⟨b, o, rfl, hbb, hh, hc⟩ := hR1.at_ hlt2
        clear hR1 hbb
        have hf : hasN l s = decide (cmpS (l.getD i noBk).name s = 0) := by
          have h1 := HLOW.out
          have h2 := HN.out
          unfold hasN nm
          rw [h1]
          simp [show i < l.length by omega]
        have HF := Lib.hid hf
        clear hf
        obtain ⟨x, hx⟩ : ∃ x, x = l.getD i noBk := ⟨_, rfl⟩
        rw [← hx] at hc HF
        clear hx
        by_cases ht : cmpS x.name s = 0
        · have hd : (cmpS x.name s == 0) = true := by simpa using ht
          go_wp2_with (go_at_call 58; refine (at1_any x s _).mono ?_; rintro e w1 ⟨rfl, hb1⟩; clear hh hc; have HB1 := Lib.hid hb1; clear hb1)
          go_ret2
          exact ⟨by rw [HLOW.out, HF.out]; simp [ht], below2 HB.out HB1.out⟩
        · have hd : (cmpS x.name s == 0) = false := by simpa using ht
          go_wp2_with (go_at_call 58; refine (at1_any x s _).mono ?_; rintro e w1 ⟨rfl, hb1⟩; clear hh hc; have HB1 := Lib.hid hb1; clear hb1)
          go_ret2
          exact ⟨by rw [HLOW.out, HF.out]; simp [ht], below2 HB.out HB1.out⟩
      · have hf : hasN l s = false := by
          have h1 := HLOW.out
          have h2 := HN.out
          unfold hasN
          rw [h1]
          simp [show ¬ i < l.length by omega]
        have HF := Lib.hid hf
        clear hf
        have hd : decide ((i : Int) < n) = false := by simpa using hlt2
        go_wp2
        go_ret2
        exact ⟨by rw [HLOW.out, HF.out]; rfl, HB.out⟩

/-- a pool as a value -/
def poolV (v : Int) (A : Option Addr) (n c : Nat) : Value := .agg #[.int .i64 v, .slice A n c]
theorem at_any (l : List Bk) (hs : Srt l) (s : List UInt8) (v : Int) (A : Option Addr) (c : Nat) (w : World) (hR : RdK w w.heap.size A l.length l) (hn : l.length < 4611686018427387904) :
    Calls Try.prog 37 #[.agg #[.int .i64 v, .slice A l.length c], .string (textOf s)] w fun e w' => e = .returned (.tuple #[.int .i64 (lowN l s), .bool (hasN l s)]) ∧ Below w.heap.size w w' := by
  have hb0 : ∀ ob, Below w.heap.size w (w.alloc ob) := fun ob => (Below.refl _ _).alloc (Nat.le_refl _) _
  have HB0 := Lib.hid hb0
  clear hb0
  have HR1 := Lib.hid (fun ob => (hR.alloc (Nat.le_refl _) ob).more (B' := (w.alloc ob).heap.size) (by simp))
  clear hR
  go_enter Try.func37, Try.ntmps37
  go_wp2_with (go_at_call 57; refine (search_any l hs s A c _ (HR1.out _) hn).mono ?_; rintro e w1 ⟨rfl, hb1⟩; have HB1 := Lib.hid hb1; clear hb1)
  go_ret2
  exact ⟨rfl, below2 (HB0.out _) HB1.out⟩

set_option maxRecDepth 100000 in
theorem find_any (l : List Bk) (hs : Srt l) (s : List UInt8) (v : Int) (A : Option Addr) (c : Nat) (w : World) (hR : RdK w w.heap.size A l.length l) (hn : l.length < 4611686018427387904) :
    Calls Try.prog 21 #[.agg #[.int .i64 v, .slice A l.length c], .string (textOf s)] w fun e w' => e = .returned (.tuple #[.agg (gotN l s).arr, .bool (hasN l s)]) ∧ Below w.heap.size w w' := by
  have hb0 : ∀ ob ob', Below w.heap.size w ((w.alloc ob).alloc ob') := fun ob ob' => ((Below.refl _ _).alloc (Nat.le_refl _) _).alloc (by simp) _
  have HB0 := Lib.hid hb0
  clear hb0
  have HR1 := Lib.hid (fun ob ob' => ((hR.alloc (Nat.le_refl _) ob).alloc (by simp) ob').more (B' := ((w.alloc ob).alloc ob').heap.size) (by simp; omega))
  have HRB := Lib.hid hR
  clear hR
  obtain ⟨K, hK⟩ : ∃ K, hasN l s = K := ⟨_, rfl⟩
  have HK := Lib.hid hK
  clear hK
  cases K
  · go_enter Try.func21, Try.ntmps21
    go_wp2_with fail
    refine (at_any l hs s v A c _ (HR1.out _ _) hn).mono ?_
    rintro e w1 ⟨rfl, hb1⟩
    rw [HK.out]
    have hth := there_later (there_new (w.alloc (.cells #[.int .i64 v, .slice A l.length c] 24)) noBk.arr 36 (Bk.arr_size _)) hb1 (by simp)
    rw [show ∀ ob, (w.alloc ob).heap.size = w.heap.size + 1 from fun ob => by simp] at hth
    have hB := HB0.out (.cells #[.int .i64 v, .slice A l.length c] 24) (.cells noBk.arr 36)
    have HB1 := Lib.hid (hB.trans (hb1.mono (by simp; omega)))
    have HT := Lib.hid hth
    clear hb1 hB
    go_wp2_with fail
    (try simp only [Exit.inBlock, Exit.then])
    refine bodyPost_ret (ret_bk rfl _ _ _ _ rfl (setBk_at _ _ _ _ HT.out).1) rfl ⟨?_, setBk_below HB1.out _ _ _ (by omega)⟩
    rw [(setBk_at _ _ _ _ HT.out).2, gotN_no HK.out]
    try rw [HK.out]
    rfl
  · have hlt : lowN l s < l.length := by
      have := HK.out
      unfold hasN at this
      simp at this
      exact this.1
    have hin : ((lowN l s : Nat) : Int) < (l.length : Nat) := by omega
    go_enter Try.func21, Try.ntmps21
    go_wp2_with fail
    refine (at_any l hs s v A c _ (HR1.out _ _) hn).mono ?_
    rintro e w1 ⟨rfl, hb1⟩
    rw [HK.out]
    have hcl : w1.cell? ⟨w.heap.size, 1, none⟩ = some (.slice A l.length c) := by
      rw [hb1.cell (by simp; omega)]
      go_simp
    have hth := there_later (there_new (w.alloc (.cells #[.int .i64 v, .slice A l.length c] 24)) noBk.arr 36 (Bk.arr_size _)) hb1 (by simp)
    rw [show ∀ ob, (w.alloc ob).heap.size = w.heap.size + 1 from fun ob => by simp] at hth
    have hB := HB0.out (.cells #[.int .i64 v, .slice A l.length c] 24) (.cells noBk.arr 36)
    have hB1 := hB.trans (hb1.mono (by simp; omega))
    have HB1 := Lib.hid hB1
    have hR1 := HRB.out.below hB1
    have HT := Lib.hid hth
    clear hb1 hB hB1
    obtain ⟨b, o, rfl, hbb, hh, hc⟩ := hR1.at_ hlt
    clear hbb hR1
    obtain ⟨x, hx⟩ : ∃ x, x = l.getD (lowN l s) noBk := ⟨_, rfl⟩
    rw [← hx] at hc
    have HX := Lib.hid hx
    clear hx
    go_wp2_with fail
    (try simp only [Exit.inBlock, Exit.then])
    refine bodyPost_ret (ret_bk rfl _ _ _ _ rfl (setBk_at _ _ _ _ HT.out).1) rfl ⟨?_, setBk_below HB1.out _ _ _ (by omega)⟩
    rw [(setBk_at _ _ _ _ HT.out).2, gotN_yes HK.out, ← HX.out]
    try rw [HK.out]
    rfl
end Go.Proofs.Ytgcahcjffoehfaa
