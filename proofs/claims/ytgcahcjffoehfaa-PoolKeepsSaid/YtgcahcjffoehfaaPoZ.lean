/- Few things to be done, with short names. -/
import Derived.Test.YtgcahcjffoehfaaOpn
import Derived.Test.YtgcahcjffoehfaaLit
import Derived.Test.YtgcahcjffoehfaaPoG
set_option linter.unusedSimpArgs false
set_option linter.unusedVariables false
namespace Go.Proofs.Ytgcahcjffoehfaa
open Go.RowKit

def oAt (l : List Opr) (i : Nat) : Opr := l.getD i noOp
theorem RdO.cell {w : World} {B n : Nat} {A : Option Addr} {l : List Opr} {k : Nat} (h : RdO w B A n l) (hk : k < n) : ∃ b o, A = some ⟨b, o, none⟩ ∧ b < B ∧ ∀ j, j < 30 → w.cell? ⟨b, o + k * 30 + j, none⟩ = (oAt l k).arr[j]? := by
  obtain ⟨h1, h2, h3⟩ := h
  obtain ⟨a, hA, hb, hc⟩ := h2.2 (by omega)
  have := h3 a hA (by omega)
  refine ⟨a.block, a.off, by rw [hA, ← this], hb, fun j hj => ?_⟩
  have hg := flatMap_get Opr.arr 30 Opr.arr_size l k j (by omega) hj
  have he : oAt l k = l[k]'(by omega) := by rw [oAt, List.getD_eq_getElem?_getD, List.getElem?_eq_getElem (by omega)]; rfl
  have hs : ((oAt l k).arr)[j]? = some ((oAt l k).arr[j]'(by rw [Opr.arr_size]; exact hj)) := Array.getElem?_eq_getElem _
  rw [← he, hs] at hg
  rw [hs]
  have := hc _ _ hg
  rw [h3 a hA (by omega), Addr.add_mid] at this
  rw [← this, Nat.add_assoc]
theorem RdO.to {w w' : World} {B n C : Nat} {A : Option Addr} {l : List Opr} (h : RdO w B A n l) (hb : Below C w w') (hC : B ≤ C) : RdO w' B A n l := ⟨h.1, Rd.to h.2.1 hb hC, h.2.2⟩
theorem RdO.below {w w' : World} {B n : Nat} {A : Option Addr} {l : List Opr} (h : RdO w B A n l) (hb : Below B w w') : RdO w' B A n l := h.to hb (Nat.le_refl _)
theorem RdO.more {w : World} {B B' n : Nat} {A : Option Addr} {l : List Opr} (h : RdO w B A n l) (hB : B ≤ B') : RdO w B' A n l := ⟨h.1, Rd.more h.2.1 hB, h.2.2⟩
theorem RdO.one (w : World) (o : Opr) (t : TypeId) : RdO (w.alloc (.cells o.arr t)) (w.alloc (.cells o.arr t)).heap.size (some ⟨w.heap.size, 0, none⟩) 1 [o] :=
  ⟨rfl, ⟨by simp [cellsOp, Opr.arr_size], fun _ => ⟨_, rfl, by simp, by rw [show cellsOp [o] = o.arr.toList by simp [cellsOp]]; exact src_row _ _ _ _ _ (heap_alloc_new w _)⟩⟩, fun a h _ => by injection h with h; rw [← h]⟩
def opShort (o : Opr) : Bool := decide (o.name.length ≤ 60) && decide (o.bk.name.length ≤ 60)
def fewOps (l : List Opr) : Bool := (List.range (min l.length 100)).all (fun i => opShort (oAt l i)) && decide (l.length ≤ 60)
set_option maxRecDepth 100000 in
theorem fewOps_any (l : List Opr) (A : Option Addr) (c : Nat) (w : World) (hR : RdO w w.heap.size A l.length l) (hn : l.length ≤ 9223372036854775807) :
    Calls Try.prog 18 #[.slice A l.length c] w fun e w' => e = .returned (.bool (fewOps l)) ∧ w = w' := by
  have HR := Lib.hid hR
  clear hR
  have hfew : fewOps l = ((List.range (min l.length 100)).all (fun i => opShort (oAt l i)) && decide (l.length ≤ 60)) := rfl
  have HFW := Lib.hid hfew
  clear hfew
  obtain ⟨n, hnl⟩ : ∃ n, n = l.length := ⟨_, rfl⟩
  rw [← hnl] at HR hn HFW ⊢
  clear hnl
  go_enter Try.func18, Try.ntmps18
  go_wp2
  go_loop [3] (fun s3 => ∃ i : Nat, i ≤ n ∧ i ≤ 100 ∧ s3 = .int .i64 i ∧ ∀ k, k < i → opShort (oAt l k) = true) (fun s3 => n - (intOf s3).toNat)
  case atStart => exact ⟨0, by omega, by omega, rfl, fun k hk => by omega⟩
  case round =>
    obtain ⟨i, hin, hi60, rfl, hall⟩ := hrel
    have HA := Lib.hid hall
    clear hall
    by_cases hlt : i < n
    · have hi : (i : Int) < n := by omega
      by_cases h6 : i < 100
      · have hi6 : (i : Int) < 100 := by omega
        obtain ⟨b, o, rfl, hbb, hc⟩ := HR.out.cell hlt
        have hc1 := hc 28 (by omega)
        have hc2 := hc 1 (by omega)
        rw [Opr.arr_28] at hc1
        rw [Opr.arr_1] at hc2
        clear hbb hc
        have hop : opShort (oAt l i) = (decide ((oAt l i).name.length ≤ 60) && decide ((oAt l i).bk.name.length ≤ 60)) := rfl
        obtain ⟨p1, hp1⟩ : ∃ p, p = (oAt l i).name := ⟨_, rfl⟩
        obtain ⟨p2, hp2⟩ : ∃ p, p = (oAt l i).bk.name := ⟨_, rfl⟩
        rw [← hp1] at hc1 hop
        rw [← hp2] at hc2 hop
        have HOP := Lib.hid hop
        clear hp1 hp2 hop
        have hno : opShort (oAt l i) = false → fewOps l = false := fun h => by
          rw [HFW.out, range_all_false0 _ i _ (by omega) h]; rfl
        have HNO := Lib.hid hno
        clear hno
        by_cases hq1 : p1.length ≤ 60
        · by_cases hq2 : p2.length ≤ 60
          · have g1 : decide ((60 : Int) < p1.length) = false := by simp; omega
            have g2 : decide ((60 : Int) < p2.length) = false := by simp; omega
            go_wp2
            go_round
            case rel => exact ⟨i + 1, by omega, by omega, by go_num, fun k hk => by
              by_cases hki : k = i
              · rw [hki, HOP.out]; simp [hq1, hq2]
              · exact HA.out k (by omega)⟩
            case measure => simp [intOf] <;> omega
          · have g1 : decide ((60 : Int) < p1.length) = false := by simp; omega
            have g2 : (60 : Int) < p2.length := by omega
            have hf := HNO.out (by rw [HOP.out]; simp [hq2])
            have HF := Lib.hid hf
            clear hf hq2
            go_wp2
            go_ret
            exact ⟨by rw [HF.out]; rfl, rfl⟩
        · have g1 : (60 : Int) < p1.length := by omega
          have hf := HNO.out (by rw [HOP.out]; simp [hq1])
          have HF := Lib.hid hf
          clear hf hq1
          go_wp2
          go_ret
          exact ⟨by rw [HF.out]; rfl, rfl⟩
      · have hd : decide ((i : Int) < 100) = false := by simp; omega
        have hfw : fewOps l = decide ((n : Int) ≤ 60) := by
          have h40 : ¬ n ≤ 60 := by omega
          rw [HFW.out]
          simp [h40]
          omega
        have HF := Lib.hid hfw
        clear hfw
        go_wp2
        go_ret
        exact ⟨by rw [HF.out]; rfl, rfl⟩
    · obtain rfl : i = n := by omega
      have hd : decide ((i : Int) < i) = false := by simp
      have hfw : fewOps l = decide ((i : Int) ≤ 60) := by
        rw [HFW.out]
        have : (List.range (min i 100)).all (fun i => opShort (oAt l i)) = true := by
          rw [List.all_eq_true]
          intro k hk
          have := List.mem_range.1 hk
          exact HA.out k (by omega)
        rw [this, Bool.true_and, decide_eq_decide]
        omega
      have HF := Lib.hid hfw
      clear hfw
      go_wp2
      go_ret
      exact ⟨by rw [HF.out]; rfl, rfl⟩
end Go.Proofs.Ytgcahcjffoehfaa
