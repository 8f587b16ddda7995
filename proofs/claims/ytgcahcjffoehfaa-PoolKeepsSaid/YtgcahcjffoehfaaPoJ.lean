/- pool.Same: the slices. -/
import Derived.Test.YtgcahcjffoehfaaPoI
set_option linter.unusedSimpArgs false
set_option linter.unusedVariables false
namespace Go.Proofs.Ytgcahcjffoehfaa
open Go.RowKit

@[go_sem] theorem store_bk_anew2 (w : World) (ob : Obj) (x y : Bk) :
    (storeBk (.pointer (some ⟨w.heap.size + 1, 0, none⟩)) (.agg x.arr)).run Try.prog ((w.alloc ob).alloc (.cells y.arr 36)) = .ok () ((w.alloc ob).alloc (.cells x.arr 36)) := by
  have := store_bk_anew (w.alloc ob) x y
  rwa [show (w.alloc ob).heap.size = w.heap.size + 1 by simp] at this
def pairAt (l m : List Bk) (i : Nat) : Bool := same1 (l.getD i noBk) (m.getD i noBk)
def eqRows (l m : List Bk) : Bool := decide (l.length = m.length) && (List.range l.length).all (pairAt l m)
theorem enter_same1 (args : Array Value) (w : World) : (callFunc 34 args).run Try.prog w = .ok (.enter 34 args) w := by kernel_rfl
theorem rangeAll_succ (p : Nat → Bool) (i : Nat) : (List.range (i + 1)).all p = ((List.range i).all p && p i) := by
  rw [List.range_succ, List.all_append]; simp
theorem rangeAll_no (p : Nat → Bool) (i n : Nat) (h : i < n) (hp : p i = false) : (List.range n).all p = false := by
  rw [List.all_eq_false]; exact ⟨i, List.mem_range.2 h, by rw [hp]; simp⟩

set_option maxHeartbeats 4000000 in
set_option maxRecDepth 100000 in
theorem equalFunc_any (l m : List Bk) (A B : Option Addr) (c d : Nat) (w : World) (hR : RdK w w.heap.size A l.length l) (hT : RdK w w.heap.size B m.length m) (hn : l.length < 4611686018427387904) (hm : m.length < 4611686018427387904) :
    Calls Try.prog 33 #[.slice A l.length c, .slice B m.length d, .func (.func 34) #[] #[]] w
      fun e w' => e = .returned (.bool (eqRows l m)) ∧ Below w.heap.size w w' := by
  have hen := enter_same1
  have HR := Lib.hid hR
  have HT := Lib.hid hT
  clear hR hT
  have he : eqRows l m = (decide (l.length = m.length) && (List.range l.length).all (pairAt l m)) := rfl
  have HE := Lib.hid he
  clear he
  by_cases hlm : l.length = m.length
  rotate_left
  · have hlm' : ((l.length : Int) != (m.length : Int)) = true := by rw [bne_iff_ne]; omega
    have hf : eqRows l m = false := by rw [HE.out]; simp [hlm]
    have HF := Lib.hid hf
    clear hf hlm
    go_enter Try.func33, Try.ntmps33
    go_wp2
    go_ret
    exact ⟨by rw [HF.out]; rfl, Below.refl _ _⟩
  have HLM := Lib.hid hlm
  rw [← hlm] at HT hm ⊢
  clear hlm
  obtain ⟨n, hnl⟩ : ∃ n, n = l.length := ⟨_, rfl⟩
  rw [← hnl] at HR HT hn ⊢
  have HN := Lib.hid hnl
  clear hnl hm
  have hbn : ((n : Int) != (n : Int)) = false := by simp
  go_enter Try.func33, Try.ntmps33
  go_wp2
  go_loopw [17] (fun s17 wr => ∃ i : Nat, i ≤ n ∧ s17 = .int .i64 i ∧ (List.range i).all (pairAt l m) = true ∧ Below w.heap.size w wr) (fun s17 _ => n - (intOf s17).toNat)
  case atStart => exact ⟨0, by omega, rfl, rfl, Below.refl _ _⟩
  case round =>
    obtain ⟨i, hin, rfl, hall, hb⟩ := hrel
    have HA := Lib.hid hall
    have HB := Lib.hid hb
    have hsz := hb.size
    clear hall hb
    by_cases hlt : i < n
    · have hi : (i : Int) < n := by omega
      obtain ⟨b, o, rfl, hbb, hh, hc⟩ := (HR.out.below HB.out).at_ hlt
      obtain ⟨b2, o2, rfl, hbb2, hh2, hc2⟩ := (HT.out.below HB.out).at_ hlt
      have hbs : b < wr.heap.size := by omega
      have hbs2 : b2 < wr.heap.size := by omega
      have hp : pairAt l m i = same1 (l.getD i noBk) (m.getD i noBk) := rfl
      obtain ⟨x, hx⟩ : ∃ x, x = l.getD i noBk := ⟨_, rfl⟩
      obtain ⟨y, hy⟩ : ∃ y, y = m.getD i noBk := ⟨_, rfl⟩
      rw [← hx] at hc hp
      rw [← hy] at hc2 hp
      have HP := Lib.hid hp
      clear hx hy hp hbb hbb2
      have same_K : ∀ K, same1 x y = K → ∀ W, Calls Try.prog 34 #[.agg x.arr, .agg y.arr] W fun e w' => e = .returned (.bool K) ∧ Below W.heap.size W w' := fun K h W => by
        have := same1_any x y W
        rw [h] at this
        exact this
      have hb2 : ∀ ob ob', Below wr.heap.size wr ((wr.alloc ob).alloc ob') := fun ob ob' => ((Below.refl _ _).alloc (Nat.le_refl _) _).alloc (by simp) _
      have HB2 := Lib.hid hb2
      clear hb2
      cases k : same1 x y
      · have hf : eqRows l m = false := by
          rw [HE.out, ← HN.out, rangeAll_no (pairAt l m) i n hlt (by rw [HP.out, k])]; simp
        have HF := Lib.hid hf
        have HSA := Lib.hid (same_K _ k)
        clear k same_K hf
        go_wp2_with (go_at_call 34; refine (HSA.out _).mono ?_; rintro e w1 ⟨rfl, hb1⟩; clear hh hc hh2 hc2; have HB1 := Lib.hid hb1; clear hb1)
        go_ret
        exact ⟨by rw [HF.out]; rfl, below2 HB.out ((HB2.out _ _).trans (HB1.out.mono (by simp; omega)))⟩
      · have hy' : (List.range (i + 1)).all (pairAt l m) = true := by rw [rangeAll_succ, HA.out, HP.out, k]; rfl
        have HY := Lib.hid hy'
        have HSA := Lib.hid (same_K _ k)
        clear k same_K hy'
        go_wp2_with (go_at_call 34; refine (HSA.out _).mono ?_; rintro e w1 ⟨rfl, hb1⟩; clear hh hc hh2 hc2; have HB1 := Lib.hid hb1; clear hb1)
        go_roundw
        case rel => exact ⟨i + 1, by omega, by go_num, HY.out, below2 HB.out ((HB2.out _ _).trans (HB1.out.mono (by simp; omega)))⟩
        case measure => simp [intOf] <;> omega
    · obtain rfl : i = n := by omega
      have ht : eqRows l m = true := by rw [HE.out, ← HN.out, HA.out]; have := HLM.out; have := HN.out; simp; omega
      have HTR := Lib.hid ht
      clear ht
      have hd : decide ((i : Int) < i) = false := by simp
      go_wp2
      go_ret
      exact ⟨by rw [HTR.out]; rfl, HB.out⟩
end Go.Proofs.Ytgcahcjffoehfaa
