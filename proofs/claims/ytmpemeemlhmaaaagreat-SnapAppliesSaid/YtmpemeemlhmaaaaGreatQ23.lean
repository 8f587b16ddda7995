/- pool.Same: the slices. -/
import Derived.Test.YtmpemeemlhmaaaaGreatQ13
import Derived.Test.YtmpemeemlhmaaaaGreatQ22
set_option linter.unusedSimpArgs false
set_option linter.unusedVariables false
set_option maxRecDepth 100000
namespace Go.Proofs.YtmpemeemlhmaaaaGreat
open Go.RowKit

@[go_sem] theorem store_bk_anew2 (w : World) (ob : Obj) (x y : Bk) :
    (storeBk (.pointer (some ⟨w.heap.size + 1, 0, none⟩)) (.agg x.arr)).run Tryz.prog ((w.alloc ob).alloc (.cells y.arr 60)) = .ok () ((w.alloc ob).alloc (.cells x.arr 60)) := by
  have := store_bk_anew (w.alloc ob) x y
  rwa [show (w.alloc ob).heap.size = w.heap.size + 1 by simp] at this
def pairAt (l m : List Bk) (i : Nat) : Bool := same1 (l.getD i noBk) (m.getD i noBk)
def eqRows (l m : List Bk) : Bool := decide (l.length = m.length) && (List.range l.length).all (pairAt l m)
theorem enter_same1 (args : Array Value) (w : World) : (callFunc 80 args).run Tryz.prog w = .ok (.enter 80 args) w := by kernel_rfl
theorem rangeAll_succ (p : Nat → Bool) (i : Nat) : (List.range (i + 1)).all p = ((List.range i).all p && p i) := by
  rw [List.range_succ, List.all_append]; simp
theorem rangeAll_no (p : Nat → Bool) (i n : Nat) (h : i < n) (hp : p i = false) : (List.range n).all p = false := by
  rw [List.all_eq_false]; exact ⟨i, List.mem_range.2 h, by rw [hp]; simp⟩

set_option maxHeartbeats 4000000 in
set_option maxRecDepth 100000 in
theorem equalFunc_any (l m : List Bk) (A B : Option Addr) (c d : Nat) (w : World) (hR : RdK w w.heap.size A l.length l) (hT : RdK w w.heap.size B m.length m) (hn : l.length < 4611686018427387904) (hm : m.length < 4611686018427387904) :
    Calls Tryz.prog 79 #[.slice A l.length c, .slice B m.length d, .func (.func 80) #[] #[]] w
      fun e w' => e = .returned (.bool (eqRows l m)) ∧ Below w.heap.size w w' := by
  have hen := enter_same1
  have HR := Lib.hid hR
  have HT := Lib.hid hT
  clear hR hT
  have he : eqRows l m = (decide (l.length = m.length) && (List.range l.length).all (pairAt l m)) := rfl
  have HE := Lib.hid he
  clear he
  by_cases hlm : l.length = m.length
  rotate_left
  · have hlm' : ((l.length : Int) != (m.length : Int)) = true := by rw [bne_iff_ne]; omega
    have hf : eqRows l m = false := by rw [HE.out]; simp [hlm]
    have HF := Lib.hid hf
    clear hf hlm
    go_enter Tryz.func79, Tryz.ntmps79
    go_wp2
    go_ret
    exact ⟨by rw [HF.out]; rfl, Below.refl _ _⟩
  have HLM := Lib.hid hlm
  rw [← hlm] at HT hm ⊢
  clear hlm
  obtain ⟨n, hnl⟩ : ∃ n, n = l.length := ⟨_, rfl⟩
  rw [← hnl] at HR HT hn ⊢
  have HN := Lib.hid hnl
  clear hnl hm
  have hbn : ((n : Int) != (n : Int)) = false := by simp
  go_enter Tryz.func79, Tryz.ntmps79
  go_wp2
  go_loopw [17] (fun s17 wr => ∃ i : Nat, i ≤ n ∧ s17 = .int .i64 i ∧ (List.range i).all (pairAt l m) = true ∧ Below w.heap.size w wr) (fun s17 _ => n - (intOf s17).toNat)
  case atStart => exact ⟨0, by omega, rfl, rfl, Below.refl _ _⟩
  case round =>
    obtain ⟨i, hin, rfl, hall, hb⟩ := hrel
    have HA := Lib.hid hall
    have HB := Lib.hid hb
    have hsz := hb.size
    clear hall hb
    by_cases hlt : i < n
    · have hi : (i : Int) < n := by omega
      obtain ⟨b, o, rfl, hbb, hh, hc⟩ := (HR.out.below HB.out).at_ hlt
      obtain ⟨b2, o2, rfl, hbb2, hh2, hc2⟩ := (HT.out.below HB.out).at_ hlt
      have hbs : b < wr.heap.size := by omega
      have hbs2 : b2 < wr.heap.size := by omega
      have hp : pairAt l m i = same1 (l.getD i noBk) (m.getD i noBk) := rfl
      obtain ⟨x, hx⟩ : ∃ x, x = l.getD i noBk := ⟨_, rfl⟩
      obtain ⟨y, hy⟩ : ∃ y, y = m.getD i noBk := ⟨_, rfl⟩
      rw [← hx] at hc hp
      rw [← hy] at hc2 hp
      have HP := Lib.hid hp
      clear hx hy hp hbb hbb2
      have same_K : ∀ K, same1 x y = K → ∀ W, Calls Tryz.prog 80 #[.agg x.arr, .agg y.arr] W fun e w' => e = .returned (.bool K) ∧ Below W.heap.size W w' := fun K h W => by
        have := same1_any x y W
        rw [h] at this
        exact this
      have hb2 : ∀ ob ob', Below wr.heap.size wr ((wr.alloc ob).alloc ob') := fun ob ob' => ((Below.refl _ _).alloc (Nat.le_refl _) _).alloc (by simp) _
      have HB2 := Lib.hid hb2
      clear hb2
      cases k : same1 x y
      · have hf : eqRows l m = false := by
          rw [HE.out, ← HN.out, rangeAll_no (pairAt l m) i n hlt (by rw [HP.out, k])]; simp
        have HF := Lib.hid hf
        have HSA := Lib.hid (same_K _ k)
        clear k same_K hf
        go_wp2_with (go_at_call 80; refine (HSA.out _).mono ?_; rintro e w1 ⟨rfl, hb1⟩; clear hh hc hh2 hc2; have HB1 := Lib.hid hb1; clear hb1)
        go_ret
        exact ⟨by rw [HF.out]; rfl, below2 HB.out ((HB2.out _ _).trans (HB1.out.mono (by simp; omega)))⟩
      · have hy' : (List.range (i + 1)).all (pairAt l m) = true := by rw [rangeAll_succ, HA.out, HP.out, k]; rfl
        have HY := Lib.hid hy'
        have HSA := Lib.hid (same_K _ k)
        clear k same_K hy'
        go_wp2_with (go_at_call 80; refine (HSA.out _).mono ?_; rintro e w1 ⟨rfl, hb1⟩; clear hh hc hh2 hc2; have HB1 := Lib.hid hb1; clear hb1)
        go_roundw
        case rel => exact ⟨i + 1, by omega, by go_num, HY.out, below2 HB.out ((HB2.out _ _).trans (HB1.out.mono (by simp; omega)))⟩
        case measure => simp [intOf] <;> omega
    · obtain rfl : i = n := by omega
      have ht : eqRows l m = true := by rw [HE.out, ← HN.out, HA.out]; have := HLM.out; have := HN.out; simp; omega
      have HTR := Lib.hid ht
      clear ht
      have hd : decide ((i : Int) < i) = false := by simp
      go_wp2
      go_ret
      exact ⟨by rw [HTR.out]; rfl, HB.out⟩
end Go.Proofs.YtmpemeemlhmaaaaGreat

namespace Go.Proofs.YtmpemeemlhmaaaaGreat
open Go.RowKit

def eqPool (v : Int) (l : List Bk) (v' : Int) (m : List Bk) : Bool := (v == v') && eqRows l m
set_option maxHeartbeats 4000000 in
set_option maxRecDepth 100000 in
theorem poolSame_any (l m : List Bk) (v v' : Int) (A B : Option Addr) (c d : Nat) (w : World) (hR : RdK w w.heap.size A l.length l) (hT : RdK w w.heap.size B m.length m) (hn : l.length < 4611686018427387904) (hm : m.length < 4611686018427387904) :
    Calls Tryz.prog 28 #[.agg #[.int .i64 v, .slice A l.length c], .agg #[.int .i64 v', .slice B m.length d]] w
      fun e w' => e = .returned (.bool (eqPool v l v' m)) ∧ Below w.heap.size w w' := by
  have hb0 : ∀ ob ob', Below w.heap.size w ((w.alloc ob).alloc ob') := fun ob ob' => ((Below.refl _ _).alloc (Nat.le_refl _) _).alloc (by simp) _
  have HB0 := Lib.hid hb0
  clear hb0
  have HR := Lib.hid (fun ob ob' => ((hR.alloc (Nat.le_refl _) ob).alloc (by simp) ob').more (B' := ((w.alloc ob).alloc ob').heap.size) (by simp; omega))
  have HT := Lib.hid (fun ob ob' => ((hT.alloc (Nat.le_refl _) ob).alloc (by simp) ob').more (B' := ((w.alloc ob).alloc ob').heap.size) (by simp; omega))
  clear hR hT
  have he : eqPool v l v' m = ((v == v') && eqRows l m) := rfl
  have HE := Lib.hid he
  clear he
  cases k : v == v'
  · have HK := Lib.hid k
    go_enter Tryz.func28, Tryz.ntmps28
    go_wp2
    go_ret
    exact ⟨by rw [HE.out, HK.out]; rfl, HB0.out _ _⟩
  · have HK := Lib.hid k
    go_enter Tryz.func28, Tryz.ntmps28
    go_wp2_with (go_at_call 79; refine (equalFunc_any l m A B c d _ (HR.out _ _) (HT.out _ _) hn hm).mono ?_; rintro e w1 ⟨rfl, hb1⟩; have HB1 := Lib.hid hb1; clear hb1)
    go_ret
    exact ⟨by rw [HE.out, HK.out]; rfl, (HB0.out _ _).trans (HB1.out.mono (by simp; omega))⟩
end Go.Proofs.YtmpemeemlhmaaaaGreat

namespace Go.Proofs.YtmpemeemlhmaaaaGreat
open Go.RowKit

theorem pFind_any (l : List Bk) (hs : Srt l) (s : List UInt8) (v : Int) (A : Option Addr) (n c : Nat) (w : World) (hR : RdR Bk.arr 27 w w.heap.size A n l) (hn : n ≤ 100000) (K : Bool) (g : Bk) (h1 : hasN l s = K) (h2 : gotN l s = g) :
    Calls Tryz.prog 62 #[.agg #[.int .i64 v, .slice A n c], .string (textOf s)] w fun e w' => e = .returned (.tuple #[.agg g.arr, .bool K]) ∧ Below w.heap.size w w' := by
  obtain rfl := hR.1
  subst h1 h2
  exact find_any l hs s v A c w hR (by omega)
theorem pSame_any (l m : List Bk) (v v' : Int) (A B : Option Addr) (n n' c d : Nat) (w : World) (hR : RdR Bk.arr 27 w w.heap.size A n l) (hT : RdR Bk.arr 27 w w.heap.size B n' m) (hn : l.length ≤ 100000) (hm : m.length ≤ 100000) :
    Calls Tryz.prog 28 #[.agg #[.int .i64 v, .slice A n c], .agg #[.int .i64 v', .slice B n' d]] w fun e w' => e = .returned (.bool (eqPool v l v' m)) ∧ Below w.heap.size w w' := by
  obtain rfl := hR.1
  obtain rfl := hT.1
  exact poolSame_any l m v v' A B c d w hR hT (by omega) (by omega)
/-- a pool has a backend just so -/
def justB (l : List Bk) (b : Bk) : Bool := hasN l b.name && eqPool 0 [b] 0 [gotN l b.name]
set_option maxRecDepth 100000 in
set_option maxHeartbeats 4000000 in
theorem just_any (l : List Bk) (hs : Srt l) (v : Int) (A : Option Addr) (n c : Nat) (b : Bk) (w : World) (hR : RdR Bk.arr 27 w w.heap.size A n l) (hn : n ≤ 100000) (J : Bool) (hJ : justB l b = J) :
    Calls Tryz.prog 63 #[.agg #[.int .i64 v, .slice A n c], .agg b.arr] w fun e w' => e = .returned (.bool J) ∧ Below w.heap.size w w' := by
  obtain ⟨K, hK⟩ : ∃ K, hasN l b.name = K := ⟨_, rfl⟩
  obtain ⟨g, hg⟩ : ∃ g, gotN l b.name = g := ⟨_, rfl⟩
  obtain ⟨W1, hW1⟩ : ∃ W1, W1 = (w.alloc (.cells #[.int .i64 v, .slice A n c] 24)).alloc (.cells b.arr 60) := ⟨_, rfl⟩
  have HB1 := Lib.hid (show Below w.heap.size w W1 by rw [hW1]; exact ((Below.refl w.heap.size w).alloc (Nat.le_refl _) _).alloc (by simp) _)
  have P1 := Lib.hid (show Box W1 w.heap.size #[.int .i64 v, .slice A n c] by rw [hW1]; exact (Box.new w _ _).alloc _)
  have Q1 := Lib.hid (show Box W1 (w.heap.size + 1) b.arr by rw [hW1]; exact Box.new1 w _ _ _)
  have FD := Lib.hid (pFind_any l hs b.name v A n c W1 (hR.go HB1.out) hn K g hK hg)
  have HJ := Lib.hid hJ
  have HKG := Lib.hid (show justB l b = (K && eqPool 0 [b] 0 [g]) by unfold justB; rw [hK, hg])
  obtain ⟨p1, p2, p3, p4⟩ := P1.out.facts
  obtain ⟨q1, q2, q3, q4⟩ := Q1.out.facts
  have hlp := P1.out.lt
  have hlq := Q1.out.lt
  clear hK hg hR hs hn hJ
  subst hW1
  go_enter Tryz.func63, Tryz.ntmps63
  go_wp2_with fail
  refine FD.out.mono ?_
  rintro e w1 ⟨rfl, hb1⟩
  have HB2 := Lib.hid (below2 HB1.out hb1)
  have Q2 := Lib.hid (Q1.out.go hb1)
  clear hb1
  cases K
  · go_wp2
    go_ret
    exact ⟨by rw [← HJ.out, HKG.out]; rfl, HB2.out.alloc HB2.out.size _⟩
  · have Q3 := Lib.hid (Q2.out.alloc (.cells g.arr 60))
    have G3 := Lib.hid (Box.new w1 g.arr 60)
    obtain ⟨r1, r2, r3, r4⟩ := Q3.out.facts
    obtain ⟨s1, s2, s3, s4⟩ := (G3.out.alloc (.cells b.arr 60)).facts
    have hlr := Q3.out.lt
    have hls := (G3.out.alloc (.cells b.arr 60)).lt
    have rb := (RdR.one (f := Bk.arr) b Bk.arr_size (w1.alloc (.cells g.arr 60)) 60).up (.cells g.arr 60)
    have rg := RdR.one (f := Bk.arr) g Bk.arr_size ((w1.alloc (.cells g.arr 60)).alloc (.cells b.arr 60)) 60
    rw [show (w1.alloc (.cells g.arr 60)).heap.size = w1.heap.size + 1 by simp] at rb
    rw [show ((w1.alloc (.cells g.arr 60)).alloc (.cells b.arr 60)).heap.size = w1.heap.size + 1 + 1 by simp] at rg
    have SM := Lib.hid (pSame_any [b] [g] 0 0 _ _ 1 1 1 1 _ rb rg (by simp) (by simp))
    clear rb rg
    go_wp2_with fail
    (with_reducible refine SM.out.mono ?_)
    rintro e w4 ⟨rfl, hb4⟩
    have FIN := Lib.hid (below2 (((HB2.out.alloc HB2.out.size (.cells g.arr 60)).alloc (by have := HB2.out.size; simp; omega) (.cells b.arr 60)).alloc (by have := HB2.out.size; simp; omega) (.cells g.arr 60)) hb4)
    clear hb4
    go_wp2
    go_ret
    exact ⟨by rw [← HJ.out, HKG.out]; rfl, FIN.out⟩
end Go.Proofs.YtmpemeemlhmaaaaGreat
