/- Whether two pools are alike: the document's way. -/
import Derived.Test.YtgcahcjffoehfaaPoK
import Derived.Test.YtgcahcjffoehfaaQr
import Derived.Test.YtgcahcjffoehfaaPoE
set_option linter.unusedSimpArgs false
set_option linter.unusedVariables false
namespace Go.Proofs.Ytgcahcjffoehfaa
open Go.RowKit

def twinAt (l m : List Bk) (i : Nat) : Bool := sameOne (l.getD i noBk) (m.getD i noBk)
def twins (v : Int) (l : List Bk) (v' : Int) (m : List Bk) : Bool := (v == v') && decide (l.length = m.length) && (List.range l.length).all (twinAt l m)
theorem Has.below {w W : World} {b o k B : Nat} (h : Has w b o k) (hb : Below B w W) (hlt : b < B) : Has W b o k := fun j hj => by
  obtain ⟨u, hu⟩ := h j hj
  exact ⟨u, by rw [hb.cell hlt]; exact hu⟩
theorem cellsAt_below {w W : World} {b o k B : Nat} (hb : Below B w W) (hlt : b < B) : cellsAt W b o k = cellsAt w b o k := cellsAt_of fun j _ => hb.cell hlt
set_option maxHeartbeats 4000000 in
set_option maxRecDepth 100000 in
theorem refSamePool_any (l m : List Bk) (hf : ∀ x ∈ l, x.fine) (hg : ∀ x ∈ m, x.fine) (v v' : Int) (A B : Option Addr) (c d : Nat) (w : World) (hR : RdK w w.heap.size A l.length l) (hT : RdK w w.heap.size B m.length m) (hn : l.length < 4611686018427387904) (hm : m.length < 4611686018427387904) :
    Calls Try.prog 17 #[.agg #[.int .i64 v, .slice A l.length c], .agg #[.int .i64 v', .slice B m.length d]] w
      fun e w' => e = .returned (.bool (twins v l v' m)) ∧ Below w.heap.size w w' := by
  have hb0 : ∀ ob ob', Below w.heap.size w ((w.alloc ob).alloc ob') := fun ob ob' => ((Below.refl _ _).alloc (Nat.le_refl _) _).alloc (by simp) _
  have HB0 := Lib.hid hb0
  clear hb0
  have HR := Lib.hid hR
  have HT := Lib.hid hT
  have HF := Lib.hid hf
  have HG := Lib.hid hg
  clear hR hT hf hg
  have he : twins v l v' m = ((v == v') && decide (l.length = m.length) && (List.range l.length).all (twinAt l m)) := rfl
  have HE := Lib.hid he
  clear he
  by_cases hv : v = v'
  rotate_left
  · have hv1 : (v != v') = true := by rw [bne_iff_ne]; exact hv
    have hff : twins v l v' m = false := by rw [HE.out]; simp [hv]
    have HFF := Lib.hid hff
    clear hff hv
    go_enter Try.func17, Try.ntmps17
    go_wp2
    go_ret
    exact ⟨by rw [HFF.out]; rfl, HB0.out _ _⟩
  have hv1 : (v != v') = false := by simpa using hv
  by_cases hlm : l.length = m.length
  rotate_left
  · have hlm' : ((l.length : Int) != (m.length : Int)) = true := by rw [bne_iff_ne]; omega
    have hff : twins v l v' m = false := by rw [HE.out]; simp [hlm]
    have HFF := Lib.hid hff
    clear hff hlm hv
    go_enter Try.func17, Try.ntmps17
    go_wp2
    go_ret
    exact ⟨by rw [HFF.out]; rfl, HB0.out _ _⟩
  have HLM := Lib.hid hlm
  have HV := Lib.hid hv
  rw [← hlm] at HT hm ⊢
  clear hlm hv
  obtain ⟨n, hnl⟩ : ∃ n, n = l.length := ⟨_, rfl⟩
  rw [← hnl] at HR HT hn ⊢
  have HN := Lib.hid hnl
  clear hnl hm
  have hbn : ((n : Int) != (n : Int)) = false := by simp
  go_enter Try.func17, Try.ntmps17
  go_wp2
  go_loopw [5] (fun s5 wr => ∃ i : Nat, i ≤ n ∧ s5 = .int .i64 i ∧ (List.range i).all (twinAt l m) = true ∧ Below (w.heap.size + 2) ((w.alloc (.cells #[.int .i64 v, .slice A n c] 24)).alloc (.cells #[.int .i64 v', .slice B n d] 24)) wr) (fun s5 _ => n - (intOf s5).toNat)
  case atStart => exact ⟨0, by omega, rfl, rfl, Below.refl _ _⟩
  case round =>
    obtain ⟨i, hin, rfl, hall, hb⟩ := hrel
    have HA := Lib.hid hall
    have HB := Lib.hid hb
    have hcl : wr.cell? ⟨w.heap.size, 1, none⟩ = some (.slice A n c) := by
      rw [hb.cell (by simp)]
      go_simp
    have hBW := (HB0.out (.cells #[.int .i64 v, .slice A n c] 24) (.cells #[.int .i64 v', .slice B n d] 24)).trans (hb.mono (by simp))
    have HBW := Lib.hid hBW
    clear hall hb hBW
    by_cases hlt : i < n
    · have hsz := HB.out.size
      have hi : (i : Int) < n := by omega
      have hcl2 : wr.cell? ⟨w.heap.size + 1, 1, none⟩ = some (.slice B n d) := by
        rw [HB.out.cell (by simp)]
        go_simp
      obtain ⟨b, o, rfl, hbb, hh, hc⟩ := (HR.out.below HBW.out).at_ hlt
      obtain ⟨b2, o2, rfl, hbb2, hh2, hc2⟩ := (HT.out.below HBW.out).at_ hlt
      have hws : w.heap.size + 2 ≤ wr.heap.size := by simpa using hsz
      have hbs : b < wr.heap.size := by omega
      have hbs2 : b2 < wr.heap.size := by omega
      have hmem : l.getD i noBk ∈ l := by
        have := HN.out
        rw [List.getD_eq_getElem?_getD, List.getElem?_eq_getElem (by omega)]; simp
      have hmem2 : m.getD i noBk ∈ m := by
        have := HN.out
        have := HLM.out
        rw [List.getD_eq_getElem?_getD, List.getElem?_eq_getElem (by omega)]; simp
      obtain ⟨hx1, hx2⟩ := HF.out _ hmem
      obtain ⟨hy1, hy2⟩ := HG.out _ hmem2
      have hp : twinAt l m i = sameOne (l.getD i noBk) (m.getD i noBk) := rfl
      obtain ⟨x, hx⟩ : ∃ x, x = l.getD i noBk := ⟨_, rfl⟩
      obtain ⟨y, hy⟩ : ∃ y, y = m.getD i noBk := ⟨_, rfl⟩
      rw [← hx] at hc hp hx2
      rw [← hy] at hc2 hp hy2
      have HP := Lib.hid hp
      clear hx hy hp hbb hbb2 hmem hmem2 hx1 hy1
      have same_K : ∀ K, sameOne x y = K → ∀ W, Calls Try.prog 22 #[.agg x.arr, .agg y.arr] W fun e w' => e = .returned (.bool K) ∧ Below W.heap.size W w' := fun K h W => by
        have := sameOne_any x y hx2 hy2 W
        rw [h] at this
        exact this
      obtain ⟨T, f, n0, e0, eS, eT⟩ := class_of (fun W => Below wr.heap.size wr W) wr (Below.refl _ _).drew
      have es : ∀ q W1, Below (f q).heap.size (f q) W1 → ∃ q', W1 = f q' := fun q W1 hb => eT _ ((eS q).trans (hb.mono (eS q).size))
      have r1 : ∀ q, (loadBk (.pointer (some ⟨b, o + i * 27, none⟩))).run Try.prog (f q) = .ok (.agg x.arr) (f q) := fun q => by
        rw [load_bk _ _ _ (hh.below (eS q) hbs), cellsAt_below (eS q) hbs, hc]
      have r2 : ∀ q, (loadBk (.pointer (some ⟨b2, o2 + i * 27, none⟩))).run Try.prog (f q) = .ok (.agg y.arr) (f q) := fun q => by
        rw [load_bk _ _ _ (hh2.below (eS q) hbs2), cellsAt_below (eS q) hbs2, hc2]
      have r3 : ∀ q, (f q).cell? ⟨w.heap.size, 1, none⟩ = some (.slice (some ⟨b, o, none⟩) n c) := fun q => by rw [(eS q).cell (by simp; omega)]; exact hcl
      have r4 : ∀ q, (f q).cell? ⟨w.heap.size + 1, 1, none⟩ = some (.slice (some ⟨b2, o2, none⟩) n d) := fun q => by rw [(eS q).cell (by simp; omega)]; exact hcl2
      have hne : Nonempty T := ⟨n0⟩
      have E0 := Lib.hid e0
      have ES := Lib.hid es
      have EB := Lib.hid (fun q => HB.out.trans ((eS q).mono hws))
      have EW := Lib.hid (fun q => HBW.out.trans ((eS q).mono (by omega)))
      clear e0 es eS eT hh hc hh2 hc2
      cases k : sameOne x y
      · have hff : twins v l v' m = false := by
          rw [HE.out, ← HN.out, rangeAll_no (twinAt l m) i n hlt (by rw [HP.out, k])]; simp
        have HFF := Lib.hid hff
        have HSA := Lib.hid (same_K _ k)
        clear k same_K hff
        go_upto_region 6 with fail
        refine quiet_in f (by kernel_rfl) (by kernel_rfl) n0 E0.out ?_
        repeat (go_big_quiet_step ((first
          | (go_at_call 22; refine (HSA.out _).mono ?_; rintro e w1 ⟨rfl, hb1⟩; exact ⟨rfl, ES.out _ _ hb1⟩))))
        refine wpQuiet_nil ?_
        rintro _ ⟨q, rfl⟩
        go_wp2
        go_ret
        exact ⟨by rw [HFF.out]; rfl, EW.out _⟩
      · have hy' : (List.range (i + 1)).all (twinAt l m) = true := by rw [rangeAll_succ, HA.out, HP.out, k]; rfl
        have HY := Lib.hid hy'
        have HSA := Lib.hid (same_K _ k)
        clear k same_K hy'
        go_upto_region 6 with fail
        refine quiet_in f (by kernel_rfl) (by kernel_rfl) n0 E0.out ?_
        repeat (go_big_quiet_step ((first
          | (go_at_call 22; refine (HSA.out _).mono ?_; rintro e w1 ⟨rfl, hb1⟩; exact ⟨rfl, ES.out _ _ hb1⟩))))
        refine wpQuiet_nil ?_
        rintro _ ⟨q, rfl⟩
        go_wp2
        go_roundw
        case rel => exact ⟨i + 1, by omega, by go_num, HY.out, EB.out _⟩
        case measure => simp [intOf] <;> omega
    · obtain rfl : i = n := by omega
      have ht : twins v l v' m = true := by rw [HE.out, ← HN.out, HA.out]; have := HLM.out; have := HN.out; have := HV.out; simp; omega
      have HTR := Lib.hid ht
      clear ht
      have hd : decide ((i : Int) < i) = false := by simp
      go_wp2
      go_ret
      exact ⟨by rw [HTR.out]; rfl, HBW.out⟩
end Go.Proofs.Ytgcahcjffoehfaa
