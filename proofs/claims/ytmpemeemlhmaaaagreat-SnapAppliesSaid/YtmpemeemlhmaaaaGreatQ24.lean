/- Why something can't be done to a pool. -/
import Derived.Test.YtmpemeemlhmaaaaGreatQ14
import Derived.Test.YtmpemeemlhmaaaaGreatQ11
set_option linter.unusedSimpArgs false
set_option linter.unusedVariables false
set_option maxRecDepth 100000
namespace Go.Proofs.YtmpemeemlhmaaaaGreat
open Go.RowKit

def Opr.who (o : Opr) : List UInt8 := if o.kind = 1 then o.bk.name else o.name
def whyNot (v : Int) (l : List Bk) (o : Opr) : Int :=
  if o.kind < 1 then 1 else if 5 < o.kind then 1 else if o.kind = 1 ∧ o.bk.fair = false then 1 else if o.kind = 3 ∧ wOk o.w = false then 1
  else if o.kind = 1 ∧ hasN l o.who = true then 6 else if o.kind = 1 ∧ 1024 ≤ l.length then 7 else if o.kind ≠ 1 ∧ hasN l o.who = false then 5
  else if o.kind = 4 ∧ (gotN l o.who).drain = true then 6 else if o.kind = 5 ∧ (gotN l o.who).drain = false then 6 else if 1099511627776 ≤ v then 7 else 0
theorem rightOk_any (x : Nat) (hx : x < 18446744073709551616) (w : World) : Calls Tryz.prog 112 #[.float .f64 x] w fun e w' => e = .returned (.bool (wOk x)) ∧ w = w' := by
  rw [← wRight_eq hx]; exact right_any x w
set_option maxHeartbeats 4000000 in
set_option maxRecDepth 100000 in
theorem why_any (l : List Bk) (hs : Srt l) (v : Int) (o : Opr) (hf : o.bk.fine) (hw : o.w < 18446744073709551616) (A : Option Addr) (c : Nat) (w : World) (hR : RdK w w.heap.size A l.length l) (hn : l.length < 4611686018427387904) :
    Calls Tryz.prog 74 #[.agg #[.int .i64 v, .slice A l.length c], .agg o.arr] w fun e w' => e = .returned (.int .i64 (whyNot v l o)) ∧ Below w.heap.size w w' := by
  obtain ⟨hf1, hf2⟩ := hf
  have HS := Lib.hid hs
  have HR1 := Lib.hid (fun ob ob' => ((hR.alloc (Nat.le_refl _) ob).alloc (by simp) ob').more (B' := ((w.alloc ob).alloc ob').heap.size) (by simp; omega))
  have HB0 := Lib.hid (fun ob ob' => (((Below.refl w.heap.size w).alloc (Nat.le_refl _) ob).alloc (by simp) ob' : Below w.heap.size w ((w.alloc ob).alloc ob')))
  clear hR hs
  have hwhy : whyNot v l o = (if o.kind < 1 then 1 else if 5 < o.kind then 1 else if o.kind = 1 ∧ o.bk.fair = false then 1 else if o.kind = 3 ∧ wOk o.w = false then 1
    else if o.kind = 1 ∧ hasN l o.who = true then 6 else if o.kind = 1 ∧ 1024 ≤ l.length then 7 else if o.kind ≠ 1 ∧ hasN l o.who = false then 5
    else if o.kind = 4 ∧ (gotN l o.who).drain = true then 6 else if o.kind = 5 ∧ (gotN l o.who).drain = false then 6 else if 1099511627776 ≤ v then 7 else 0) := rfl
  have HW := Lib.hid hwhy
  clear hwhy
  by_cases h1 : o.kind = 1
  · have hwho : o.who = o.bk.name := by simp [Opr.who, h1]
    have HWHO := Lib.hid hwho
    obtain ⟨K, hK⟩ : ∃ K, o.bk.fair = K := ⟨_, rfl⟩
    have hri := fun W => right_bk o.bk W hf1 hf2
    rw [hK] at hri
    have HRI := Lib.hid hri
    have HK := Lib.hid hK
    have H1 := Lib.hid h1
    clear hwho hri hK
    go_enter Tryz.func74, Tryz.ntmps74
    go_wp2_with fail
    refine (find_any l HS.out _ v A c _ (HR1.out _ _) hn).mono ?_
    rintro e w1 ⟨rfl, hb1⟩
    obtain ⟨hx1, hx2, hx3, hx4, hx5⟩ := boxes hb1
    have hz0 : w.heap.size < w1.heap.size := by simp at hx5; omega
    have hz1 : w.heap.size + 1 < w1.heap.size := by simp at hx5; omega
    clear hx5
    have HB1 := Lib.hid ((HB0.out _ _).trans (hb1.mono (by simp; omega)))
    have HB2 := Lib.hid (HB1.out.alloc (by omega) (.cells (gotN l o.bk.name).arr 60))
    clear hb1
    go_wp2_with fail
    refine (HRI.out _).mono ?_
    rintro e w2 ⟨rfl, hb2⟩
    obtain ⟨hy1, hy2, hy3, hy4, hy5⟩ := boxes hb2
    have hz2 : w1.heap.size < w2.heap.size := by simp at hy5; omega
    have hz3 : w.heap.size < w2.heap.size := by omega
    have hz4 : w.heap.size + 1 < w2.heap.size := by omega
    clear hy5
    have HB2 := Lib.hid ((HB1.out.alloc (by omega) (.cells (gotN l o.bk.name).arr 60)).trans (hb2.mono (by simp; omega)))
    clear hb2
    cases K
    all_goals
      go_wp2_with fail
    all_goals
      go_ret
      exact ⟨by rw [HW.out, HWHO.out, HK.out, H1.out]; simp [*]; try omega, HB2.out⟩
  have hwho : o.who = o.name := by simp [Opr.who, h1]
  have HWHO := Lib.hid hwho
  have H1 := Lib.hid h1
  clear hwho
  have g1 : (o.kind == 1) = false := by simpa using h1
  have g1' : (o.kind != 1) = true := by simpa using h1
  rcases (show o.kind < 1 ∨ 5 < o.kind ∨ o.kind = 2 ∨ o.kind = 3 ∨ o.kind = 4 ∨ o.kind = 5 by omega) with h2 | h2 | h2 | h2 | h2 | h2
  · clear h1
    go_enter Tryz.func74, Tryz.ntmps74
    go_wp2_with fail
    refine (find_any l HS.out _ v A c _ (HR1.out _ _) hn).mono ?_
    rintro e w1 ⟨rfl, hb1⟩
    obtain ⟨hx1, hx2, hx3, hx4, hx5⟩ := boxes hb1
    have hz0 : w.heap.size < w1.heap.size := by simp at hx5; omega
    have hz1 : w.heap.size + 1 < w1.heap.size := by simp at hx5; omega
    clear hx5
    have HB1 := Lib.hid ((HB0.out _ _).trans (hb1.mono (by simp; omega)))
    have HB2 := Lib.hid (HB1.out.alloc (by omega) (.cells (gotN l o.name).arr 60))
    clear hb1
    go_wp2_with fail
    go_ret
    exact ⟨by rw [HW.out, HWHO.out]; simp [*], HB2.out⟩
  · clear h1
    have g2 : ¬ o.kind < 1 := by omega
    go_enter Tryz.func74, Tryz.ntmps74
    go_wp2_with fail
    refine (find_any l HS.out _ v A c _ (HR1.out _ _) hn).mono ?_
    rintro e w1 ⟨rfl, hb1⟩
    obtain ⟨hx1, hx2, hx3, hx4, hx5⟩ := boxes hb1
    have hz0 : w.heap.size < w1.heap.size := by simp at hx5; omega
    have hz1 : w.heap.size + 1 < w1.heap.size := by simp at hx5; omega
    clear hx5
    have HB1 := Lib.hid ((HB0.out _ _).trans (hb1.mono (by simp; omega)))
    have HB2 := Lib.hid (HB1.out.alloc (by omega) (.cells (gotN l o.name).arr 60))
    clear hb1
    go_wp2_with fail
    go_ret
    exact ⟨by rw [HW.out, HWHO.out]; simp [*], HB2.out⟩
  · have H2 := Lib.hid h2
    clear h1 g1 g1'
    go_enter Tryz.func74, Tryz.ntmps74
    go_wp2_with fail
    refine (find_any l HS.out _ v A c _ (HR1.out _ _) hn).mono ?_
    rintro e w1 ⟨rfl, hb1⟩
    obtain ⟨hx1, hx2, hx3, hx4, hx5⟩ := boxes hb1
    have hz0 : w.heap.size < w1.heap.size := by simp at hx5; omega
    have hz1 : w.heap.size + 1 < w1.heap.size := by simp at hx5; omega
    clear hx5
    have HB1 := Lib.hid ((HB0.out _ _).trans (hb1.mono (by simp; omega)))
    have HB2 := Lib.hid (HB1.out.alloc (by omega) (.cells (gotN l o.name).arr 60))
    clear hb1
    go_wp2_with fail
    all_goals
      go_ret
      exact ⟨by rw [HW.out, HWHO.out, H2.out]; clear hx1 hx2 hx3 hx4 HR1 HB0 HB1; first | (simp [*]; done) | (simp_all; done) | (simp_all; omega), HB2.out⟩
  · have H2 := Lib.hid h2
    clear h1 g1 g1'
    go_enter Tryz.func74, Tryz.ntmps74
    go_wp2_with fail
    refine (find_any l HS.out _ v A c _ (HR1.out _ _) hn).mono ?_
    rintro e w1 ⟨rfl, hb1⟩
    obtain ⟨hx1, hx2, hx3, hx4, hx5⟩ := boxes hb1
    have hz0 : w.heap.size < w1.heap.size := by simp at hx5; omega
    have hz1 : w.heap.size + 1 < w1.heap.size := by simp at hx5; omega
    clear hx5
    have HB1 := Lib.hid ((HB0.out _ _).trans (hb1.mono (by simp; omega)))
    have HB2 := Lib.hid (HB1.out.alloc (by omega) (.cells (gotN l o.name).arr 60))
    clear hb1
    go_wp2_with fail
    refine (rightOk_any o.w hw _).mono ?_
    rintro e w' ⟨rfl, rfl⟩
    go_wp2_with fail
    all_goals
      go_ret
      exact ⟨by rw [HW.out, HWHO.out, H2.out]; clear hx1 hx2 hx3 hx4 HR1 HB0 HB1; first | (simp [*]; done) | (simp_all; done) | (simp_all; omega), HB2.out⟩
  · have H2 := Lib.hid h2
    clear h1 g1 g1'
    go_enter Tryz.func74, Tryz.ntmps74
    go_wp2_with fail
    refine (find_any l HS.out _ v A c _ (HR1.out _ _) hn).mono ?_
    rintro e w1 ⟨rfl, hb1⟩
    obtain ⟨hx1, hx2, hx3, hx4, hx5⟩ := boxes hb1
    have hz0 : w.heap.size < w1.heap.size := by simp at hx5; omega
    have hz1 : w.heap.size + 1 < w1.heap.size := by simp at hx5; omega
    clear hx5
    have HB1 := Lib.hid ((HB0.out _ _).trans (hb1.mono (by simp; omega)))
    have HB2 := Lib.hid (HB1.out.alloc (by omega) (.cells (gotN l o.name).arr 60))
    clear hb1
    go_wp2_with fail
    all_goals
      go_ret
      exact ⟨by rw [HW.out, HWHO.out, H2.out]; clear hx1 hx2 hx3 hx4 HR1 HB0 HB1; first | (simp [*]; done) | (simp_all; done) | (simp_all; omega), HB2.out⟩
  · have H2 := Lib.hid h2
    clear h1 g1 g1'
    go_enter Tryz.func74, Tryz.ntmps74
    go_wp2_with fail
    refine (find_any l HS.out _ v A c _ (HR1.out _ _) hn).mono ?_
    rintro e w1 ⟨rfl, hb1⟩
    obtain ⟨hx1, hx2, hx3, hx4, hx5⟩ := boxes hb1
    have hz0 : w.heap.size < w1.heap.size := by simp at hx5; omega
    have hz1 : w.heap.size + 1 < w1.heap.size := by simp at hx5; omega
    clear hx5
    have HB1 := Lib.hid ((HB0.out _ _).trans (hb1.mono (by simp; omega)))
    have HB2 := Lib.hid (HB1.out.alloc (by omega) (.cells (gotN l o.name).arr 60))
    clear hb1
    go_wp2_with fail
    all_goals
      go_ret
      exact ⟨by rw [HW.out, HWHO.out, H2.out]; clear hx1 hx2 hx3 hx4 HR1 HB0 HB1; first | (simp [*]; done) | (simp_all; done) | (simp_all; omega), HB2.out⟩
end Go.Proofs.YtmpemeemlhmaaaaGreat
