/- A health behind a result: the program's way and the document's. -/
import Derived.Test.YtjeeigdbfngjaaaHeA
import Derived.Deep.CutRange
set_option linter.unusedSimpArgs false
set_option linter.unusedVariables false
namespace Go.Proofs.Ytjeeigdbfngjaaa
open Go.RowKit

def bringN (n : Int) : Int := if n < 1 then 1 else if 100 < n then 100 else n
theorem bringN_bd (n : Int) : 1 ≤ bringN n ∧ bringN n ≤ 100 := by unfold bringN; split <;> (try split) <;> omega
theorem bring_any (n : Int) (w : World) : Calls Try.prog 25 #[.int .i64 n] w fun e w' => e = .returned (.int .i64 (bringN n)) ∧ w = w' := by
  rcases (show n < 1 ∨ (1 ≤ n ∧ n ≤ 100) ∨ 100 < n by omega) with h | ⟨h1, h2⟩ | h
  · have hb := Lib.hid (show bringN n = 1 by simp [bringN, h])
    go_enter Try.func25, Try.ntmps25
    go_wp2
    go_ret
    exact ⟨by rw [hb.out]; rfl, rfl⟩
  · have hb := Lib.hid (show bringN n = n by unfold bringN; rw [if_neg (by omega), if_neg (by omega)])
    go_enter Try.func25, Try.ntmps25
    go_wp2
    go_ret
    exact ⟨by rw [hb.out]; rfl, rfl⟩
  · have hb := Lib.hid (show bringN n = 100 by unfold bringN; rw [if_neg (by omega), if_pos h])
    go_enter Try.func25, Try.ntmps25
    go_wp2
    go_ret
    exact ⟨by rw [hb.out]; rfl, rfl⟩
theorem refBring_any (n : Int) (w : World) : Calls Try.prog 26 #[.int .i64 n] w fun e w' => e = .returned (.int .i64 (bringN n)) ∧ w = w' := by
  rcases (show n < 1 ∨ (1 ≤ n ∧ n ≤ 100) ∨ 100 < n by omega) with h | ⟨h1, h2⟩ | h
  · have hb := Lib.hid (show bringN n = 1 by simp [bringN, h])
    go_enter Try.func26, Try.ntmps26
    go_wp2
    go_ret
    exact ⟨by rw [hb.out]; rfl, rfl⟩
  · have hb := Lib.hid (show bringN n = n by unfold bringN; rw [if_neg (by omega), if_neg (by omega)])
    go_enter Try.func26, Try.ntmps26
    go_wp2
    go_ret
    exact ⟨by rw [hb.out]; rfl, rfl⟩
  · have hb := Lib.hid (show bringN n = 100 by unfold bringN; rw [if_neg (by omega), if_pos h])
    go_enter Try.func26, Try.ntmps26
    go_wp2
    go_ret
    exact ⟨by rw [hb.out]; rfl, rfl⟩
/-- a health behind a result; whether it turned -/
def stepH (h : Hl) (well : Bool) (rise fall : Int) : Hl × Bool :=
  if well != h.down then ({ h with run := 0 }, false)
  else if bringN (if h.down then rise else fall) - 1 ≤ max h.run 0 then (⟨h.name, !h.down, 0⟩, true)
  else ({ h with run := max h.run 0 + 1 }, false)
def StepP (w : World) (r : Hl × Bool) (e : Ending) (w' : World) : Prop := e = .returned (.tuple #[.agg r.1.arr, .bool r.2]) ∧ Below w.heap.size w w'
theorem stepP_of {w W : World} {x : Hl} {r : Bool} {h : Hl} {well : Bool} {rise fall : Int} (hs : stepH h well rise fall = (x, r)) (hb : Below w.heap.size w W) :
    StepP w (stepH h well rise fall) (.returned (.tuple #[.agg x.arr, .bool r])) W := by rw [hs]; exact ⟨rfl, hb⟩

theorem stepH_b {h : Hl} {well : Bool} {rise fall k m : Int} (hw : well = h.down) (hk : bringN (if h.down then rise else fall) = k) (hm : max h.run 0 = m) (hle : k - 1 ≤ m) : stepH h well rise fall = (⟨h.name, !h.down, 0⟩, true) := by
  unfold stepH; rw [if_neg (by simp [hw]), hk, hm, if_pos hle]
theorem stepH_c {h : Hl} {well : Bool} {rise fall k m : Int} (hw : well = h.down) (hk : bringN (if h.down then rise else fall) = k) (hm : max h.run 0 = m) (hlt : m < k - 1) : stepH h well rise fall = (⟨h.name, h.down, m + 1⟩, false) := by
  unfold stepH; rw [if_neg (by simp [hw]), hk, hm, if_neg (by omega)]
set_option maxHeartbeats 1000000 in
set_option maxRecDepth 100000 in
theorem step_any (h : Hl) (well : Bool) (rise fall : Int) (w : World) (hh : -9223372036854775808 ≤ h.run ∧ h.run ≤ 9223372036854775807) :
    Calls Try.prog 11 #[.agg h.arr, .bool well, .int .i64 rise, .int .i64 fall] w (StepP w (stepH h well rise fall)) := by
  obtain ⟨nm, dn, rn⟩ := h
  obtain ⟨hh1, hh2⟩ := hh
  have B1 := Lib.hid (fun (ob : Obj) => (Box.new w (Hl.mk nm dn rn).arr 23).alloc ob)
  have B2 := Lib.hid (fun (ob : Obj) => Box.new1 w ob noHl.arr 23)
  have HB := Lib.hid (fun (ob ob' : Obj) => ((Below.refl w.heap.size w).alloc (Nat.le_refl _) ob).alloc (by simp) ob')
  go_enter Try.func11, Try.ntmps11
  go_wp2_with fail
  refine (bring_any _ _).mono ?_
  rintro e wz ⟨rfl, rfl⟩
  have B1 := Lib.hid (B1.out (.cells noHl.arr 23))
  have B2 := Lib.hid (B2.out (.cells (Hl.mk nm dn rn).arr 23))
  have HB := Lib.hid (HB.out (.cells (Hl.mk nm dn rn).arr 23) (.cells noHl.arr 23))
  obtain ⟨W1, hW1⟩ : ∃ W1, W1 = (w.alloc (.cells (Hl.mk nm dn rn).arr 23)).alloc (.cells noHl.arr 23) := ⟨_, rfl⟩
  rw [← hW1] at B1 B2 HB ⊢
  clear hW1
  obtain ⟨x1, x2, x3, x4⟩ := B1.out.facts
  have l1 := B1.out.lt
  have l2 := B2.out.lt
  cases dn
  · have kb := bringN_bd fall
    obtain ⟨k, hk⟩ : ∃ k, bringN fall = k := ⟨_, rfl⟩
    rw [hk] at kb ⊢
    have HK := Lib.hid hk
    clear hk
    obtain ⟨kb1, kb2⟩ := kb
    cases well
    · rcases Int.lt_or_le rn 0 with hrn | hrn
      · have HM := Lib.hid (show max rn 0 = 0 by omega)
        rcases Int.lt_or_le (0 : Int) (k - 1) with hlt | hle
        · have hne : decide (k - 1 ≤ 0) = false := by simp; omega
          have C1 := Lib.hid (show Box (W1.setCell ⟨w.heap.size, 2, none⟩ (.int .i64 (1))) w.heap.size (Hl.mk nm false (1)).arr from (B1.out).set_same 2 (.int .i64 (1)))
          have C2 := Lib.hid (show Box (W1.setCell ⟨w.heap.size, 2, none⟩ (.int .i64 (1))) (w.heap.size + 1) noHl.arr from (B2.out).set_other ⟨w.heap.size, 2, none⟩ (.int .i64 (1)) (by simp))
          obtain ⟨y1, y2, y3, y4⟩ := C1.out.facts
          have th := C2.out.there 0 3 (by rw [Hl.arr_size]; omega)
          have HBF := Lib.hid (setHl_below ((HB.out).setCell (p := ⟨w.heap.size, 2, none⟩) (Nat.le_refl _) (.int .i64 (1))) (w.heap.size + 1) 0 (Hl.mk nm false (1)) (by omega))
          have CF := Lib.hid (C2.out.putHl (Hl.arr_size _) (Hl.mk nm false (1)))
          have hs := Lib.hid (stepH_c (h := ⟨nm, false, rn⟩) (well := false) (rise := rise) (fall := fall) rfl HK.out HM.out hlt)
          go_wp2_with fail
          refine bodyPost_ret (ret_hl rfl _ _ _ _ rfl (by rw [CF.out.facts.2.2.1 0 3 (Nat.le_refl _)]; trivial)) rfl ?_
          rw [CF.out.facts.2.2.2 0 3 (Nat.le_refl _), Hl.extract_all]
          exact stepP_of hs.out HBF.out
        · have hye : decide (k - 1 ≤ 0) = true := by simp; omega
          have C1 := Lib.hid (show Box ((W1.setCell ⟨w.heap.size, 1, none⟩ (.bool true)).setCell ⟨w.heap.size, 2, none⟩ (.int .i64 0)) w.heap.size (Hl.mk nm true 0).arr from ((B1.out).set_same 1 (.bool true)).set_same 2 (.int .i64 0))
          have C2 := Lib.hid (show Box ((W1.setCell ⟨w.heap.size, 1, none⟩ (.bool true)).setCell ⟨w.heap.size, 2, none⟩ (.int .i64 0)) (w.heap.size + 1) noHl.arr from ((B2.out).set_other ⟨w.heap.size, 1, none⟩ (.bool true) (by simp)).set_other ⟨w.heap.size, 2, none⟩ (.int .i64 0) (by simp))
          obtain ⟨y1, y2, y3, y4⟩ := C1.out.facts
          have th := C2.out.there 0 3 (by rw [Hl.arr_size]; omega)
          obtain ⟨z1, z2, z3, z4⟩ := (B1.out.set_same 1 (.bool true)).facts
          have HBF := Lib.hid (setHl_below (((HB.out).setCell (p := ⟨w.heap.size, 1, none⟩) (Nat.le_refl _) (.bool true)).setCell (p := ⟨w.heap.size, 2, none⟩) (Nat.le_refl _) (.int .i64 0)) (w.heap.size + 1) 0 (Hl.mk nm true 0) (by omega))
          have CF := Lib.hid (C2.out.putHl (Hl.arr_size _) (Hl.mk nm true 0))
          have hs := Lib.hid (stepH_b (h := ⟨nm, false, rn⟩) (well := false) (rise := rise) (fall := fall) rfl HK.out HM.out hle)
          go_wp2_with fail
          refine bodyPost_ret (ret_hl rfl _ _ _ _ rfl (by rw [CF.out.facts.2.2.1 0 3 (Nat.le_refl _)]; trivial)) rfl ?_
          rw [CF.out.facts.2.2.2 0 3 (Nat.le_refl _), Hl.extract_all]
          exact stepP_of hs.out HBF.out
      · have HM := Lib.hid (show max rn 0 = rn by omega)
        rcases Int.lt_or_le rn (k - 1) with hlt | hle
        · have hne : decide (k - 1 ≤ rn) = false := by simp; omega
          have C1 := Lib.hid (show Box (W1.setCell ⟨w.heap.size, 2, none⟩ (.int .i64 (rn + 1))) w.heap.size (Hl.mk nm false (rn + 1)).arr from (B1.out).set_same 2 (.int .i64 (rn + 1)))
          have C2 := Lib.hid (show Box (W1.setCell ⟨w.heap.size, 2, none⟩ (.int .i64 (rn + 1))) (w.heap.size + 1) noHl.arr from (B2.out).set_other ⟨w.heap.size, 2, none⟩ (.int .i64 (rn + 1)) (by simp))
          obtain ⟨y1, y2, y3, y4⟩ := C1.out.facts
          have th := C2.out.there 0 3 (by rw [Hl.arr_size]; omega)
          have HBF := Lib.hid (setHl_below ((HB.out).setCell (p := ⟨w.heap.size, 2, none⟩) (Nat.le_refl _) (.int .i64 (rn + 1))) (w.heap.size + 1) 0 (Hl.mk nm false (rn + 1)) (by omega))
          have CF := Lib.hid (C2.out.putHl (Hl.arr_size _) (Hl.mk nm false (rn + 1)))
          have hs := Lib.hid (stepH_c (h := ⟨nm, false, rn⟩) (well := false) (rise := rise) (fall := fall) rfl HK.out HM.out hlt)
          go_wp2_with fail
          refine bodyPost_ret (ret_hl rfl _ _ _ _ rfl (by rw [CF.out.facts.2.2.1 0 3 (Nat.le_refl _)]; trivial)) rfl ?_
          rw [CF.out.facts.2.2.2 0 3 (Nat.le_refl _), Hl.extract_all]
          exact stepP_of hs.out HBF.out
        · have hye : decide (k - 1 ≤ rn) = true := by simp; omega
          have C1 := Lib.hid (show Box ((W1.setCell ⟨w.heap.size, 1, none⟩ (.bool true)).setCell ⟨w.heap.size, 2, none⟩ (.int .i64 0)) w.heap.size (Hl.mk nm true 0).arr from ((B1.out).set_same 1 (.bool true)).set_same 2 (.int .i64 0))
          have C2 := Lib.hid (show Box ((W1.setCell ⟨w.heap.size, 1, none⟩ (.bool true)).setCell ⟨w.heap.size, 2, none⟩ (.int .i64 0)) (w.heap.size + 1) noHl.arr from ((B2.out).set_other ⟨w.heap.size, 1, none⟩ (.bool true) (by simp)).set_other ⟨w.heap.size, 2, none⟩ (.int .i64 0) (by simp))
          obtain ⟨y1, y2, y3, y4⟩ := C1.out.facts
          have th := C2.out.there 0 3 (by rw [Hl.arr_size]; omega)
          obtain ⟨z1, z2, z3, z4⟩ := (B1.out.set_same 1 (.bool true)).facts
          have HBF := Lib.hid (setHl_below (((HB.out).setCell (p := ⟨w.heap.size, 1, none⟩) (Nat.le_refl _) (.bool true)).setCell (p := ⟨w.heap.size, 2, none⟩) (Nat.le_refl _) (.int .i64 0)) (w.heap.size + 1) 0 (Hl.mk nm true 0) (by omega))
          have CF := Lib.hid (C2.out.putHl (Hl.arr_size _) (Hl.mk nm true 0))
          have hs := Lib.hid (stepH_b (h := ⟨nm, false, rn⟩) (well := false) (rise := rise) (fall := fall) rfl HK.out HM.out hle)
          go_wp2_with fail
          refine bodyPost_ret (ret_hl rfl _ _ _ _ rfl (by rw [CF.out.facts.2.2.1 0 3 (Nat.le_refl _)]; trivial)) rfl ?_
          rw [CF.out.facts.2.2.2 0 3 (Nat.le_refl _), Hl.extract_all]
          exact stepP_of hs.out HBF.out
    · have hbn : ((true : Bool) != false) = true := rfl
      rcases Int.lt_or_le rn 0 with hrn | hrn
      · skip
        have C1 := Lib.hid (show Box (W1.setCell ⟨w.heap.size, 2, none⟩ (.int .i64 0)) w.heap.size (Hl.mk nm false 0).arr from (B1.out).set_same 2 (.int .i64 0))
        have C2 := Lib.hid (show Box (W1.setCell ⟨w.heap.size, 2, none⟩ (.int .i64 0)) (w.heap.size + 1) noHl.arr from (B2.out).set_other ⟨w.heap.size, 2, none⟩ (.int .i64 0) (by simp))
        obtain ⟨y1, y2, y3, y4⟩ := C1.out.facts
        have th := C2.out.there 0 3 (by rw [Hl.arr_size]; omega)
        have HBF := Lib.hid (setHl_below ((HB.out).setCell (p := ⟨w.heap.size, 2, none⟩) (Nat.le_refl _) (.int .i64 0)) (w.heap.size + 1) 0 (Hl.mk nm false 0) (by omega))
        have CF := Lib.hid (C2.out.putHl (Hl.arr_size _) (Hl.mk nm false 0))
        have hs := Lib.hid (show stepH ⟨nm, false, rn⟩ true rise fall = (⟨nm, false, 0⟩, false) from rfl)
        go_wp2_with fail
        refine bodyPost_ret (ret_hl rfl _ _ _ _ rfl (by rw [CF.out.facts.2.2.1 0 3 (Nat.le_refl _)]; trivial)) rfl ?_
        rw [CF.out.facts.2.2.2 0 3 (Nat.le_refl _), Hl.extract_all]
        exact stepP_of hs.out HBF.out
      · skip
        have C1 := Lib.hid (show Box (W1.setCell ⟨w.heap.size, 2, none⟩ (.int .i64 0)) w.heap.size (Hl.mk nm false 0).arr from (B1.out).set_same 2 (.int .i64 0))
        have C2 := Lib.hid (show Box (W1.setCell ⟨w.heap.size, 2, none⟩ (.int .i64 0)) (w.heap.size + 1) noHl.arr from (B2.out).set_other ⟨w.heap.size, 2, none⟩ (.int .i64 0) (by simp))
        obtain ⟨y1, y2, y3, y4⟩ := C1.out.facts
        have th := C2.out.there 0 3 (by rw [Hl.arr_size]; omega)
        have HBF := Lib.hid (setHl_below ((HB.out).setCell (p := ⟨w.heap.size, 2, none⟩) (Nat.le_refl _) (.int .i64 0)) (w.heap.size + 1) 0 (Hl.mk nm false 0) (by omega))
        have CF := Lib.hid (C2.out.putHl (Hl.arr_size _) (Hl.mk nm false 0))
        have hs := Lib.hid (show stepH ⟨nm, false, rn⟩ true rise fall = (⟨nm, false, 0⟩, false) from rfl)
        go_wp2_with fail
        refine bodyPost_ret (ret_hl rfl _ _ _ _ rfl (by rw [CF.out.facts.2.2.1 0 3 (Nat.le_refl _)]; trivial)) rfl ?_
        rw [CF.out.facts.2.2.2 0 3 (Nat.le_refl _), Hl.extract_all]
        exact stepP_of hs.out HBF.out
  · have kb := bringN_bd rise
    obtain ⟨k, hk⟩ : ∃ k, bringN rise = k := ⟨_, rfl⟩
    go_wp2_with fail
    refine (bring_any _ _).mono ?_
    rintro e wz ⟨rfl, rfl⟩
    rw [hk] at kb ⊢
    have HK := Lib.hid hk
    clear hk
    obtain ⟨kb1, kb2⟩ := kb
    cases well
    · have hbn : ((false : Bool) != true) = true := rfl
      rcases Int.lt_or_le rn 0 with hrn | hrn
      · skip
        have C1 := Lib.hid (show Box (W1.setCell ⟨w.heap.size, 2, none⟩ (.int .i64 0)) w.heap.size (Hl.mk nm true 0).arr from (B1.out).set_same 2 (.int .i64 0))
        have C2 := Lib.hid (show Box (W1.setCell ⟨w.heap.size, 2, none⟩ (.int .i64 0)) (w.heap.size + 1) noHl.arr from (B2.out).set_other ⟨w.heap.size, 2, none⟩ (.int .i64 0) (by simp))
        obtain ⟨y1, y2, y3, y4⟩ := C1.out.facts
        have th := C2.out.there 0 3 (by rw [Hl.arr_size]; omega)
        have HBF := Lib.hid (setHl_below ((HB.out).setCell (p := ⟨w.heap.size, 2, none⟩) (Nat.le_refl _) (.int .i64 0)) (w.heap.size + 1) 0 (Hl.mk nm true 0) (by omega))
        have CF := Lib.hid (C2.out.putHl (Hl.arr_size _) (Hl.mk nm true 0))
        have hs := Lib.hid (show stepH ⟨nm, true, rn⟩ false rise fall = (⟨nm, true, 0⟩, false) from rfl)
        go_wp2_with fail
        refine bodyPost_ret (ret_hl rfl _ _ _ _ rfl (by rw [CF.out.facts.2.2.1 0 3 (Nat.le_refl _)]; trivial)) rfl ?_
        rw [CF.out.facts.2.2.2 0 3 (Nat.le_refl _), Hl.extract_all]
        exact stepP_of hs.out HBF.out
      · skip
        have C1 := Lib.hid (show Box (W1.setCell ⟨w.heap.size, 2, none⟩ (.int .i64 0)) w.heap.size (Hl.mk nm true 0).arr from (B1.out).set_same 2 (.int .i64 0))
        have C2 := Lib.hid (show Box (W1.setCell ⟨w.heap.size, 2, none⟩ (.int .i64 0)) (w.heap.size + 1) noHl.arr from (B2.out).set_other ⟨w.heap.size, 2, none⟩ (.int .i64 0) (by simp))
        obtain ⟨y1, y2, y3, y4⟩ := C1.out.facts
        have th := C2.out.there 0 3 (by rw [Hl.arr_size]; omega)
        have HBF := Lib.hid (setHl_below ((HB.out).setCell (p := ⟨w.heap.size, 2, none⟩) (Nat.le_refl _) (.int .i64 0)) (w.heap.size + 1) 0 (Hl.mk nm true 0) (by omega))
        have CF := Lib.hid (C2.out.putHl (Hl.arr_size _) (Hl.mk nm true 0))
        have hs := Lib.hid (show stepH ⟨nm, true, rn⟩ false rise fall = (⟨nm, true, 0⟩, false) from rfl)
        go_wp2_with fail
        refine bodyPost_ret (ret_hl rfl _ _ _ _ rfl (by rw [CF.out.facts.2.2.1 0 3 (Nat.le_refl _)]; trivial)) rfl ?_
        rw [CF.out.facts.2.2.2 0 3 (Nat.le_refl _), Hl.extract_all]
        exact stepP_of hs.out HBF.out
    · rcases Int.lt_or_le rn 0 with hrn | hrn
      · have HM := Lib.hid (show max rn 0 = 0 by omega)
        rcases Int.lt_or_le (0 : Int) (k - 1) with hlt | hle
        · have hne : decide (k - 1 ≤ 0) = false := by simp; omega
          have C1 := Lib.hid (show Box (W1.setCell ⟨w.heap.size, 2, none⟩ (.int .i64 (1))) w.heap.size (Hl.mk nm true (1)).arr from (B1.out).set_same 2 (.int .i64 (1)))
          have C2 := Lib.hid (show Box (W1.setCell ⟨w.heap.size, 2, none⟩ (.int .i64 (1))) (w.heap.size + 1) noHl.arr from (B2.out).set_other ⟨w.heap.size, 2, none⟩ (.int .i64 (1)) (by simp))
          obtain ⟨y1, y2, y3, y4⟩ := C1.out.facts
          have th := C2.out.there 0 3 (by rw [Hl.arr_size]; omega)
          have HBF := Lib.hid (setHl_below ((HB.out).setCell (p := ⟨w.heap.size, 2, none⟩) (Nat.le_refl _) (.int .i64 (1))) (w.heap.size + 1) 0 (Hl.mk nm true (1)) (by omega))
          have CF := Lib.hid (C2.out.putHl (Hl.arr_size _) (Hl.mk nm true (1)))
          have hs := Lib.hid (stepH_c (h := ⟨nm, true, rn⟩) (well := true) (rise := rise) (fall := fall) rfl HK.out HM.out hlt)
          go_wp2_with fail
          refine bodyPost_ret (ret_hl rfl _ _ _ _ rfl (by rw [CF.out.facts.2.2.1 0 3 (Nat.le_refl _)]; trivial)) rfl ?_
          rw [CF.out.facts.2.2.2 0 3 (Nat.le_refl _), Hl.extract_all]
          exact stepP_of hs.out HBF.out
        · have hye : decide (k - 1 ≤ 0) = true := by simp; omega
          have C1 := Lib.hid (show Box ((W1.setCell ⟨w.heap.size, 1, none⟩ (.bool false)).setCell ⟨w.heap.size, 2, none⟩ (.int .i64 0)) w.heap.size (Hl.mk nm false 0).arr from ((B1.out).set_same 1 (.bool false)).set_same 2 (.int .i64 0))
          have C2 := Lib.hid (show Box ((W1.setCell ⟨w.heap.size, 1, none⟩ (.bool false)).setCell ⟨w.heap.size, 2, none⟩ (.int .i64 0)) (w.heap.size + 1) noHl.arr from ((B2.out).set_other ⟨w.heap.size, 1, none⟩ (.bool false) (by simp)).set_other ⟨w.heap.size, 2, none⟩ (.int .i64 0) (by simp))
          obtain ⟨y1, y2, y3, y4⟩ := C1.out.facts
          have th := C2.out.there 0 3 (by rw [Hl.arr_size]; omega)
          obtain ⟨z1, z2, z3, z4⟩ := (B1.out.set_same 1 (.bool false)).facts
          have HBF := Lib.hid (setHl_below (((HB.out).setCell (p := ⟨w.heap.size, 1, none⟩) (Nat.le_refl _) (.bool false)).setCell (p := ⟨w.heap.size, 2, none⟩) (Nat.le_refl _) (.int .i64 0)) (w.heap.size + 1) 0 (Hl.mk nm false 0) (by omega))
          have CF := Lib.hid (C2.out.putHl (Hl.arr_size _) (Hl.mk nm false 0))
          have hs := Lib.hid (stepH_b (h := ⟨nm, true, rn⟩) (well := true) (rise := rise) (fall := fall) rfl HK.out HM.out hle)
          go_wp2_with fail
          refine bodyPost_ret (ret_hl rfl _ _ _ _ rfl (by rw [CF.out.facts.2.2.1 0 3 (Nat.le_refl _)]; trivial)) rfl ?_
          rw [CF.out.facts.2.2.2 0 3 (Nat.le_refl _), Hl.extract_all]
          exact stepP_of hs.out HBF.out
      · have HM := Lib.hid (show max rn 0 = rn by omega)
        rcases Int.lt_or_le rn (k - 1) with hlt | hle
        · have hne : decide (k - 1 ≤ rn) = false := by simp; omega
          have C1 := Lib.hid (show Box (W1.setCell ⟨w.heap.size, 2, none⟩ (.int .i64 (rn + 1))) w.heap.size (Hl.mk nm true (rn + 1)).arr from (B1.out).set_same 2 (.int .i64 (rn + 1)))
          have C2 := Lib.hid (show Box (W1.setCell ⟨w.heap.size, 2, none⟩ (.int .i64 (rn + 1))) (w.heap.size + 1) noHl.arr from (B2.out).set_other ⟨w.heap.size, 2, none⟩ (.int .i64 (rn + 1)) (by simp))
          obtain ⟨y1, y2, y3, y4⟩ := C1.out.facts
          have th := C2.out.there 0 3 (by rw [Hl.arr_size]; omega)
          have HBF := Lib.hid (setHl_below ((HB.out).setCell (p := ⟨w.heap.size, 2, none⟩) (Nat.le_refl _) (.int .i64 (rn + 1))) (w.heap.size + 1) 0 (Hl.mk nm true (rn + 1)) (by omega))
          have CF := Lib.hid (C2.out.putHl (Hl.arr_size _) (Hl.mk nm true (rn + 1)))
          have hs := Lib.hid (stepH_c (h := ⟨nm, true, rn⟩) (well := true) (rise := rise) (fall := fall) rfl HK.out HM.out hlt)
          go_wp2_with fail
          refine bodyPost_ret (ret_hl rfl _ _ _ _ rfl (by rw [CF.out.facts.2.2.1 0 3 (Nat.le_refl _)]; trivial)) rfl ?_
          rw [CF.out.facts.2.2.2 0 3 (Nat.le_refl _), Hl.extract_all]
          exact stepP_of hs.out HBF.out
        · have hye : decide (k - 1 ≤ rn) = true := by simp; omega
          have C1 := Lib.hid (show Box ((W1.setCell ⟨w.heap.size, 1, none⟩ (.bool false)).setCell ⟨w.heap.size, 2, none⟩ (.int .i64 0)) w.heap.size (Hl.mk nm false 0).arr from ((B1.out).set_same 1 (.bool false)).set_same 2 (.int .i64 0))
          have C2 := Lib.hid (show Box ((W1.setCell ⟨w.heap.size, 1, none⟩ (.bool false)).setCell ⟨w.heap.size, 2, none⟩ (.int .i64 0)) (w.heap.size + 1) noHl.arr from ((B2.out).set_other ⟨w.heap.size, 1, none⟩ (.bool false) (by simp)).set_other ⟨w.heap.size, 2, none⟩ (.int .i64 0) (by simp))
          obtain ⟨y1, y2, y3, y4⟩ := C1.out.facts
          have th := C2.out.there 0 3 (by rw [Hl.arr_size]; omega)
          obtain ⟨z1, z2, z3, z4⟩ := (B1.out.set_same 1 (.bool false)).facts
          have HBF := Lib.hid (setHl_below (((HB.out).setCell (p := ⟨w.heap.size, 1, none⟩) (Nat.le_refl _) (.bool false)).setCell (p := ⟨w.heap.size, 2, none⟩) (Nat.le_refl _) (.int .i64 0)) (w.heap.size + 1) 0 (Hl.mk nm false 0) (by omega))
          have CF := Lib.hid (C2.out.putHl (Hl.arr_size _) (Hl.mk nm false 0))
          have hs := Lib.hid (stepH_b (h := ⟨nm, true, rn⟩) (well := true) (rise := rise) (fall := fall) rfl HK.out HM.out hle)
          go_wp2_with fail
          refine bodyPost_ret (ret_hl rfl _ _ _ _ rfl (by rw [CF.out.facts.2.2.1 0 3 (Nat.le_refl _)]; trivial)) rfl ?_
          rw [CF.out.facts.2.2.2 0 3 (Nat.le_refl _), Hl.extract_all]
          exact stepP_of hs.out HBF.out
set_option maxHeartbeats 1000000 in
set_option maxRecDepth 100000 in
theorem refStep_any (h : Hl) (well : Bool) (rise fall : Int) (w : World) (hh : -9223372036854775808 ≤ h.run ∧ h.run ≤ 9223372036854775807) :
    Calls Try.prog 12 #[.agg h.arr, .bool well, .int .i64 rise, .int .i64 fall] w (StepP w (stepH h well rise fall)) := by
  obtain ⟨nm, dn, rn⟩ := h
  obtain ⟨hh1, hh2⟩ := hh
  have B1 := Lib.hid (fun (ob : Obj) => (Box.new w (Hl.mk nm dn rn).arr 23).alloc ob)
  have B2 := Lib.hid (fun (ob : Obj) => Box.new1 w ob noHl.arr 23)
  have HB := Lib.hid (fun (ob ob' : Obj) => ((Below.refl w.heap.size w).alloc (Nat.le_refl _) ob).alloc (by simp) ob')
  go_enter Try.func12, Try.ntmps12
  go_upto_region 1 with (fail)
  have B1 := Lib.hid (B1.out (.cells noHl.arr 23))
  have B2 := Lib.hid (B2.out (.cells (Hl.mk nm dn rn).arr 23))
  have HB := Lib.hid (HB.out (.cells (Hl.mk nm dn rn).arr 23) (.cells noHl.arr 23))
  obtain ⟨W1, hW1⟩ : ∃ W1, W1 = (w.alloc (.cells (Hl.mk nm dn rn).arr 23)).alloc (.cells noHl.arr 23) := ⟨_, rfl⟩
  rw [← hW1] at B1 B2 HB ⊢
  clear hW1
  obtain ⟨x1, x2, x3, x4⟩ := B1.out.facts
  have l1 := B1.out.lt
  have l2 := B2.out.lt
  cases dn
  · have kb := bringN_bd fall
    obtain ⟨k, hk⟩ : ∃ k, bringN fall = k := ⟨_, rfl⟩
    rw [hk] at kb
    have HK := Lib.hid hk
    clear hk
    obtain ⟨kb1, kb2⟩ := kb
    rcases Int.lt_or_le rn 0 with hrn | hrn
    · have HM := Lib.hid (show max rn 0 = 0 by omega)
      cases well
      · rcases Int.lt_or_le (0 : Int) (k - 1) with hlt | hle
        · have hne : decide (k ≤ 1) = false := by simp; omega
          have hg : decide (1000 < 0) = false := decide_eq_false (by omega)
          have th := B2.out.there 0 3 (by rw [Hl.arr_size]; omega)
          have HBF := Lib.hid (setHl_below HB.out (w.heap.size + 1) 0 (Hl.mk nm false (1)) (by omega))
          have CF := Lib.hid (B2.out.putHl (Hl.arr_size _) (Hl.mk nm false (1)))
          have hs := Lib.hid (stepH_c (h := ⟨nm, false, rn⟩) (well := false) (rise := rise) (fall := fall) rfl HK.out HM.out hlt)
          go_wp2_with fail
          refine (refBring_any _ _).mono ?_
          rintro e wz ⟨rfl, rfl⟩
          rw [HK.out]
          go_wp2_with fail
          all_goals
            refine bodyPost_ret (ret_hl rfl _ _ _ _ rfl (by rw [CF.out.facts.2.2.1 0 3 (Nat.le_refl _)]; trivial)) rfl ?_
            rw [CF.out.facts.2.2.2 0 3 (Nat.le_refl _), Hl.extract_all]
            exact stepP_of hs.out HBF.out
        · have hye : decide (k ≤ 1) = true := decide_eq_true (by omega)
          have th := B2.out.there 0 3 (by rw [Hl.arr_size]; omega)
          have HBF := Lib.hid (setHl_below HB.out (w.heap.size + 1) 0 (Hl.mk nm true 0) (by omega))
          have CF := Lib.hid (B2.out.putHl (Hl.arr_size _) (Hl.mk nm true 0))
          have hs := Lib.hid (stepH_b (h := ⟨nm, false, rn⟩) (well := false) (rise := rise) (fall := fall) rfl HK.out HM.out hle)
          go_wp2_with fail
          refine (refBring_any _ _).mono ?_
          rintro e wz ⟨rfl, rfl⟩
          rw [HK.out]
          go_wp2_with fail
          all_goals
            refine bodyPost_ret (ret_hl rfl _ _ _ _ rfl (by rw [CF.out.facts.2.2.1 0 3 (Nat.le_refl _)]; trivial)) rfl ?_
            rw [CF.out.facts.2.2.2 0 3 (Nat.le_refl _), Hl.extract_all]
            exact stepP_of hs.out HBF.out
      · skip
        have th := B2.out.there 0 3 (by rw [Hl.arr_size]; omega)
        have HBF := Lib.hid (setHl_below HB.out (w.heap.size + 1) 0 (Hl.mk nm false 0) (by omega))
        have CF := Lib.hid (B2.out.putHl (Hl.arr_size _) (Hl.mk nm false 0))
        have hs := Lib.hid (show stepH ⟨nm, false, rn⟩ true rise fall = (⟨nm, false, 0⟩, false) from rfl)
        go_wp2_with fail
        all_goals
          refine bodyPost_ret (ret_hl rfl _ _ _ _ rfl (by rw [CF.out.facts.2.2.1 0 3 (Nat.le_refl _)]; trivial)) rfl ?_
          rw [CF.out.facts.2.2.2 0 3 (Nat.le_refl _), Hl.extract_all]
          exact stepP_of hs.out HBF.out
    · have HM := Lib.hid (show max rn 0 = rn by omega)
      cases well
      · rcases Int.lt_or_le rn (k - 1) with hlt | hle
        · have hne : decide (k ≤ rn + 1) = false := by simp; omega
          have hg : decide (1000 < rn) = false := decide_eq_false (by omega)
          have hov : rn < 9223372036854775807 := by omega
          have th := B2.out.there 0 3 (by rw [Hl.arr_size]; omega)
          have HBF := Lib.hid (setHl_below HB.out (w.heap.size + 1) 0 (Hl.mk nm false (rn + 1)) (by omega))
          have CF := Lib.hid (B2.out.putHl (Hl.arr_size _) (Hl.mk nm false (rn + 1)))
          have hs := Lib.hid (stepH_c (h := ⟨nm, false, rn⟩) (well := false) (rise := rise) (fall := fall) rfl HK.out HM.out hlt)
          go_wp2_with fail
          refine (refBring_any _ _).mono ?_
          rintro e wz ⟨rfl, rfl⟩
          rw [HK.out]
          go_wp2_with fail
          all_goals
            refine bodyPost_ret (ret_hl rfl _ _ _ _ rfl (by rw [CF.out.facts.2.2.1 0 3 (Nat.le_refl _)]; trivial)) rfl ?_
            rw [CF.out.facts.2.2.2 0 3 (Nat.le_refl _), Hl.extract_all]
            exact stepP_of hs.out HBF.out
        · rcases Int.lt_or_le rn 9223372036854775807 with hov | hov
          · have hye : decide (k ≤ rn + 1) = true := by simp; omega
            have th := B2.out.there 0 3 (by rw [Hl.arr_size]; omega)
            have HBF := Lib.hid (setHl_below HB.out (w.heap.size + 1) 0 (Hl.mk nm true 0) (by omega))
            have CF := Lib.hid (B2.out.putHl (Hl.arr_size _) (Hl.mk nm true 0))
            have hs := Lib.hid (stepH_b (h := ⟨nm, false, rn⟩) (well := false) (rise := rise) (fall := fall) rfl HK.out HM.out hle)
            go_wp2_with fail
            refine (refBring_any _ _).mono ?_
            rintro e wz ⟨rfl, rfl⟩
            rw [HK.out]
            go_wp2_with fail
            all_goals
              refine bodyPost_ret (ret_hl rfl _ _ _ _ rfl (by rw [CF.out.facts.2.2.1 0 3 (Nat.le_refl _)]; trivial)) rfl ?_
              rw [CF.out.facts.2.2.2 0 3 (Nat.le_refl _), Hl.extract_all]
              exact stepP_of hs.out HBF.out
          · have hge : decide (1000 < rn) = true := by simp; omega
            have th := B2.out.there 0 3 (by rw [Hl.arr_size]; omega)
            have HBF := Lib.hid (setHl_below HB.out (w.heap.size + 1) 0 (Hl.mk nm true 0) (by omega))
            have CF := Lib.hid (B2.out.putHl (Hl.arr_size _) (Hl.mk nm true 0))
            have hs := Lib.hid (stepH_b (h := ⟨nm, false, rn⟩) (well := false) (rise := rise) (fall := fall) rfl HK.out HM.out hle)
            go_wp2_with fail
            refine (refBring_any _ _).mono ?_
            rintro e wz ⟨rfl, rfl⟩
            rw [HK.out]
            go_wp2_with fail
            all_goals
              refine bodyPost_ret (ret_hl rfl _ _ _ _ rfl (by rw [CF.out.facts.2.2.1 0 3 (Nat.le_refl _)]; trivial)) rfl ?_
              rw [CF.out.facts.2.2.2 0 3 (Nat.le_refl _), Hl.extract_all]
              exact stepP_of hs.out HBF.out
      · skip
        have th := B2.out.there 0 3 (by rw [Hl.arr_size]; omega)
        have HBF := Lib.hid (setHl_below HB.out (w.heap.size + 1) 0 (Hl.mk nm false 0) (by omega))
        have CF := Lib.hid (B2.out.putHl (Hl.arr_size _) (Hl.mk nm false 0))
        have hs := Lib.hid (show stepH ⟨nm, false, rn⟩ true rise fall = (⟨nm, false, 0⟩, false) from rfl)
        go_wp2_with fail
        all_goals
          refine bodyPost_ret (ret_hl rfl _ _ _ _ rfl (by rw [CF.out.facts.2.2.1 0 3 (Nat.le_refl _)]; trivial)) rfl ?_
          rw [CF.out.facts.2.2.2 0 3 (Nat.le_refl _), Hl.extract_all]
          exact stepP_of hs.out HBF.out
  · have kb := bringN_bd rise
    obtain ⟨k, hk⟩ : ∃ k, bringN rise = k := ⟨_, rfl⟩
    rw [hk] at kb
    have HK := Lib.hid hk
    clear hk
    obtain ⟨kb1, kb2⟩ := kb
    rcases Int.lt_or_le rn 0 with hrn | hrn
    · have HM := Lib.hid (show max rn 0 = 0 by omega)
      cases well
      · skip
        have th := B2.out.there 0 3 (by rw [Hl.arr_size]; omega)
        have HBF := Lib.hid (setHl_below HB.out (w.heap.size + 1) 0 (Hl.mk nm true 0) (by omega))
        have CF := Lib.hid (B2.out.putHl (Hl.arr_size _) (Hl.mk nm true 0))
        have hs := Lib.hid (show stepH ⟨nm, true, rn⟩ false rise fall = (⟨nm, true, 0⟩, false) from rfl)
        go_wp2_with fail
        all_goals
          refine bodyPost_ret (ret_hl rfl _ _ _ _ rfl (by rw [CF.out.facts.2.2.1 0 3 (Nat.le_refl _)]; trivial)) rfl ?_
          rw [CF.out.facts.2.2.2 0 3 (Nat.le_refl _), Hl.extract_all]
          exact stepP_of hs.out HBF.out
      · rcases Int.lt_or_le (0 : Int) (k - 1) with hlt | hle
        · have hne : decide (k ≤ 1) = false := by simp; omega
          have hg : decide (1000 < 0) = false := decide_eq_false (by omega)
          have th := B2.out.there 0 3 (by rw [Hl.arr_size]; omega)
          have HBF := Lib.hid (setHl_below HB.out (w.heap.size + 1) 0 (Hl.mk nm true (1)) (by omega))
          have CF := Lib.hid (B2.out.putHl (Hl.arr_size _) (Hl.mk nm true (1)))
          have hs := Lib.hid (stepH_c (h := ⟨nm, true, rn⟩) (well := true) (rise := rise) (fall := fall) rfl HK.out HM.out hlt)
          go_wp2_with fail
          refine (refBring_any _ _).mono ?_
          rintro e wz ⟨rfl, rfl⟩
          rw [HK.out]
          go_wp2_with fail
          all_goals
            refine bodyPost_ret (ret_hl rfl _ _ _ _ rfl (by rw [CF.out.facts.2.2.1 0 3 (Nat.le_refl _)]; trivial)) rfl ?_
            rw [CF.out.facts.2.2.2 0 3 (Nat.le_refl _), Hl.extract_all]
            exact stepP_of hs.out HBF.out
        · have hye : decide (k ≤ 1) = true := decide_eq_true (by omega)
          have th := B2.out.there 0 3 (by rw [Hl.arr_size]; omega)
          have HBF := Lib.hid (setHl_below HB.out (w.heap.size + 1) 0 (Hl.mk nm false 0) (by omega))
          have CF := Lib.hid (B2.out.putHl (Hl.arr_size _) (Hl.mk nm false 0))
          have hs := Lib.hid (stepH_b (h := ⟨nm, true, rn⟩) (well := true) (rise := rise) (fall := fall) rfl HK.out HM.out hle)
          go_wp2_with fail
          refine (refBring_any _ _).mono ?_
          rintro e wz ⟨rfl, rfl⟩
          rw [HK.out]
          go_wp2_with fail
          all_goals
            refine bodyPost_ret (ret_hl rfl _ _ _ _ rfl (by rw [CF.out.facts.2.2.1 0 3 (Nat.le_refl _)]; trivial)) rfl ?_
            rw [CF.out.facts.2.2.2 0 3 (Nat.le_refl _), Hl.extract_all]
            exact stepP_of hs.out HBF.out
    · have HM := Lib.hid (show max rn 0 = rn by omega)
      cases well
      · skip
        have th := B2.out.there 0 3 (by rw [Hl.arr_size]; omega)
        have HBF := Lib.hid (setHl_below HB.out (w.heap.size + 1) 0 (Hl.mk nm true 0) (by omega))
        have CF := Lib.hid (B2.out.putHl (Hl.arr_size _) (Hl.mk nm true 0))
        have hs := Lib.hid (show stepH ⟨nm, true, rn⟩ false rise fall = (⟨nm, true, 0⟩, false) from rfl)
        go_wp2_with fail
        all_goals
          refine bodyPost_ret (ret_hl rfl _ _ _ _ rfl (by rw [CF.out.facts.2.2.1 0 3 (Nat.le_refl _)]; trivial)) rfl ?_
          rw [CF.out.facts.2.2.2 0 3 (Nat.le_refl _), Hl.extract_all]
          exact stepP_of hs.out HBF.out
      · rcases Int.lt_or_le rn (k - 1) with hlt | hle
        · have hne : decide (k ≤ rn + 1) = false := by simp; omega
          have hg : decide (1000 < rn) = false := decide_eq_false (by omega)
          have hov : rn < 9223372036854775807 := by omega
          have th := B2.out.there 0 3 (by rw [Hl.arr_size]; omega)
          have HBF := Lib.hid (setHl_below HB.out (w.heap.size + 1) 0 (Hl.mk nm true (rn + 1)) (by omega))
          have CF := Lib.hid (B2.out.putHl (Hl.arr_size _) (Hl.mk nm true (rn + 1)))
          have hs := Lib.hid (stepH_c (h := ⟨nm, true, rn⟩) (well := true) (rise := rise) (fall := fall) rfl HK.out HM.out hlt)
          go_wp2_with fail
          refine (refBring_any _ _).mono ?_
          rintro e wz ⟨rfl, rfl⟩
          rw [HK.out]
          go_wp2_with fail
          all_goals
            refine bodyPost_ret (ret_hl rfl _ _ _ _ rfl (by rw [CF.out.facts.2.2.1 0 3 (Nat.le_refl _)]; trivial)) rfl ?_
            rw [CF.out.facts.2.2.2 0 3 (Nat.le_refl _), Hl.extract_all]
            exact stepP_of hs.out HBF.out
        · rcases Int.lt_or_le rn 9223372036854775807 with hov | hov
          · have hye : decide (k ≤ rn + 1) = true := by simp; omega
            have th := B2.out.there 0 3 (by rw [Hl.arr_size]; omega)
            have HBF := Lib.hid (setHl_below HB.out (w.heap.size + 1) 0 (Hl.mk nm false 0) (by omega))
            have CF := Lib.hid (B2.out.putHl (Hl.arr_size _) (Hl.mk nm false 0))
            have hs := Lib.hid (stepH_b (h := ⟨nm, true, rn⟩) (well := true) (rise := rise) (fall := fall) rfl HK.out HM.out hle)
            go_wp2_with fail
            refine (refBring_any _ _).mono ?_
            rintro e wz ⟨rfl, rfl⟩
            rw [HK.out]
            go_wp2_with fail
            all_goals
              refine bodyPost_ret (ret_hl rfl _ _ _ _ rfl (by rw [CF.out.facts.2.2.1 0 3 (Nat.le_refl _)]; trivial)) rfl ?_
              rw [CF.out.facts.2.2.2 0 3 (Nat.le_refl _), Hl.extract_all]
              exact stepP_of hs.out HBF.out
          · have hge : decide (1000 < rn) = true := by simp; omega
            have th := B2.out.there 0 3 (by rw [Hl.arr_size]; omega)
            have HBF := Lib.hid (setHl_below HB.out (w.heap.size + 1) 0 (Hl.mk nm false 0) (by omega))
            have CF := Lib.hid (B2.out.putHl (Hl.arr_size _) (Hl.mk nm false 0))
            have hs := Lib.hid (stepH_b (h := ⟨nm, true, rn⟩) (well := true) (rise := rise) (fall := fall) rfl HK.out HM.out hle)
            go_wp2_with fail
            refine (refBring_any _ _).mono ?_
            rintro e wz ⟨rfl, rfl⟩
            rw [HK.out]
            go_wp2_with fail
            all_goals
              refine bodyPost_ret (ret_hl rfl _ _ _ _ rfl (by rw [CF.out.facts.2.2.1 0 3 (Nat.le_refl _)]; trivial)) rfl ?_
              rw [CF.out.facts.2.2.2 0 3 (Nat.le_refl _), Hl.extract_all]
              exact stepP_of hs.out HBF.out
end Go.Proofs.Ytjeeigdbfngjaaa
