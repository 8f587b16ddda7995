/- Results run through: the program's way and the document's. -/
import Derived.Test.YtjeeigdbfngjaaaHeD
import Derived.Deep.CutRange
set_option linter.unusedSimpArgs false
set_option linter.unusedVariables false
namespace Go.Proofs.Ytjeeigdbfngjaaa
open Go.RowKit Go.ChangeShapes Go.WideShapes Go.ChangeAt Go.Deep

/-! ### bools -/
def blA (b : Bool) : Array Value := #[.bool b]
theorem blA_size (b : Bool) : (blA b).size = 1 := rfl
theorem blA_one (b : Bool) : (blA b).all (·.oneCell') = true := by simp [blA, Value.oneCell']
abbrev RdL := RdR blA 1
theorem RdR.bl {W : World} {B n : Nat} {A : Option Addr} {l : List Bool} {k : Nat} (h : RdL W B A n l) (hk : k < n) : ∃ b o, A = some ⟨b, o, none⟩ ∧ b < B ∧ W.cell? ⟨b, o + k, none⟩ = some (.bool (l.getD k false)) := by
  obtain ⟨b, o, hA, hb, hc⟩ := RdR.cell blA_size false h hk
  refine ⟨b, o, hA, hb, ?_⟩
  have := hc 0 (by omega)
  rw [Nat.mul_one, Nat.add_zero] at this
  exact this
section
variable {H : Type} {enc : TypeId × Value → H} {W : World} {base : Nat} {v : Value} {d : DataW H} {ps : List MemPlace} {held : Bool}
theorem open_bls (hval : Value.okWide Try.prog W .any base 28 v) (h : DataW.Trod enc Try.prog W 0 (fun _ => true) held 28 v d ps) :
    ∃ (A : Option Addr) (n c : Nat) (l : List Bool), v = .slice A n c ∧ RdL W W.heap.size A n l ∧ n ≤ 9223372036854775807 := by
  obtain ⟨a0, len, cap, rfl⟩ := okWide_slice Try.underlying28 hval
  obtain ⟨fuel, hf⟩ := h
  obtain ⟨A, n, c, l, hs, hnc, hc, hll, hrd, hsp, hgd⟩ := read_rows blA (fun _ => True) 1 (fun _ => rfl) Try.underlying28 (by kernel_rfl) (by omega) (fun n cs y hy => by
    obtain ⟨b, hb, _⟩ := DataW.trod_bool Try.underlying4 hy
    exact ⟨b, hb, trivial⟩) hf
  simp only [Value.cells, List.cons.injEq, Value.slice.injEq, and_true] at hs
  obtain ⟨rfl, rfl, rfl⟩ := hs
  exact ⟨a0, len, cap, l, rfl, ⟨hll, hrd, hsp⟩, by omega⟩
end
/-! ### the plain law -/
def runS (rise fall : Int) (p : Hl × Int) (b : Bool) : Hl × Int := ((stepH p.1 b rise fall).1, if (stepH p.1 b rise fall).2 = true then p.2 + 1 else p.2)
def runH (h : Hl) (l : List Bool) (rise fall : Int) : Hl × Int := l.foldl (runS rise fall) (h, 0)
theorem runH_nil (h : Hl) (rise fall : Int) : runH h [] rise fall = (h, 0) := rfl
theorem runH_next (h : Hl) (l : List Bool) (rise fall : Int) (i : Nat) (hi : i < l.length) {r : Hl × Int} {b : Bool} (hr : runH h (l.take i) rise fall = r) (hb : b = l.getD i false) {q : Hl × Bool} (hq : stepH r.1 b rise fall = q) :
    runH h (l.take (i + 1)) rise fall = (q.1, if q.2 = true then r.2 + 1 else r.2) := by
  rw [← take_snocR false l i hi, ← hb]
  unfold runH at hr ⊢
  rw [List.foldl_append, hr]
  simp only [List.foldl_cons, List.foldl_nil, runS, hq]
theorem stepH_name (h : Hl) (b : Bool) (rise fall : Int) : (stepH h b rise fall).1.name = h.name := by
  unfold stepH
  by_cases h1 : (b != h.down) = true
  · rw [if_pos h1]
  · rw [if_neg h1]
    by_cases h2 : bringN (if h.down = true then rise else fall) - 1 ≤ max h.run 0
    · rw [if_pos h2]
    · rw [if_neg h2]
def okRun (h : Hl) : Prop := -9223372036854775808 ≤ h.run ∧ h.run ≤ 9223372036854775807
theorem stepH_ok {h : Hl} (b : Bool) (rise fall : Int) : okRun (stepH h b rise fall).1 := by
  have h1 := bringN_bd (if h.down = true then rise else fall)
  unfold stepH okRun
  by_cases h3 : (b != h.down) = true
  · rw [if_pos h3]; show -9223372036854775808 ≤ (0 : Int) ∧ (0 : Int) ≤ 9223372036854775807; omega
  · rw [if_neg h3]
    by_cases h2 : bringN (if h.down = true then rise else fall) - 1 ≤ max h.run 0
    · rw [if_pos h2]; show -9223372036854775808 ≤ (0 : Int) ∧ (0 : Int) ≤ 9223372036854775807; omega
    · rw [if_neg h2]; show -9223372036854775808 ≤ max h.run 0 + 1 ∧ max h.run 0 + 1 ≤ 9223372036854775807; omega
/-- a health and a number are answered -/
def RunP (w : World) (r : Hl × Int) (e : Ending) (w' : World) : Prop := e = .returned (.tuple #[.agg r.1.arr, .int .i64 r.2]) ∧ Below w.heap.size w w'
set_option maxHeartbeats 2000000 in
set_option maxRecDepth 100000 in
theorem run_any (h : Hl) (l : List Bool) (rise fall : Int) (A : Option Addr) (n c : Nat) (w : World) (hR : RdL w w.heap.size A n l) (hh : okRun h) (hn : n ≤ 100000) :
    Calls Try.prog 13 #[.agg h.arr, .slice A n c, .int .i64 rise, .int .i64 fall] w (RunP w (runH h l rise fall)) := by
  have HR := Lib.hid hR
  have HN := Lib.hid hR.1
  have HH := Lib.hid hh
  have B1 := Lib.hid ((Box.new w h.arr 23).alloc (.cells noHl.arr 23))
  have B2 := Lib.hid (Box.new1 w (.cells h.arr 23) noHl.arr 23)
  have HB := Lib.hid (((Below.refl w.heap.size w).alloc (Nat.le_refl _) (.cells h.arr 23)).alloc (by simp) (.cells noHl.arr 23))
  clear hR hh
  go_enter Try.func13, Try.ntmps13
  go_wp2
  go_loopw [10, 16] (fun s10 s16 wr => ∃ (i : Nat) (r : Hl × Int), i ≤ n ∧ runH h (l.take i) rise fall = r ∧ s10 = .int .i64 r.2 ∧ s16 = .int .i64 i ∧ 0 ≤ r.2 ∧ r.2 ≤ i ∧ okRun r.1 ∧ Box wr w.heap.size r.1.arr ∧ Box wr (w.heap.size + 1) noHl.arr ∧ Below w.heap.size w wr) (fun _ s16 _ => n - (intOf s16).toNat)
  case atStart => exact ⟨0, (h, 0), by omega, rfl, rfl, rfl, by simp, by simp, HH.out, B1.out, B2.out, HB.out⟩
  case round =>
    obtain ⟨i, ⟨x, t⟩, hin, hrun, rfl, rfl, ht0, hti, hok, hb1, hb2, hb⟩ := hrel
    have HRUN := Lib.hid hrun
    have HOK := Lib.hid hok
    have B1 := Lib.hid hb1
    have B2 := Lib.hid hb2
    have HB := Lib.hid hb
    clear hrun hok hb1 hb2 hb
    simp only at ht0 hti
    by_cases hlt : i < n
    · have hi : (i : Int) < n := by omega
      obtain ⟨b, o, rfl, hbb, hc⟩ := (HR.out.below HB.out).bl hlt
      obtain ⟨y, hy⟩ : ∃ y, y = l.getD i false := ⟨_, rfl⟩
      rw [← hy] at hc
      have HY := Lib.hid hy
      clear hy
      have HNL := Lib.hid (show i < l.length by rw [HN.out]; exact hlt)
      obtain ⟨⟨qx, qt⟩, hq⟩ : ∃ q, stepH x y rise fall = q := ⟨_, rfl⟩
      have ST := Lib.hid (fun W => hq ▸ step_any x y rise fall W HOK.out)
      have QOK := Lib.hid (show okRun qx from by have := stepH_ok (h := x) y rise fall; rw [hq] at this; exact this)
      have NX := Lib.hid (runH_next h l rise fall i HNL.out HRUN.out HY.out hq)
      clear hq
      obtain ⟨x1, x2, x3, x4⟩ := B1.out.facts
      have l1 := B1.out.lt
      cases qt
      all_goals
        go_wp2_with fail
        refine (ST.out _).mono ?_
        rintro e w2 ⟨rfl, hbw⟩
        have th := (B1.out.go hbw).there 0 3 (by rw [Hl.arr_size]; omega)
        have C1 := Lib.hid ((B1.out.go hbw).putHl (Hl.arr_size _) qx)
        have C2 := Lib.hid ((B2.out.go hbw).putHl_other (b2 := w.heap.size) (o := 0) qx (by omega))
        have CB := Lib.hid (setHl_below (HB.out.trans (hbw.mono HB.out.size)) w.heap.size 0 qx (Nat.le_refl _))
        clear hbw hc hbb
        go_wp2
        go_roundw
        case rel => exact ⟨i + 1, _, by omega, NX.out, by first | rfl | go_num, by go_num, by simp; omega, by simp; omega, QOK.out, C1.out, C2.out, CB.out⟩
        case measure => simp [intOf] <;> omega
    · obtain rfl : i = n := by omega
      have hd : decide ((i : Int) < i) = false := by simp
      have HF := Lib.hid (show runH h l rise fall = (x, t) by rw [← HRUN.out, List.take_of_length_le (by rw [HN.out]; omega)])
      obtain ⟨x1, x2, x3, x4⟩ := B1.out.facts
      have th := B2.out.there 0 3 (by rw [Hl.arr_size]; omega)
      have CF := Lib.hid (B2.out.putHl (Hl.arr_size _) x)
      have HBF := Lib.hid (setHl_below HB.out (w.heap.size + 1) 0 x (by omega))
      go_wp2
      refine bodyPost_ret (ret_hl rfl _ _ _ _ rfl (by rw [CF.out.facts.2.2.1 0 3 (Nat.le_refl _)]; trivial)) rfl ?_
      rw [CF.out.facts.2.2.2 0 3 (Nat.le_refl _), Hl.extract_all]
      exact ⟨by rw [HF.out]; rfl, HBF.out⟩
set_option maxHeartbeats 2000000 in
set_option maxRecDepth 100000 in
theorem refRun_any (h : Hl) (l : List Bool) (rise fall : Int) (A : Option Addr) (n c : Nat) (w : World) (hR : RdL w w.heap.size A n l) (hh : okRun h) (hn : n ≤ 100000) :
    Calls Try.prog 14 #[.agg h.arr, .slice A n c, .int .i64 rise, .int .i64 fall] w (RunP w (runH h l rise fall)) := by
  have HR := Lib.hid hR
  have HN := Lib.hid hR.1
  have HH := Lib.hid hh
  have B1 := Lib.hid ((Box.new w h.arr 23).alloc (.cells noHl.arr 23))
  have B2 := Lib.hid (Box.new1 w (.cells h.arr 23) noHl.arr 23)
  have HB := Lib.hid (((Below.refl w.heap.size w).alloc (Nat.le_refl _) (.cells h.arr 23)).alloc (by simp) (.cells noHl.arr 23))
  clear hR hh
  go_enter Try.func14, Try.ntmps14
  go_wp2
  go_loopw [10, 11] (fun s10 s16 wr => ∃ (i : Nat) (r : Hl × Int), i ≤ n ∧ runH h (l.take i) rise fall = r ∧ s10 = .int .i64 r.2 ∧ s16 = .int .i64 i ∧ 0 ≤ r.2 ∧ r.2 ≤ i ∧ okRun r.1 ∧ Box wr w.heap.size r.1.arr ∧ Box wr (w.heap.size + 1) noHl.arr ∧ Below w.heap.size w wr) (fun _ s16 _ => n - (intOf s16).toNat)
  case atStart => exact ⟨0, (h, 0), by omega, rfl, rfl, rfl, by simp, by simp, HH.out, B1.out, B2.out, HB.out⟩
  case round =>
    obtain ⟨i, ⟨x, t⟩, hin, hrun, rfl, rfl, ht0, hti, hok, hb1, hb2, hb⟩ := hrel
    have HRUN := Lib.hid hrun
    have HOK := Lib.hid hok
    have B1 := Lib.hid hb1
    have B2 := Lib.hid hb2
    have HB := Lib.hid hb
    clear hrun hok hb1 hb2 hb
    simp only at ht0 hti
    by_cases hlt : i < n
    · have hi : (i : Int) < n := by omega
      obtain ⟨b, o, rfl, hbb, hc⟩ := (HR.out.below HB.out).bl hlt
      obtain ⟨y, hy⟩ : ∃ y, y = l.getD i false := ⟨_, rfl⟩
      rw [← hy] at hc
      have HY := Lib.hid hy
      clear hy
      have HNL := Lib.hid (show i < l.length by rw [HN.out]; exact hlt)
      obtain ⟨⟨qx, qt⟩, hq⟩ : ∃ q, stepH x y rise fall = q := ⟨_, rfl⟩
      have ST := Lib.hid (fun W => hq ▸ refStep_any x y rise fall W HOK.out)
      have QOK := Lib.hid (show okRun qx from by have := stepH_ok (h := x) y rise fall; rw [hq] at this; exact this)
      have NX := Lib.hid (runH_next h l rise fall i HNL.out HRUN.out HY.out hq)
      clear hq
      obtain ⟨x1, x2, x3, x4⟩ := B1.out.facts
      have l1 := B1.out.lt
      have hbs : b < wr.heap.size := Nat.lt_of_lt_of_le hbb HB.out.size
      go_wp2_with fail
      go_cut [12, 13] from 20 to 31 (fun s12 s13 wx => ∃ bb, s12 = .pointer (some ⟨bb, 0, none⟩) ∧ s13 = .bool qt ∧ wr.heap.size ≤ bb ∧ Box wx bb qx.arr ∧ Below wr.heap.size wr wx)
      case first =>
        have KS := Lib.hid (show ∀ W', Below wr.heap.size wr W' → (loadHl (.pointer (some ⟨w.heap.size, 0, none⟩))).run Try.prog W' = .ok (.agg x.arr) W' ∧ W'.cell? ⟨b, o + i, none⟩ = some (.bool y) from fun W' h =>
          ⟨by
            obtain ⟨_, _, h3, h4⟩ := (B1.out.below h l1).facts
            rw [load_hl _ _ _ (by rw [h3 0 3 (by rw [Hl.csize]; omega)]; trivial), h4 0 3 (by rw [Hl.csize]; omega), Hl.extract_all], by rw [h.cell (p := ⟨b, o + i, none⟩) hbs]; exact hc⟩)
        have hne1 := l1
        go_region_held3 (fun W' => (loadHl (.pointer (some ⟨w.heap.size, 0, none⟩))).run Try.prog W' = .ok (.agg x.arr) W' ∧ W'.cell? ⟨b, o + i, none⟩ = some (.bool y))
          (first | exact KS.out _ (Below.refl _ _) | exact KS.out _ (Below.refl _ _).drew | exact KS.out _ ((Below.refl _ _).alloc (Nat.le_refl _) _) | exact KS.out _ ((Below.refl _ _).alloc (Nat.le_refl _) _).drew | exact KS.out _ HB4.out | exact KS.out _ (HB4.out.alloc HB4.out.size _) | exact KS.out _ (setHl_below HB4.out _ _ _ (Nat.le_refl _)) | go_keep)
          (first
          | (go_at_call 12; (with_reducible refine (ST.out wr.drew).mono ?_); rintro e w1 ⟨rfl, hb4⟩; have HB4 := Lib.hid (below1d hb4); clear hb4)
          | (go_at_call 12; (with_reducible refine (ST.out (wr.alloc (.cells noHl.arr 23)).drew).mono ?_); rintro e w1 ⟨rfl, hb4⟩; have hb5 := below1d hb4; have hth := ((Box.new wr noHl.arr _).go hb5).there 0 3 (Nat.le_of_eq (Hl.arr_size noHl).symm); have BZ := Lib.hid ((Box.new wr noHl.arr _).go hb5); have HB4 := Lib.hid (((Below.refl wr.heap.size wr).alloc (Nat.le_refl _) _).trans (hb5.mono (by simp))); clear hb4 hb5))
        all_goals
          go_wp2_with fail
          go_meet
          case rel =>
            first
              | exact ⟨_, rfl, rfl, HB4.out.size, Box.new _ _ _, HB4.out.alloc HB4.out.size _⟩
              | exact ⟨_, rfl, rfl, Nat.le_refl _, BZ.out.putHl (Hl.arr_size noHl) _, setHl_below HB4.out _ _ _ (Nat.le_refl _)⟩
      case rest =>
        obtain ⟨bb, rfl, rfl, hbge, hbx, hbw⟩ := hcut
        have D1 := Lib.hid (B1.out.below hbw l1)
        have D2 := Lib.hid (B2.out.below hbw B2.out.lt)
        have th := D1.out.there 0 3 (by rw [Hl.arr_size]; omega)
        have C1 := Lib.hid (D1.out.putHl (Hl.arr_size _) qx)
        have C2 := Lib.hid (D2.out.putHl_other (b2 := w.heap.size) (o := 0) qx (by omega))
        have CB := Lib.hid (setHl_below (HB.out.trans (hbw.mono HB.out.size)) w.heap.size 0 qx (Nat.le_refl _))
        clear x1 x2 x3 x4
        obtain ⟨z1, z2, z3, z4⟩ := hbx.facts
        have lz := hbx.lt
        clear hbw hc hbb hbx
        cases qt
        all_goals
          go_wp2
          go_roundw
          case rel => exact ⟨i + 1, _, by omega, NX.out, by first | rfl | go_num, by go_num, by simp; omega, by simp; omega, QOK.out, C1.out, C2.out, CB.out⟩
          case measure => simp [intOf] <;> omega
    · obtain rfl : i = n := by omega
      have hd : decide ((i : Int) < i) = false := by simp
      have HF := Lib.hid (show runH h l rise fall = (x, t) by rw [← HRUN.out, List.take_of_length_le (by rw [HN.out]; omega)])
      obtain ⟨x1, x2, x3, x4⟩ := B1.out.facts
      have th := B2.out.there 0 3 (by rw [Hl.arr_size]; omega)
      have CF := Lib.hid (B2.out.putHl (Hl.arr_size _) x)
      have HBF := Lib.hid (setHl_below HB.out (w.heap.size + 1) 0 x (by omega))
      go_wp2
      refine bodyPost_ret (ret_hl rfl _ _ _ _ rfl (by rw [CF.out.facts.2.2.1 0 3 (Nat.le_refl _)]; trivial)) rfl ?_
      rw [CF.out.facts.2.2.2 0 3 (Nat.le_refl _), Hl.extract_all]
      exact ⟨by rw [HF.out]; rfl, HBF.out⟩
end Go.Proofs.Ytjeeigdbfngjaaa
