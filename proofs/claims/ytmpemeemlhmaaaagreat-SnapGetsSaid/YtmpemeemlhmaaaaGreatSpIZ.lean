/- SnapGets: of whatever bytes: the state whose bytes they are, or that there is none. For every input, no condition. -/
import Derived.Test.YtmpemeemlhmaaaaGreatQ45
import Derived.Test.YtmpemeemlhmaaaaGreatQ34
set_option linter.unusedSimpArgs false
set_option linter.unusedVariables false
set_option maxRecDepth 100000
namespace Go.Proofs.YtmpemeemlhmaaaaGreat
open Go.ChangeShapes Go.WideShapes Go.ChangeAt Go.RowKit

set_option maxRecDepth 100000 in
set_option maxHeartbeats 8000000 in
theorem snapGets_walk (A : Option Addr) (n c : Nat) (b : List UInt8) (W : World) (hnc : n ≤ c) (hc : c ≤ 9223372036854775807) (hR : RdB W W.heap.size A n b) :
    Calls Tryz.prog 4 #[.slice A n c] W fun e W' => e = .returned (.bool true) ∧ Below W.heap.size W W' := by
  have HR := Lib.hid hR
  clear hR
  go_enter Tryz.func4, Tryz.ntmps4
  go_wp2_with fail
  (with_reducible refine (awake_any _).mono ?_)
  rintro e w1 ⟨rfl, hb1⟩
  have HB1 := Lib.hid hb1
  clear hb1
  by_cases hn : n ≤ 30000
  rotate_left
  · have hgt : (30000 : Int) < n := by omega
    go_wp2_with fail
    (with_reducible refine (awake_any _).mono ?_)
    rintro e w3 ⟨rfl, hb3⟩
    have HB3 := Lib.hid (below2 HB1.out hb3)
    clear hb3
    go_wp2
    go_ret
    exact ⟨rfl, HB3.out⟩
  have hng : ¬ (30000 : Int) < n := by omega
  have hlo : n ≤ 1000000000 := by omega
  have C3 := Lib.hid (snapGet_any A n c b w1 (HR.out.go HB1.out) hlo)
  obtain ⟨V, hV⟩ : ∃ V, getV b = V := ⟨_, rfl⟩
  rw [hV] at C3
  have HV := Lib.hid hV
  clear hV
  go_wp2_with fail
  (with_reducible refine C3.out.mono ?_)
  rintro e w2 ⟨hb2, h2⟩
  cases V with
  | none =>
    obtain rfl := h2
    obtain ⟨w3, hw3⟩ : ∃ w3, w3 = w2.alloc (.cells noSh.arr 29) := ⟨_, rfl⟩
    have HW3 := Lib.hid (show w2.alloc (.cells noSh.arr 29) = w3 from hw3.symm)
    have F23 := Lib.hid (show Below w2.heap.size w2 w3 by rw [hw3]; exact (Below.refl _ _).alloc (Nat.le_refl _) _)
    have HB3 := Lib.hid (below2 (below2 HB1.out hb2) F23.out)
    have Y3 := Lib.hid (show Box w3 w2.heap.size noSh.arr by rw [hw3]; exact Box.new _ _ _)
    have C4 := Lib.hid (refSnapGet_any A n c b w3 (HR.out.go HB3.out) hnc hc hlo)
    rw [HV.out] at C4
    clear hb2 hw3
    go_wp2_with fail
    rw [HW3.out]
    (with_reducible refine C4.out.mono ?_)
    rintro e w4 ⟨hb4, rfl⟩
    have HB4 := Lib.hid ((below2 HB3.out hb4).alloc (below2 HB3.out hb4).size (.cells noSh.arr 29))
    have Y4 := Lib.hid ((Y3.out.go hb4).alloc (.cells noSh.arr 29))
    have SM := Lib.hid (fun W' => sameState_any noSh noSh noSta noSta W' (stR_no _ _) (stR_no _ _) true (same_self_st noSta))
    obtain ⟨y1, y2, y3, y4⟩ := Y4.out.facts
    have ly := Y4.out.lt
    clear hb4
    go_wp2_with fail
    (with_reducible refine (SM.out _).mono ?_)
    rintro e w5 ⟨rfl, hb5⟩
    have HB5 := Lib.hid (below2 HB4.out hb5)
    clear hb5 y1 y2 y3 y4 ly
    go_wp2
    go_ret
    exact ⟨rfl, HB5.out⟩
  | some s =>
    obtain ⟨y, rfl, hy, _, _, _⟩ := h2
    obtain ⟨w3, hw3⟩ : ∃ w3, w3 = w2.alloc (.cells y.arr 29) := ⟨_, rfl⟩
    have HW3 := Lib.hid (show w2.alloc (.cells y.arr 29) = w3 from hw3.symm)
    have F23 := Lib.hid (show Below w2.heap.size w2 w3 by rw [hw3]; exact (Below.refl _ _).alloc (Nat.le_refl _) _)
    have HB3 := Lib.hid (below2 (below2 HB1.out hb2) F23.out)
    have Y3 := Lib.hid (show Box w3 w2.heap.size y.arr by rw [hw3]; exact Box.new _ _ _)
    have S3 := Lib.hid (hy.go F23.out)
    have C4 := Lib.hid (refSnapGet_any A n c b w3 (HR.out.go HB3.out) hnc hc hlo)
    rw [HV.out] at C4
    clear hb2 hw3 hy
    go_wp2_with fail
    rw [HW3.out]
    (with_reducible refine C4.out.mono ?_)
    rintro e w4 ⟨hb4, x, rfl, hx⟩
    obtain ⟨w5, hw5⟩ : ∃ w5, w5 = w4.alloc (.cells x.arr 29) := ⟨_, rfl⟩
    have HW5 := Lib.hid (show w4.alloc (.cells x.arr 29) = w5 from hw5.symm)
    have F45 := Lib.hid (show Below w4.heap.size w4 w5 by rw [hw5]; exact (Below.refl _ _).alloc (Nat.le_refl _) _)
    have HB5 := Lib.hid (below2 (below2 HB3.out hb4) F45.out)
    have X5 := Lib.hid (show Box w5 w4.heap.size x.arr by rw [hw5]; exact Box.new _ _ _)
    have Y5 := Lib.hid ((Y3.out.go hb4).go F45.out)
    have SM := Lib.hid (sameState_any y x s s w5 ((S3.out.go hb4).go F45.out) (hx.go F45.out) true (same_self_st s))
    obtain ⟨y1, y2, y3, y4⟩ := Y5.out.facts
    have ly := Y5.out.lt
    obtain ⟨x1, x2, x3, x4⟩ := X5.out.facts
    have lx := X5.out.lt
    clear hb4 hw5 hx
    go_upto_region 5 with fail
    rw [HW5.out]
    go_wp2_with fail
    (with_reducible refine SM.out.mono ?_)
    rintro e w6 ⟨rfl, hb6⟩
    have HB6 := Lib.hid (below2 HB5.out hb6)
    clear hb6 y1 y2 y3 y4 ly x1 x2 x3 x4 lx
    go_wp2
    go_ret
    exact ⟨rfl, HB6.out⟩

set_option maxRecDepth 100000 in
theorem snapGets_lifted (os : Os) (started : os.Started) (H : Type) (enc : TypeId × Value → H) :
    ReturnsInHanded {} Tryz.checked os 4 .any (Rows.snapGetsSpec.pre6 enc Tryz.prog Tryz.f4 Rows.snapGetsRow.domain false) (Rows.snapGetsSpec.post enc Tryz.prog Tryz.f4 false true false false) := by
  refine returnsInHanded_of_change (C := Tryz.checked) own started (by kernel_rfl) Tryz.func4
    (ChangeSpec.witness6 (enc := enc) (C := Tryz.checked) false ⟨#[], #[.slice none 0 0], []⟩ 8 (by kernel_rfl) (by kernel_rfl) (by kernel_rfl) (by kernel_rfl)) ?_
  intro W base args ds gs before hval0 hW hcnd _
  have hval : ∀ (j : Nat) t v, Tryz.f4.params[j]? = some t → args[j]? = some v → Value.okWide Tryz.prog W .any base t v := hval0
  have hW' := hW
  obtain ⟨p, q, hA0, hV, rfl, hfz, hnd⟩ := hW
  have hA : DataW.TrodAll enc Tryz.prog W 0 (fun _ => true) true Tryz.f4.params.toList args.toList ds p := hA0
  rw [Tryz.params4] at hA hval
  obtain ⟨v0, vs0, d0, ds0, p0, q0, hargs, rfl, rfl, h0, r0⟩ := trodAll_cons hA
  obtain ⟨rfl, rfl, rfl⟩ := trodAll_nil r0
  obtain rfl : args = #[v0] := by cases args; simp_all
  obtain ⟨Ab, nb, cb, b, rfl, hnb, hcb, hb⟩ := open_bytes Tryz.underlying32 Tryz.underlying5 (by kernel_rfl) (hval 0 32 v0 rfl rfl) h0
  clear hA0 hval0
  refine (snapGets_walk Ab nb cb b W hnb hcb hb).mono fun e W' ⟨he, hb⟩ => ?_
  subst he
  exact ⟨_, rfl, law_post laidOut rfl (by kernel_rfl) 4 Tryz.underlying4 rfl hW' rfl hb⟩
theorem snapGets_holds : Rows.SnapGetsSaid :=
  OpenClaim.holds_of_wide 4 Tryz.f4 rfl rfl rfl rfl rfl rfl rfl ⟨rfl, rfl, rfl, rfl, rfl⟩ rfl rfl rfl rfl rfl (by kernel_rfl) Tryz.func4 (by kernel_rfl)
    (of_decide_eq_true (by kernel_rfl)) (by unfold Func.isWrapper; first | (rw [if_pos (by decide +kernel)]; kernel_rfl) | (rw [if_neg (by decide +kernel)]; exact ⟨rfl, rfl⟩))
    (fun os started H enc _ => snapGets_lifted os started H enc)
#print axioms snapGets_holds
end Go.Proofs.YtmpemeemlhmaaaaGreat
