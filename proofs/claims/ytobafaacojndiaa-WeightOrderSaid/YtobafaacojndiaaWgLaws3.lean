/- WeightBits and WeightOrder: a number's bytes are got as the number, and so back; the order of weights and of their quanta. For every input, no condition. -/
import Derived.Test.YtobafaacojndiaaWgLaws2
set_option linter.unusedSimpArgs false
set_option linter.unusedVariables false
namespace Go.Proofs.Ytobafaacojndiaa
open Go.ChangeShapes Go.WideShapes Go.ChangeAt Go.RowKit

theorem isNan_qnan : isNan 9221120237041090560 = true := by decide +kernel
theorem wBits_wBits (x : Nat) : wBits (wBits x) = wBits x := by
  unfold wBits
  cases h : isNan x
  · simp [h]
  · simp [isNan_qnan]
theorem bigNum_numPut {n : Nat} (hn : n < 18446744073709551616) : bigNum (numPut n 8 true) = n := by
  have hl : (numPut n 8 true).length = 8 := by simp [numPut, lowPut]
  have h := numPut_bigNum (numPut n 8 true) hl
  exact numPut_inj (bigNum_lt64 _ (by omega)) hn h
theorem wGet_wPut {u : Nat} (hu : u < 18446744073709551616) : wGet (wPut u) = wBits u ∧ wGetOk (wPut u) = true := by
  have hb := wBits_lt hu
  have hl := wPut_len u
  have e : bigNum ((wPut u).take 8) = wBits u := by
    rw [List.take_of_length_le (by omega)]
    exact bigNum_numPut hb
  have h2 : wGetOk (wPut u) = true := by unfold wGetOk; rw [e, hl, wBits_wBits]; simp
  refine ⟨?_, h2⟩
  unfold wGet
  rw [h2, e]
  rfl
theorem same_put {u v : Nat} (hu : u < 18446744073709551616) (hv : v < 18446744073709551616) : wSame u v = decide (wPut u = wPut v) := by
  unfold wSame
  rw [Bool.eq_iff_iff]
  simp only [beq_iff_eq, decide_eq_true_eq]
  constructor
  · intro h; unfold wPut; rw [h]
  · intro h; exact numPut_inj (wBits_lt hu) (wBits_lt hv) h
theorem wPut_wGet {l : List UInt8} (h : wGetOk l = true) : wPut (wGet l) = l := by
  have h' := h
  unfold wGetOk at h'
  simp only [Bool.and_eq_true, decide_eq_true_eq, beq_iff_eq] at h'
  obtain ⟨h8, hb⟩ := h'
  have e : l.take 8 = l := List.take_of_length_le (by omega)
  rw [e] at hb
  unfold wGet wPut
  rw [h, if_pos rfl, e, hb]
  exact numPut_bigNum l h8
theorem wGet_lt (l : List UInt8) : wGet l < 18446744073709551616 := by
  unfold wGet
  split
  · exact bigNum_lt64 _ (by rw [List.length_take]; omega)
  · omega

theorem weightBits_long (u v : Nat) (A : Option Addr) (n c : Nat) (w : World) (h : (100 : Int) < n) :
    Calls Try.prog 5 #[.int .u64 u, .int .u64 v, .slice A n c] w fun e w' => e = .returned (.bool true) ∧ Below w.heap.size w w' := by
  go_enter Try.func5, Try.ntmps5
  go_wp2_with fail
  refine (awake_any _).mono ?_
  rintro e w1 ⟨rfl, hb1⟩
  go_wp2_with fail
  refine (awake_any _).mono ?_
  rintro e w2 ⟨rfl, hb2⟩
  go_wp2_with fail
  go_ret
  exact ⟨rfl, below2 hb1 hb2⟩

set_option maxHeartbeats 1000000 in
theorem weightBits_short (u v : Nat) (hu : u < 18446744073709551616) (hv : v < 18446744073709551616) (A : Option Addr) (n c : Nat) (l : List UInt8) (w : World) (hnc : n ≤ c) (hc : c ≤ 9223372036854775807) (hr : RdB w w.heap.size A n l) (h : (n : Int) ≤ 100) :
    Calls Try.prog 5 #[.int .u64 u, .int .u64 v, .slice A n c] w fun e w' => e = .returned (.bool true) ∧ Below w.heap.size w w' := by
  have h1 := call_float64frombits
  have G := wGet_wPut hu
  have SP := same_put hu hv
  have SB : wSame (wBits u) u = true := by unfold wSame; rw [wBits_wBits]; simp
  have SPH := Lib.hid SP
  have SBH := Lib.hid SB
  have GH := Lib.hid G
  have hg := wGet_lt l
  have PG : wGetOk l = true → wPut (wGet l) = l := wPut_wGet
  have PGH := Lib.hid PG
  have HR := Lib.hid hr
  clear SP SB G PG hr
  go_enter Try.func5, Try.ntmps5
  go_wp2_with fail
  refine (awake_any _).mono ?_
  rintro e w1 ⟨rfl, hb1⟩
  have HR1 := Lib.hid (HR.out.below hb1)
  have HB1 := Lib.hid hb1
  clear hb1
  go_wp2_with fail
  refine (put_any _ hu _).mono ?_
  rintro e w2 ⟨X, rfl, hx, hb2⟩
  have HR2 := Lib.hid (HR1.out.to hb2 HB1.out.size)
  have HB2 := Lib.hid (below2 HB1.out hb2)
  clear hb2
  go_wp2_with fail
  refine (get_any _ _ _ _ _ (Nat.le_refl 8) (by omega) hx).mono ?_
  rintro e w3 ⟨rfl, hb3⟩
  rw [GH.out.1, GH.out.2]
  have HX3 := Lib.hid (hx.below hb3)
  have HR3 := Lib.hid (HR2.out.to hb3 HB2.out.size)
  have HB3 := Lib.hid (below2 HB2.out hb3)
  have hz3 := hb3.size
  clear hb3 hx
  go_wp2_with fail
  refine (refPut_any _ hu _).mono ?_
  rintro e w4 ⟨Y, cy, rfl, hy, hb4⟩
  have HX4 := Lib.hid (HX3.out.to hb4 hz3)
  have HR4 := Lib.hid (HR3.out.to hb4 HB3.out.size)
  have HB4 := Lib.hid (below2 HB3.out hb4)
  have hz4 := Nat.le_trans hz3 hb4.size
  clear hb4
  go_wp2_with fail
  refine (ref_same _ _ _ _ _ _ _ _ _ _ _ HX4.out hy).mono ?_
  rintro e w' ⟨rfl, rfl⟩
  rw [show decide (wPut u = wPut u) = true by simp]
  clear hy
  go_wp2_with fail
  refine (same_any _ _ _).mono ?_
  rintro e w' ⟨rfl, rfl⟩
  rw [SBH.out]
  go_wp2_with fail
  refine (same_any _ _ _).mono ?_
  rintro e w' ⟨rfl, rfl⟩
  rw [SPH.out]
  go_wp2_with fail
  refine (put_any _ hv _).mono ?_
  rintro e w5 ⟨Z, rfl, hzz, hb5⟩
  have HX5 := Lib.hid (HX4.out.to hb5 hz4)
  have HR5 := Lib.hid (HR4.out.to hb5 HB4.out.size)
  have HB5 := Lib.hid (below2 HB4.out hb5)
  clear hb5
  go_wp2_with fail
  refine (ref_same _ _ _ _ _ _ _ _ _ _ _ HX5.out hzz).mono ?_
  rintro e w' ⟨rfl, rfl⟩
  clear hzz
  generalize decide (wPut u = wPut v) = bq
  have hbq : (bq != bq) = false := by simp
  go_wp2_with fail
  refine (get_any _ _ _ _ _ hnc hc (HR5.out.more HB5.out.size)).mono ?_
  rintro e w6 ⟨rfl, hb6⟩
  have HR6 := Lib.hid (HR5.out.to hb6 HB5.out.size)
  have HB6 := Lib.hid (below2 HB5.out hb6)
  clear hb6
  go_wp2_with fail
  refine (refGet_any _ _ _ _ _ (by omega) (HR6.out.more HB6.out.size)).mono ?_
  rintro e w7 ⟨rfl, hb7⟩
  have HR7 := Lib.hid (HR6.out.to hb7 HB6.out.size)
  have HB7 := Lib.hid (below2 HB6.out hb7)
  clear hb7
  have hok : (wGetOk l == wGetOk l) = true := by simp
  go_wp2_with fail
  refine (refSame_any _ _ hg hg _).mono ?_
  rintro e w8 ⟨rfl, hb8⟩
  rw [show decide (wPut (wGet l) = wPut (wGet l)) = true by simp]
  have HR8 := Lib.hid (HR7.out.to hb8 HB7.out.size)
  have HB8 := Lib.hid (below2 HB7.out hb8)
  clear hb8
  cases hk : wGetOk l
  · go_wp2_with fail
    go_ret
    exact ⟨rfl, HB8.out⟩
  · have PP := Lib.hid (PGH.out hk)
    go_wp2_with fail
    refine (put_any _ hg _).mono ?_
    rintro e w9 ⟨X9, rfl, hx9, hb9⟩
    rw [PP.out] at hx9
    have HR9 := Lib.hid (HR8.out.to hb9 HB8.out.size)
    have HB9 := Lib.hid (below2 HB8.out hb9)
    clear hb9
    go_wp2_with fail
    refine (ref_same _ _ _ _ _ _ _ _ _ _ _ hx9 HR9.out).mono ?_
    rintro e w' ⟨rfl, rfl⟩
    rw [show decide (l = l) = true by simp]
    go_wp2_with fail
    go_ret
    exact ⟨rfl, HB9.out⟩
theorem weightBits_walk (u v : Nat) (hu : u < 18446744073709551616) (hv : v < 18446744073709551616) (A : Option Addr) (n c : Nat) (l : List UInt8) (w : World) (hnc : n ≤ c) (hc : c ≤ 9223372036854775807) (hr : RdB w w.heap.size A n l) :
    Calls Try.prog 5 #[.int .u64 u, .int .u64 v, .slice A n c] w fun e w' => e = .returned (.bool true) ∧ Below w.heap.size w w' := by
  by_cases h : (100 : Int) < n
  · exact weightBits_long u v A n c w h
  · exact weightBits_short u v hu hv A n c l w hnc hc hr (by omega)

set_option maxRecDepth 100000 in
theorem weightBits_lifted (os : Os) (started : os.Started) (H : Type) (enc : TypeId × Value → H) :
    ReturnsInHanded {} Try.checked os 5 .any (Rows.weightBitsSpec.pre6 enc Try.prog Try.f5 Rows.weightBitsRow.domain false) (Rows.weightBitsSpec.post enc Try.prog Try.f5 false true false false) := by
  refine returnsInHanded_of_change (C := Try.checked) own started (by kernel_rfl) Try.func5
    (ChangeSpec.witness6 (enc := enc) (C := Try.checked) false ⟨#[], #[.int .u64 0, .int .u64 0, .slice none 0 0], []⟩ 8 (by kernel_rfl) (by kernel_rfl) (by kernel_rfl) (by kernel_rfl)) ?_
  intro W base args ds gs before hval0 hW hcnd _
  have hval : ∀ (j : Nat) t v, Try.f5.params[j]? = some t → args[j]? = some v → Value.okWide Try.prog W .any base t v := hval0
  have hW' := hW
  obtain ⟨p, q, hA0, hV, rfl, hfz, hnd⟩ := hW
  have hA : DataW.TrodAll enc Try.prog W 0 (fun _ => true) true Try.f5.params.toList args.toList ds p := hA0
  rw [Try.params5] at hA hval
  obtain ⟨v0, vs0, d0, ds0, p0, q0, hargs, rfl, rfl, h0, r0⟩ := trodAll_cons hA
  obtain ⟨v1, vs1, d1, ds1, p1, q1, rfl, rfl, rfl, h1, r1⟩ := trodAll_cons r0
  obtain ⟨v2, vs2, d2, ds2, p2, q2, rfl, rfl, rfl, h2, r2⟩ := trodAll_cons r1
  obtain ⟨rfl, rfl, rfl⟩ := trodAll_nil r2
  obtain rfl : args = #[v0, v1, v2] := by cases args; simp_all
  obtain ⟨u, rfl, hu⟩ := open_u64 Try.underlying22 (hval 0 22 v0 rfl rfl) h0
  obtain ⟨v, rfl, hv⟩ := open_u64 Try.underlying22 (hval 1 22 v1 rfl rfl) h1
  obtain ⟨Ab, nb, cb, b, rfl, hnb, hcb, hb⟩ := open_bytes Try.underlying34 Try.underlying5 (by kernel_rfl) (hval 2 34 v2 rfl rfl) h2
  clear hA0 hval0
  refine (weightBits_walk u v hu hv Ab nb cb b W hnb hcb hb).mono fun e W' ⟨he, hb⟩ => ?_
  subst he
  exact ⟨_, rfl, law_post laidOut rfl (by kernel_rfl) 4 Try.underlying4 rfl hW' rfl hb⟩
theorem weightBits_holds : Rows.WeightBitsSaid :=
  OpenClaim.holds_of_wide 5 Try.f5 rfl rfl rfl rfl rfl rfl rfl ⟨rfl, rfl, rfl, rfl, rfl⟩ rfl rfl rfl rfl rfl (by kernel_rfl) Try.func5 (by kernel_rfl)
    (of_decide_eq_true (by kernel_rfl)) (by unfold Func.isWrapper; first | (rw [if_pos (by decide +kernel)]; kernel_rfl) | (rw [if_neg (by decide +kernel)]; exact ⟨rfl, rfl⟩))
    (fun os started H enc _ => weightBits_lifted os started H enc)
#print axioms weightBits_holds
end Go.Proofs.Ytobafaacojndiaa
