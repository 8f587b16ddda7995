/- WeightBack and WeightNans: the weight of so many quanta has just these, the next number below it one fewer; every NaN is told alike and is no weight, nor is anything below nought, or infinite. For every input, no condition. -/
import Derived.Test.YtobafaacojndiaaWgLaws1
set_option linter.unusedSimpArgs false
set_option linter.unusedVariables false
namespace Go.Proofs.Ytobafaacojndiaa
open Go.ChangeShapes Go.WideShapes Go.ChangeAt Go.RowKit

theorem wOf_zero : wOf 0 = 0 := by decide +kernel
theorem ok_m_least : wOk 9223372036854775809 = false ∧ wQ 9223372036854775809 = 0 := by decide +kernel
theorem wOf_pred {m : Nat} (hm : m + 1 ≤ 1024000) : 0 < wOf (m + 1) ∧ wOk (wOf (m + 1) - 1) = true ∧ wQ (wOf (m + 1) - 1) = m := by
  have h := (wOf_spec hm).2
  have hle := (wOf_ok hm).1
  have h0 := Fl.V_pos_of h (Nat.succ_pos m)
  have hp : wOf (m + 1) - 1 ≤ 4652007308841189376 := by omega
  refine ⟨h0, ?_, ?_⟩
  · unfold wOk; simp [hp]
  · rw [wQ_pos hp]; exact Fl.quanta_pred h hm

theorem weightBack_walk (q : Nat) (hq : q < 4294967296) (w : World) :
    Calls Try.prog 8 #[.int .u32 q] w fun e w' => e = .returned (.bool true) ∧ Below w.heap.size w w' := by
  obtain ⟨n, hn, hle⟩ : ∃ n : Nat, (q : Int) % 1024001 = n ∧ n ≤ 1024000 := ⟨q % 1024001, by omega, by omega⟩
  obtain ⟨a1, a2, a3⟩ := wOf_ok hle
  have hx : wOf n < 18446744073709551616 := by omega
  have hr : wRight (wOf n) = true := by rw [wRight_eq hx, a2]
  have A2 := Lib.hid a2
  have A3 := Lib.hid a3
  have HR := Lib.hid hr
  clear a2 a3 hr
  rcases n with _ | m
  · have e0 := wOf_zero
    have E0 := Lib.hid e0
    clear e0
    go_enter Try.func8, Try.ntmps8
    go_wp2_with fail
    refine (of_any 0 (by omega) _).mono ?_
    rintro e w' ⟨rfl, rfl⟩
    go_wp2_with fail
    refine (quanta_any _ hx _).mono ?_
    rintro e w' ⟨rfl, rfl⟩
    rw [A2.out, A3.out]
    go_wp2_with fail
    refine (awake_any _).mono ?_
    rintro e w1 ⟨rfl, hb1⟩
    go_wp2_with fail
    refine (right_any _ _).mono ?_
    rintro e w' ⟨rfl, rfl⟩
    rw [HR.out, E0.out]
    go_wp2_with fail
    refine (nextafter_zero _).mono ?_
    rintro e w' ⟨rfl, rfl⟩
    go_wp2_with fail
    refine (quanta_any _ (by omega) _).mono ?_
    rintro e w' ⟨rfl, rfl⟩
    rw [ok_m_least.1, ok_m_least.2]
    go_wp2_with fail
    go_ret
    exact ⟨rfl, hb1⟩
  · obtain ⟨b1, b2, b3⟩ := wOf_pred hle
    have B2 := Lib.hid b2
    have B3 := Lib.hid b3
    clear b2 b3
    have hm0 : (((m + 1 : Nat) : Int) == 0) = false := by rw [beq_eq_false_iff_ne]; omega
    have hm1 : ((m : Int) + 1 == 0) = false := by rw [beq_eq_false_iff_ne]; omega
    go_enter Try.func8, Try.ntmps8
    go_wp2_with fail
    refine (of_any (m + 1) hle _).mono ?_
    rintro e w' ⟨rfl, rfl⟩
    generalize wOf (m + 1) = x at *
    go_wp2_with fail
    refine (quanta_any _ hx _).mono ?_
    rintro e w' ⟨rfl, rfl⟩
    rw [A2.out, A3.out]
    go_wp2_with fail
    refine (awake_any _).mono ?_
    rintro e w1 ⟨rfl, hb1⟩
    go_wp2_with fail
    refine (right_any _ _).mono ?_
    rintro e w' ⟨rfl, rfl⟩
    rw [HR.out]
    go_wp2_with fail
    refine (nextafter_down x b1 a1 _).mono ?_
    rintro e w' ⟨rfl, rfl⟩
    go_wp2_with fail
    refine (quanta_any _ (by omega) _).mono ?_
    rintro e w' ⟨rfl, rfl⟩
    rw [B2.out, B3.out]
    go_wp2_with fail
    go_ret
    exact ⟨by simp, hb1⟩

theorem nan_or (a : Nat) : (a ||| 9218868437227405313) / 4503599627370496 % 2048 = 2047 ∧ (a ||| 9218868437227405313) % 2 = 1 := by
  constructor
  · have e1 : (a ||| 9218868437227405313) / 4503599627370496 = (a / 4503599627370496) ||| 2047 := by
      have := @Nat.shiftRight_or_distrib 52 a 9218868437227405313
      rw [Nat.shiftRight_eq_div_pow, Nat.shiftRight_eq_div_pow, Nat.shiftRight_eq_div_pow] at this
      exact this
    have e2 : ((a / 4503599627370496) ||| 2047) % 2048 = (a / 4503599627370496 % 2048) ||| 2047 := Nat.or_mod_two_pow (n := 11)
    rw [e1, e2]
    have h1 : (a / 4503599627370496 % 2048) ||| 2047 < 2 ^ 11 := Nat.or_lt_two_pow (by omega) (by omega)
    have h2 : 2047 ≤ (a / 4503599627370496 % 2048) ||| 2047 := Nat.right_le_or
    omega
  · have e2 : (a ||| 9218868437227405313) % 2 = (a % 2) ||| 1 := Nat.or_mod_two_pow (n := 1)
    rw [e2]
    have : a % 2 = 0 ∨ a % 2 = 1 := by omega
    rcases this with h | h <;> rw [h] <;> rfl
theorem nan_is {x : Nat} (hx : x < 18446744073709551616) (h : x / 4503599627370496 % 2048 = 2047 ∧ x % 2 = 1) : isNan x = true ∧ wRight x = false ∧ ¬ x % 9223372036854775808 = 0 := by
  refine ⟨?_, ?_, by omega⟩
  · rw [isNan_eq hx, Bool.and_eq_true]
    constructor
    · rw [beq_iff_eq]; omega
    · rw [bne_iff_ne]; omega
  · rw [wRight_eq hx]; unfold wOk; simp; omega
theorem below_is {x : Nat} (hx : x < 18446744073709551616) (h : 9223372036854775808 < x) : wRight x = false := by
  rw [wRight_eq hx]; unfold wOk; simp; omega
theorem inf_no : wRight 9218868437227405312 = false ∧ wRight 18442240474082181120 = false := by decide +kernel

theorem weightNans_walk (a b : Nat) (ha : a < 18446744073709551616) (hb : b < 18446744073709551616) (w : World) :
    Calls Try.prog 6 #[.int .u64 a, .int .u64 b] w fun e w' => e = .returned (.bool true) ∧ Below w.heap.size w w' := by
  have h1 := call_float64frombits
  obtain ⟨x, hx⟩ : ∃ x, x = a ||| 9218868437227405313 := ⟨_, rfl⟩
  obtain ⟨y, hy⟩ : ∃ y, y = b ||| 9218868437227405313 := ⟨_, rfl⟩
  have hx1 : x < 18446744073709551616 := by rw [hx]; exact Nat.or_lt_two_pow (n := 64) ha (by omega)
  have hy1 : y < 18446744073709551616 := by rw [hy]; exact Nat.or_lt_two_pow (n := 64) hb (by omega)
  obtain ⟨z, hz⟩ : ∃ z, z = a ||| 9223372036854775808 := ⟨_, rfl⟩
  obtain ⟨t, ht⟩ : ∃ t, t = z ||| 1 := ⟨_, rfl⟩
  have hz1 : z < 18446744073709551616 := by rw [hz]; exact Nat.or_lt_two_pow (n := 64) ha (by omega)
  have ht1 : t < 18446744073709551616 := by rw [ht]; exact Nat.or_lt_two_pow (n := 64) hz1 (by omega)
  have ht2 : 9223372036854775808 < t := by
    have h2 : 9223372036854775808 ≤ z := by rw [hz]; exact Nat.right_le_or
    have h3 : z ≤ t := by rw [ht]; exact Nat.left_le_or
    have h4 : t % 2 = 1 := by
      have e2 : (z ||| 1) % 2 = (z % 2) ||| 1 := Nat.or_mod_two_pow (n := 1)
      rw [ht, e2]
      have : z % 2 = 0 ∨ z % 2 = 1 := by omega
      rcases this with h | h <;> rw [h] <;> rfl
    omega
  have k1 : bits .or .u64 (a : Int) 9218868437227405313 = (x : Int) := by rw [hx]; exact bits_or_u64_nat a 9218868437227405313 ha (by omega)
  have k2 : bits .or .u64 (b : Int) 9218868437227405313 = (y : Int) := by rw [hy]; exact bits_or_u64_nat b 9218868437227405313 hb (by omega)
  have k3 : bits .or .u64 (a : Int) 9223372036854775808 = (z : Int) := by rw [hz]; exact bits_or_u64_nat a 9223372036854775808 ha (by omega)
  have k4 : bits .or .u64 (z : Int) 1 = (t : Int) := by rw [ht]; exact bits_or_u64_nat z 1 hz1 (by omega)
  obtain ⟨n1, n2, n3⟩ := nan_is hx1 (by rw [hx]; exact nan_or a)
  obtain ⟨m1, m2, m3⟩ := nan_is hy1 (by rw [hy]; exact nan_or b)
  have ht3 := below_is ht1 ht2
  have s1 : wSame x y = true := by unfold wSame wBits; rw [n1, m1]; simp
  have s2 : wPlain x = x := plain_same x hx1 n3
  have s3 : wPut x = wPut y := by unfold wPut wBits; rw [n1, m1]; rfl
  have S1 := Lib.hid s1
  have S2 := Lib.hid s2
  have S3 := Lib.hid s3
  have N2 := Lib.hid n2
  have T3 := Lib.hid ht3
  clear hx hy hz ht n1 n2 n3 m1 m2 m3 s1 s2 s3 ht2 ht3
  go_enter Try.func6, Try.ntmps6
  go_wp2_with fail
  refine (awake_any _).mono ?_
  rintro e w1 ⟨rfl, hb1⟩
  go_wp2_with fail
  clear k1 k2 k3 k4
  refine (same_any _ _ _).mono ?_
  rintro e w' ⟨rfl, rfl⟩
  rw [S1.out]
  go_wp2_with fail
  refine (put_any _ hx1 _).mono ?_
  rintro e w2 ⟨A, rfl, hr2, hb2⟩
  go_wp2_with fail
  refine (put_any _ hy1 _).mono ?_
  rintro e w3 ⟨C, rfl, hr3, hb3⟩
  have hr2' := hr2.below hb3
  go_wp2_with fail
  refine (ref_same _ _ _ _ _ _ _ _ _ _ _ hr2' hr3).mono ?_
  rintro e w' ⟨rfl, rfl⟩
  rw [show decide (wPut x = wPut y) = true by simpa using S3.out]
  clear hr2 hr3 hr2'
  go_wp2_with fail
  refine (right_any _ _).mono ?_
  rintro e w' ⟨rfl, rfl⟩
  rw [N2.out]
  go_wp2_with fail
  refine (right_any _ _).mono ?_
  rintro e w' ⟨rfl, rfl⟩
  rw [T3.out]
  go_wp2_with fail
  refine (inf_any _ _).mono ?_
  rintro e w' ⟨rfl, rfl⟩
  rw [if_pos (by omega)]
  go_wp2_with fail
  refine (right_any _ _).mono ?_
  rintro e w' ⟨rfl, rfl⟩
  rw [inf_no.1]
  go_wp2_with fail
  refine (inf_any _ _).mono ?_
  rintro e w' ⟨rfl, rfl⟩
  rw [if_neg (by omega)]
  go_wp2_with fail
  refine (right_any _ _).mono ?_
  rintro e w' ⟨rfl, rfl⟩
  rw [inf_no.2]
  go_wp2_with fail
  refine (plain_any _ _).mono ?_
  rintro e w' ⟨rfl, rfl⟩
  rw [S2.out]
  go_wp2_with fail
  refine (same_any _ _ _).mono ?_
  rintro e w' ⟨rfl, rfl⟩
  rw [S1.out]
  go_wp2_with fail
  go_ret
  exact ⟨rfl, (hb1.trans (hb2.mono hb1.size)).trans (hb3.mono (Nat.le_trans hb1.size hb2.size))⟩

set_option maxRecDepth 100000 in
theorem weightBack_lifted (os : Os) (started : os.Started) (H : Type) (enc : TypeId × Value → H) :
    ReturnsInHanded {} Try.checked os 8 .any (Rows.weightBackSpec.pre6 enc Try.prog Try.f8 Rows.weightBackRow.domain false) (Rows.weightBackSpec.post enc Try.prog Try.f8 false true false false) := by
  refine returnsInHanded_of_change (C := Try.checked) own started (by kernel_rfl) Try.func8
    (ChangeSpec.witness6 (enc := enc) (C := Try.checked) false ⟨#[], #[.int .u32 0], []⟩ 8 (by kernel_rfl) (by kernel_rfl) (by kernel_rfl) (by kernel_rfl)) ?_
  intro W base args ds gs before hval0 hW hcnd _
  have hval : ∀ (j : Nat) t v, Try.f8.params[j]? = some t → args[j]? = some v → Value.okWide Try.prog W .any base t v := hval0
  have hW' := hW
  obtain ⟨p, q, hA0, hV, rfl, hfz, hnd⟩ := hW
  have hA : DataW.TrodAll enc Try.prog W 0 (fun _ => true) true Try.f8.params.toList args.toList ds p := hA0
  rw [Try.params8] at hA hval
  obtain ⟨v0, vs0, d0, ds0, p0, q0, hargs, rfl, rfl, h0, r0⟩ := trodAll_cons hA
  obtain ⟨rfl, rfl, rfl⟩ := trodAll_nil r0
  obtain rfl : args = #[v0] := by cases args; simp_all
  obtain ⟨q, rfl, hq⟩ := open_u32 Try.underlying47 (hval 0 47 v0 rfl rfl) h0
  clear hA0 hval0
  refine (weightBack_walk q hq W).mono fun e W' ⟨he, hb⟩ => ?_
  subst he
  exact ⟨_, rfl, law_post laidOut rfl (by kernel_rfl) 4 Try.underlying4 rfl hW' rfl hb⟩
theorem weightBack_holds : Rows.WeightBackSaid :=
  OpenClaim.holds_of_wide 8 Try.f8 rfl rfl rfl rfl rfl rfl rfl ⟨rfl, rfl, rfl, rfl, rfl⟩ rfl rfl rfl rfl rfl (by kernel_rfl) Try.func8 (by kernel_rfl)
    (of_decide_eq_true (by kernel_rfl)) (by unfold Func.isWrapper; first | (rw [if_pos (by decide +kernel)]; kernel_rfl) | (rw [if_neg (by decide +kernel)]; exact ⟨rfl, rfl⟩))
    (fun os started H enc _ => weightBack_lifted os started H enc)
#print axioms weightBack_holds
set_option maxRecDepth 100000 in
theorem weightNans_lifted (os : Os) (started : os.Started) (H : Type) (enc : TypeId × Value → H) :
    ReturnsInHanded {} Try.checked os 6 .any (Rows.weightNansSpec.pre6 enc Try.prog Try.f6 Rows.weightNansRow.domain false) (Rows.weightNansSpec.post enc Try.prog Try.f6 false true false false) := by
  refine returnsInHanded_of_change (C := Try.checked) own started (by kernel_rfl) Try.func6
    (ChangeSpec.witness6 (enc := enc) (C := Try.checked) false ⟨#[], #[.int .u64 0, .int .u64 0], []⟩ 8 (by kernel_rfl) (by kernel_rfl) (by kernel_rfl) (by kernel_rfl)) ?_
  intro W base args ds gs before hval0 hW hcnd _
  have hval : ∀ (j : Nat) t v, Try.f6.params[j]? = some t → args[j]? = some v → Value.okWide Try.prog W .any base t v := hval0
  have hW' := hW
  obtain ⟨p, q, hA0, hV, rfl, hfz, hnd⟩ := hW
  have hA : DataW.TrodAll enc Try.prog W 0 (fun _ => true) true Try.f6.params.toList args.toList ds p := hA0
  rw [Try.params6] at hA hval
  obtain ⟨v0, vs0, d0, ds0, p0, q0, hargs, rfl, rfl, h0, r0⟩ := trodAll_cons hA
  obtain ⟨v1, vs1, d1, ds1, p1, q1, rfl, rfl, rfl, h1, r1⟩ := trodAll_cons r0
  obtain ⟨rfl, rfl, rfl⟩ := trodAll_nil r1
  obtain rfl : args = #[v0, v1] := by cases args; simp_all
  obtain ⟨a, rfl, ha⟩ := open_u64 Try.underlying22 (hval 0 22 v0 rfl rfl) h0
  obtain ⟨b, rfl, hb⟩ := open_u64 Try.underlying22 (hval 1 22 v1 rfl rfl) h1
  clear hA0 hval0
  refine (weightNans_walk a b ha hb W).mono fun e W' ⟨he, hb⟩ => ?_
  subst he
  exact ⟨_, rfl, law_post laidOut rfl (by kernel_rfl) 4 Try.underlying4 rfl hW' rfl hb⟩
theorem weightNans_holds : Rows.WeightNansSaid :=
  OpenClaim.holds_of_wide 6 Try.f6 rfl rfl rfl rfl rfl rfl rfl ⟨rfl, rfl, rfl, rfl, rfl⟩ rfl rfl rfl rfl rfl (by kernel_rfl) Try.func6 (by kernel_rfl)
    (of_decide_eq_true (by kernel_rfl)) (by unfold Func.isWrapper; first | (rw [if_pos (by decide +kernel)]; kernel_rfl) | (rw [if_neg (by decide +kernel)]; exact ⟨rfl, rfl⟩))
    (fun os started H enc _ => weightNans_lifted os started H enc)
#print axioms weightNans_holds
end Go.Proofs.Ytobafaacojndiaa
