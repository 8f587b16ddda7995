/- WeightQuanta: for every 64 bits, as a float64, the program's quanta, whether it is a weight, and its plain form are the document's. No condition. -/
import Derived.Test.YtobafaacojndiaaFrame
import Derived.Test.YtobafaacojndiaaWgF
set_option linter.unusedSimpArgs false
set_option linter.unusedVariables false
namespace Go.Proofs.Ytobafaacojndiaa
open Go.ChangeShapes Go.WideShapes Go.ChangeAt Go.RowKit

theorem shl_zero (u : Nat) (hu : u < 18446744073709551616) : (IntKind.u64.wrap ((u : Int) * 2) == 0) = (decide (u % 9223372036854775808 = 0)) := by
  rw [IntKind.wrap_u64, Bool.eq_iff_iff]; simp; omega

theorem same_refl (x : Nat) : wSame x x = true := by simp [wSame]
theorem plain_same (u : Nat) (hu : u < 18446744073709551616) (h : ¬ u % 9223372036854775808 = 0) : wPlain u = u := by
  unfold wPlain
  have hord : ord u 0 = Ieee.double.order u 0 := rfl
  rw [hord]
  have f0 : Fl.fin 0 := by unfold Fl.fin; omega
  have s0 : Fl.SV 0 = 0 := by decide +kernel
  by_cases hf : Fl.fin u
  · rw [Fl.ord_fin hf f0, s0]
    have : compare (Fl.SV u) 0 ≠ .eq := by
      intro hc
      have hz := Int.compare_eq_eq.1 hc
      unfold Fl.SV at hz
      split at hz
      · have := Fl.V_pos (r := u) (by omega)
        omega
      · have := Fl.V_pos (r := u - 9223372036854775808) (by omega)
        omega
    rw [if_neg]
    simpa using this
  · rcases Fl.not_fin hu hf with rfl | rfl | ⟨s, f, h⟩
    · rw [Fl.ord_inf_l f0]; rfl
    · rw [Fl.ord_ninf_l f0]; rfl
    · rw [Fl.ord_nan_l h]; rfl
theorem plain_zero (u : Nat) (hu : u < 18446744073709551616) (h : u % 9223372036854775808 = 0) : wPlain u = 0 := by
  have : u = 0 ∨ u = 9223372036854775808 := by omega
  rcases this with rfl | rfl <;> decide +kernel

theorem weightQuanta_walk (u : Nat) (hu : u < 18446744073709551616) (w : World) :
    Calls Try.prog 3 #[.int .u64 u] w fun e w' => e = .returned (.bool true) ∧ Below w.heap.size w w' := by
  have h1 := call_float64frombits
  have hr := wRight_eq hu
  have hs := shl_zero u hu
  by_cases hz : u % 9223372036854775808 = 0
  · have hp := plain_zero u hu hz
    have s0 := same_refl 0
    have hz1 : (IntKind.u64.wrap ((u : Int) * 2) == 0) = true := by rw [hs]; simpa using hz
    clear hs hz
    have HR := Lib.hid hr
    clear hr
    go_enter Try.func3, Try.ntmps3
    go_wp2_with (first
      | (go_at_call 9; refine (awake_any _).mono ?_; rintro e w1 ⟨rfl, hb1⟩)
      | (go_at_call 11; refine (quanta_any _ hu _).mono ?_; rintro e w' ⟨rfl, rfl⟩)
      | (go_at_call 12; refine (refQ_any _ hu _).mono ?_; rintro e w' ⟨rfl, rfl⟩)
      | (go_at_call 13; refine (right_any _ _).mono ?_; rintro e w' ⟨rfl, rfl⟩; rw [HR.out])
      | (go_at_call 15; refine (plain_any _ _).mono ?_; rintro e w' ⟨rfl, rfl⟩)
      | (go_at_call 14; refine (same_any _ _ _).mono ?_; rintro e w' ⟨rfl, rfl⟩))
    go_ret
    exact ⟨by simp [s0], hb1⟩
  · have hp := plain_same u hu hz
    have s0 := same_refl u
    have hz1 : (IntKind.u64.wrap ((u : Int) * 2) == 0) = false := by rw [hs]; simpa using hz
    clear hs hz
    have HR := Lib.hid hr
    clear hr
    go_enter Try.func3, Try.ntmps3
    go_wp2_with (first
      | (go_at_call 9; refine (awake_any _).mono ?_; rintro e w1 ⟨rfl, hb1⟩)
      | (go_at_call 11; refine (quanta_any _ hu _).mono ?_; rintro e w' ⟨rfl, rfl⟩)
      | (go_at_call 12; refine (refQ_any _ hu _).mono ?_; rintro e w' ⟨rfl, rfl⟩)
      | (go_at_call 13; refine (right_any _ _).mono ?_; rintro e w' ⟨rfl, rfl⟩; rw [HR.out])
      | (go_at_call 15; refine (plain_any _ _).mono ?_; rintro e w' ⟨rfl, rfl⟩)
      | (go_at_call 14; refine (same_any _ _ _).mono ?_; rintro e w' ⟨rfl, rfl⟩))
    go_ret
    exact ⟨by simp [s0], hb1⟩

set_option maxRecDepth 100000 in
theorem weightQuanta_lifted (os : Os) (started : os.Started) (H : Type) (enc : TypeId × Value → H) :
    ReturnsInHanded {} Try.checked os 3 .any (Rows.weightQuantaSpec.pre6 enc Try.prog Try.f3 Rows.weightQuantaRow.domain false) (Rows.weightQuantaSpec.post enc Try.prog Try.f3 false true false false) := by
  refine returnsInHanded_of_change (C := Try.checked) own started (by kernel_rfl) Try.func3
    (ChangeSpec.witness6 (enc := enc) (C := Try.checked) false ⟨#[], #[.int .u64 0], []⟩ 8 (by kernel_rfl) (by kernel_rfl) (by kernel_rfl) (by kernel_rfl)) ?_
  intro W base args ds gs before hval0 hW hcnd _
  have hval : ∀ (j : Nat) t v, Try.f3.params[j]? = some t → args[j]? = some v → Value.okWide Try.prog W .any base t v := hval0
  have hW' := hW
  obtain ⟨p, q, hA0, hV, rfl, hfz, hnd⟩ := hW
  have hA : DataW.TrodAll enc Try.prog W 0 (fun _ => true) true Try.f3.params.toList args.toList ds p := hA0
  rw [Try.params3] at hA hval
  obtain ⟨v0, vs0, d0, ds0, p0, q0, hargs, rfl, rfl, h0, r0⟩ := trodAll_cons hA
  obtain ⟨rfl, rfl, rfl⟩ := trodAll_nil r0
  obtain rfl : args = #[v0] := by cases args; simp_all
  obtain ⟨u, rfl, hu⟩ := open_u64 Try.underlying22 (hval 0 22 v0 rfl rfl) h0
  clear hA0 hval0
  refine (weightQuanta_walk u hu W).mono fun e W' ⟨he, hb⟩ => ?_
  subst he
  exact ⟨_, rfl, law_post laidOut rfl (by kernel_rfl) 4 Try.underlying4 rfl hW' rfl hb⟩
theorem weightQuanta_holds : Rows.WeightQuantaSaid :=
  OpenClaim.holds_of_wide 3 Try.f3 rfl rfl rfl rfl rfl rfl rfl ⟨rfl, rfl, rfl, rfl, rfl⟩ rfl rfl rfl rfl rfl (by kernel_rfl) Try.func3 (by kernel_rfl)
    (of_decide_eq_true (by kernel_rfl)) (by unfold Func.isWrapper; first | (rw [if_pos (by decide +kernel)]; kernel_rfl) | (rw [if_neg (by decide +kernel)]; exact ⟨rfl, rfl⟩))
    (fun os started H enc _ => weightQuanta_lifted os started H enc)
#print axioms weightQuanta_holds
end Go.Proofs.Ytobafaacojndiaa
