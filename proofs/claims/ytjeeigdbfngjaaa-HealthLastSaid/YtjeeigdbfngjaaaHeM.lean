/- HealthSteps, HealthRuns: the program's step and its run are the document's. -/
import Derived.Test.YtjeeigdbfngjaaaHeL
import Derived.Test.YtjeeigdbfngjaaaFrame
set_option linter.unusedSimpArgs false
set_option linter.unusedVariables false
namespace Go.Proofs.Ytjeeigdbfngjaaa
open Go.ChangeShapes Go.WideShapes Go.ChangeAt Go.RowKit

set_option maxHeartbeats 4000000 in
set_option maxRecDepth 100000 in
theorem healthSteps_walk (h : Hl) (a : Bool) (b c : Int) (w : World) (hg : h.good) : Calls Try.prog 3 #[.agg h.arr, .bool a, .int .i64 b, .int .i64 c] w fun e w' => e = .returned (.bool true) ∧ Below w.heap.size w w' := by
  have hl0 := hg.1
  have OK := Lib.hid (show -9223372036854775808 ≤ h.run ∧ h.run ≤ 9223372036854775807 from hg.2)
  have HB0 := Lib.hid (fun ob => ((Below.refl w.heap.size w).alloc (Nat.le_refl _) ob : Below w.heap.size w (w.alloc ob)))
  obtain ⟨r, hr⟩ : ∃ r, r = stepH h a b c := ⟨_, rfl⟩
  have ST := Lib.hid (fun W => hr ▸ step_any h a b c W OK.out)
  have RT := Lib.hid (fun W => hr ▸ refStep_any h a b c W OK.out)
  have EQ1 := hlEq_self r.1
  have EQ2 : (r.2 == r.2) = true := by simp
  clear hg hr
  rcases Nat.lt_or_ge 200 h.name.length with hlen | hlen
  · have hd : decide ((200 : Int) < h.name.length) = true := decide_eq_true (by omega)
    clear hlen
    go_enter Try.func3, Try.ntmps3
    go_wp2_with fail
    refine (awake_any _).mono ?_
    rintro e w1 ⟨rfl, hb1⟩
    have HB1 := Lib.hid (below2 (HB0.out _) hb1)
    obtain ⟨f1, f2, f3, f4⟩ := ((Box.new w h.arr 23).go hb1).facts
    clear hb1
    go_wp2_with fail
    refine (awake_any _).mono ?_
    rintro e w2 ⟨rfl, hb2⟩
    have HB2 := Lib.hid (below2 HB1.out hb2)
    clear hb2 f1 f2 f3 f4
    go_wp2
    go_ret
    exact ⟨rfl, HB2.out⟩
  · have hd : decide ((200 : Int) < h.name.length) = false := decide_eq_false (by omega)
    clear hlen
    go_enter Try.func3, Try.ntmps3
    go_wp2_with fail
    refine (awake_any _).mono ?_
    rintro e w1 ⟨rfl, hb1⟩
    have HB1 := Lib.hid (below2 (HB0.out _) hb1)
    have BX := Lib.hid ((Box.new w h.arr 23).go hb1)
    obtain ⟨f1, f2, f3, f4⟩ := BX.out.facts
    clear hb1
    go_wp2_with fail
    refine (ST.out _).mono ?_
    rintro e w2 ⟨rfl, hb2⟩
    have HB2 := Lib.hid (below2 HB1.out hb2)
    have BX2 := Lib.hid ((BX.out.go hb2).alloc (.cells r.1.arr 23))
    clear hb2 f1 f2 f3 f4
    obtain ⟨f1, f2, f3, f4⟩ := BX2.out.facts
    go_wp2_with fail
    refine (RT.out _).mono ?_
    rintro e w3 ⟨rfl, hb3⟩
    have HB3 := Lib.hid (below2 (HB2.out.alloc HB2.out.size _) hb3)
    obtain ⟨g1, g2, g3, g4⟩ := (((Box.new w2 r.1.arr 23).go hb3).alloc (.cells r.1.arr 23)).facts
    clear hb3 f1 f2 f3 f4
    go_wp2
    go_ret
    exact ⟨rfl, HB3.out.alloc HB3.out.size _⟩
set_option maxRecDepth 100000 in
theorem healthSteps_lifted (os : Os) (started : os.Started) (H : Type) (enc : TypeId × Value → H) :
    ReturnsInHanded {} Try.checked os 3 .any (Rows.healthStepsSpec.pre6 enc Try.prog Try.f3 Rows.healthStepsRow.domain false) (Rows.healthStepsSpec.post enc Try.prog Try.f3 false true false false) := by
  refine returnsInHanded_of_change (C := Try.checked) own started (by kernel_rfl) Try.func3
    (ChangeSpec.witness6 (enc := enc) (C := Try.checked) false ⟨#[], #[.agg noHl.arr, .bool false, .int .i64 0, .int .i64 0], []⟩ 8 (by kernel_rfl) (by kernel_rfl) (by kernel_rfl) (by kernel_rfl)) ?_
  intro W base args ds gs before hval0 hW hcnd _
  have hval : ∀ (j : Nat) t v, Try.f3.params[j]? = some t → args[j]? = some v → Value.okWide Try.prog W .any base t v := hval0
  have hW' := hW
  obtain ⟨p, q, hA0, hV, rfl, hfz, hnd⟩ := hW
  have hA : DataW.TrodAll enc Try.prog W 0 (fun _ => true) true Try.f3.params.toList args.toList ds p := hA0
  rw [Try.params3] at hA hval
  obtain ⟨v0, vs0, d0, ds0, p0, q0, hargs, rfl, rfl, h0, r0⟩ := trodAll_cons hA
  obtain ⟨v1, vs1, d1, ds1, p1, q1, rfl, rfl, rfl, h1, r1⟩ := trodAll_cons r0
  obtain ⟨v2, vs2, d2, ds2, p2, q2, rfl, rfl, rfl, h2, r2⟩ := trodAll_cons r1
  obtain ⟨v3, vs3, d3, ds3, p3, q3, rfl, rfl, rfl, h3, r3⟩ := trodAll_cons r2
  obtain ⟨rfl, rfl, rfl⟩ := trodAll_nil r3
  obtain rfl : args = #[v0, v1, v2, v3] := by cases args; simp_all
  obtain ⟨h, rfl, hgh⟩ := open_hl (hval 0 23 v0 rfl rfl) h0
  obtain ⟨a, rfl⟩ := open_bl Try.underlying4 (hval 1 4 v1 rfl rfl) h1
  obtain ⟨b, rfl, hb⟩ := open_i64 Try.underlying3 (hval 2 3 v2 rfl rfl) h2
  obtain ⟨c, rfl, hc⟩ := open_i64 Try.underlying3 (hval 3 3 v3 rfl rfl) h3
  clear hA0 hval0
  refine (healthSteps_walk h a b c W hgh).mono fun e W' ⟨he, hb⟩ => ?_
  subst he
  exact ⟨_, rfl, law_post laidOut rfl (by kernel_rfl) 4 Try.underlying4 rfl hW' rfl hb⟩
theorem healthSteps_holds : Rows.HealthStepsSaid :=
  OpenClaim.holds_of_wide 3 Try.f3 rfl rfl rfl rfl rfl rfl rfl ⟨rfl, rfl, rfl, rfl, rfl⟩ rfl rfl rfl rfl rfl (by kernel_rfl) Try.func3 (by kernel_rfl)
    (of_decide_eq_true (by kernel_rfl)) (by unfold Func.isWrapper; first | (rw [if_pos (by decide +kernel)]; kernel_rfl) | (rw [if_neg (by decide +kernel)]; exact ⟨rfl, rfl⟩))
    (fun os started H enc _ => healthSteps_lifted os started H enc)
#print axioms healthSteps_holds

set_option maxHeartbeats 4000000 in
set_option maxRecDepth 100000 in
theorem healthRuns_walk (h : Hl) (l : List Bool) (b c : Int) (A : Option Addr) (n cap : Nat) (w : World) (hg : h.good) (hR : RdL w w.heap.size A n l) (hn : n ≤ 9223372036854775807) : Calls Try.prog 4 #[.agg h.arr, .slice A n cap, .int .i64 b, .int .i64 c] w fun e w' => e = .returned (.bool true) ∧ Below w.heap.size w w' := by
  have hl0 := hg.1
  have OK := Lib.hid (show okRun h from hg.2)
  have HB0 := Lib.hid (fun ob => ((Below.refl w.heap.size w).alloc (Nat.le_refl _) ob : Below w.heap.size w (w.alloc ob)))
  have R0 := Lib.hid (fun ob => hR.up ob)
  obtain ⟨r, hr⟩ : ∃ r, r = runH h l b c := ⟨_, rfl⟩
  have ST := Lib.hid (fun A n c2 W (hR : RdL W W.heap.size A n l) (hn : n ≤ 100000) => hr ▸ run_any h l b c A n c2 W hR OK.out hn)
  have RT := Lib.hid (fun A n c2 W (hR : RdL W W.heap.size A n l) (hn : n ≤ 100000) => hr ▸ refRun_any h l b c A n c2 W hR OK.out hn)
  have EQ1 := hlEq_self r.1
  have EQ2 : (r.2 == r.2) = true := by simp
  clear hg hr hR
  rcases Nat.lt_or_ge 1000 n with hlen | hlen
  · have hd : decide ((1000 : Int) < n) = true := decide_eq_true (by omega)
    clear hlen
    go_enter Try.func4, Try.ntmps4
    go_wp2_with fail
    refine (awake_any _).mono ?_
    rintro e w1 ⟨rfl, hb1⟩
    have HB1 := Lib.hid (below2 (HB0.out _) hb1)
    obtain ⟨f1, f2, f3, f4⟩ := ((Box.new w h.arr 23).go hb1).facts
    clear hb1
    go_wp2_with fail
    refine (awake_any _).mono ?_
    rintro e w2 ⟨rfl, hb2⟩
    have HB2 := Lib.hid (below2 HB1.out hb2)
    clear hb2 f1 f2 f3 f4
    go_wp2
    go_ret
    exact ⟨rfl, HB2.out⟩
  have HNN := Lib.hid hlen
  have hd1 : decide ((1000 : Int) < n) = false := decide_eq_false (by omega)
  clear hlen
  rcases Nat.lt_or_ge 200 h.name.length with hlen | hlen
  · have hd : decide ((200 : Int) < h.name.length) = true := decide_eq_true (by omega)
    clear hlen
    go_enter Try.func4, Try.ntmps4
    go_wp2_with fail
    refine (awake_any _).mono ?_
    rintro e w1 ⟨rfl, hb1⟩
    have HB1 := Lib.hid (below2 (HB0.out _) hb1)
    obtain ⟨f1, f2, f3, f4⟩ := ((Box.new w h.arr 23).go hb1).facts
    clear hb1
    go_wp2_with fail
    refine (awake_any _).mono ?_
    rintro e w2 ⟨rfl, hb2⟩
    have HB2 := Lib.hid (below2 HB1.out hb2)
    clear hb2 f1 f2 f3 f4
    go_wp2
    go_ret
    exact ⟨rfl, HB2.out⟩
  · have hd : decide ((200 : Int) < h.name.length) = false := decide_eq_false (by omega)
    clear hlen
    go_enter Try.func4, Try.ntmps4
    go_wp2_with fail
    refine (awake_any _).mono ?_
    rintro e w1 ⟨rfl, hb1⟩
    have HB1 := Lib.hid (below2 (HB0.out _) hb1)
    have R1 := Lib.hid ((R0.out _).go hb1)
    have BX := Lib.hid ((Box.new w h.arr 23).go hb1)
    obtain ⟨f1, f2, f3, f4⟩ := BX.out.facts
    clear hb1
    go_wp2_with fail
    refine (ST.out _ _ _ _ R1.out (by have := HNN.out; omega)).mono ?_
    rintro e w2 ⟨rfl, hb2⟩
    have HB2 := Lib.hid (below2 HB1.out hb2)
    have R2 := Lib.hid ((R1.out.go hb2).up (.cells r.1.arr 23))
    have BX2 := Lib.hid ((BX.out.go hb2).alloc (.cells r.1.arr 23))
    clear hb2 f1 f2 f3 f4
    obtain ⟨f1, f2, f3, f4⟩ := BX2.out.facts
    go_wp2_with fail
    refine (RT.out _ _ _ _ R2.out (by have := HNN.out; omega)).mono ?_
    rintro e w3 ⟨rfl, hb3⟩
    have HB3 := Lib.hid (below2 (HB2.out.alloc HB2.out.size _) hb3)
    obtain ⟨g1, g2, g3, g4⟩ := (((Box.new w2 r.1.arr 23).go hb3).alloc (.cells r.1.arr 23)).facts
    clear hb3 f1 f2 f3 f4
    go_wp2
    go_ret
    exact ⟨rfl, HB3.out.alloc HB3.out.size _⟩
set_option maxRecDepth 100000 in
theorem healthRuns_lifted (os : Os) (started : os.Started) (H : Type) (enc : TypeId × Value → H) :
    ReturnsInHanded {} Try.checked os 4 .any (Rows.healthRunsSpec.pre6 enc Try.prog Try.f4 Rows.healthRunsRow.domain false) (Rows.healthRunsSpec.post enc Try.prog Try.f4 false true false false) := by
  refine returnsInHanded_of_change (C := Try.checked) own started (by kernel_rfl) Try.func4
    (ChangeSpec.witness6 (enc := enc) (C := Try.checked) false ⟨#[], #[.agg noHl.arr, .slice none 0 0, .int .i64 0, .int .i64 0], []⟩ 8 (by kernel_rfl) (by kernel_rfl) (by kernel_rfl) (by kernel_rfl)) ?_
  intro W base args ds gs before hval0 hW hcnd _
  have hval : ∀ (j : Nat) t v, Try.f4.params[j]? = some t → args[j]? = some v → Value.okWide Try.prog W .any base t v := hval0
  have hW' := hW
  obtain ⟨p, q, hA0, hV, rfl, hfz, hnd⟩ := hW
  have hA : DataW.TrodAll enc Try.prog W 0 (fun _ => true) true Try.f4.params.toList args.toList ds p := hA0
  rw [Try.params4] at hA hval
  obtain ⟨v0, vs0, d0, ds0, p0, q0, hargs, rfl, rfl, h0, r0⟩ := trodAll_cons hA
  obtain ⟨v1, vs1, d1, ds1, p1, q1, rfl, rfl, rfl, h1, r1⟩ := trodAll_cons r0
  obtain ⟨v2, vs2, d2, ds2, p2, q2, rfl, rfl, rfl, h2, r2⟩ := trodAll_cons r1
  obtain ⟨v3, vs3, d3, ds3, p3, q3, rfl, rfl, rfl, h3, r3⟩ := trodAll_cons r2
  obtain ⟨rfl, rfl, rfl⟩ := trodAll_nil r3
  obtain rfl : args = #[v0, v1, v2, v3] := by cases args; simp_all
  obtain ⟨h, rfl, hgh⟩ := open_hl (hval 0 23 v0 rfl rfl) h0
  obtain ⟨Al, nl, cl, ll, rfl, hRl, hml⟩ := open_bls (hval 1 28 v1 rfl rfl) h1
  obtain ⟨b, rfl, hb⟩ := open_i64 Try.underlying3 (hval 2 3 v2 rfl rfl) h2
  obtain ⟨c, rfl, hc⟩ := open_i64 Try.underlying3 (hval 3 3 v3 rfl rfl) h3
  clear hA0 hval0
  refine (healthRuns_walk h ll b c Al nl cl W hgh hRl hml).mono fun e W' ⟨he, hb⟩ => ?_
  subst he
  exact ⟨_, rfl, law_post laidOut rfl (by kernel_rfl) 4 Try.underlying4 rfl hW' rfl hb⟩
theorem healthRuns_holds : Rows.HealthRunsSaid :=
  OpenClaim.holds_of_wide 4 Try.f4 rfl rfl rfl rfl rfl rfl rfl ⟨rfl, rfl, rfl, rfl, rfl⟩ rfl rfl rfl rfl rfl (by kernel_rfl) Try.func4 (by kernel_rfl)
    (of_decide_eq_true (by kernel_rfl)) (by unfold Func.isWrapper; first | (rw [if_pos (by decide +kernel)]; kernel_rfl) | (rw [if_neg (by decide +kernel)]; exact ⟨rfl, rfl⟩))
    (fun os started H enc _ => healthRuns_lifted os started H enc)
#print axioms healthRuns_holds
end Go.Proofs.Ytjeeigdbfngjaaa
