/- HealthSplits: a run over l and then m is the run over both. -/
import Derived.Test.YtjeeigdbfngjaaaHeM
set_option linter.unusedSimpArgs false
set_option linter.unusedVariables false
namespace Go.Proofs.Ytjeeigdbfngjaaa
open Go.ChangeShapes Go.WideShapes Go.ChangeAt Go.RowKit

/-! ### the plain law -/
theorem run_off (a b : Int) (l : List Bool) : ∀ (h : Hl) (k : Int), l.foldl (runS a b) (h, k) = ((runH h l a b).1, k + (runH h l a b).2) := by
  induction l with
  | nil => intro h k; simp [runH]
  | cons x xs ih =>
    intro h k
    unfold runH
    rw [List.foldl_cons, List.foldl_cons]
    have e : ∀ k : Int, runS a b (h, k) x = ((stepH h x a b).1, if (stepH h x a b).2 = true then k + 1 else k) := fun k => rfl
    rw [e, e, ih, ih]
    by_cases hq : (stepH h x a b).2 = true
    · simp only [hq, if_true]; congr 1; omega
    · simp only [hq, if_false]; congr 1; simp
theorem runH_app (h : Hl) (l m : List Bool) (a b : Int) : runH h (l ++ m) a b = ((runH (runH h l a b).1 m a b).1, (runH h l a b).2 + (runH (runH h l a b).1 m a b).2) := by
  rw [← run_off]
  conv => lhs; unfold runH
  rw [List.foldl_append]
  rfl
theorem run_keeps (a b : Int) (l : List Bool) : ∀ (h : Hl) (k : Int), okRun h → (l.foldl (runS a b) (h, k)).1.name = h.name ∧ okRun (l.foldl (runS a b) (h, k)).1 ∧ k ≤ (l.foldl (runS a b) (h, k)).2 ∧ (l.foldl (runS a b) (h, k)).2 ≤ k + l.length := by
  induction l with
  | nil => intro h k hh; exact ⟨rfl, hh, Int.le_refl _, by simp⟩
  | cons x xs ih =>
    intro h k hh
    rw [List.foldl_cons]
    have e : runS a b (h, k) x = ((stepH h x a b).1, if (stepH h x a b).2 = true then k + 1 else k) := rfl
    rw [e]
    obtain ⟨h1, h2, h3, h4⟩ := ih (stepH h x a b).1 (if (stepH h x a b).2 = true then k + 1 else k) (stepH_ok x a b)
    refine ⟨by rw [h1, stepH_name], h2, ?_, ?_⟩
    · split at h3 <;> simp_all <;> omega
    · rw [List.length_cons]
      split at h4 <;> simp_all <;> omega
theorem infoBl : ∃ i, Try.prog.info? 4 = some i ∧ i.zero = some (.bool false) ∧ i.size = 1 ∧ i.bytes ≤ 100 := by
  obtain ⟨i, hi, hz, hs, hb⟩ := info_parts (show (Try.prog.info? 4).map (fun i => (i.zero, i.size, i.bytes)) = some (some (.bool false), 1, 1) by kernel_rfl)
  exact ⟨i, hi, hz, hs, by omega⟩

set_option maxHeartbeats 8000000 in
set_option maxRecDepth 100000 in
theorem healthSplits_walk (h : Hl) (l m : List Bool) (b c : Int) (A B : Option Addr) (n k ca cb : Nat) (w : World) (hg : h.good) (hR : RdL w w.heap.size A n l) (hn : n ≤ 9223372036854775807) (hT : RdL w w.heap.size B k m) (hk : k ≤ 9223372036854775807) :
    Calls Try.prog 6 #[.agg h.arr, .slice A n ca, .slice B k cb, .int .i64 b, .int .i64 c] w fun e w' => e = .returned (.bool true) ∧ Below w.heap.size w w' := by
  have hl0 := hg.1
  have OK := Lib.hid (show okRun h from hg.2)
  have HB0 := Lib.hid (fun ob => ((Below.refl w.heap.size w).alloc (Nat.le_refl _) ob : Below w.heap.size w (w.alloc ob)))
  have R0 := Lib.hid (fun ob => hR.up ob)
  have T0 := Lib.hid (fun ob => hT.up ob)
  have NL := Lib.hid hR.1
  have NM := Lib.hid hT.1
  clear hg hR hT
  rcases Nat.lt_or_ge 500 n with hlen | hlen
  · have hd : decide ((500 : Int) < n) = true := decide_eq_true (by omega)
    clear hlen
    go_enter Try.func6, Try.ntmps6
    go_wp2_with fail
    refine (awake_any _).mono ?_
    rintro e w1 ⟨rfl, hb1⟩
    have HB1 := Lib.hid (below2 (HB0.out _) hb1)
    obtain ⟨f1, f2, f3, f4⟩ := ((Box.new w h.arr 23).go hb1).facts
    clear hb1
    go_wp2_with fail
    refine (awake_any _).mono ?_
    rintro e w2 ⟨rfl, hb2⟩
    have HB2 := Lib.hid (below2 HB1.out hb2)
    clear hb2 f1 f2 f3 f4
    go_wp2
    go_ret
    exact ⟨rfl, HB2.out⟩
  have HNN := Lib.hid hlen
  have hd1 : decide ((500 : Int) < n) = false := decide_eq_false (by omega)
  clear hlen
  rcases Nat.lt_or_ge 500 k with hlen | hlen
  · have hd : decide ((500 : Int) < k) = true := decide_eq_true (by omega)
    clear hlen
    go_enter Try.func6, Try.ntmps6
    go_wp2_with fail
    refine (awake_any _).mono ?_
    rintro e w1 ⟨rfl, hb1⟩
    have HB1 := Lib.hid (below2 (HB0.out _) hb1)
    obtain ⟨f1, f2, f3, f4⟩ := ((Box.new w h.arr 23).go hb1).facts
    clear hb1
    go_wp2_with fail
    refine (awake_any _).mono ?_
    rintro e w2 ⟨rfl, hb2⟩
    have HB2 := Lib.hid (below2 HB1.out hb2)
    clear hb2 f1 f2 f3 f4
    go_wp2
    go_ret
    exact ⟨rfl, HB2.out⟩
  have HKK := Lib.hid hlen
  have hd2 : decide ((500 : Int) < k) = false := decide_eq_false (by omega)
  clear hlen
  rcases Nat.lt_or_ge 200 h.name.length with hlen | hlen
  · have hd : decide ((200 : Int) < h.name.length) = true := decide_eq_true (by omega)
    clear hlen
    go_enter Try.func6, Try.ntmps6
    go_wp2_with fail
    refine (awake_any _).mono ?_
    rintro e w1 ⟨rfl, hb1⟩
    have HB1 := Lib.hid (below2 (HB0.out _) hb1)
    obtain ⟨f1, f2, f3, f4⟩ := ((Box.new w h.arr 23).go hb1).facts
    clear hb1
    go_wp2_with fail
    refine (awake_any _).mono ?_
    rintro e w2 ⟨rfl, hb2⟩
    have HB2 := Lib.hid (below2 HB1.out hb2)
    clear hb2 f1 f2 f3 f4
    go_wp2
    go_ret
    exact ⟨rfl, HB2.out⟩
  have hd : decide ((200 : Int) < h.name.length) = false := decide_eq_false (by omega)
  clear hlen
  obtain ⟨r, hr⟩ : ∃ r, r = runH h l b c := ⟨_, rfl⟩
  obtain ⟨q, hq⟩ : ∃ q, q = runH r.1 m b c := ⟨_, rfl⟩
  obtain ⟨k1, k2, k3, k4⟩ : r.1.name = h.name ∧ okRun r.1 ∧ 0 ≤ r.2 ∧ r.2 ≤ 0 + l.length := by rw [hr]; exact run_keeps b c l h 0 OK.out
  obtain ⟨q1, q2, q3, q4⟩ : q.1.name = r.1.name ∧ okRun q.1 ∧ 0 ≤ q.2 ∧ q.2 ≤ 0 + m.length := by rw [hq]; exact run_keeps b c m r.1 0 k2
  have hall : runH h (l ++ m) b c = (q.1, r.2 + q.2) := by rw [runH_app, ← hr, ← hq]
  have S1 := Lib.hid (fun A n c2 W (hR : RdL W W.heap.size A n l) (hn : n ≤ 100000) => hr ▸ run_any h l b c A n c2 W hR OK.out hn)
  have S2 := Lib.hid (fun A n c2 W (hR : RdL W W.heap.size A n m) (hn : n ≤ 100000) => hq ▸ run_any r.1 m b c A n c2 W hR k2 hn)
  have S3 := Lib.hid (fun A n c2 W (hR : RdL W W.heap.size A n (l ++ m)) (hn : n ≤ 100000) => hall ▸ run_any h (l ++ m) b c A n c2 W hR OK.out hn)
  have NLM := Lib.hid (show (l ++ m).length = n + k by rw [List.length_append, NL.out, NM.out])
  have EQ1 := hlEq_self q.1
  have EN : (q.1.name == h.name) = true := by rw [q1, k1]; simp
  have hnl := NL.out
  have hnm := NM.out
  have hle1 := HNN.out
  have hle2 := HKK.out
  have x1 : -9223372036854775808 ≤ r.2 + q.2 := by omega
  have x2 : r.2 + q.2 ≤ 9223372036854775807 := by omega
  clear hr hq hall k1 k2 k3 k4 q1 q2 q3 q4 hnl hnm
  have hle1 := HNN.out
  have hle2 := HKK.out
  obtain ⟨i0, hi0, hz0, hz1, hzb⟩ := infoBl
  have HI0 := Lib.hid hi0
  have HZ0 := Lib.hid hz0
  have HZ1 := Lib.hid hz1
  have H63 := Lib.hid (show 0 + n ≤ maxLen by unfold maxLen; omega)
  have H64 := Lib.hid (show n + k ≤ maxLen by unfold maxLen; omega)
  have HBY := Lib.hid (show (0 + n) * i0.bytes ≤ 140737488355328 from Nat.le_trans (Nat.mul_le_mul (show 0 + n ≤ 1000 by omega) hzb) (by omega))
  have HBY2 := Lib.hid (show (n + k) * i0.bytes ≤ 140737488355328 from Nat.le_trans (Nat.mul_le_mul (show n + k ≤ 1000 by omega) hzb) (by omega))
  have NO1 := Lib.hid (rows_one blA blA_one l)
  have NO2 := Lib.hid (rows_one blA blA_one m)
  clear hi0 hz0 hz1 hzb
  go_enter Try.func6, Try.ntmps6
  go_wp2_with fail
  refine (awake_any _).mono ?_
  rintro e w1 ⟨rfl, hb1⟩
  have HB1 := Lib.hid (below2 (HB0.out _) hb1)
  have R1 := Lib.hid ((R0.out _).go hb1)
  have T1 := Lib.hid ((T0.out _).go hb1)
  have BX := Lib.hid ((Box.new w h.arr 23).go hb1)
  have O1 := Lib.hid (show (w1.alloc (.cells #[] 4)).ownsRow w1.heap.size 4 1 (.slice (some ⟨w1.heap.size, 0, none⟩) 0 0) 0 [] from World.ownsRow_lit w1 #[] 0 (Nat.le_refl _) (by unfold maxLen; omega) rfl)
  have O3 := Lib.hid (show w1.heap.size ≤ (w1.alloc (.cells #[] 4)).heap.size by simp)
  have R1A := Lib.hid (R1.out.alloc (Nat.le_refl _) (.cells #[] 4)).2.1
  obtain ⟨f1, f2, f3, f4⟩ := BX.out.facts
  clear hb1
  go_wp2_with (first | (at_builtin; refine wpList_app_rd _ rfl (.tmp 37) (.tmp 38) _ rfl w1.heap.size 4 i0 (.bool false) 1 i0.bytes Try.underlying28 HI0.out HZ0.out HZ1.out rfl rfl (Nat.succ_pos _) (.slice (some ⟨w1.heap.size, 0, none⟩) 0 0) 0 [] rfl O1.out w1.heap.size A n ca _ rfl R1A.out NO1.out H63.out HBY.out O3.out ?_; intro v1 x1 hown1 hg1 hat1; obtain ⟨A', c', hv, _, _⟩ := own_form hown1; subst hv; simp only [Nat.zero_add, List.nil_append] at hown1; have hbx := gb_below ((Below.refl w1.heap.size w1).alloc (Nat.le_refl _) (.cells #[] 4)) hg1 (Nat.le_refl _) O3.out; have OX := Lib.hid hown1; have BXX := Lib.hid hbx; have TX := Lib.hid (T1.out.below hbx).2.1; clear hown1 hg1 hat1 hbx) | (at_builtin; refine wpList_app_rd _ rfl (.tmp 39) (.tmp 40) _ rfl w1.heap.size 4 i0 (.bool false) 1 i0.bytes Try.underlying28 HI0.out HZ0.out HZ1.out rfl rfl (Nat.succ_pos _) (.slice A' n c') n _ rfl OX.out w1.heap.size B k cb _ rfl TX.out NO2.out H64.out HBY2.out BXX.out.size ?_; intro v2 x2w hown2 hg2 hat2; obtain ⟨A2, c2, hv2, _, _⟩ := own_form hown2; subst hv2; rw [rows_app] at hown2; have O2 := Lib.hid hown2; have BY := Lib.hid (BXX.out.grown hg2 BXX.out.size (fun k hk => (OX.out.lt k hk).1)); have BX2 := Lib.hid (BX.out.go BY.out); clear hown2 hg2 hat2 f1 f2 f3 f4; obtain ⟨f1, f2, f3, f4⟩ := BX2.out.facts))
  refine (S1.out A n ca _ (R1.out.go BY.out) (by omega)).mono ?_
  rintro e w3 ⟨rfl, hb3⟩
  have HB3 := Lib.hid (below2 (below2 HB1.out BY.out) hb3)
  have T3 := Lib.hid (((T1.out.go BY.out).go hb3).up (.cells r.1.arr 23))
  have L3 := Lib.hid (((RdR.of_own NLM.out O2.out : RdL x2w x2w.heap.size A2 (n + k) (l ++ m)).go hb3).up (.cells r.1.arr 23))
  have BX3 := Lib.hid ((BX2.out.go hb3).alloc (.cells r.1.arr 23))
  clear hb3 f1 f2 f3 f4
  obtain ⟨f1, f2, f3, f4⟩ := (Box.new w3 r.1.arr 23).facts
  go_wp2_with fail
  refine (S2.out B k cb _ T3.out (by omega)).mono ?_
  rintro e w4 ⟨rfl, hb4⟩
  have HB4 := Lib.hid (below2 (HB3.out.alloc HB3.out.size _) hb4)
  have L4 := Lib.hid ((L3.out.go hb4).up (.cells q.1.arr 23))
  have BX4 := Lib.hid ((BX3.out.go hb4).alloc (.cells q.1.arr 23))
  clear hb4 f1 f2 f3 f4
  obtain ⟨f1, f2, f3, f4⟩ := BX4.out.facts
  go_wp2_with fail
  refine (S3.out A2 (n + k) _ _ L4.out (by omega)).mono ?_
  rintro e w5 ⟨rfl, hb5⟩
  have HB5 := Lib.hid (below2 (HB4.out.alloc HB4.out.size _) hb5)
  have BX5 := Lib.hid ((BX4.out.go hb5).alloc (.cells q.1.arr 23))
  have BQ5 := Lib.hid (((Box.new w4 q.1.arr 23).go hb5).alloc (.cells q.1.arr 23))
  clear hb5 f1 f2 f3 f4
  obtain ⟨f1, f2, f3, f4⟩ := BX5.out.facts
  obtain ⟨g1, g2, g3, g4⟩ := BQ5.out.facts
  go_wp2
  go_ret
  exact ⟨rfl, HB5.out.alloc HB5.out.size _⟩
set_option maxRecDepth 100000 in
theorem healthSplits_lifted (os : Os) (started : os.Started) (H : Type) (enc : TypeId × Value → H) :
    ReturnsInHanded {} Try.checked os 6 .any (Rows.healthSplitsSpec.pre6 enc Try.prog Try.f6 Rows.healthSplitsRow.domain false) (Rows.healthSplitsSpec.post enc Try.prog Try.f6 false true false false) := by
  refine returnsInHanded_of_change (C := Try.checked) own started (by kernel_rfl) Try.func6
    (ChangeSpec.witness6 (enc := enc) (C := Try.checked) false ⟨#[], #[.agg noHl.arr, .slice none 0 0, .slice none 0 0, .int .i64 0, .int .i64 0], []⟩ 8 (by kernel_rfl) (by kernel_rfl) (by kernel_rfl) (by kernel_rfl)) ?_
  intro W base args ds gs before hval0 hW hcnd _
  have hval : ∀ (j : Nat) t v, Try.f6.params[j]? = some t → args[j]? = some v → Value.okWide Try.prog W .any base t v := hval0
  have hW' := hW
  obtain ⟨p, q, hA0, hV, rfl, hfz, hnd⟩ := hW
  have hA : DataW.TrodAll enc Try.prog W 0 (fun _ => true) true Try.f6.params.toList args.toList ds p := hA0
  rw [Try.params6] at hA hval
  obtain ⟨v0, vs0, d0, ds0, p0, q0, hargs, rfl, rfl, h0, r0⟩ := trodAll_cons hA
  obtain ⟨v1, vs1, d1, ds1, p1, q1, rfl, rfl, rfl, h1, r1⟩ := trodAll_cons r0
  obtain ⟨v2, vs2, d2, ds2, p2, q2, rfl, rfl, rfl, h2, r2⟩ := trodAll_cons r1
  obtain ⟨v3, vs3, d3, ds3, p3, q3, rfl, rfl, rfl, h3, r3⟩ := trodAll_cons r2
  obtain ⟨v4, vs4, d4, ds4, p4, q4, rfl, rfl, rfl, h4, r4⟩ := trodAll_cons r3
  obtain ⟨rfl, rfl, rfl⟩ := trodAll_nil r4
  obtain rfl : args = #[v0, v1, v2, v3, v4] := by cases args; simp_all
  obtain ⟨h, rfl, hgh⟩ := open_hl (hval 0 23 v0 rfl rfl) h0
  obtain ⟨Al, nl, cl, ll, rfl, hRl, hml⟩ := open_bls (hval 1 28 v1 rfl rfl) h1
  obtain ⟨Am, nm, cm, lm, rfl, hRm, hmm⟩ := open_bls (hval 2 28 v2 rfl rfl) h2
  obtain ⟨b, rfl, hb⟩ := open_i64 Try.underlying3 (hval 3 3 v3 rfl rfl) h3
  obtain ⟨c, rfl, hc⟩ := open_i64 Try.underlying3 (hval 4 3 v4 rfl rfl) h4
  clear hA0 hval0
  refine (healthSplits_walk h ll lm b c Al Am nl nm cl cm W hgh hRl hml hRm hmm).mono fun e W' ⟨he, hb⟩ => ?_
  subst he
  exact ⟨_, rfl, law_post laidOut rfl (by kernel_rfl) 4 Try.underlying4 rfl hW' rfl hb⟩
theorem healthSplits_holds : Rows.HealthSplitsSaid :=
  OpenClaim.holds_of_wide 6 Try.f6 rfl rfl rfl rfl rfl rfl rfl ⟨rfl, rfl, rfl, rfl, rfl⟩ rfl rfl rfl rfl rfl (by kernel_rfl) Try.func6 (by kernel_rfl)
    (of_decide_eq_true (by kernel_rfl)) (by unfold Func.isWrapper; first | (rw [if_pos (by decide +kernel)]; kernel_rfl) | (rw [if_neg (by decide +kernel)]; exact ⟨rfl, rfl⟩))
    (fun os started H enc _ => healthSplits_lifted os started H enc)
#print axioms healthSplits_holds
end Go.Proofs.Ytjeeigdbfngjaaa
