/- StoreFuses. -/
import Derived.Test.YtejjobbgceoljaaSuA
set_option linter.unusedSimpArgs false
set_option linter.unusedVariables false
namespace Go.Proofs.Ytejjobbgceoljaa
open Go.ChangeShapes Go.WideShapes Go.ChangeAt Go.RowKit

set_option maxHeartbeats 4000000 in
set_option maxRecDepth 100000 in
theorem storeFuses_walk (u : Nat) (l : List Ac) (A : Option Addr) (n c : Nat) (w : World) (hu : u < 256) (hR : RdA w w.heap.size A n l) (hg : ∀ o ∈ l, o.good w w.heap.size) (hn : n ≤ 9223372036854775807) :
    Calls Try.prog 6 #[.int .u8 (u : Nat), .slice A n c] w fun e w' => e = .returned (.bool true) ∧ Below w.heap.size w w' := by
  have HR := Lib.hid hR
  have HN := Lib.hid hR.1
  have HG := Lib.hid hg
  have FW := Lib.hid (fun W (h : Below w.heap.size w W) => few_any l A n c W ((hR.to h (Nat.le_refl _)).more h.size) hn)
  obtain ⟨lf, hlf⟩ : ∃ lf : Nat, u % 40 = lf := ⟨_, rfl⟩
  have hlf40 : lf < 40 := by rw [← hlf]; exact Nat.mod_lt _ (by omega)
  have hrem : Int.tmod (u : Int) 40 = lf := by rw [← hlf]; rfl
  clear hR hg hlf
  cases hfw : fewA l with
  | false =>
    rw [hfw] at FW
    go_enter Try.func6, Try.ntmps6
    go_wp2_with fail
    refine (awake_any _).mono ?_
    rintro e w1 ⟨rfl, hb1⟩
    have HB1 := Lib.hid hb1
    clear hb1
    go_wp2_with fail
    refine (FW.out w1 HB1.out).mono ?_
    rintro e w2 ⟨rfl, hb2⟩
    have HB2 := Lib.hid (below2 HB1.out hb2)
    clear hb2
    go_wp2_with fail
    refine (awake_any _).mono ?_
    rintro e w3 ⟨rfl, hb3⟩
    have HB3 := Lib.hid (below2 HB2.out hb3)
    clear hb3
    go_wp2
    go_ret
    exact ⟨rfl, HB3.out⟩
  | true =>
    rw [hfw] at FW
    have hn80 := few_len hfw
    rw [HN.out] at hn80
    have HAC := Lib.hid (fun i (hi : i < n) => acts_read HG.out hfw (i := i) (by rw [HN.out]; exact hi))
    clear hfw
    go_enter Try.func6, Try.ntmps6
    go_wp2_with fail
    refine (awake_any _).mono ?_
    rintro e w1 ⟨rfl, hb1⟩
    have HB1 := Lib.hid hb1
    clear hb1
    go_wp2_with fail
    refine (FW.out w1 HB1.out).mono ?_
    rintro e w2 ⟨rfl, hb2⟩
    have HB2 := Lib.hid (below2 HB1.out hb2)
    clear hb2
    go_wp2_with fail
    refine (Aw.new 100000 w w2 HB2.out (by decide)).mono ?_
    rintro e w3 ⟨p, rfl, h3⟩
    have A3 := Lib.hid h3
    clear h3
    go_wp2_with fail
    refine (A3.out.fuse_ (lf : Int) (by omega)).mono ?_
    rintro e w4 ⟨rfl, h4⟩
    have A4 := Lib.hid h4
    have hmx : max (lf : Int) (-1) = lf := by omega
    rw [hmx] at A4
    clear h4 hmx hrem
    go_wp2
    go_loopw [7, 8] (fun s7 s8 wr => ∃ (i k : Nat) (m : Mo), i ≤ n ∧ s8 = .int .i64 i ∧ s7 = .int .i64 (k : Nat) ∧ k < 40 ∧ Aw w wr p 100000 m ∧ m.L.length ≤ i ∧ m.fu = k ∧ (m.dn = true → k = 0)) (fun _ s8 _ => n - (intOf s8).toNat)
    case atStart => exact ⟨0, lf, _, by omega, rfl, rfl, hlf40, A4.out, by simp, rfl, by simp⟩
    case round =>
      obtain ⟨i, k, m, hin, rfl, rfl, hk40, hA, hLi, hfu, hdn⟩ := hrel
      have HA := Lib.hid hA
      clear hA
      by_cases hlt : i < n
      · have hi : (i : Int) < n := by omega
        obtain ⟨bs, ks, hac⟩ := HAC.out i hlt
        obtain ⟨b, o, rfl, hbb, hh, hcl, hc0, _⟩ := (HR.out.to HA.out.below (Nat.le_refl _)).ac hlt
        obtain ⟨x, hx⟩ : ∃ x, x = l.getD i noAc := ⟨_, rfl⟩
        rw [← hx] at hcl hc0 hac
        have DO := Lib.hid (HA.out.do x bs ks (by omega) hac)
        have SL := Lib.hid (step_len 100000 m x bs ks)
        have SO := Lib.hid (step_op 100000 m x bs ks)
        have WB := Lib.hid (whyM_bd 100000 m x)
        clear hx hac hbb
        by_cases hk0 : x.kind < 0
        · have hd1 : decide (x.kind < 0) = true := decide_eq_true hk0
          go_wp2
          go_roundw
          case rel => exact ⟨i + 1, k, m, by omega, by go_num, rfl, hk40, HA.out, by omega, hfu, hdn⟩
          case measure => simp [intOf] <;> omega
        · by_cases hk3 : 3 < x.kind
          · have hd1 : decide (x.kind < 0) = false := decide_eq_false hk0
            have hd2 : decide (3 < x.kind) = true := decide_eq_true hk3
            go_wp2
            go_roundw
            case rel => exact ⟨i + 1, k, m, by omega, by go_num, rfl, hk40, HA.out, by omega, hfu, hdn⟩
            case measure => simp [intOf] <;> omega
          · have hd1 : decide (x.kind < 0) = false := decide_eq_false hk0
            have hd2 : decide (3 < x.kind) = false := decide_eq_false hk3
            obtain ⟨s1, s2, s3⟩ := SO.out ⟨by omega, by omega⟩
            clear hk0 hk3
            obtain ⟨m', hm'⟩ : ∃ m', (stepM 100000 m x bs ks).1 = m' := ⟨_, rfl⟩
            obtain ⟨er, her⟩ : ∃ er, (stepM 100000 m x bs ks).2 = er := ⟨_, rfl⟩
            rw [hm', her] at DO
            rw [hm'] at SL s2 s3
            rw [her] at s1
            have DN := Lib.hid HA.out.down
            obtain ⟨dn, hdn0⟩ : ∃ dn, m.dn = dn := ⟨_, rfl⟩
            obtain ⟨why, hwhy⟩ : ∃ why, whyM 100000 m x = why := ⟨_, rfl⟩
            rw [hwhy, hfu, hdn0] at s1 s2 s3
            rw [hdn0] at DN hdn
            rw [hwhy] at WB
            have SLO := Lib.hid SL.out
            clear hm' her hdn0 hwhy hfu SL SO
            cases dn with
            | true =>
              obtain rfl : k = 0 := hdn rfl
              rw [ends_down] at s1 s2 s3
              dsimp only at s1 s2 s3
              subst s1
              clear hdn
              go_wp2_with fail
              refine DN.out.mono ?_
              rintro e w5 ⟨rfl, rfl⟩
              go_wp2_with fail
              refine DO.out.mono ?_
              rintro e w5 ⟨rfl, h5⟩
              have A5 := Lib.hid h5
              have DN5 := h5.down
              rw [s3] at DN5
              have DN5 := Lib.hid DN5
              clear h5 hh hcl hc0
              go_wp2_with (go_at_call 20; refine DN5.out.mono ?_; rintro e w6 ⟨rfl, rfl⟩)
              go_roundw
              case rel => exact ⟨i + 1, 0, m', by omega, by go_num, rfl, by omega, A5.out, by have := SLO.out; omega, s2, fun _ => rfl⟩
              case measure => simp [intOf] <;> omega
            | false =>
              by_cases hw : why = 0
              · subst hw
                by_cases hk : k = 0
                · subst hk
                  have e0 : endsF 0 ((0 : Nat) : Int) false = (9, 0, true) := rfl
                  rw [e0] at s1 s2 s3
                  dsimp only at s1 s2 s3
                  subst s1
                  clear hdn e0
                  go_wp2_with fail
                  refine DN.out.mono ?_
                  rintro e w5 ⟨rfl, rfl⟩
                  go_wp2_with fail
                  refine DO.out.mono ?_
                  rintro e w5 ⟨rfl, h5⟩
                  have A5 := Lib.hid h5
                  have DN5 := h5.down
                  rw [s3] at DN5
                  have DN5 := Lib.hid DN5
                  clear h5 hh hcl hc0
                  go_wp2_with (go_at_call 20; refine DN5.out.mono ?_; rintro e w6 ⟨rfl, rfl⟩)
                  go_roundw
                  case rel => exact ⟨i + 1, 0, m', by omega, by go_num, rfl, by omega, A5.out, by have := SLO.out; omega, s2, fun _ => rfl⟩
                  case measure => simp [intOf] <;> omega
                · have e0 : endsF 0 (k : Int) false = (0, burn (k : Int), false) := ends_go (by omega)
                  rw [e0, show burn (k : Int) = ((k - 1 : Nat) : Int) by unfold burn; rw [if_pos (by omega)]; omega] at s1 s2 s3
                  dsimp only at s1 s2 s3
                  subst s1
                  have hk1 : decide ((0 : Int) < (k : Int)) = true := decide_eq_true (by omega)
                  have hk2 : ((k : Int) == 0) = false := by simp; omega
                  have hk3 : decide ((k : Int) = 0) = false := decide_eq_false (by omega)
                  clear hdn e0
                  go_wp2_with fail
                  refine DN.out.mono ?_
                  rintro e w5 ⟨rfl, rfl⟩
                  go_wp2_with fail
                  refine DO.out.mono ?_
                  rintro e w5 ⟨rfl, h5⟩
                  have A5 := Lib.hid h5
                  have DN5 := h5.down
                  rw [s3] at DN5
                  have DN5 := Lib.hid DN5
                  clear h5 hh hcl hc0
                  go_wp2_with (go_at_call 20; refine DN5.out.mono ?_; rintro e w6 ⟨rfl, rfl⟩)
                  go_roundw
                  case rel => exact ⟨i + 1, k - 1, m', by omega, by go_num, by congr 1; omega, by omega, A5.out, by have := SLO.out; omega, s2, fun h => by rw [s3] at h; cases h⟩
                  case measure => simp [intOf] <;> omega
              · rw [ends_why hw] at s1 s2 s3
                dsimp only at s1 s2 s3
                subst s1
                have hw1 : (er == 0) = false := by simpa using hw
                have hw2 : decide (er = 0) = false := by simpa using hw
                have hw3 : (er == 9) = false := by simpa using WB.out
                have hw4 : decide (er = 9) = false := by simpa using WB.out
                have hw5 : (er != 9) = true := by simpa using WB.out
                by_cases hk : k = 0
                · subst hk
                  clear hdn hw
                  go_wp2_with fail
                  refine DN.out.mono ?_
                  rintro e w5 ⟨rfl, rfl⟩
                  go_wp2_with fail
                  refine DO.out.mono ?_
                  rintro e w5 ⟨rfl, h5⟩
                  have A5 := Lib.hid h5
                  have DN5 := h5.down
                  rw [s3] at DN5
                  have DN5 := Lib.hid DN5
                  clear h5 hh hcl hc0
                  go_wp2_with (go_at_call 20; refine DN5.out.mono ?_; rintro e w6 ⟨rfl, rfl⟩)
                  go_roundw
                  case rel => exact ⟨i + 1, 0, m', by omega, by go_num, rfl, by omega, A5.out, by have := SLO.out; omega, s2, fun _ => rfl⟩
                  case measure => simp [intOf] <;> omega
                · have hk1 : decide ((0 : Int) < (k : Int)) = true := decide_eq_true (by omega)
                  clear hdn hw
                  go_wp2_with fail
                  refine DN.out.mono ?_
                  rintro e w5 ⟨rfl, rfl⟩
                  go_wp2_with fail
                  refine DO.out.mono ?_
                  rintro e w5 ⟨rfl, h5⟩
                  have A5 := Lib.hid h5
                  have DN5 := h5.down
                  rw [s3] at DN5
                  have DN5 := Lib.hid DN5
                  clear h5 hh hcl hc0
                  go_wp2_with (go_at_call 20; refine DN5.out.mono ?_; rintro e w6 ⟨rfl, rfl⟩)
                  go_roundw
                  case rel => exact ⟨i + 1, k, m', by omega, by go_num, rfl, hk40, A5.out, by have := SLO.out; omega, s2, fun h => by rw [s3] at h; cases h⟩
                  case measure => simp [intOf] <;> omega
      · obtain rfl : i = n := by omega
        have hd : decide ((i : Int) < i) = false := by simp
        clear hfu hdn
        go_wp2_with fail
        refine (HA.out.crash_nil (by omega)).mono ?_
        rintro e w5 ⟨rfl, h5⟩
        have A5 := Lib.hid h5
        have hq5 : (sumF (crL m.L []) : Int) ≤ 100000 := h5.good.2.2.1
        clear h5
        go_wp2_with fail
        refine A5.out.down.mono ?_
        rintro e w6 ⟨rfl, rfl⟩
        go_wp2_with fail
        refine (A5.out.append_nil [97] (by decide) (by rw [crL_len]; omega) (0, -1, false) (by
          rw [show whyApp 100000 (crL m.L []) [97] 0 = 0 by
            unfold whyApp
            rw [if_neg (by decide), if_neg (by omega)]]
          rfl)).mono ?_
        rintro e w6 ⟨rfl, h6⟩
        have FIN := Lib.hid h6.below
        clear h6
        go_wp2
        go_ret
        exact ⟨rfl, FIN.out⟩
set_option maxRecDepth 100000 in
theorem storeFuses_lifted (os : Os) (started : os.Started) (H : Type) (enc : TypeId × Value → H) :
    ReturnsInHanded {} Try.checked os 6 .any (Rows.storeFusesSpec.pre6 enc Try.prog Try.f6 Rows.storeFusesRow.domain false) (Rows.storeFusesSpec.post enc Try.prog Try.f6 false true false false) := by
  refine returnsInHanded_of_change (C := Try.checked) own started (by kernel_rfl) Try.func6
    (ChangeSpec.witness6 (enc := enc) (C := Try.checked) false ⟨#[], #[.int .u8 0, .slice none 0 0], []⟩ 8 (by kernel_rfl) (by kernel_rfl) (by kernel_rfl) (by kernel_rfl)) ?_
  intro W base args ds gs before hval0 hW hcnd _
  have hval : ∀ (j : Nat) t v, Try.f6.params[j]? = some t → args[j]? = some v → Value.okWide Try.prog W .any base t v := hval0
  have hW' := hW
  obtain ⟨p, q, hA0, hV, rfl, hfz, hnd⟩ := hW
  have hA : DataW.TrodAll enc Try.prog W 0 (fun _ => true) true Try.f6.params.toList args.toList ds p := hA0
  rw [Try.params6] at hA hval
  obtain ⟨v0, vs0, d0, ds0, p0, q0, hargs, rfl, rfl, h0, r0⟩ := trodAll_cons hA
  obtain ⟨v1, vs1, d1, ds1, p1, q1, rfl, rfl, rfl, h1, r1⟩ := trodAll_cons r0
  obtain ⟨rfl, rfl, rfl⟩ := trodAll_nil r1
  obtain rfl : args = #[v0, v1] := by cases args; simp_all
  obtain ⟨u, rfl, hu⟩ := open_u8 Try.underlying5 (hval 0 5 v0 rfl rfl) h0
  obtain ⟨Az, nz, cz, lz, rfl, hRz, hgz, hmz⟩ := open_acs (hval 1 22 v1 rfl rfl) h1
  clear hA0 hval0
  refine (storeFuses_walk u lz Az nz cz W hu hRz hgz hmz).mono fun e W' ⟨he, hb⟩ => ?_
  subst he
  exact ⟨_, rfl, law_post laidOut rfl (by kernel_rfl) 4 Try.underlying4 rfl hW' rfl hb⟩
theorem storeFuses_holds : Rows.StoreFusesSaid :=
  OpenClaim.holds_of_wide 6 Try.f6 rfl rfl rfl rfl rfl rfl rfl ⟨rfl, rfl, rfl, rfl, rfl⟩ rfl rfl rfl rfl rfl (by kernel_rfl) Try.func6 (by kernel_rfl)
    (of_decide_eq_true (by kernel_rfl)) (by unfold Func.isWrapper; first | (rw [if_pos (by decide +kernel)]; kernel_rfl) | (rw [if_neg (by decide +kernel)]; exact ⟨rfl, rfl⟩))
    (fun os started H enc _ => storeFuses_lifted os started H enc)
#print axioms storeFuses_holds
end Go.Proofs.Ytejjobbgceoljaa
