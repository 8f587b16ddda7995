/- HealthLast: what a run comes to, by the last stretch that was long enough. -/
import Derived.Test.YtjeeigdbfngjaaaHeM
import Derived.Test.YtjeeigdbfngjaaaHeN
set_option linter.unusedSimpArgs false
set_option linter.unusedVariables false
namespace Go.Proofs.Ytjeeigdbfngjaaa
open Go.ChangeShapes Go.WideShapes Go.ChangeAt Go.RowKit

/-! ### the plain law -/
structure Ls where
  last : Option Bool
  n : Int
  down : Bool
  long : Int
def nxt (s : Ls) (b : Bool) : Int := if s.last = some b then s.n + 1 else 1
def thr (rise fall : Int) (b : Bool) : Int := if b = true then rise else fall
def lastS (rise fall : Int) (s : Ls) (b : Bool) : Ls :=
  if nxt s b = thr rise fall b then ⟨some b, nxt s b, !b, if s.down = b then s.long + 1 else s.long⟩ else ⟨some b, nxt s b, s.down, s.long⟩
def lastL (rise fall : Int) (l : List Bool) : Ls := l.foldl (lastS rise fall) ⟨none, 0, false, 0⟩
def RelL (rise fall : Int) (p : Hl × Int) (s : Ls) : Prop :=
  p.1.name = [120] ∧ p.1.down = s.down ∧ p.2 = s.long ∧ ((s.last = none ∧ p.1.run = 0 ∧ s.n = 0) ∨ (∃ b, s.last = some b ∧ 1 ≤ s.n ∧ ((b = s.down ∧ p.1.run = s.n ∧ s.n < thr rise fall b) ∨ (b ≠ s.down ∧ p.1.run = 0))))
theorem bringN_id {k : Int} (h : 1 ≤ k ∧ k ≤ 100) : bringN k = k := by unfold bringN; rw [if_neg (by omega), if_neg (by omega)]
theorem relL_step {rise fall : Int} (hr : 1 ≤ rise ∧ rise ≤ 100) (hf : 1 ≤ fall ∧ fall ≤ 100) {p : Hl × Int} {s : Ls} (h : RelL rise fall p s) (b : Bool) : RelL rise fall (runS rise fall p b) (lastS rise fall s b) := by
  obtain ⟨⟨nm, dn, rn⟩, t⟩ := p
  obtain ⟨la, n, d, lg⟩ := s
  obtain ⟨h1, h2, h3, h4⟩ := h
  simp only at h1 h2 h3 h4
  subst h1 h2 h3
  have ht : bringN (if dn = true then rise else fall) = thr rise fall dn := by
    unfold thr; split
    · exact bringN_id hr
    · exact bringN_id hf
  have hthr : 1 ≤ thr rise fall b := by unfold thr; split <;> omega
  unfold runS stepH lastS
  dsimp only
  by_cases hb : b = dn
  · subst hb
    rw [if_neg (by simp), ht]
    have hrun : max rn 0 + 1 = nxt ⟨la, n, b, t⟩ b ∧ nxt ⟨la, n, b, t⟩ b ≤ thr rise fall b ∧ 1 ≤ nxt ⟨la, n, b, t⟩ b := by
      unfold nxt
      dsimp only
      rcases h4 with ⟨rfl, h5, h6⟩ | ⟨c, rfl, h5, ⟨rfl, h6, h7⟩ | ⟨h6, h7⟩⟩
      · rw [if_neg (by simp)]; omega
      · rw [if_pos rfl]; omega
      · rw [if_neg (by simpa using h6)]; omega
    obtain ⟨r1, r2, r3⟩ := hrun
    by_cases hh : nxt ⟨la, n, b, t⟩ b = thr rise fall b
    · rw [if_pos (by omega), if_pos hh]
      refine ⟨rfl, rfl, by simp, .inr ⟨b, rfl, by dsimp only; omega, .inr ⟨by cases b <;> simp, rfl⟩⟩⟩
    · rw [if_neg (by omega), if_neg hh]
      exact ⟨rfl, rfl, by simp, .inr ⟨b, rfl, r3, .inl ⟨rfl, r1, by dsimp only; omega⟩⟩⟩
  · have hx : (b != dn) = true := by simpa using hb
    rw [if_pos hx]
    have r3 : 1 ≤ nxt ⟨la, n, dn, t⟩ b := by
      unfold nxt
      dsimp only
      rcases h4 with ⟨rfl, h5, h6⟩ | ⟨c, rfl, h5, h6⟩
      · rw [if_neg (by simp)]; omega
      · split <;> omega
    have hnd : dn = !b := by cases b <;> cases dn <;> simp_all
    by_cases hh : nxt ⟨la, n, dn, t⟩ b = thr rise fall b
    · rw [if_pos hh]
      refine ⟨rfl, hnd, by simp [Ne.symm hb], .inr ⟨b, rfl, r3, .inr ⟨by cases b <;> simp, rfl⟩⟩⟩
    · rw [if_neg hh]
      exact ⟨rfl, rfl, by simp, .inr ⟨b, rfl, r3, .inr ⟨hb, rfl⟩⟩⟩
theorem relL_all {rise fall : Int} (hr : 1 ≤ rise ∧ rise ≤ 100) (hf : 1 ≤ fall ∧ fall ≤ 100) (l : List Bool) : ∀ (p : Hl × Int) (s : Ls), RelL rise fall p s → RelL rise fall (l.foldl (runS rise fall) p) (l.foldl (lastS rise fall) s) := by
  induction l with
  | nil => intro p s h; exact h
  | cons b l ih => intro p s h; exact ih _ _ (relL_step hr hf h b)
theorem relL_run {rise fall : Int} (hr : 1 ≤ rise ∧ rise ≤ 100) (hf : 1 ≤ fall ∧ fall ≤ 100) (l : List Bool) : RelL rise fall (runH ⟨[120], false, 0⟩ l rise fall) (lastL rise fall l) :=
  relL_all hr hf l _ _ ⟨rfl, rfl, rfl, .inl ⟨rfl, rfl, rfl⟩⟩
theorem lastL_next (rise fall : Int) (l : List Bool) (i : Nat) (hi : i < l.length) {b : Bool} (hb : b = l.getD i false) : lastL rise fall (l.take (i + 1)) = lastS rise fall (lastL rise fall (l.take i)) b := by
  rw [← take_snocR false l i hi, ← hb]
  unfold lastL
  rw [List.foldl_append]; rfl
theorem lastS_last (rise fall : Int) (s : Ls) (b : Bool) : (lastS rise fall s b).last = some b := by unfold lastS; split <;> rfl
theorem lastL_last (rise fall : Int) (l : List Bool) (i : Nat) (hi : i < l.length) : (lastL rise fall (l.take (i + 1))).last = some (l.getD i false) := by
  rw [lastL_next rise fall l i hi rfl, lastS_last]
/-- what the answer says of the run -/
def runOf (s : Ls) : Int := if s.last = some s.down then s.n else 0
theorem run_says {rise fall : Int} (hr : 1 ≤ rise ∧ rise ≤ 100) (hf : 1 ≤ fall ∧ fall ≤ 100) (l : List Bool) : runH ⟨[120], false, 0⟩ l rise fall = (⟨[120], (lastL rise fall l).down, runOf (lastL rise fall l)⟩, (lastL rise fall l).long) := by
  obtain ⟨h1, h2, h3, h4⟩ := relL_run hr hf l
  generalize runH ⟨[120], false, 0⟩ l rise fall = p at h1 h2 h3 h4
  generalize lastL rise fall l = s at h1 h2 h3 h4
  obtain ⟨⟨nm, dn, rn⟩, t⟩ := p
  simp only at h1 h2 h3 h4
  subst h1 h3
  have : rn = runOf s := by
    unfold runOf
    rcases h4 with ⟨h5, h6, h7⟩ | ⟨b, h5, h6, ⟨h7, h8, h9⟩ | ⟨h7, h8⟩⟩
    · rw [h5, if_neg (by simp)]; exact h6
    · rw [h5, h7, if_pos rfl]; exact h8
    · rw [h5, if_neg (by simpa using h7)]; exact h8
  rw [this, h2]

@[go_sem] theorem lit_x : Value.string { data := #[120] } = Value.string (textOf [120]) := rfl
set_option maxHeartbeats 16000000 in
set_option maxRecDepth 100000 in
theorem healthLast_main (l : List Bool) (r f : Nat) (A : Option Addr) (n cap : Nat) (w : World) (hR : RdL w w.heap.size A n l) (hn : n ≤ 1000) (hr : r < 256) (hf : f < 256) :
    Calls Try.prog 5 #[.slice A n cap, .int .u8 (r : Nat), .int .u8 (f : Nat)] w fun e w' => e = .returned (.bool true) ∧ Below w.heap.size w w' := by
  have R0 := Lib.hid hR
  have NL := Lib.hid hR.1
  have hd : decide ((1000 : Int) < n) = false := decide_eq_false (by omega)
  clear hR
  go_enter Try.func5, Try.ntmps5
  go_wp2_with fail
  refine (awake_any _).mono ?_
  rintro e w1 ⟨rfl, hb1⟩
  have HB1 := Lib.hid hb1
  have R1 := Lib.hid (R0.out.go hb1)
  clear hb1
  go_wp2_with fail
  obtain ⟨rs, hrs⟩ : ∃ rs : Int, 1 + (r : Int) % 100 = rs := ⟨_, rfl⟩
  obtain ⟨fs, hfs⟩ : ∃ fs : Int, 1 + (f : Int) % 100 = fs := ⟨_, rfl⟩
  have hr2 : 1 ≤ rs ∧ rs ≤ 100 := by omega
  have hf2 : 1 ≤ fs ∧ fs ≤ 100 := by omega
  have HRS := Lib.hid hr2
  have HFS := Lib.hid hf2
  have RS := Lib.hid (run_says hr2 hf2 l)
  rw [hrs, hfs]
  clear hrs hfs hr hf hr2 hf2
  have RA := Lib.hid (run_any ⟨[120], false, 0⟩ l rs fs A n cap w1 R1.out ⟨by decide, by decide⟩ (by omega))
  rw [RS.out] at RA
  obtain ⟨sl, hsl⟩ : ∃ sl, sl = lastL rs fs l := ⟨_, rfl⟩
  rw [← hsl] at RA
  have SL := Lib.hid hsl
  clear hsl
  obtain ⟨hh, hhh⟩ : ∃ hh : Hl, hh = ⟨[120], sl.down, runOf sl⟩ := ⟨_, rfl⟩
  rw [← hhh] at RA
  have HH := Lib.hid hhh
  clear hhh
  refine RA.out.mono ?_
  rintro e w2 ⟨rfl, hb2⟩
  have HB2 := Lib.hid (below2 HB1.out hb2)
  have R2 := Lib.hid ((R1.out.go hb2).up (.cells hh.arr 23))
  have BX := Lib.hid (Box.new w2 hh.arr 23)
  have HB3 := Lib.hid (HB2.out.alloc HB2.out.size (.cells hh.arr 23))
  clear hb2 RA
  go_wp2_with fail
  obtain ⟨W0, hW0⟩ : ∃ W0, w2.alloc (.cells hh.arr 23) = W0 := ⟨_, rfl⟩
  rw [hW0] at R2 BX HB3 ⊢
  clear hW0
  go_loopw [11, 12, 13, 14] (fun s11 s12 s13 s14 wr => ∃ (i : Nat) (la : Option Bool) (nn lg : Int) (dd : Bool), i ≤ n ∧ s14 = .int .i64 i ∧ s11 = .bool dd ∧ s12 = .int .i64 nn ∧ s13 = .int .i64 lg ∧ lastL rs fs (l.take i) = ⟨la, nn, dd, lg⟩ ∧ (0 ≤ nn ∧ nn ≤ i) ∧ (0 ≤ lg ∧ lg ≤ i) ∧ Below W0.heap.size W0 wr) (fun _ _ _ s14 _ => n - (intOf s14).toNat)
  case atStart => exact ⟨0, none, 0, 0, false, by omega, rfl, rfl, rfl, rfl, rfl, by omega, by omega, Below.refl _ _⟩
  case round =>
    obtain ⟨i, la, nn, lg, dd, hin, rfl, rfl, rfl, rfl, hst, ⟨hn1, hn2⟩, ⟨hg1, hg2⟩, hb⟩ := hrel
    have HB := Lib.hid hb
    have HST := Lib.hid hst
    clear hb hst
    by_cases hlt : i < n
    · have hi : (i : Int) < n := by omega
      obtain ⟨bb, o, rfl, _, hc⟩ := (R2.out.below HB.out).bl hlt
      obtain ⟨b, hbe⟩ : ∃ b, b = l.getD i false := ⟨_, rfl⟩
      have HNX := Lib.hid (lastL_next rs fs l i (by rw [NL.out]; exact hlt) hbe)
      rw [← hbe] at hc
      clear hbe
      rw [HST.out] at HNX
      rcases Nat.eq_zero_or_pos i with h0 | h0
      · subst h0
        rw [Nat.add_zero] at hc
        have hla : la = none := by have := congrArg Ls.last HST.out; exact this.symm
        subst hla
        have HV := Lib.hid (fun b => show nxt ⟨none, nn, dd, lg⟩ b = 1 by unfold nxt; rw [if_neg (by simp)])
        have hz0 : ((0 : Int) > 0) = False := by simp
        cases b
        · rcases Decidable.em (1 = fs) with hq0 | hq0
          · have hz1 : (1 == fs) = true := by simpa using hq0
            have hz2 : (1 != fs) = false := by simpa using hq0
            have hz3 : decide (1 = fs) = true := by simpa using hq0
            have NX := Lib.hid (show lastL rs fs (l.take (_ + 1)) = ⟨some false, 1, !false, if dd = false then lg + 1 else lg⟩ from HNX.out.trans (by unfold lastS; rw [HV.out _, if_pos (by simpa [thr] using hq0)]))
            clear hq0
            cases dd
            all_goals
              go_wp2
              try go_quiet (fail)
              try go_wp2
              try go_quiet (fail)
              try go_wp2
              go_roundw
              case rel => exact ⟨_, _, _, _, _, by omega, by first | rfl | go_num, by first | rfl | go_num, by first | rfl | go_num, by first | rfl | go_num, NX.out, by omega, by first | omega | (simp; omega), by first | exact HB.out | exact below_drewN HB.out _ | exact below_drewN (below_drewN HB.out _) _⟩
              case measure => simp [intOf] <;> omega
          · have hz1 : (1 == fs) = false := by simpa using hq0
            have hz2 : (1 != fs) = true := by simpa using hq0
            have hz3 : decide (1 = fs) = false := by simpa using hq0
            have NX := Lib.hid (show lastL rs fs (l.take (_ + 1)) = ⟨some false, 1, dd, lg⟩ from HNX.out.trans (by unfold lastS; rw [HV.out _, if_neg (by simpa [thr] using hq0)]))
            clear hq0
            go_wp2
            try go_quiet (fail)
            try go_wp2
            try go_quiet (fail)
            try go_wp2
            go_roundw
            case rel => exact ⟨_, _, _, _, _, by omega, by first | rfl | go_num, by first | rfl | go_num, by first | rfl | go_num, by first | rfl | go_num, NX.out, by omega, by first | omega | (simp; omega), by first | exact HB.out | exact below_drewN HB.out _ | exact below_drewN (below_drewN HB.out _) _⟩
            case measure => simp [intOf] <;> omega
        · rcases Decidable.em (1 = rs) with hq0 | hq0
          · have hz1 : (1 == rs) = true := by simpa using hq0
            have hz2 : (1 != rs) = false := by simpa using hq0
            have hz3 : decide (1 = rs) = true := by simpa using hq0
            have NX := Lib.hid (show lastL rs fs (l.take (_ + 1)) = ⟨some true, 1, !true, if dd = true then lg + 1 else lg⟩ from HNX.out.trans (by unfold lastS; rw [HV.out _, if_pos (by simpa [thr] using hq0)]))
            clear hq0
            cases dd
            all_goals
              go_wp2
              try go_quiet (fail)
              try go_wp2
              try go_quiet (fail)
              try go_wp2
              go_roundw
              case rel => exact ⟨_, _, _, _, _, by omega, by first | rfl | go_num, by first | rfl | go_num, by first | rfl | go_num, by first | rfl | go_num, NX.out, by omega, by first | omega | (simp; omega), by first | exact HB.out | exact below_drewN HB.out _ | exact below_drewN (below_drewN HB.out _) _⟩
              case measure => simp [intOf] <;> omega
          · have hz1 : (1 == rs) = false := by simpa using hq0
            have hz2 : (1 != rs) = true := by simpa using hq0
            have hz3 : decide (1 = rs) = false := by simpa using hq0
            have NX := Lib.hid (show lastL rs fs (l.take (_ + 1)) = ⟨some true, 1, dd, lg⟩ from HNX.out.trans (by unfold lastS; rw [HV.out _, if_neg (by simpa [thr] using hq0)]))
            clear hq0
            go_wp2
            try go_quiet (fail)
            try go_wp2
            try go_quiet (fail)
            try go_wp2
            go_roundw
            case rel => exact ⟨_, _, _, _, _, by omega, by first | rfl | go_num, by first | rfl | go_num, by first | rfl | go_num, by first | rfl | go_num, NX.out, by omega, by first | omega | (simp; omega), by first | exact HB.out | exact below_drewN HB.out _ | exact below_drewN (below_drewN HB.out _) _⟩
            case measure => simp [intOf] <;> omega
      · obtain ⟨j, rfl⟩ : ∃ j, i = j + 1 := ⟨i - 1, by omega⟩
        have hkp : decide ((0 : Int) < ((j + 1 : Nat) : Int)) = true := decide_eq_true (by omega)
        have hjn : j < n := by omega
        obtain ⟨bb', o', hA, _, hc2⟩ := (R2.out.below HB.out).bl hjn
        injection hA with hA
        injection hA with e1 e2
        subst e1 e2
        have hla : la = some (l.getD j false) := by have := lastL_last rs fs l j (by rw [NL.out]; exact hjn); rw [HST.out] at this; exact this
        obtain ⟨b0, hb0⟩ : ∃ b0, b0 = l.getD j false := ⟨_, rfl⟩
        rw [← hb0] at hc2 hla
        subst hla
        clear hb0
        by_cases hsame : b0 = b
        · subst hsame
          have HV := Lib.hid (show nxt ⟨some b0, nn, dd, lg⟩ b0 = nn + 1 by unfold nxt; rw [if_pos rfl])
          cases b0
          · rcases Decidable.em ((nn + 1) = fs) with hq0 | hq0
            · have hz1 : ((nn + 1) == fs) = true := by simpa using hq0
              have hz2 : ((nn + 1) != fs) = false := by simpa using hq0
              have hz3 : decide ((nn + 1) = fs) = true := by simpa using hq0
              have NX := Lib.hid (show lastL rs fs (l.take (_ + 1)) = ⟨some false, (nn + 1), !false, if dd = false then lg + 1 else lg⟩ from HNX.out.trans (by unfold lastS; rw [HV.out, if_pos (by simpa [thr] using hq0)]))
              clear hq0
              cases dd
              all_goals
                go_wp2
                try go_quiet (fail)
                try go_wp2
                try go_quiet (fail)
                try go_wp2
                go_roundw
                case rel => exact ⟨_, _, _, _, _, by omega, by first | rfl | go_num, by first | rfl | go_num, by first | rfl | go_num, by first | rfl | go_num, NX.out, by omega, by first | omega | (simp; omega), by first | exact HB.out | exact below_drewN HB.out _ | exact below_drewN (below_drewN HB.out _) _⟩
                case measure => simp [intOf] <;> omega
            · have hz1 : ((nn + 1) == fs) = false := by simpa using hq0
              have hz2 : ((nn + 1) != fs) = true := by simpa using hq0
              have hz3 : decide ((nn + 1) = fs) = false := by simpa using hq0
              have NX := Lib.hid (show lastL rs fs (l.take (_ + 1)) = ⟨some false, (nn + 1), dd, lg⟩ from HNX.out.trans (by unfold lastS; rw [HV.out, if_neg (by simpa [thr] using hq0)]))
              clear hq0
              go_wp2
              try go_quiet (fail)
              try go_wp2
              try go_quiet (fail)
              try go_wp2
              go_roundw
              case rel => exact ⟨_, _, _, _, _, by omega, by first | rfl | go_num, by first | rfl | go_num, by first | rfl | go_num, by first | rfl | go_num, NX.out, by omega, by first | omega | (simp; omega), by first | exact HB.out | exact below_drewN HB.out _ | exact below_drewN (below_drewN HB.out _) _⟩
              case measure => simp [intOf] <;> omega
          · rcases Decidable.em ((nn + 1) = rs) with hq0 | hq0
            · have hz1 : ((nn + 1) == rs) = true := by simpa using hq0
              have hz2 : ((nn + 1) != rs) = false := by simpa using hq0
              have hz3 : decide ((nn + 1) = rs) = true := by simpa using hq0
              have NX := Lib.hid (show lastL rs fs (l.take (_ + 1)) = ⟨some true, (nn + 1), !true, if dd = true then lg + 1 else lg⟩ from HNX.out.trans (by unfold lastS; rw [HV.out, if_pos (by simpa [thr] using hq0)]))
              clear hq0
              cases dd
              all_goals
                go_wp2
                try go_quiet (fail)
                try go_wp2
                try go_quiet (fail)
                try go_wp2
                go_roundw
                case rel => exact ⟨_, _, _, _, _, by omega, by first | rfl | go_num, by first | rfl | go_num, by first | rfl | go_num, by first | rfl | go_num, NX.out, by omega, by first | omega | (simp; omega), by first | exact HB.out | exact below_drewN HB.out _ | exact below_drewN (below_drewN HB.out _) _⟩
                case measure => simp [intOf] <;> omega
            · have hz1 : ((nn + 1) == rs) = false := by simpa using hq0
              have hz2 : ((nn + 1) != rs) = true := by simpa using hq0
              have hz3 : decide ((nn + 1) = rs) = false := by simpa using hq0
              have NX := Lib.hid (show lastL rs fs (l.take (_ + 1)) = ⟨some true, (nn + 1), dd, lg⟩ from HNX.out.trans (by unfold lastS; rw [HV.out, if_neg (by simpa [thr] using hq0)]))
              clear hq0
              go_wp2
              try go_quiet (fail)
              try go_wp2
              try go_quiet (fail)
              try go_wp2
              go_roundw
              case rel => exact ⟨_, _, _, _, _, by omega, by first | rfl | go_num, by first | rfl | go_num, by first | rfl | go_num, by first | rfl | go_num, NX.out, by omega, by first | omega | (simp; omega), by first | exact HB.out | exact below_drewN HB.out _ | exact below_drewN (below_drewN HB.out _) _⟩
              case measure => simp [intOf] <;> omega
        · have HV := Lib.hid (show nxt ⟨some b0, nn, dd, lg⟩ b = 1 by unfold nxt; rw [if_neg (by simpa using hsame)])
          obtain rfl : b0 = !b := by cases b <;> cases b0 <;> simp_all
          clear hsame
          cases b
          · rcases Decidable.em (1 = fs) with hq0 | hq0
            · have hz1 : (1 == fs) = true := by simpa using hq0
              have hz2 : (1 != fs) = false := by simpa using hq0
              have hz3 : decide (1 = fs) = true := by simpa using hq0
              have NX := Lib.hid (show lastL rs fs (l.take (_ + 1)) = ⟨some false, 1, !false, if dd = false then lg + 1 else lg⟩ from HNX.out.trans (by unfold lastS; rw [HV.out, if_pos (by simpa [thr] using hq0)]))
              clear hq0
              cases dd
              all_goals
                go_wp2
                try go_quiet (fail)
                try go_wp2
                try go_quiet (fail)
                try go_wp2
                go_roundw
                case rel => exact ⟨_, _, _, _, _, by omega, by first | rfl | go_num, by first | rfl | go_num, by first | rfl | go_num, by first | rfl | go_num, NX.out, by omega, by first | omega | (simp; omega), by first | exact HB.out | exact below_drewN HB.out _ | exact below_drewN (below_drewN HB.out _) _⟩
                case measure => simp [intOf] <;> omega
            · have hz1 : (1 == fs) = false := by simpa using hq0
              have hz2 : (1 != fs) = true := by simpa using hq0
              have hz3 : decide (1 = fs) = false := by simpa using hq0
              have NX := Lib.hid (show lastL rs fs (l.take (_ + 1)) = ⟨some false, 1, dd, lg⟩ from HNX.out.trans (by unfold lastS; rw [HV.out, if_neg (by simpa [thr] using hq0)]))
              clear hq0
              go_wp2
              try go_quiet (fail)
              try go_wp2
              try go_quiet (fail)
              try go_wp2
              go_roundw
              case rel => exact ⟨_, _, _, _, _, by omega, by first | rfl | go_num, by first | rfl | go_num, by first | rfl | go_num, by first | rfl | go_num, NX.out, by omega, by first | omega | (simp; omega), by first | exact HB.out | exact below_drewN HB.out _ | exact below_drewN (below_drewN HB.out _) _⟩
              case measure => simp [intOf] <;> omega
          · rcases Decidable.em (1 = rs) with hq0 | hq0
            · have hz1 : (1 == rs) = true := by simpa using hq0
              have hz2 : (1 != rs) = false := by simpa using hq0
              have hz3 : decide (1 = rs) = true := by simpa using hq0
              have NX := Lib.hid (show lastL rs fs (l.take (_ + 1)) = ⟨some true, 1, !true, if dd = true then lg + 1 else lg⟩ from HNX.out.trans (by unfold lastS; rw [HV.out, if_pos (by simpa [thr] using hq0)]))
              clear hq0
              cases dd
              all_goals
                go_wp2
                try go_quiet (fail)
                try go_wp2
                try go_quiet (fail)
                try go_wp2
                go_roundw
                case rel => exact ⟨_, _, _, _, _, by omega, by first | rfl | go_num, by first | rfl | go_num, by first | rfl | go_num, by first | rfl | go_num, NX.out, by omega, by first | omega | (simp; omega), by first | exact HB.out | exact below_drewN HB.out _ | exact below_drewN (below_drewN HB.out _) _⟩
                case measure => simp [intOf] <;> omega
            · have hz1 : (1 == rs) = false := by simpa using hq0
              have hz2 : (1 != rs) = true := by simpa using hq0
              have hz3 : decide (1 = rs) = false := by simpa using hq0
              have NX := Lib.hid (show lastL rs fs (l.take (_ + 1)) = ⟨some true, 1, dd, lg⟩ from HNX.out.trans (by unfold lastS; rw [HV.out, if_neg (by simpa [thr] using hq0)]))
              clear hq0
              go_wp2
              try go_quiet (fail)
              try go_wp2
              try go_quiet (fail)
              try go_wp2
              go_roundw
              case rel => exact ⟨_, _, _, _, _, by omega, by first | rfl | go_num, by first | rfl | go_num, by first | rfl | go_num, by first | rfl | go_num, NX.out, by omega, by first | omega | (simp; omega), by first | exact HB.out | exact below_drewN HB.out _ | exact below_drewN (below_drewN HB.out _) _⟩
              case measure => simp [intOf] <;> omega
    · obtain rfl : i = n := by omega
      have hd9 : decide ((i : Int) < i) = false := by simp
      have FIN := Lib.hid (show sl = ⟨la, nn, dd, lg⟩ by rw [SL.out, ← HST.out, List.take_of_length_le (by rw [NL.out]; exact Nat.le_refl _)])
      obtain ⟨f1, f2, f3, f4⟩ := (BX.out.below HB.out BX.out.lt).facts
      have HBF := Lib.hid (below2 HB3.out HB.out)
      have e9 : sl.long = lg := by rw [FIN.out]
      rcases Nat.eq_zero_or_pos i with h0 | h0
      · subst h0
        have hla : la = none := by have := congrArg Ls.last HST.out; exact this.symm
        subst hla
        have EQ : hlEq hh (Hl.mk [120] dd 0) = true := by rw [HH.out, FIN.out]; unfold runOf; rw [if_neg (by simp)]; exact hlEq_self _
        have hz0 : ((0 : Int) > 0) = False := by simp
        go_wp2
        try go_quiet (fail)
        try go_wp2
        try go_quiet (fail)
        try go_wp2
        go_ret
        exact ⟨rfl, by first | exact HBF.out | exact below_drewN HBF.out _ | exact below_drewN (below_drewN HBF.out _) _⟩
      · obtain ⟨j, rfl⟩ : ∃ j, i = j + 1 := ⟨i - 1, by omega⟩
        have hkp : decide ((0 : Int) < ((j + 1 : Nat) : Int)) = true := decide_eq_true (by omega)
        obtain ⟨bb, o, rfl, _, hc2⟩ := (R2.out.below HB.out).bl (Nat.lt_succ_self j)
        have hla : la = some (l.getD j false) := by have := lastL_last rs fs l j (by rw [NL.out]; omega); rw [HST.out] at this; exact this
        obtain ⟨b0, hb0⟩ : ∃ b0, b0 = l.getD j false := ⟨_, rfl⟩
        rw [← hb0] at hc2 hla
        subst hla
        clear hb0
        by_cases hs : b0 = dd
        · subst hs
          have EQ : hlEq hh (Hl.mk [120] b0 nn) = true := by rw [HH.out, FIN.out]; unfold runOf; rw [if_pos rfl]; exact hlEq_self _
          cases b0
          all_goals
            go_wp2
            try go_quiet (fail)
            try go_wp2
            try go_quiet (fail)
            try go_wp2
            go_ret
            exact ⟨rfl, by first | exact HBF.out | exact below_drewN HBF.out _ | exact below_drewN (below_drewN HBF.out _) _⟩
        · have EQ : hlEq hh (Hl.mk [120] dd 0) = true := by rw [HH.out, FIN.out]; unfold runOf; rw [if_neg (by simpa using hs)]; exact hlEq_self _
          obtain rfl : b0 = !dd := by cases dd <;> cases b0 <;> simp_all
          clear hs
          cases dd
          all_goals
            go_wp2
            try go_quiet (fail)
            try go_wp2
            try go_quiet (fail)
            try go_wp2
            go_ret
            exact ⟨rfl, by first | exact HBF.out | exact below_drewN HBF.out _ | exact below_drewN (below_drewN HBF.out _) _⟩
theorem healthLast_walk (l : List Bool) (r f : Nat) (A : Option Addr) (n cap : Nat) (w : World) (hR : RdL w w.heap.size A n l) (hn : n ≤ 9223372036854775807) (hr : r < 256) (hf : f < 256) :
    Calls Try.prog 5 #[.slice A n cap, .int .u8 (r : Nat), .int .u8 (f : Nat)] w fun e w' => e = .returned (.bool true) ∧ Below w.heap.size w w' := by
  rcases Nat.lt_or_ge 1000 n with hlen | hlen
  · have hd : decide ((1000 : Int) < n) = true := decide_eq_true (by omega)
    clear hlen hR
    go_enter Try.func5, Try.ntmps5
    go_wp2_with fail
    refine (awake_any _).mono ?_
    rintro e w1 ⟨rfl, hb1⟩
    have HB1 := Lib.hid hb1
    clear hb1
    go_wp2_with fail
    refine (awake_any _).mono ?_
    rintro e w2 ⟨rfl, hb2⟩
    have HB2 := Lib.hid (below2 HB1.out hb2)
    clear hb2
    go_wp2
    go_ret
    exact ⟨rfl, HB2.out⟩
  · exact healthLast_main l r f A n cap w hR hlen hr hf
set_option maxRecDepth 100000 in
theorem healthLast_lifted (os : Os) (started : os.Started) (H : Type) (enc : TypeId × Value → H) :
    ReturnsInHanded {} Try.checked os 5 .any (Rows.healthLastSpec.pre6 enc Try.prog Try.f5 Rows.healthLastRow.domain false) (Rows.healthLastSpec.post enc Try.prog Try.f5 false true false false) := by
  refine returnsInHanded_of_change (C := Try.checked) own started (by kernel_rfl) Try.func5
    (ChangeSpec.witness6 (enc := enc) (C := Try.checked) false ⟨#[], #[.slice none 0 0, .int .u8 0, .int .u8 0], []⟩ 8 (by kernel_rfl) (by kernel_rfl) (by kernel_rfl) (by kernel_rfl)) ?_
  intro W base args ds gs before hval0 hW hcnd _
  have hval : ∀ (j : Nat) t v, Try.f5.params[j]? = some t → args[j]? = some v → Value.okWide Try.prog W .any base t v := hval0
  have hW' := hW
  obtain ⟨p, q, hA0, hV, rfl, hfz, hnd⟩ := hW
  have hA : DataW.TrodAll enc Try.prog W 0 (fun _ => true) true Try.f5.params.toList args.toList ds p := hA0
  rw [Try.params5] at hA hval
  obtain ⟨v0, vs0, d0, ds0, p0, q0, hargs, rfl, rfl, h0, r0⟩ := trodAll_cons hA
  obtain ⟨v1, vs1, d1, ds1, p1, q1, rfl, rfl, rfl, h1, r1⟩ := trodAll_cons r0
  obtain ⟨v2, vs2, d2, ds2, p2, q2, rfl, rfl, rfl, h2, r2⟩ := trodAll_cons r1
  obtain ⟨rfl, rfl, rfl⟩ := trodAll_nil r2
  obtain rfl : args = #[v0, v1, v2] := by cases args; simp_all
  obtain ⟨Al, nl, cl, ll, rfl, hRl, hml⟩ := open_bls (hval 0 28 v0 rfl rfl) h0
  obtain ⟨r, rfl, hr⟩ := open_u8 Try.underlying5 (hval 1 5 v1 rfl rfl) h1
  obtain ⟨f, rfl, hf⟩ := open_u8 Try.underlying5 (hval 2 5 v2 rfl rfl) h2
  clear hA0 hval0
  refine (healthLast_walk ll r f Al nl cl W hRl hml hr hf).mono fun e W' ⟨he, hb⟩ => ?_
  subst he
  exact ⟨_, rfl, law_post laidOut rfl (by kernel_rfl) 4 Try.underlying4 rfl hW' rfl hb⟩
theorem healthLast_holds : Rows.HealthLastSaid :=
  OpenClaim.holds_of_wide 5 Try.f5 rfl rfl rfl rfl rfl rfl rfl ⟨rfl, rfl, rfl, rfl, rfl⟩ rfl rfl rfl rfl rfl (by kernel_rfl) Try.func5 (by kernel_rfl)
    (of_decide_eq_true (by kernel_rfl)) (by unfold Func.isWrapper; first | (rw [if_pos (by decide +kernel)]; kernel_rfl) | (rw [if_neg (by decide +kernel)]; exact ⟨rfl, rfl⟩))
    (fun os started H enc _ => healthLast_lifted os started H enc)
#print axioms healthLast_holds
end Go.Proofs.Ytjeeigdbfngjaaa
