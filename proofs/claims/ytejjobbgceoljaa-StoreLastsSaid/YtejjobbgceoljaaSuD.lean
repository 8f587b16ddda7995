/- StoreBound. -/
import Derived.Test.YtejjobbgceoljaaSuC
set_option linter.unusedSimpArgs false
set_option linter.unusedVariables false
namespace Go.Proofs.Ytejjobbgceoljaa
open Go.ChangeShapes Go.WideShapes Go.ChangeAt Go.RowKit

theorem open_u16 {H : Type} {enc : TypeId × Value → H} {P : Program} {W : World} {base : Nat} {T : TypeId} {v : Value} {d : DataW H} {ps : List MemPlace} (ht : P.underlying T = some (.int .u16)) (hval : Value.okWide P W .any base T v) (h : DataW.Trod enc P W 0 (fun _ => true) true T v d ps) : ∃ u : Nat, v = .int .u16 (u : Nat) ∧ u < 65536 := by
  obtain ⟨x, rfl, rfl, rfl, wx⟩ := open_int ht hval h
  have hx : 0 ≤ x ∧ x ≤ 65535 := by simpa [Lit.wf, IntKind.min, IntKind.max, IntKind.signed, IntKind.bits] using wx
  exact ⟨x.toNat, by rw [Int.toNat_of_nonneg hx.1], by omega⟩
set_option maxHeartbeats 8000000 in
set_option maxRecDepth 100000 in
theorem storeBound_walk (u : Nat) (l : List Ac) (A : Option Addr) (n c : Nat) (w : World) (hu : u < 65536) (hR : RdA w w.heap.size A n l) (hg : ∀ o ∈ l, o.good w w.heap.size) (hn : n ≤ 9223372036854775807) :
    Calls Try.prog 5 #[.int .u16 (u : Nat), .slice A n c] w fun e w' => e = .returned (.bool true) ∧ Below w.heap.size w w' := by
  have HR := Lib.hid hR
  have HN := Lib.hid hR.1
  have HG := Lib.hid hg
  have FW := Lib.hid (fun W (h : Below w.heap.size w W) => few_any l A n c W ((hR.to h (Nat.le_refl _)).more h.size) hn)
  obtain ⟨lf, hlf⟩ : ∃ lf : Nat, u % 2000 = lf := ⟨_, rfl⟩
  have hlf40 : lf < 2000 := by rw [← hlf]; exact Nat.mod_lt _ (by omega)
  have hrem : Int.tmod (u : Int) 2000 = lf := by rw [← hlf]; rfl
  clear hR hg hlf
  cases hfw : fewA l with
  | false =>
    rw [hfw] at FW
    go_enter Try.func5, Try.ntmps5
    go_wp2_with fail
    refine (awake_any _).mono ?_
    rintro e w1 ⟨rfl, hb1⟩
    have HB1 := Lib.hid hb1
    clear hb1
    go_wp2_with fail
    refine (FW.out w1 HB1.out).mono ?_
    rintro e w2 ⟨rfl, hb2⟩
    have HB2 := Lib.hid (below2 HB1.out hb2)
    clear hb2
    go_wp2_with fail
    refine (awake_any _).mono ?_
    rintro e w3 ⟨rfl, hb3⟩
    have HB3 := Lib.hid (below2 HB2.out hb3)
    clear hb3
    go_wp2
    go_ret
    exact ⟨rfl, HB3.out⟩
  | true =>
    rw [hfw] at FW
    have hn80 := few_len hfw
    rw [HN.out] at hn80
    have HAC := Lib.hid (fun i (hi : i < n) => acts_read HG.out hfw (i := i) (by rw [HN.out]; exact hi))
    clear hfw
    go_enter Try.func5, Try.ntmps5
    go_wp2_with fail
    refine (awake_any _).mono ?_
    rintro e w1 ⟨rfl, hb1⟩
    have HB1 := Lib.hid hb1
    clear hb1
    go_wp2_with fail
    refine (FW.out w1 HB1.out).mono ?_
    rintro e w2 ⟨rfl, hb2⟩
    have HB2 := Lib.hid (below2 HB1.out hb2)
    clear hb2
    obtain ⟨q, hq⟩ : ∃ q : Int, (1 : Int) + lf = q := ⟨_, rfl⟩
    have hq1 : 1 ≤ q ∧ q ≤ 2000 := by omega
    go_wp2_with fail
    refine (Aw.new q w w2 HB2.out (by omega)).mono ?_
    rintro e w3 ⟨p, rfl, h3⟩
    have A3 := Lib.hid h3
    clear h3
    go_wp2
    go_loopw [7] (fun s7 wr => ∃ (i : Nat) (m : Mo), i ≤ n ∧ s7 = .int .i64 i ∧ Aw w wr p q m ∧ m.L.length ≤ i) (fun s7 _ => n - (intOf s7).toNat)
    case atStart => exact ⟨0, _, by omega, rfl, A3.out, by simp⟩
    case round =>
      obtain ⟨i, m, hin, rfl, hA, hLi⟩ := hrel
      have HA := Lib.hid hA
      clear hA
      by_cases hlt : i < n
      · have hi : (i : Int) < n := by omega
        obtain ⟨bs, ks, hac⟩ := HAC.out i hlt
        have HRW := Lib.hid (fun W (h : Below w.heap.size w W) => (HR.out.to h (Nat.le_refl _)).ac hlt)
        obtain ⟨b, o, hA0, hbb, _⟩ := HRW.out w (Below.refl _ _)
        subst hA0
        obtain ⟨x, hx⟩ : ∃ x, x = l.getD i noAc := ⟨_, rfl⟩
        have HX := Lib.hid (show ∀ W, Below w.heap.size w W → Has W b (o + i * 6) 6 ∧ cellsAt W b (o + i * 6) 6 = x.arr ∧ W.cell? ⟨b, o + i * 6, none⟩ = some (.int .i64 x.kind) ∧ W.cell? ⟨b, o + i * 6 + 3, none⟩ = some (.slice x.b.A x.b.n x.b.c) from fun W h => by
          obtain ⟨b', o', e, _, h1, h2, h3, _, _, h4, _⟩ := HRW.out W h
          injection e with e
          injection e with e1 e2
          subst e1 e2
          rw [hx]
          exact ⟨h1, h2, h3, h4⟩)
        rw [← hx] at hac
        have DO := Lib.hid (fun W (h : Aw w W p q m) => h.do x bs ks (by omega) hac)
        have SL := Lib.hid (step_len q m x bs ks)
        have SE := Lib.hid (step_err q m x bs ks)
        have SA := Lib.hid (step_app q m x bs ks HA.out.good.1 hac.2.2.1.len)
        clear hx hac hbb HRW
        obtain ⟨m', hm'⟩ : ∃ m', (stepM q m x bs ks).1 = m' := ⟨_, rfl⟩
        obtain ⟨er, her⟩ : ∃ er, (stepM q m x bs ks).2 = er := ⟨_, rfl⟩
        rw [hm', her] at DO SA SE
        rw [hm'] at SL
        obtain ⟨sz, hsz⟩ : ∃ sz, sumF m.L = sz := ⟨_, rfl⟩
        obtain ⟨sz', hsz'⟩ : ∃ sz', sumF m'.L = sz' := ⟨_, rfl⟩
        obtain ⟨ln, hln⟩ : ∃ ln, m.L.length = ln := ⟨_, rfl⟩
        obtain ⟨ln', hln'⟩ : ∃ ln', m'.L.length = ln' := ⟨_, rfl⟩
        have hszq : (sz : Int) ≤ q := by rw [← hsz]; exact HA.out.good.2.2.1
        have hLm' : m'.L.length ≤ i + 1 := by have := SL.out; omega
        rw [hsz, hsz'] at SA
        have HSZ := Lib.hid hsz
        have HSZ' := Lib.hid hsz'
        have HLN := Lib.hid hln
        have HLN' := Lib.hid hln'
        have HSE := Lib.hid (show er ≠ 0 → sz' = sz ∧ ln' = ln from fun h => by have := SE.out h; rw [← HSZ'.out, ← HSZ.out, ← HLN'.out, ← HLN.out, this]; exact ⟨rfl, rfl⟩)
        have HI := Lib.hid hLm'
        clear hm' her hsz hsz' hln hln'
        go_wp2_with fail
        have SZ1 := HA.out.size
        rw [HSZ.out] at SZ1
        refine SZ1.mono ?_
        rintro e w4 ⟨rfl, rfl⟩
        go_wp2_with fail
        have LI1 := HA.out.list (by omega)
        rw [names_len, HLN.out] at LI1
        refine LI1.mono ?_
        rintro e w4 ⟨A4, c4, rfl, _, _, h4⟩
        have A4' := Lib.hid h4
        clear h4
        obtain ⟨hh, hcl, _⟩ := HX.out w4 A4'.out.below
        go_wp2_with fail
        refine (DO.out w4 A4'.out).mono ?_
        rintro e w5 ⟨rfl, h5⟩
        have A5 := Lib.hid h5
        have SZ5 := h5.size
        rw [HSZ'.out] at SZ5
        have SZ5 := Lib.hid SZ5
        have hq5 : (sz' : Int) ≤ q := by rw [← HSZ'.out]; exact h5.good.2.2.1
        have hd5 : decide (q < (sz' : Int)) = false := decide_eq_false (by omega)
        clear h5 hh hcl
        obtain ⟨hh, hcl, hc0, hc3⟩ := HX.out w5 A5.out.below
        have LI6 := Lib.hid (fun W (h : Aw w W p q m') => by
          have := h.list (by omega)
          rw [names_len, HLN'.out] at this
          exact this)
        by_cases he : er = 0
        · subst he
          by_cases hk : x.kind = 0
          · have e1 : (x.kind == 0) = true := by simpa using hk
            have e2 : decide (x.kind = 0) = true := by simpa using hk
            have hsa := SA.out hk rfl
            have e3 : (sz : Int) + (x.b.n : Nat) = (sz' : Nat) := by omega
            have SZN := Lib.hid (fun nq => show Calls Try.prog 23 #[.pointer (some ⟨p, 0, none⟩)] (w5.drewN nq) fun e w' => e = .returned (.int .i64 (sz' : Nat)) ∧ w' = w5.drewN nq from by
              have := (A5.out.drewN nq).size
              rw [HSZ'.out] at this
              exact this.mono fun _ _ ⟨h1, h2⟩ => ⟨h1, h2.symm⟩)
            clear hk hsa
            go_wp2_with (go_at_call 23; refine SZ5.out.mono ?_; rintro e w9 ⟨rfl, rfl⟩)
            go_quiet ((go_at_call 23; refine Calls.quiet_of_same (SZN.out _)))
            go_wp2_with fail
            refine (LI6.out _ (A5.out.drewN _)).mono ?_
            rintro e w6 ⟨A6, c6, rfl, ho6, _, h6⟩
            have A6' := Lib.hid h6
            have RN := Lib.hid (RdR.of_own (by rw [names_len]; exact HLN'.out) ho6 : RdT w6 w6.heap.size A6 ln' (namesF m'.L))
            have hln2 : ln' ≤ 10000 := by have := HI.out; have := HLN'.out; omega
            clear h6 ho6 hh hcl hc0 hc3
            have DN := Lib.hid (fun W (h : Aw w W p q m') => h.down)
            have RD := Lib.hid (fun W (h : Aw w W p q m') s hs => h.read s hs)
            have GD := Lib.hid A6'.out.good
            cases hdn : m'.dn with
            | true =>
              rw [hdn] at DN
              go_wp2
              go_loopw [12, 13] (fun s12 s13 wx => s12 = .int .i64 0 ∧ s13 = .int .i64 0 ∧ Aw w wx p q m') (fun _ _ _ => 0)
              case atStart => exact ⟨rfl, rfl, A6'.out⟩
              case round =>
                obtain ⟨rfl, rfl, hA6⟩ := hrel
                have H6 := Lib.hid hA6
                clear hA6
                by_cases hz : (0 : Int) < ln'
                · go_wp2_with (go_at_call 20; refine (DN.out _ H6.out).mono ?_; rintro e w9 ⟨rfl, rfl⟩)
                  go_roundw
                  case rel => exact ⟨i + 1, m', by omega, by go_num, H6.out, HI.out⟩
                  case measure => simp [intOf] <;> omega
                · go_wp2_with (go_at_call 20; refine (DN.out _ H6.out).mono ?_; rintro e w9 ⟨rfl, rfl⟩)
                  go_roundw
                  case rel => exact ⟨i + 1, m', by omega, by go_num, H6.out, HI.out⟩
                  case measure => simp [intOf] <;> omega
            | false =>
              rw [hdn] at DN RD
              go_wp2
              go_loopw [12, 13] (fun s12 s13 wx => ∃ (k t : Nat), k ≤ ln' ∧ s13 = .int .i64 k ∧ s12 = .int .i64 (t : Nat) ∧ sumF (m'.L.take k) = t ∧ Aw w wx p q m' ∧ Below w6.heap.size w6 wx) (fun _ s13 _ => ln' - (intOf s13).toNat)
              case atStart => exact ⟨0, 0, by omega, rfl, rfl, rfl, A6'.out, Below.refl _ _⟩
              case round =>
                obtain ⟨k, t, hkl, rfl, rfl, hsum, hA6, hb6⟩ := hrel
                have H6 := Lib.hid hA6
                have HB6 := Lib.hid hb6
                have HSUM := Lib.hid hsum
                clear hA6 hb6 hsum
                by_cases hkn : k < ln'
                · have hki : (k : Int) < ln' := by omega
                  have hkL : k < m'.L.length := by rw [HLN'.out]; exact hkn
                  obtain ⟨nb, no, rfl, _, hnc⟩ := (RN.out.to HB6.out (Nat.le_refl _)).text hkn
                  obtain ⟨nm, hnm⟩ : ∃ nm, nm = (namesF m'.L).getD k [] := ⟨_, rfl⟩
                  rw [← hnm] at hnc
                  have hnl : nm.length ≤ 100000 := by rw [hnm]; exact names_le GD.out hkL
                  have hrv := read_at GD.out.1 hkL
                  rw [← hnm] at hrv
                  obtain ⟨y, hy⟩ : ∃ y, y = m'.L.getD k noFi := ⟨_, rfl⟩
                  rw [← hy] at hrv
                  have hnx := sumF_take m'.L k hkL hy
                  rw [HSUM.out] at hnx
                  have hle := sumF_le m'.L (k + 1)
                  rw [hnx, HSZ'.out] at hle
                  have HNX := Lib.hid hnx
                  have RDk := RD.out _ H6.out nm hnl
                  rw [hrv] at RDk
                  have RDk := Lib.hid RDk
                  clear hnm hy hrv hnx
                  go_wp2_with (first | (go_at_call 20; refine (DN.out _ H6.out).mono ?_; rintro e w9 ⟨rfl, rfl⟩) | (go_at_call 16; refine RDk.out.mono ?_; rintro e w7 ⟨A7, c7, rfl, _, hb7, h7⟩; have A7' := Lib.hid h7; have HB7 := Lib.hid (below2 HB6.out hb7); clear hb7 h7))
                  go_roundw
                  case rel => exact ⟨k + 1, t + y.b.length, by omega, by go_num, by go_num, HNX.out, A7'.out, HB7.out⟩
                  case measure => simp [intOf] <;> omega
                · obtain rfl : k = ln' := by omega
                  have hdk : decide ((k : Int) < k) = false := by simp
                  have ht : t = sz' := by
                    rw [← HSUM.out, List.take_of_length_le (by rw [HLN'.out]; exact Nat.le_refl _), HSZ'.out]
                  subst ht
                  have SZ9 := Lib.hid (fun W (h : Aw w W p q m') => HSZ'.out ▸ h.size)
                  go_wp2_with (first | (go_at_call 20; refine (DN.out _ H6.out).mono ?_; rintro e w9 ⟨rfl, rfl⟩) | (go_at_call 23; refine (SZ9.out _ H6.out).mono ?_; rintro e w9 ⟨rfl, rfl⟩))
                  go_roundw
                  case rel => exact ⟨i + 1, m', by omega, by go_num, H6.out, HI.out⟩
                  case measure => simp [intOf] <;> omega
          · have e1 : (x.kind == 0) = false := by simpa using hk
            have e2 : decide (x.kind = 0) = false := by simpa using hk
            clear hk
            go_wp2_with (go_at_call 23; refine SZ5.out.mono ?_; rintro e w9 ⟨rfl, rfl⟩)
            go_quiet (fail)
            go_wp2_with fail
            refine (LI6.out _ (A5.out.drewN _)).mono ?_
            rintro e w6 ⟨A6, c6, rfl, ho6, _, h6⟩
            have A6' := Lib.hid h6
            have RN := Lib.hid (RdR.of_own (by rw [names_len]; exact HLN'.out) ho6 : RdT w6 w6.heap.size A6 ln' (namesF m'.L))
            have hln2 : ln' ≤ 10000 := by have := HI.out; have := HLN'.out; omega
            clear h6 ho6 hh hcl hc0 hc3
            have DN := Lib.hid (fun W (h : Aw w W p q m') => h.down)
            have RD := Lib.hid (fun W (h : Aw w W p q m') s hs => h.read s hs)
            have GD := Lib.hid A6'.out.good
            cases hdn : m'.dn with
            | true =>
              rw [hdn] at DN
              go_wp2
              go_loopw [12, 13] (fun s12 s13 wx => s12 = .int .i64 0 ∧ s13 = .int .i64 0 ∧ Aw w wx p q m') (fun _ _ _ => 0)
              case atStart => exact ⟨rfl, rfl, A6'.out⟩
              case round =>
                obtain ⟨rfl, rfl, hA6⟩ := hrel
                have H6 := Lib.hid hA6
                clear hA6
                by_cases hz : (0 : Int) < ln'
                · go_wp2_with (go_at_call 20; refine (DN.out _ H6.out).mono ?_; rintro e w9 ⟨rfl, rfl⟩)
                  go_roundw
                  case rel => exact ⟨i + 1, m', by omega, by go_num, H6.out, HI.out⟩
                  case measure => simp [intOf] <;> omega
                · go_wp2_with (go_at_call 20; refine (DN.out _ H6.out).mono ?_; rintro e w9 ⟨rfl, rfl⟩)
                  go_roundw
                  case rel => exact ⟨i + 1, m', by omega, by go_num, H6.out, HI.out⟩
                  case measure => simp [intOf] <;> omega
            | false =>
              rw [hdn] at DN RD
              go_wp2
              go_loopw [12, 13] (fun s12 s13 wx => ∃ (k t : Nat), k ≤ ln' ∧ s13 = .int .i64 k ∧ s12 = .int .i64 (t : Nat) ∧ sumF (m'.L.take k) = t ∧ Aw w wx p q m' ∧ Below w6.heap.size w6 wx) (fun _ s13 _ => ln' - (intOf s13).toNat)
              case atStart => exact ⟨0, 0, by omega, rfl, rfl, rfl, A6'.out, Below.refl _ _⟩
              case round =>
                obtain ⟨k, t, hkl, rfl, rfl, hsum, hA6, hb6⟩ := hrel
                have H6 := Lib.hid hA6
                have HB6 := Lib.hid hb6
                have HSUM := Lib.hid hsum
                clear hA6 hb6 hsum
                by_cases hkn : k < ln'
                · have hki : (k : Int) < ln' := by omega
                  have hkL : k < m'.L.length := by rw [HLN'.out]; exact hkn
                  obtain ⟨nb, no, rfl, _, hnc⟩ := (RN.out.to HB6.out (Nat.le_refl _)).text hkn
                  obtain ⟨nm, hnm⟩ : ∃ nm, nm = (namesF m'.L).getD k [] := ⟨_, rfl⟩
                  rw [← hnm] at hnc
                  have hnl : nm.length ≤ 100000 := by rw [hnm]; exact names_le GD.out hkL
                  have hrv := read_at GD.out.1 hkL
                  rw [← hnm] at hrv
                  obtain ⟨y, hy⟩ : ∃ y, y = m'.L.getD k noFi := ⟨_, rfl⟩
                  rw [← hy] at hrv
                  have hnx := sumF_take m'.L k hkL hy
                  rw [HSUM.out] at hnx
                  have hle := sumF_le m'.L (k + 1)
                  rw [hnx, HSZ'.out] at hle
                  have HNX := Lib.hid hnx
                  have RDk := RD.out _ H6.out nm hnl
                  rw [hrv] at RDk
                  have RDk := Lib.hid RDk
                  clear hnm hy hrv hnx
                  go_wp2_with (first | (go_at_call 20; refine (DN.out _ H6.out).mono ?_; rintro e w9 ⟨rfl, rfl⟩) | (go_at_call 16; refine RDk.out.mono ?_; rintro e w7 ⟨A7, c7, rfl, _, hb7, h7⟩; have A7' := Lib.hid h7; have HB7 := Lib.hid (below2 HB6.out hb7); clear hb7 h7))
                  go_roundw
                  case rel => exact ⟨k + 1, t + y.b.length, by omega, by go_num, by go_num, HNX.out, A7'.out, HB7.out⟩
                  case measure => simp [intOf] <;> omega
                · obtain rfl : k = ln' := by omega
                  have hdk : decide ((k : Int) < k) = false := by simp
                  have ht : t = sz' := by
                    rw [← HSUM.out, List.take_of_length_le (by rw [HLN'.out]; exact Nat.le_refl _), HSZ'.out]
                  subst ht
                  have SZ9 := Lib.hid (fun W (h : Aw w W p q m') => HSZ'.out ▸ h.size)
                  go_wp2_with (first | (go_at_call 20; refine (DN.out _ H6.out).mono ?_; rintro e w9 ⟨rfl, rfl⟩) | (go_at_call 23; refine (SZ9.out _ H6.out).mono ?_; rintro e w9 ⟨rfl, rfl⟩))
                  go_roundw
                  case rel => exact ⟨i + 1, m', by omega, by go_num, H6.out, HI.out⟩
                  case measure => simp [intOf] <;> omega
        · obtain ⟨hz1, hz2⟩ := HSE.out he
          subst hz1 hz2
          have e1 : (er == 0) = false := by simpa using he
          have e2 : decide (er = 0) = false := by simpa using he
          have e3 : (er != 0) = true := by simpa using he
          have LI5 := A5.out.list (by omega)
          rw [names_len, HLN'.out] at LI5
          have LI5 := Lib.hid LI5
          clear he
          go_wp2_with (first | (go_at_call 23; refine SZ5.out.mono ?_; rintro e w9 ⟨rfl, rfl⟩) | (go_at_call 22; refine LI5.out.mono ?_; rintro e w5b ⟨A5b, c5b, rfl, _, _, h5b⟩; have A5b' := Lib.hid h5b; clear h5b hh hcl hc0 hc3; obtain ⟨hh, hcl, hc0, hc3⟩ := HX.out w5b A5b'.out.below))
          go_quiet (fail)
          go_wp2_with fail
          refine (LI6.out _ (A5b'.out.drewN _)).mono ?_
          rintro e w6 ⟨A6, c6, rfl, ho6, _, h6⟩
          have A6' := Lib.hid h6
          have RN := Lib.hid (RdR.of_own (by rw [names_len]; exact HLN'.out) ho6 : RdT w6 w6.heap.size A6 ln' (namesF m'.L))
          have hln2 : ln' ≤ 10000 := by have := HI.out; have := HLN'.out; omega
          clear h6 ho6 hh hcl hc0 hc3
          have DN := Lib.hid (fun W (h : Aw w W p q m') => h.down)
          have RD := Lib.hid (fun W (h : Aw w W p q m') s hs => h.read s hs)
          have GD := Lib.hid A6'.out.good
          cases hdn : m'.dn with
          | true =>
            rw [hdn] at DN
            go_wp2
            go_loopw [12, 13] (fun s12 s13 wx => s12 = .int .i64 0 ∧ s13 = .int .i64 0 ∧ Aw w wx p q m') (fun _ _ _ => 0)
            case atStart => exact ⟨rfl, rfl, A6'.out⟩
            case round =>
              obtain ⟨rfl, rfl, hA6⟩ := hrel
              have H6 := Lib.hid hA6
              clear hA6
              by_cases hz : (0 : Int) < ln'
              · go_wp2_with (go_at_call 20; refine (DN.out _ H6.out).mono ?_; rintro e w9 ⟨rfl, rfl⟩)
                go_roundw
                case rel => exact ⟨i + 1, m', by omega, by go_num, H6.out, HI.out⟩
                case measure => simp [intOf] <;> omega
              · go_wp2_with (go_at_call 20; refine (DN.out _ H6.out).mono ?_; rintro e w9 ⟨rfl, rfl⟩)
                go_roundw
                case rel => exact ⟨i + 1, m', by omega, by go_num, H6.out, HI.out⟩
                case measure => simp [intOf] <;> omega
          | false =>
            rw [hdn] at DN RD
            go_wp2
            go_loopw [12, 13] (fun s12 s13 wx => ∃ (k t : Nat), k ≤ ln' ∧ s13 = .int .i64 k ∧ s12 = .int .i64 (t : Nat) ∧ sumF (m'.L.take k) = t ∧ Aw w wx p q m' ∧ Below w6.heap.size w6 wx) (fun _ s13 _ => ln' - (intOf s13).toNat)
            case atStart => exact ⟨0, 0, by omega, rfl, rfl, rfl, A6'.out, Below.refl _ _⟩
            case round =>
              obtain ⟨k, t, hkl, rfl, rfl, hsum, hA6, hb6⟩ := hrel
              have H6 := Lib.hid hA6
              have HB6 := Lib.hid hb6
              have HSUM := Lib.hid hsum
              clear hA6 hb6 hsum
              by_cases hkn : k < ln'
              · have hki : (k : Int) < ln' := by omega
                have hkL : k < m'.L.length := by rw [HLN'.out]; exact hkn
                obtain ⟨nb, no, rfl, _, hnc⟩ := (RN.out.to HB6.out (Nat.le_refl _)).text hkn
                obtain ⟨nm, hnm⟩ : ∃ nm, nm = (namesF m'.L).getD k [] := ⟨_, rfl⟩
                rw [← hnm] at hnc
                have hnl : nm.length ≤ 100000 := by rw [hnm]; exact names_le GD.out hkL
                have hrv := read_at GD.out.1 hkL
                rw [← hnm] at hrv
                obtain ⟨y, hy⟩ : ∃ y, y = m'.L.getD k noFi := ⟨_, rfl⟩
                rw [← hy] at hrv
                have hnx := sumF_take m'.L k hkL hy
                rw [HSUM.out] at hnx
                have hle := sumF_le m'.L (k + 1)
                rw [hnx, HSZ'.out] at hle
                have HNX := Lib.hid hnx
                have RDk := RD.out _ H6.out nm hnl
                rw [hrv] at RDk
                have RDk := Lib.hid RDk
                clear hnm hy hrv hnx
                go_wp2_with (first | (go_at_call 20; refine (DN.out _ H6.out).mono ?_; rintro e w9 ⟨rfl, rfl⟩) | (go_at_call 16; refine RDk.out.mono ?_; rintro e w7 ⟨A7, c7, rfl, _, hb7, h7⟩; have A7' := Lib.hid h7; have HB7 := Lib.hid (below2 HB6.out hb7); clear hb7 h7))
                go_roundw
                case rel => exact ⟨k + 1, t + y.b.length, by omega, by go_num, by go_num, HNX.out, A7'.out, HB7.out⟩
                case measure => simp [intOf] <;> omega
              · obtain rfl : k = ln' := by omega
                have hdk : decide ((k : Int) < k) = false := by simp
                have ht : t = sz' := by
                  rw [← HSUM.out, List.take_of_length_le (by rw [HLN'.out]; exact Nat.le_refl _), HSZ'.out]
                subst ht
                have SZ9 := Lib.hid (fun W (h : Aw w W p q m') => HSZ'.out ▸ h.size)
                go_wp2_with (first | (go_at_call 20; refine (DN.out _ H6.out).mono ?_; rintro e w9 ⟨rfl, rfl⟩) | (go_at_call 23; refine (SZ9.out _ H6.out).mono ?_; rintro e w9 ⟨rfl, rfl⟩))
                go_roundw
                case rel => exact ⟨i + 1, m', by omega, by go_num, H6.out, HI.out⟩
                case measure => simp [intOf] <;> omega
      · obtain rfl : i = n := by omega
        have hd : decide ((i : Int) < i) = false := by simp
        have FIN := Lib.hid HA.out.below
        go_wp2
        go_ret
        exact ⟨rfl, FIN.out⟩
set_option maxRecDepth 100000 in
theorem storeBound_lifted (os : Os) (started : os.Started) (H : Type) (enc : TypeId × Value → H) :
    ReturnsInHanded {} Try.checked os 5 .any (Rows.storeBoundSpec.pre6 enc Try.prog Try.f5 Rows.storeBoundRow.domain false) (Rows.storeBoundSpec.post enc Try.prog Try.f5 false true false false) := by
  refine returnsInHanded_of_change (C := Try.checked) own started (by kernel_rfl) Try.func5
    (ChangeSpec.witness6 (enc := enc) (C := Try.checked) false ⟨#[], #[.int .u16 0, .slice none 0 0], []⟩ 8 (by kernel_rfl) (by kernel_rfl) (by kernel_rfl) (by kernel_rfl)) ?_
  intro W base args ds gs before hval0 hW hcnd _
  have hval : ∀ (j : Nat) t v, Try.f5.params[j]? = some t → args[j]? = some v → Value.okWide Try.prog W .any base t v := hval0
  have hW' := hW
  obtain ⟨p, q, hA0, hV, rfl, hfz, hnd⟩ := hW
  have hA : DataW.TrodAll enc Try.prog W 0 (fun _ => true) true Try.f5.params.toList args.toList ds p := hA0
  rw [Try.params5] at hA hval
  obtain ⟨v0, vs0, d0, ds0, p0, q0, hargs, rfl, rfl, h0, r0⟩ := trodAll_cons hA
  obtain ⟨v1, vs1, d1, ds1, p1, q1, rfl, rfl, rfl, h1, r1⟩ := trodAll_cons r0
  obtain ⟨rfl, rfl, rfl⟩ := trodAll_nil r1
  obtain rfl : args = #[v0, v1] := by cases args; simp_all
  obtain ⟨u, rfl, hu⟩ := open_u16 Try.underlying46 (hval 0 46 v0 rfl rfl) h0
  obtain ⟨Az, nz, cz, lz, rfl, hRz, hgz, hmz⟩ := open_acs (hval 1 22 v1 rfl rfl) h1
  clear hA0 hval0
  refine (storeBound_walk u lz Az nz cz W hu hRz hgz hmz).mono fun e W' ⟨he, hb⟩ => ?_
  subst he
  exact ⟨_, rfl, law_post laidOut rfl (by kernel_rfl) 4 Try.underlying4 rfl hW' rfl hb⟩
theorem storeBound_holds : Rows.StoreBoundSaid :=
  OpenClaim.holds_of_wide 5 Try.f5 rfl rfl rfl rfl rfl rfl rfl ⟨rfl, rfl, rfl, rfl, rfl⟩ rfl rfl rfl rfl rfl (by kernel_rfl) Try.func5 (by kernel_rfl)
    (of_decide_eq_true (by kernel_rfl)) (by unfold Func.isWrapper; first | (rw [if_pos (by decide +kernel)]; kernel_rfl) | (rw [if_neg (by decide +kernel)]; exact ⟨rfl, rfl⟩))
    (fun os started H enc _ => storeBound_lifted os started H enc)
#print axioms storeBound_holds
end Go.Proofs.Ytejjobbgceoljaa
