/- The two stores alike: same. -/
import Derived.Test.YtejjobbgceoljaaSvE
set_option linter.unusedSimpArgs false
set_option linter.unusedVariables false
namespace Go.Proofs.Ytejjobbgceoljaa
open Go.RowKit

theorem read_all {L : List Fi} (hS : SrtF L) (dn : Bool) {k : Nat} (hk : k < L.length) : readV L (L.getD k noFi).name dn = if dn = true then ([], 9) else ((L.getD k noFi).b, 0) := by
  unfold readV
  cases dn with
  | true => rfl
  | false => rw [if_neg (by simp), if_neg (by simp), lookF_of_mem hS (getD_mem noFi L k hk)]
/-- the document's store stays over what turns the program's alone -/
theorem RfX.frm {F F' : List Nat} {W W' : World} {p : Nat} {q : Int} {L : List Fi} {fu : Int} {dn : Bool} (h : RfX F W p q L fu dn) (hf : Frm F W W') (hp : p ∉ F) (hF : ∀ g ∈ F', g ∈ F ∨ W.heap.size ≤ g) : RfX F' W' p q L fu dn := by
  obtain ⟨A, n, c, h1, h2, h3, h4⟩ := h
  obtain ⟨t, ht⟩ := h1
  have hlt := Box.lt ⟨t, ht⟩
  refine ⟨A, n, c, ⟨t, by rw [hf.block p hlt hp]; exact ht⟩, (h2.frm hf (Nat.le_refl _) (fun _ a ha => (h3 a ha).2.1)).more hf.size, fun a ha => ⟨(h3 a ha).1, fun hm => ?_, Nat.lt_of_lt_of_le (h3 a ha).2.2 hf.size⟩, h4⟩
  rcases hF _ hm with h | h
  · exact (h3 a ha).2.1 h
  · have := (h3 a ha).2.2; omega
set_option maxRecDepth 100000 in
set_option maxHeartbeats 8000000 in
theorem same_any (F : List Nat) (p p' : Nat) (q fu : Int) (dn : Bool) (L : List Fi) (w : World) (hP : PgS F w p q L fu dn) (hS : RfX F w p' q L fu dn) (hL : L.length ≤ 10000) :
    Calls Try.prog 15 #[.pointer (some ⟨p, 0, none⟩), .pointer (some ⟨p', 0, none⟩)] w fun e w' => e = .returned (.bool true) ∧ Below w.heap.size w w' := by
  have HS := Lib.hid hS
  obtain ⟨A, n, c, hB, hR, hne, hso⟩ := hS
  have hG := PgS.good hP
  have hsl : sumF L ≤ 1073741824 := by have := hG.2.2.1; have := hG.2.2.2.2; omega
  have hnl := hR.1
  have hl := hB.lt
  have HP := Lib.hid hP
  have HB0 := Lib.hid hB
  have HR0 := Lib.hid hR
  have HNE := Lib.hid hne
  have HSO := Lib.hid hso
  have HGD := Lib.hid hG
  have SZ := Lib.hid (fun W (h : Below w.heap.size w W) => size_any F p q fu dn L W (hP.go h))
  have DW := Lib.hid (fun W (h : Below w.heap.size w W) => down_any F p q fu dn L W (hP.go h))
  have HN := Lib.hid hnl
  clear hB hR hne hP hso hG
  go_enter Try.func15, Try.ntmps15
  go_wp2_with fail
  refine (list_any F p q fu dn L w HP.out (by omega)).mono ?_
  rintro e wL ⟨A10, c10, rfl, ho, hb⟩
  rw [names_len, hnl] at ho
  rw [names_len, hnl]
  have RN := Lib.hid (RdR.of_own (by rw [names_len]; exact hnl) ho : RdT wL wL.heap.size A10 n (namesF L))
  have HBL := Lib.hid hb
  obtain ⟨T, f, m0, e0, eS, eT⟩ := class_of (fun W => Below wL.heap.size wL W) wL (Below.refl _ _).drew
  have es : ∀ q W1, Below (f q).heap.size (f q) W1 → ∃ q', W1 = f q' := fun q W1 hb => eT _ ((eS q).trans (hb.mono (eS q).size))
  have r1 : ∀ q j, (f q).cell? ⟨p', j, none⟩ = _ := fun q j => (((HB0.out.go hb).below (eS q) (HB0.out.go hb).lt).facts).1 j
  have hTn : Nonempty T := ⟨m0⟩
  have E0 := Lib.hid e0
  have ES := Lib.hid es
  have EB := Lib.hid eS
  have CZ := Lib.hid (fun q1 => refSize_any p' q fu A n c dn L (f q1) ((HB0.out.go hb).below (eS q1) (HB0.out.go hb).lt) (((HR0.out.go hb).below (eS q1)).more (eS q1).size) (by omega) (by omega))
  have PZ := Lib.hid (fun q1 => SZ.out (f q1) (below2 hb (eS q1)))
  have PD := Lib.hid (fun q1 => DW.out (f q1) (below2 hb (eS q1)))
  clear e0 es eS eT ho hb hnl
  go_wp2_with fail
  refine quiet_in f (by kernel_rfl) (by kernel_rfl) m0 E0.out ?_
  repeat (go_big_quiet_step ((first
    | (go_at_call 34; refine (CZ.out _).mono ?_; rintro e w1 ⟨rfl, hb1⟩; exact ⟨rfl, ES.out _ _ hb1⟩)
    | (go_at_call 23; refine (PZ.out _).mono ?_; rintro e w1 ⟨rfl, hb1⟩; exact ⟨rfl, _, hb1.symm⟩)
    | (go_at_call 20; refine (PD.out _).mono ?_; rintro e w1 ⟨rfl, hb1⟩; exact ⟨rfl, _, hb1.symm⟩))))
  refine wpQuiet_nil ?_
  rintro _ ⟨q9, rfl⟩
  have HB1 := Lib.hid (EB.out q9)
  obtain ⟨w1, hw1⟩ : ∃ w1, f q9 = w1 := ⟨_, rfl⟩
  rw [hw1] at HB1 ⊢
  clear hw1 r1
  have HW1 := Lib.hid (below2 HBL.out HB1.out)
  go_wp2
  go_loopw [6] (fun s6 wr => ∃ i : Nat, i ≤ n ∧ s6 = .int .i64 i ∧ Below w1.heap.size w1 wr) (fun s6 _ => n - (intOf s6).toNat)
  case atStart => exact ⟨0, by omega, rfl, Below.refl _ _⟩
  case round =>
    obtain ⟨i, hin, rfl, hbr⟩ := hrel
    have HR := Lib.hid (below2 HB1.out hbr)
    have HBR := Lib.hid hbr
    have HW := Lib.hid (below2 HW1.out hbr)
    clear hbr
    by_cases hlt : i < n
    · have hi : (i : Int) < n := by omega
      have hkL : i < L.length := by rw [HN.out]; exact hlt
      obtain ⟨y, hy⟩ : ∃ y, y = L.getD i noFi := ⟨_, rfl⟩
      have hnm : (namesF L).getD i [] = y.name := by rw [names_get hkL, ← hy]
      have hle : y.name.length ≤ 100000 := by rw [← hnm]; exact names_le HGD.out hkL
      have hsv : synV L y.name = (y.syn, true) := by rw [← hnm, hy]; exact syn_at HSO.out hkL
      obtain ⟨r, hr⟩ : ∃ r, readV L y.name dn = r := ⟨_, rfl⟩
      have SY := Lib.hid (synced_any F p q fu dn L y.name wr (PgS.go HP.out HW.out) hle)
      have RE := Lib.hid (read_any F p q fu dn L y.name wr (PgS.go HP.out HW.out) hle)
      have RR := Lib.hid (fun W (h : Below w.heap.size w W) => refRead_any F p' q fu dn L y.name W (HS.out.go h) hL)
      rw [hsv] at SY
      rw [hr] at RE RR
      have HY := Lib.hid hy
      clear hsv hr hy
      obtain ⟨b0, o0, rfl, hb0, hcn⟩ := (RN.out.to HR.out (Nat.le_refl _)).text hlt
      rw [hnm] at hcn
      go_wp2_with (first | (go_at_call 18; refine SY.out.mono ?_; rintro e w3 ⟨rfl, rfl⟩) | fail)
      refine RE.out.mono ?_
      rintro e w4 ⟨A4, c4, rfl, ho4, hb4⟩
      have HB4 := Lib.hid (below2 HR.out hb4)
      obtain ⟨b0', o0', e0, _, hcn4⟩ := (RN.out.to HB4.out (Nat.le_refl _)).text hlt
      rw [hnm] at hcn4
      injection e0 with e0
      injection e0 with e1 e2
      subst e1 e2
      clear hcn
      go_wp2_with fail
      refine (RR.out w4 (below2 HW.out hb4)).mono ?_
      rintro e w5 ⟨rfl, hb5⟩
      have HB5 := Lib.hid (below2 HB4.out hb5)
      have HW5 := Lib.hid (below2 (below2 HW.out hb4) hb5)
      obtain ⟨b1, o1, e0, _, hcn5⟩ := (RN.out.to HB5.out (Nat.le_refl _)).text hlt
      rw [hnm] at hcn5
      injection e0 with e0
      injection e0 with e1 e2
      subst e1 e2
      clear hcn4
      obtain ⟨f1, f2, f3, f4⟩ := (HB0.out.go HW5.out).facts
      obtain ⟨b2, o2, rfl, hb2, _, _, hz0, _, hz2⟩ := (HR0.out.go HW5.out).fi hlt
      rw [← HY.out] at hz0 hz2
      have hcv : ∀ nq, (convert 32 9 (.slice A4 r.1.length c4)).run Try.prog (w5.drewN nq) = .ok (.string (textOf r.1)) (w5.drewN nq) := fun nq =>
        run_bytes_text (P := Try.prog) (show RdB (w5.drewN nq) w4.heap.size A4 r.1.length r.1 from (RdB.of_own ho4).below (below_drewN hb5 nq)) 32 5 9 Try.underlying32 Try.underlying5 Try.underlying9 c4
      clear ho4
      go_wp2_with fail
      go_quiet (fail)
      go_wp2
      go_roundw
      case rel => exact ⟨i + 1, by omega, by go_num, below_drewN ((HBR.out.trans (hb4.mono HBR.out.size)).trans (hb5.mono (Nat.le_trans HBR.out.size hb4.size))) _⟩
      case measure => simp [intOf] <;> omega
    · obtain rfl : i = n := by omega
      have hd : decide ((i : Int) < i) = false := by simp
      go_wp2
      go_ret
      exact ⟨rfl, HW.out⟩
end Go.Proofs.Ytejjobbgceoljaa
