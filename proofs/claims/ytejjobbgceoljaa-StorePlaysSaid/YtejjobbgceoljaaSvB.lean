/- The document's store: New, Read, Append. -/
import Derived.Test.YtejjobbgceoljaaSvA
import Derived.Test.YtejjobbgceoljaaNmR
import Derived.Test.YtejjobbgceoljaaSuI
import Derived.Test.YtejjobbgceoljaaQr
set_option linter.unusedSimpArgs false
set_option linter.unusedVariables false
namespace Go.Proofs.Ytejjobbgceoljaa
open Go.RowKit

/-! ### New -/
theorem infoRf : ∃ i : TypeInfo, Try.prog.info? 65 = some i ∧ i.zero = some (.agg (rfC 0 none 0 0 0 false)) := by
  cases h : Try.prog.info? 65 with
  | none => exact absurd h (by have : (Try.prog.info? 65).isSome = true := by kernel_rfl
                               intro e; rw [e] at this; cases this)
  | some i =>
    have h3 : (Try.prog.info? 65).map (·.zero) = some (some (.agg (rfC 0 none 0 0 0 false))) := by kernel_rfl
    rw [h] at h3
    simp at h3
    exact ⟨i, rfl, h3⟩
theorem places_rf (w : World) (fs : Array Field) (h : Try.prog.underlying 65 = some (.struct fs)) : (Array.mapM (fun f => Prod.mk f.offset <$> sizeOf f.type) fs : Sem (Array (Nat × Nat))).run Try.prog w = .ok #[(0, 1), (1, 1), (2, 1), (3, 1)] w := by
  have e := Try.underlying65
  rw [h] at e
  cases e
  show _ = _
  kernel_rfl
def mkRf (ps : Array (Nat × Value)) : Sem Value := Instr.build 65 ps
@[go_sem ↓] theorem mkRf_is (ps : Array (Nat × Value)) : Instr.build 65 ps = mkRf ps := rfl
@[go_sem] theorem run_mkRf (w : World) (q fu : Int) : (mkRf #[(0, .int .i64 q), (2, .int .i64 fu)]).run Try.prog w = .ok (.agg (rfC q none 0 0 fu false)) w := by
  obtain ⟨i0, hi0, hz0⟩ := infoRf
  exact run_build w _ _ i0 (rfC 0 none 0 0 0 false) _ _ _ Try.underlying65 hi0 hz0 (places_rf w _ Try.underlying65) rfl
set_option maxRecDepth 100000 in
theorem refNew_any (X : List Nat) (q : Int) (w : World) : Calls Try.prog 12 #[.int .i64 q] w fun e w' => e = .returned (.pointer (some ⟨w.heap.size, 0, none⟩)) ∧ RfX X w' w.heap.size q [] (-1) false ∧ Below w.heap.size w w' := by
  go_enter Try.func12, Try.ntmps12
  go_wp2
  go_ret
  exact ⟨rfl, ⟨none, 0, 0, Box.new w _ _, RdR.nil _ _, (fun a h => by cases h), List.Pairwise.nil⟩, (Below.refl w.heap.size w).alloc (Nat.le_refl _) _⟩
/-! ### Read -/
set_option maxRecDepth 100000 in
set_option maxHeartbeats 2000000 in
theorem refRead_any (X : List Nat) (p : Nat) (q fu : Int) (dn : Bool) (L : List Fi) (s : List UInt8) (w : World) (hS : RfX X w p q L fu dn) (hn : L.length ≤ 10000) :
    Calls Try.prog 17 #[.pointer (some ⟨p, 0, none⟩), .string (textOf s)] w fun e w' => e = .returned (.tuple #[.string (textOf (readV L s dn).1), .int .i64 (readV L s dn).2]) ∧ Below w.heap.size w w' := by
  obtain ⟨A, n, c, hB, hR, hne, hso⟩ := hS
  have hnl := hR.1
  have hl := hB.lt
  have FI := Lib.hid (find_any p q fu A n c dn L s w hB hR (by omega))
  have HB0 := Lib.hid hB
  have HR0 := Lib.hid hR
  obtain ⟨f1, f2, f3, f4⟩ := hB.facts
  clear hB hR hne
  cases dn with
  | true =>
    go_enter Try.func17, Try.ntmps17
    go_wp2
    go_ret2
    exact ⟨rfl, Below.refl _ _⟩
  | false =>
    rcases atF_cases L s with ⟨h1, h2⟩ | ⟨a, h1, h2, h3, h4⟩
    · have RV := Lib.hid (read_no h2)
      rw [h1] at FI
      clear h1 h2
      go_enter Try.func17, Try.ntmps17
      go_wp2_with fail
      refine FI.out.mono ?_
      rintro e w1 ⟨rfl, hb1⟩
      have HB1 := Lib.hid hb1
      clear hb1
      go_wp2
      go_ret2
      exact ⟨by rw [RV.out]; rfl, HB1.out⟩
    · obtain ⟨y, hy⟩ : ∃ y, y = L.getD a noFi := ⟨_, rfl⟩
      rw [← hy] at h4
      have HY := Lib.hid hy
      have RV := Lib.hid (read_of h4).1
      rw [h1] at FI
      clear hy
      have han : a < n := by omega
      have hai : (a : Int) < n := by omega
      have hdn : decide ((a : Int) < 0) = false := by simp
      clear h1 h4 f1 f2 f3 f4
      go_enter Try.func17, Try.ntmps17
      obtain ⟨f1, f2, f3, f4⟩ := HB0.out.facts
      go_wp2_with fail
      refine FI.out.mono ?_
      rintro e w1 ⟨rfl, hb1⟩
      have HB1 := Lib.hid hb1
      obtain ⟨bb, oo, rfl, _, _, _, _, hc1, _⟩ := (HR0.out.go hb1).fi han
      rw [← HY.out] at hc1
      clear f1 f2 f3 f4
      obtain ⟨f1, f2, f3, f4⟩ := (HB0.out.go hb1).facts
      clear hb1
      go_wp2
      go_ret2
      exact ⟨by rw [RV.out]; rfl, HB1.out⟩
set_option maxRecDepth 100000 in
set_option maxHeartbeats 4000000 in
theorem refApp_a (X : List Nat) (p : Nat) (q fu : Int) (dn : Bool) (L : List Fi) (s bs : List UInt8) (A0 : Option Addr) (n0 c0 : Nat) (w : World) (hS : RfX X w p q L fu dn) (hf : -1 ≤ fu ∧ fu ≤ 9223372036854775807) (hs : s.length ≤ 100000) (hn : L.length ≤ 10000) (hX : ∀ g ∈ X, g < w.heap.size) (hq : q ≤ 1073741824) (hsl : sumF L ≤ 1073741824) (hn0 : n0 ≤ 100000) (hRb : RdB w w.heap.size A0 n0 bs) (hA0 : 0 < n0 → ∀ a, A0 = some a → a.block ≠ p) (r : Int × Int × Bool) (hr : endsF (whyApp q L s n0) fu dn = r) (hok : okName s = false) :
    Calls Try.prog 29 #[.pointer (some ⟨p, 0, none⟩), .string (textOf s), .slice A0 n0 c0] w (OpX X w p q (appF L s bs r) r.2.1 r.2.2 (.int .i64 r.1)) := by
  obtain ⟨A, n, c, hB, hR, hne, hso⟩ := hS
  have hnl := hR.1
  have hl := hB.lt
  have HB0 := Lib.hid hB
  have HR0 := Lib.hid hR
  have HNE := Lib.hid hne
  have EN := Lib.hid (fun why r W h (hr : endsF why fu dn = r) => ends_any p q fu why A n c dn W h hf r hr)
  have NA := Lib.hid (refName_any s w (by omega))
  rw [hok] at NA
  have h1 : endsF 1 fu dn = r := by rw [← hr]; unfold whyApp; rw [if_pos hok]
  have hr0 : r.1 ≠ 0 := by rw [← h1]; exact ends_ne (by decide)
  have E1 := Lib.hid h1
  have SY := Lib.hid (show appF L s bs r = L by unfold appF; rw [if_neg hr0])
  have hz1 : (r.1 == 0) = false := by simpa using hr0
  have hz2 : (r.1 != 0) = true := by simpa using hr0
  have hz3 : decide (r.1 = 0) = false := by simpa using hr0
  clear hB hR hne hf hr h1 hr0 hok hRb hA0
  go_enter Try.func29, Try.ntmps29
  go_wp2_with fail
  refine NA.out.mono ?_
  rintro e w1 ⟨rfl, rfl⟩
  have HB1 := Lib.hid (Below.refl w.heap.size w)
  go_wp2_with fail
  refine (EN.out 1 r w HB0.out E1.out).mono ?_
  rintro e w2 ⟨rfl, hB2, hg2, hs2⟩
  have FIN := Lib.hid (show OpX X w p q (appF L s bs r) r.2.1 r.2.2 (.int .i64 r.1) (.returned (.int .i64 r.1)) w2 from ⟨rfl, by
    rw [SY.out]
    exact ⟨A, n, c, hB2, ((HR0.out.grownO hg2 (fun a ha e => (HNE.out a ha).1 (by injection e))).more (by omega)), off_up HNE.out (by have := HB1.out.size; omega), hso⟩, grown_two (grown_of_below HB1.out (some p)) hg2⟩)
  clear hB2 hg2 hs2
  go_wp2
  go_ret
  exact FIN.out
set_option maxRecDepth 100000 in
set_option maxHeartbeats 4000000 in
theorem refApp_b (X : List Nat) (p : Nat) (q fu : Int) (dn : Bool) (L : List Fi) (s bs : List UInt8) (A0 : Option Addr) (n0 c0 : Nat) (w : World) (hS : RfX X w p q L fu dn) (hf : -1 ≤ fu ∧ fu ≤ 9223372036854775807) (hs : s.length ≤ 100000) (hn : L.length ≤ 10000) (hX : ∀ g ∈ X, g < w.heap.size) (hq : q ≤ 1073741824) (hsl : sumF L ≤ 1073741824) (hn0 : n0 ≤ 100000) (hRb : RdB w w.heap.size A0 n0 bs) (hA0 : 0 < n0 → ∀ a, A0 = some a → a.block ≠ p) (r : Int × Int × Bool) (hr : endsF (whyApp q L s n0) fu dn = r) (hok : okName s = true) (hbig : q < (sumF L : Int) + n0) :
    Calls Try.prog 29 #[.pointer (some ⟨p, 0, none⟩), .string (textOf s), .slice A0 n0 c0] w (OpX X w p q (appF L s bs r) r.2.1 r.2.2 (.int .i64 r.1)) := by
  obtain ⟨A, n, c, hB, hR, hne, hso⟩ := hS
  have hnl := hR.1
  have hl := hB.lt
  have HB0 := Lib.hid hB
  have HR0 := Lib.hid hR
  have HNE := Lib.hid hne
  have EN := Lib.hid (fun why r W h (hr : endsF why fu dn = r) => ends_any p q fu why A n c dn W h hf r hr)
  have NA := Lib.hid (refName_any s w (by omega))
  rw [hok] at NA
  have h1 : endsF 7 fu dn = r := by rw [← hr]; unfold whyApp; rw [if_neg (by rw [hok]; simp), if_pos hbig]
  have hr0 : r.1 ≠ 0 := by rw [← h1]; exact ends_ne (by decide)
  have E1 := Lib.hid h1
  have hd : decide (q < (sumF L : Int) + (n0 : Int)) = true := decide_eq_true hbig
  have SY := Lib.hid (show appF L s bs r = L by unfold appF; rw [if_neg hr0])
  have hz1 : (r.1 == 0) = false := by simpa using hr0
  have hz2 : (r.1 != 0) = true := by simpa using hr0
  have hz3 : decide (r.1 = 0) = false := by simpa using hr0
  clear hB hR hne hf hr h1 hr0 hok hbig hRb hA0
  obtain ⟨T, f, m0, e0, eS, eT⟩ := class_of (fun W => Below w.heap.size w W) w (Below.refl _ _).drew
  have es : ∀ q W1, Below (f q).heap.size (f q) W1 → ∃ q', W1 = f q' := fun q W1 hb => eT _ ((eS q).trans (hb.mono (eS q).size))
  have r1 : ∀ q j, (f q).cell? ⟨p, j, none⟩ = _ := fun q j => ((HB0.out.below (eS q) hl).facts).1 j
  have hTn : Nonempty T := ⟨m0⟩
  have E0 := Lib.hid e0
  have ES := Lib.hid es
  have EB := Lib.hid eS
  have CZ := Lib.hid (fun q1 => refSize_any p q fu A n c dn L (f q1) (HB0.out.below (eS q1) hl) ((HR0.out.below (eS q1)).more (eS q1).size) (by omega) (by omega))
  clear e0 es eS eT
  go_enter Try.func29, Try.ntmps29
  go_wp2_with fail
  refine NA.out.mono ?_
  rintro e w1 ⟨rfl, rfl⟩
  go_wp2_with fail
  refine quiet_in f (by kernel_rfl) (by kernel_rfl) m0 E0.out ?_
  repeat (go_big_quiet_step ((go_at_call 34; refine (CZ.out _).mono ?_; rintro e w1 ⟨rfl, hb1⟩; exact ⟨rfl, ES.out _ _ hb1⟩)))
  refine wpQuiet_nil ?_
  rintro _ ⟨q9, rfl⟩
  have HB1 := Lib.hid (EB.out q9)
  obtain ⟨w1, hw1⟩ : ∃ w1, f q9 = w1 := ⟨_, rfl⟩
  rw [hw1] at HB1 ⊢
  clear hw1 r1
  go_wp2_with fail
  refine (EN.out 7 r w1 (HB0.out.go HB1.out) E1.out).mono ?_
  rintro e w2 ⟨rfl, hB2, hg2, hs2⟩
  have FIN := Lib.hid (show OpX X w p q (appF L s bs r) r.2.1 r.2.2 (.int .i64 r.1) (.returned (.int .i64 r.1)) w2 from ⟨rfl, by
    rw [SY.out]
    exact ⟨A, n, c, hB2, (((HR0.out.go HB1.out).grownO hg2 (fun a ha e => (HNE.out a ha).1 (by injection e))).more (by omega)), off_up HNE.out (by have := HB1.out.size; omega), hso⟩, grown_two (grown_of_below HB1.out (some p)) hg2⟩)
  clear hB2 hg2 hs2
  go_wp2
  go_ret
  exact FIN.out
set_option maxRecDepth 100000 in
set_option maxHeartbeats 4000000 in
theorem refApp_c (X : List Nat) (p : Nat) (q fu : Int) (dn : Bool) (L : List Fi) (s bs : List UInt8) (A0 : Option Addr) (n0 c0 : Nat) (w : World) (hS : RfX X w p q L fu dn) (hf : -1 ≤ fu ∧ fu ≤ 9223372036854775807) (hs : s.length ≤ 100000) (hn : L.length ≤ 10000) (hX : ∀ g ∈ X, g < w.heap.size) (hq : q ≤ 1073741824) (hsl : sumF L ≤ 1073741824) (hn0 : n0 ≤ 100000) (hRb : RdB w w.heap.size A0 n0 bs) (hA0 : 0 < n0 → ∀ a, A0 = some a → a.block ≠ p) (r : Int × Int × Bool) (hr : endsF (whyApp q L s n0) fu dn = r) (hok : okName s = true) (hbig : ¬ q < (sumF L : Int) + n0) (hr0 : r.1 ≠ 0) :
    Calls Try.prog 29 #[.pointer (some ⟨p, 0, none⟩), .string (textOf s), .slice A0 n0 c0] w (OpX X w p q (appF L s bs r) r.2.1 r.2.2 (.int .i64 r.1)) := by
  obtain ⟨A, n, c, hB, hR, hne, hso⟩ := hS
  have hnl := hR.1
  have hl := hB.lt
  have HB0 := Lib.hid hB
  have HR0 := Lib.hid hR
  have HNE := Lib.hid hne
  have EN := Lib.hid (fun why r W h (hr : endsF why fu dn = r) => ends_any p q fu why A n c dn W h hf r hr)
  have NA := Lib.hid (refName_any s w (by omega))
  rw [hok] at NA
  have h1 : endsF 0 fu dn = r := by rw [← hr]; unfold whyApp; rw [if_neg (by rw [hok]; simp), if_neg hbig]
  have E1 := Lib.hid h1
  have hd : decide (q < (sumF L : Int) + (n0 : Int)) = false := decide_eq_false hbig
  have SY := Lib.hid (show appF L s bs r = L by unfold appF; rw [if_neg hr0])
  have hz1 : (r.1 == 0) = false := by simpa using hr0
  have hz2 : (r.1 != 0) = true := by simpa using hr0
  have hz3 : decide (r.1 = 0) = false := by simpa using hr0
  clear hB hR hne hf hr h1 hr0 hok hbig hRb hA0
  obtain ⟨T, f, m0, e0, eS, eT⟩ := class_of (fun W => Below w.heap.size w W) w (Below.refl _ _).drew
  have es : ∀ q W1, Below (f q).heap.size (f q) W1 → ∃ q', W1 = f q' := fun q W1 hb => eT _ ((eS q).trans (hb.mono (eS q).size))
  have r1 : ∀ q j, (f q).cell? ⟨p, j, none⟩ = _ := fun q j => ((HB0.out.below (eS q) hl).facts).1 j
  have hTn : Nonempty T := ⟨m0⟩
  have E0 := Lib.hid e0
  have ES := Lib.hid es
  have EB := Lib.hid eS
  have CZ := Lib.hid (fun q1 => refSize_any p q fu A n c dn L (f q1) (HB0.out.below (eS q1) hl) ((HR0.out.below (eS q1)).more (eS q1).size) (by omega) (by omega))
  clear e0 es eS eT
  go_enter Try.func29, Try.ntmps29
  go_wp2_with fail
  refine NA.out.mono ?_
  rintro e w1 ⟨rfl, rfl⟩
  go_wp2_with fail
  refine quiet_in f (by kernel_rfl) (by kernel_rfl) m0 E0.out ?_
  repeat (go_big_quiet_step ((go_at_call 34; refine (CZ.out _).mono ?_; rintro e w1 ⟨rfl, hb1⟩; exact ⟨rfl, ES.out _ _ hb1⟩)))
  refine wpQuiet_nil ?_
  rintro _ ⟨q9, rfl⟩
  have HB1 := Lib.hid (EB.out q9)
  obtain ⟨w1, hw1⟩ : ∃ w1, f q9 = w1 := ⟨_, rfl⟩
  rw [hw1] at HB1 ⊢
  clear hw1 r1
  go_wp2_with fail
  refine (EN.out 0 r w1 (HB0.out.go HB1.out) E1.out).mono ?_
  rintro e w2 ⟨rfl, hB2, hg2, hs2⟩
  have FIN := Lib.hid (show OpX X w p q (appF L s bs r) r.2.1 r.2.2 (.int .i64 r.1) (.returned (.int .i64 r.1)) w2 from ⟨rfl, by
    rw [SY.out]
    exact ⟨A, n, c, hB2, (((HR0.out.go HB1.out).grownO hg2 (fun a ha e => (HNE.out a ha).1 (by injection e))).more (by omega)), off_up HNE.out (by have := HB1.out.size; omega), hso⟩, grown_two (grown_of_below HB1.out (some p)) hg2⟩)
  clear hB2 hg2 hs2
  go_wp2
  go_ret
  exact FIN.out
set_option maxRecDepth 100000 in
set_option maxHeartbeats 4000000 in
theorem refApp_d (X : List Nat) (p : Nat) (q fu : Int) (dn : Bool) (L : List Fi) (s bs : List UInt8) (A0 : Option Addr) (n0 c0 : Nat) (w : World) (hS : RfX X w p q L fu dn) (hf : -1 ≤ fu ∧ fu ≤ 9223372036854775807) (hs : s.length ≤ 100000) (hn : L.length ≤ 10000) (hX : ∀ g ∈ X, g < w.heap.size) (hq : q ≤ 1073741824) (hsl : sumF L ≤ 1073741824) (hn0 : n0 ≤ 100000) (hRb : RdB w w.heap.size A0 n0 bs) (hA0 : 0 < n0 → ∀ a, A0 = some a → a.block ≠ p) (r : Int × Int × Bool) (hr : endsF (whyApp q L s n0) fu dn = r) (hok : okName s = true) (hbig : ¬ q < (sumF L : Int) + n0) (hr0 : r.1 = 0) :
    Calls Try.prog 29 #[.pointer (some ⟨p, 0, none⟩), .string (textOf s), .slice A0 n0 c0] w (OpX X w p q (appF L s bs r) r.2.1 r.2.2 (.int .i64 r.1)) := by
  obtain ⟨A, n, c, hB, hR, hne, hso⟩ := hS
  have hnl := hR.1
  have hl := hB.lt
  have HB0 := Lib.hid hB
  have HR0 := Lib.hid hR
  have HNE := Lib.hid hne
  have EN := Lib.hid (fun why r W h (hr : endsF why fu dn = r) => ends_any p q fu why A n c dn W h hf r hr)
  have NA := Lib.hid (refName_any s w (by omega))
  rw [hok] at NA
  have h1 : endsF 0 fu dn = r := by rw [← hr]; unfold whyApp; rw [if_neg (by rw [hok]; simp), if_neg hbig]
  have E1 := Lib.hid h1
  have hd : decide (q < (sumF L : Int) + (n0 : Int)) = false := decide_eq_false hbig
  have hz1 : (r.1 == 0) = true := by simpa using hr0
  have hz2 : (r.1 != 0) = false := by simpa using hr0
  have hz3 : decide (r.1 = 0) = true := by simpa using hr0
  have HR := Lib.hid hr0
  have HRB := Lib.hid hRb
  have HA0 := Lib.hid hA0
  have hbl := hRb.len
  clear hB hR hne hf hr h1 hr0 hok hbig hRb hA0
  obtain ⟨T, f, m0, e0, eS, eT⟩ := class_of (fun W => Below w.heap.size w W) w (Below.refl _ _).drew
  have es : ∀ q W1, Below (f q).heap.size (f q) W1 → ∃ q', W1 = f q' := fun q W1 hb => eT _ ((eS q).trans (hb.mono (eS q).size))
  have r1 : ∀ q j, (f q).cell? ⟨p, j, none⟩ = _ := fun q j => ((HB0.out.below (eS q) hl).facts).1 j
  have hTn : Nonempty T := ⟨m0⟩
  have E0 := Lib.hid e0
  have ES := Lib.hid es
  have EB := Lib.hid eS
  have CZ := Lib.hid (fun q1 => refSize_any p q fu A n c dn L (f q1) (HB0.out.below (eS q1) hl) ((HR0.out.below (eS q1)).more (eS q1).size) (by omega) (by omega))
  clear e0 es eS eT
  go_enter Try.func29, Try.ntmps29
  go_wp2_with fail
  refine NA.out.mono ?_
  rintro e w1 ⟨rfl, rfl⟩
  go_wp2_with fail
  refine quiet_in f (by kernel_rfl) (by kernel_rfl) m0 E0.out ?_
  repeat (go_big_quiet_step ((go_at_call 34; refine (CZ.out _).mono ?_; rintro e w1 ⟨rfl, hb1⟩; exact ⟨rfl, ES.out _ _ hb1⟩)))
  refine wpQuiet_nil ?_
  rintro _ ⟨q9, rfl⟩
  have HB1 := Lib.hid (EB.out q9)
  obtain ⟨w1, hw1⟩ : ∃ w1, f q9 = w1 := ⟨_, rfl⟩
  rw [hw1] at HB1 ⊢
  clear hw1 r1
  go_wp2_with fail
  refine (EN.out 0 r w1 (HB0.out.go HB1.out) E1.out).mono ?_
  rintro e w2 ⟨rfl, hB2, hg2, hs2⟩
  have R2 := Lib.hid (((HR0.out.go HB1.out).grownO hg2 (fun a ha e => (HNE.out a ha).1 (by injection e))).more (by omega : w1.heap.size ≤ w2.heap.size))
  have HB2 := Lib.hid hB2
  have G2 := Lib.hid (grown_two (grown_of_below HB1.out (some p)) hg2)
  have RB2 := Lib.hid (HRB.out.frm (Frm.of_grown (F := [p]) G2.out (fun k hk => .inl (by injection hk with hk; simp [hk]))) (Nat.le_refl _) (fun h0 a ha hm => HA0.out h0 a ha (by simpa using hm)))
  have hsz2 := G2.out.size
  clear hB2 hg2 hs2
  have FI := Lib.hid (find_any p q r.2.1 A n c r.2.2 L s (w2.alloc (.cells (Fi.mk s [] 0).arr 69)) (HB2.out.alloc _) (R2.out.up _) (by omega))
  have BF := Lib.hid (Box.new w2 (Fi.mk s [] 0).arr 69)
  go_wp2_with fail
  refine FI.out.mono ?_
  rintro e w4 ⟨rfl, hb4⟩
  have BF4 := Lib.hid (BF.out.go hb4)
  have B4 := Lib.hid ((HB2.out.alloc (.cells (Fi.mk s [] 0).arr 69)).go hb4)
  have R4 := Lib.hid ((R2.out.up (.cells (Fi.mk s [] 0).arr 69)).go hb4)
  have hb24 := Lib.hid (below2 ((Below.refl w2.heap.size w2).alloc (Nat.le_refl _) (.cells (Fi.mk s [] 0).arr 69)) hb4)
  have RB4 := (RB2.out.to hb24.out hsz2).more (Nat.le_trans hsz2 hb24.out.size)
  have hsz4 : w2.heap.size + 1 ≤ w4.heap.size := by have := hb4.size; simpa using this
  have hplt := HB2.out.lt
  have hpn1 : ¬ p = w2.heap.size := by omega
  have hpn2 : ¬ w2.heap.size = p := by omega
  clear hb4 BF FI
  rcases atF_cases L s with ⟨h1, h2⟩ | ⟨a, h1, h2, h3, h4⟩
  · rw [h1]
    have HG := Lib.hid (show grF L s bs = ⟨s, bs, 0⟩ by unfold grF; rw [h2])
    clear h1 h2
    have hcv := run_bytes_text (P := Try.prog) RB4 32 5 9 Try.underlying32 Try.underlying5 Try.underlying9 c0
    have hadd : ∀ W, (Op.stringOp .add (textOf []) (textOf bs)).run Try.prog W = .ok (.string (textOf bs)) W := fun W => by
      rw [run_string_add_sum W (textOf []) (textOf bs) (by rw [textOf_size, textOf_size]; simp; omega), text_app]; rfl
    have hsz1 : ((0 : Nat) : Int) + bs.length ≤ 9223372036854775807 := by omega
    have hsz0 : bs.length ≤ 9223372036854775807 := by omega
    obtain ⟨f1, f2, f3, f4⟩ := BF4.out.facts
    have B5 := BF4.out.set_same 1 (.string (textOf bs))
    rw [Fi.set_1] at B5
    have hcl5 : cellsAt (w4.setCell ⟨w2.heap.size, 1, none⟩ (.string (textOf bs))) w2.heap.size 0 3 = (Fi.mk s bs 0).arr := by
      rw [B5.facts.2.2.2 0 3 (by rw [Fi.csize]; omega), Fi.extract_all]
    have H5 := Lib.hid (hb24.out.setCell (Nat.le_refl w2.heap.size) (.string (textOf bs)) : Below w2.heap.size w2 (w4.setCell ⟨w2.heap.size, 1, none⟩ (.string (textOf bs))))
    have GV := Lib.hid (grown_two G2.out (grown_of_below H5.out (some p)))
    have PU := Lib.hid (put_any (Fi.mk s bs 0) p q r.2.1 A n c r.2.2 L (w4.setCell ⟨w2.heap.size, 1, none⟩ (.string (textOf bs))) (B4.out.set_other _ _ hpn2) ((R2.out.to H5.out (Nat.le_refl _)).more H5.out.size) (by omega) hso)
    clear B5
    go_wp2_with fail
    refine PU.out.mono ?_
    rintro e w6 hc
    obtain ⟨he, _⟩ := id hc
    subst he
    have FIN := Lib.hid (show OpX X w p q (appF L s bs r) r.2.1 r.2.2 (.int .i64 r.1) (.returned (.int .i64 0)) w6 from ⟨by rw [HR.out], by
      unfold appF; rw [if_pos HR.out, HG.out]
      exact RfX.of_put hc (by have := GV.out.size; omega) (fun g hg => Nat.lt_of_lt_of_le (hX g hg) GV.out.size) (srt_put _ _ hso), grown_two GV.out (by obtain ⟨_, _, _, _, _, h⟩ := hc; exact h)⟩)
    clear hc f1 f2 f3 f4
    go_wp2
    go_ret
    exact FIN.out
  · rw [h1]
    have han : a < n := by omega
    have hai : (a : Int) < n := by omega
    have hdn : decide ((a : Int) < 0) = false := by simp
    have hdn2 : decide ((0 : Int) ≤ (a : Int)) = true := by simp
    obtain ⟨bb, oo, rfl, hbb, hh, hcl, _⟩ := R4.out.fi han
    obtain ⟨y, hy⟩ : ∃ y, y = L.getD a noFi := ⟨_, rfl⟩
    rw [← hy] at hcl h4
    have hyl : y.b.length ≤ sumF L := sumF_mem (lookF_mem h4)
    have HG := Lib.hid (show grF L s bs = ⟨y.name, y.b ++ bs, y.syn⟩ by unfold grF; rw [h4])
    have hth : w4.there w2.heap.size 0 3 := BF4.out.there 0 3 (by rw [Fi.arr_size]; omega)
    have BY := BF4.out.putFi (Fi.arr_size _) y
    have hbW := Lib.hid (setFi_below (Below.refl w.heap.size w4) w2.heap.size 0 y hsz2)
    have RB5 := (((RB2.out.to hb24.out hsz2).to hbW.out (Nat.le_refl _)).more (Nat.le_trans hsz2 (Nat.le_trans hb24.out.size hbW.out.size)) : RdB (setFi w4 w2.heap.size 0 y) (setFi w4 w2.heap.size 0 y).heap.size A0 n0 bs)
    have hcv := run_bytes_text (P := Try.prog) RB5 32 5 9 Try.underlying32 Try.underlying5 Try.underlying9 c0
    have hadd : ∀ W, (Op.stringOp .add (textOf y.b) (textOf bs)).run Try.prog W = .ok (.string (textOf (y.b ++ bs))) W := fun W => by
      rw [run_string_add_sum W (textOf y.b) (textOf bs) (by rw [textOf_size, textOf_size]; omega), text_app]
    have hsz1 : (y.b.length : Int) + bs.length ≤ 9223372036854775807 := by omega
    have hsz3 : y.b.length + bs.length ≤ 9223372036854775807 := by omega
    clear h1 h2 h3 h4 hy hbb
    obtain ⟨f1, f2, f3, f4⟩ := B4.out.facts
    obtain ⟨g1, g2, g3, g4⟩ := BY.facts
    have B5 := BY.set_same 1 (.string (textOf (y.b ++ bs)))
    rw [Fi.set_1] at B5
    have hcl5 : cellsAt ((setFi w4 w2.heap.size 0 y).setCell ⟨w2.heap.size, 1, none⟩ (.string (textOf (y.b ++ bs)))) w2.heap.size 0 3 = (Fi.mk y.name (y.b ++ bs) y.syn).arr := by
      rw [B5.facts.2.2.2 0 3 (by rw [Fi.csize]; omega), Fi.extract_all]
    have H5 := Lib.hid ((setFi_below hb24.out w2.heap.size 0 y (Nat.le_refl _)).setCell (Nat.le_refl w2.heap.size) (.string (textOf (y.b ++ bs))) : Below w2.heap.size w2 ((setFi w4 w2.heap.size 0 y).setCell ⟨w2.heap.size, 1, none⟩ (.string (textOf (y.b ++ bs)))))
    have GV := Lib.hid (grown_two G2.out (grown_of_below H5.out (some p)))
    have PU := Lib.hid (put_any (Fi.mk y.name (y.b ++ bs) y.syn) p q r.2.1 (some ⟨bb, oo, none⟩) n c r.2.2 L ((setFi w4 w2.heap.size 0 y).setCell ⟨w2.heap.size, 1, none⟩ (.string (textOf (y.b ++ bs)))) ((B4.out.putFi_other y hpn1).set_other _ _ hpn2) ((R2.out.to H5.out (Nat.le_refl _)).more H5.out.size) (by omega) hso)
    clear B5 BY
    go_wp2_with fail
    refine PU.out.mono ?_
    rintro e w6 hc
    obtain ⟨he, _⟩ := id hc
    subst he
    have FIN := Lib.hid (show OpX X w p q (appF L s bs r) r.2.1 r.2.2 (.int .i64 r.1) (.returned (.int .i64 0)) w6 from ⟨by rw [HR.out], by
      unfold appF; rw [if_pos HR.out, HG.out]
      exact RfX.of_put hc (by have := GV.out.size; omega) (fun g hg => Nat.lt_of_lt_of_le (hX g hg) GV.out.size) (srt_put _ _ hso), grown_two GV.out (by obtain ⟨_, _, _, _, _, h⟩ := hc; exact h)⟩)
    clear hc f1 f2 f3 f4
    go_wp2
    go_ret
    exact FIN.out
theorem refAppend_any (X : List Nat) (p : Nat) (q fu : Int) (dn : Bool) (L : List Fi) (s bs : List UInt8) (A0 : Option Addr) (n0 c0 : Nat) (w : World) (hS : RfX X w p q L fu dn) (hf : -1 ≤ fu ∧ fu ≤ 9223372036854775807) (hs : s.length ≤ 100000) (hn : L.length ≤ 10000) (hX : ∀ g ∈ X, g < w.heap.size) (hq : q ≤ 1073741824) (hsl : sumF L ≤ 1073741824) (hn0 : n0 ≤ 100000) (hRb : RdB w w.heap.size A0 n0 bs) (hA0 : 0 < n0 → ∀ a, A0 = some a → a.block ≠ p) (r : Int × Int × Bool) (hr : endsF (whyApp q L s n0) fu dn = r) :
    Calls Try.prog 29 #[.pointer (some ⟨p, 0, none⟩), .string (textOf s), .slice A0 n0 c0] w (OpX X w p q (appF L s bs r) r.2.1 r.2.2 (.int .i64 r.1)) := by
  cases hok : okName s with
  | false => exact refApp_a X p q fu dn L s bs A0 n0 c0 w hS hf hs hn hX hq hsl hn0 hRb hA0 r hr hok
  | true =>
    by_cases hbig : q < (sumF L : Int) + n0
    · exact refApp_b X p q fu dn L s bs A0 n0 c0 w hS hf hs hn hX hq hsl hn0 hRb hA0 r hr hok hbig
    · by_cases hr0 : r.1 = 0
      · exact refApp_d X p q fu dn L s bs A0 n0 c0 w hS hf hs hn hX hq hsl hn0 hRb hA0 r hr hok hbig hr0
      · exact refApp_c X p q fu dn L s bs A0 n0 c0 w hS hf hs hn hX hq hsl hn0 hRb hA0 r hr hok hbig hr0
end Go.Proofs.Ytejjobbgceoljaa
