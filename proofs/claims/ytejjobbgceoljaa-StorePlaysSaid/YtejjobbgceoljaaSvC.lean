/- The document's store: Rename. -/
import Derived.Test.YtejjobbgceoljaaSvB
set_option linter.unusedSimpArgs false
set_option linter.unusedVariables false
namespace Go.Proofs.Ytejjobbgceoljaa
open Go.RowKit

attribute [local go_sem] Fi.set_0
set_option maxRecDepth 100000 in
set_option maxHeartbeats 4000000 in
theorem refRen_a (X : List Nat) (p : Nat) (q fu : Int) (dn : Bool) (L : List Fi) (s t : List UInt8) (w : World) (hS : RfX X w p q L fu dn) (hf : -1 ≤ fu ∧ fu ≤ 9223372036854775807) (ht : t.length ≤ 100000) (hn : L.length ≤ 10000) (hX : ∀ g ∈ X, g < w.heap.size) (r : Int × Int × Bool) (hr : endsF (whyRen L s t) fu dn = r) (hok : okName t = false) :
    Calls Try.prog 31 #[.pointer (some ⟨p, 0, none⟩), .string (textOf s), .string (textOf t)] w (OpX X w p q (renF L s t r) r.2.1 r.2.2 (.int .i64 r.1)) := by
  obtain ⟨A, n, c, hB, hR, hne, hso⟩ := hS
  have hnl := hR.1
  have hl := hB.lt
  have HB0 := Lib.hid hB
  have HR0 := Lib.hid hR
  have HNE := Lib.hid hne
  have EN := Lib.hid (fun why r W h (hr : endsF why fu dn = r) => ends_any p q fu why A n c dn W h hf r hr)
  have FI := Lib.hid (find_any p q fu A n c dn L s w hB hR (by omega))
  have FJ := Lib.hid (fun W (h : Below w.heap.size w W) => find_any p q fu A n c dn L t W (hB.go h) (hR.go h) (by omega))
  have NA := Lib.hid (fun W => refName_any t W (by omega))
  have h1 : endsF 1 fu dn = r := by rw [← hr]; unfold whyRen; rw [if_pos hok]
  have hr0 : r.1 ≠ 0 := by rw [← h1]; exact ends_ne (by decide)
  have E1 := Lib.hid h1
  have SY := Lib.hid (show renF L s t r = L by unfold renF; rw [if_neg hr0])
  have hz1 : (r.1 == 0) = false := by simpa using hr0
  have hz2 : (r.1 != 0) = true := by simpa using hr0
  have hz3 : decide (r.1 = 0) = false := by simpa using hr0
  obtain ⟨at_, hat⟩ : ∃ at_, atF L s = at_ := ⟨_, rfl⟩
  rw [hat] at FI
  clear hB hR hne hf hr h1 hr0 hat
  go_enter Try.func31, Try.ntmps31
  go_wp2_with fail
  refine FI.out.mono ?_
  rintro e w1 ⟨rfl, hb1⟩
  have HB1 := Lib.hid hb1
  clear hb1
  skip
  go_wp2_with fail
  refine (NA.out w1).mono ?_
  rintro e w2 ⟨rfl, rfl⟩
  rw [hok]
  go_wp2_with fail
  refine (EN.out 1 r w1 (HB0.out.go HB1.out) E1.out).mono ?_
  rintro e w2 ⟨rfl, hB2, hg2, hs2⟩
  have FIN := Lib.hid (show OpX X w p q (renF L s t r) r.2.1 r.2.2 (.int .i64 r.1) (.returned (.int .i64 r.1)) w2 from ⟨rfl, by
    rw [SY.out]
    exact ⟨A, n, c, hB2, (((HR0.out.go HB1.out).grownO hg2 (fun a ha e => (HNE.out a ha).1 (by injection e))).more (by omega)), off_up HNE.out (by have := HB1.out.size; omega), hso⟩, grown_two (grown_of_below HB1.out (some p)) hg2⟩)
  clear hB2 hg2 hs2
  go_wp2
  go_ret
  exact FIN.out
set_option maxRecDepth 100000 in
set_option maxHeartbeats 4000000 in
theorem refRen_b (X : List Nat) (p : Nat) (q fu : Int) (dn : Bool) (L : List Fi) (s t : List UInt8) (w : World) (hS : RfX X w p q L fu dn) (hf : -1 ≤ fu ∧ fu ≤ 9223372036854775807) (ht : t.length ≤ 100000) (hn : L.length ≤ 10000) (hX : ∀ g ∈ X, g < w.heap.size) (r : Int × Int × Bool) (hr : endsF (whyRen L s t) fu dn = r) (hok : okName t = true) (hm : lookF L s = none) :
    Calls Try.prog 31 #[.pointer (some ⟨p, 0, none⟩), .string (textOf s), .string (textOf t)] w (OpX X w p q (renF L s t r) r.2.1 r.2.2 (.int .i64 r.1)) := by
  obtain ⟨A, n, c, hB, hR, hne, hso⟩ := hS
  have hnl := hR.1
  have hl := hB.lt
  have HB0 := Lib.hid hB
  have HR0 := Lib.hid hR
  have HNE := Lib.hid hne
  have EN := Lib.hid (fun why r W h (hr : endsF why fu dn = r) => ends_any p q fu why A n c dn W h hf r hr)
  have FI := Lib.hid (find_any p q fu A n c dn L s w hB hR (by omega))
  have FJ := Lib.hid (fun W (h : Below w.heap.size w W) => find_any p q fu A n c dn L t W (hB.go h) (hR.go h) (by omega))
  have NA := Lib.hid (fun W => refName_any t W (by omega))
  have h1 : endsF 5 fu dn = r := by rw [← hr]; unfold whyRen; rw [if_neg (by rw [hok]; simp), if_pos hm]
  have hr0 : r.1 ≠ 0 := by rw [← h1]; exact ends_ne (by decide)
  have E1 := Lib.hid h1
  have SY := Lib.hid (show renF L s t r = L by unfold renF; rw [if_neg hr0])
  have hz1 : (r.1 == 0) = false := by simpa using hr0
  have hz2 : (r.1 != 0) = true := by simpa using hr0
  have hz3 : decide (r.1 = 0) = false := by simpa using hr0
  have hat : atF L s = -1 := by
    rcases atF_cases L s with ⟨h, _⟩ | ⟨a, _, _, _, h⟩
    · exact h
    · rw [hm] at h; cases h
  rw [hat] at FI
  clear hB hR hne hf hr h1 hr0 hat hm
  go_enter Try.func31, Try.ntmps31
  go_wp2_with fail
  refine FI.out.mono ?_
  rintro e w1 ⟨rfl, hb1⟩
  have HB1 := Lib.hid hb1
  clear hb1
  skip
  go_wp2_with fail
  refine (NA.out w1).mono ?_
  rintro e w2 ⟨rfl, rfl⟩
  rw [hok]
  go_wp2_with fail
  refine (EN.out 5 r w1 (HB0.out.go HB1.out) E1.out).mono ?_
  rintro e w2 ⟨rfl, hB2, hg2, hs2⟩
  have FIN := Lib.hid (show OpX X w p q (renF L s t r) r.2.1 r.2.2 (.int .i64 r.1) (.returned (.int .i64 r.1)) w2 from ⟨rfl, by
    rw [SY.out]
    exact ⟨A, n, c, hB2, (((HR0.out.go HB1.out).grownO hg2 (fun a ha e => (HNE.out a ha).1 (by injection e))).more (by omega)), off_up HNE.out (by have := HB1.out.size; omega), hso⟩, grown_two (grown_of_below HB1.out (some p)) hg2⟩)
  clear hB2 hg2 hs2
  go_wp2
  go_ret
  exact FIN.out
set_option maxRecDepth 100000 in
set_option maxHeartbeats 4000000 in
theorem refRen_c (X : List Nat) (p : Nat) (q fu : Int) (dn : Bool) (L : List Fi) (s t : List UInt8) (w : World) (hS : RfX X w p q L fu dn) (hf : -1 ≤ fu ∧ fu ≤ 9223372036854775807) (ht : t.length ≤ 100000) (hn : L.length ≤ 10000) (hX : ∀ g ∈ X, g < w.heap.size) (r : Int × Int × Bool) (hr : endsF (whyRen L s t) fu dn = r) (hok : okName t = true) (hm : lookF L s ≠ none) (hk : lookF L t ≠ none) :
    Calls Try.prog 31 #[.pointer (some ⟨p, 0, none⟩), .string (textOf s), .string (textOf t)] w (OpX X w p q (renF L s t r) r.2.1 r.2.2 (.int .i64 r.1)) := by
  obtain ⟨A, n, c, hB, hR, hne, hso⟩ := hS
  have hnl := hR.1
  have hl := hB.lt
  have HB0 := Lib.hid hB
  have HR0 := Lib.hid hR
  have HNE := Lib.hid hne
  have EN := Lib.hid (fun why r W h (hr : endsF why fu dn = r) => ends_any p q fu why A n c dn W h hf r hr)
  have FI := Lib.hid (find_any p q fu A n c dn L s w hB hR (by omega))
  have FJ := Lib.hid (fun W (h : Below w.heap.size w W) => find_any p q fu A n c dn L t W (hB.go h) (hR.go h) (by omega))
  have NA := Lib.hid (fun W => refName_any t W (by omega))
  have h1 : endsF 6 fu dn = r := by rw [← hr]; unfold whyRen; rw [if_neg (by rw [hok]; simp), if_neg hm, if_neg hk]
  have hr0 : r.1 ≠ 0 := by rw [← h1]; exact ends_ne (by decide)
  have E1 := Lib.hid h1
  have SY := Lib.hid (show renF L s t r = L by unfold renF; rw [if_neg hr0])
  have hz1 : (r.1 == 0) = false := by simpa using hr0
  have hz2 : (r.1 != 0) = true := by simpa using hr0
  have hz3 : decide (r.1 = 0) = false := by simpa using hr0
  obtain ⟨a, hat, han, hnm, hla⟩ : ∃ a : Nat, atF L s = a ∧ a < L.length ∧ (L.getD a noFi).name = s ∧ lookF L s = some (L.getD a noFi) := by
    rcases atF_cases L s with ⟨_, h⟩ | h
    · exact absurd h hm
    · exact h
  rw [hat] at FI
  have hdn : decide ((a : Int) < 0) = false := by simp
  obtain ⟨b, hbt⟩ : ∃ b : Nat, atF L t = b := by
    rcases atF_cases L t with ⟨_, h⟩ | ⟨b, h, _⟩
    · exact absurd h hk
    · exact ⟨b, h⟩
  have FJ := Lib.hid (fun W h => hbt ▸ FJ.out W h)
  have hdb : decide ((0 : Int) ≤ (b : Int)) = true := by simp
  clear hB hR hne hf hr h1 hr0 hat hm hk hnm hla hbt
  go_enter Try.func31, Try.ntmps31
  go_wp2_with fail
  refine FI.out.mono ?_
  rintro e w1 ⟨rfl, hb1⟩
  have HB1 := Lib.hid hb1
  clear hb1
  skip
  go_wp2_with fail
  refine (NA.out w1).mono ?_
  rintro e w2 ⟨rfl, rfl⟩
  rw [hok]
  go_wp2_with fail
  refine (FJ.out w1 HB1.out).mono ?_
  rintro e w3 ⟨rfl, hb3⟩
  have HB3 := Lib.hid (below2 HB1.out hb3)
  clear hb3 HB1
  have HB1 := Lib.hid HB3.out
  obtain ⟨w1', hw1'⟩ : ∃ w1', w3 = w1' := ⟨_, rfl⟩
  rw [hw1'] at HB1 ⊢
  clear hw1' HB3
  skip
  go_wp2_with fail
  refine (EN.out 6 r _ (HB0.out.go HB1.out) E1.out).mono ?_
  rintro e w2 ⟨rfl, hB2, hg2, hs2⟩
  have FIN := Lib.hid (show OpX X w p q (renF L s t r) r.2.1 r.2.2 (.int .i64 r.1) (.returned (.int .i64 r.1)) w2 from ⟨rfl, by
    rw [SY.out]
    exact ⟨A, n, c, hB2, (((HR0.out.go HB1.out).grownO hg2 (fun a ha e => (HNE.out a ha).1 (by injection e))).more (by omega)), off_up HNE.out (by have := HB1.out.size; omega), hso⟩, grown_two (grown_of_below HB1.out (some p)) hg2⟩)
  clear hB2 hg2 hs2
  go_wp2
  go_ret
  exact FIN.out
set_option maxRecDepth 100000 in
set_option maxHeartbeats 4000000 in
theorem refRen_d (X : List Nat) (p : Nat) (q fu : Int) (dn : Bool) (L : List Fi) (s t : List UInt8) (w : World) (hS : RfX X w p q L fu dn) (hf : -1 ≤ fu ∧ fu ≤ 9223372036854775807) (ht : t.length ≤ 100000) (hn : L.length ≤ 10000) (hX : ∀ g ∈ X, g < w.heap.size) (r : Int × Int × Bool) (hr : endsF (whyRen L s t) fu dn = r) (hok : okName t = true) (hm : lookF L s ≠ none) (hk : lookF L t = none) (hr0 : r.1 ≠ 0) :
    Calls Try.prog 31 #[.pointer (some ⟨p, 0, none⟩), .string (textOf s), .string (textOf t)] w (OpX X w p q (renF L s t r) r.2.1 r.2.2 (.int .i64 r.1)) := by
  obtain ⟨A, n, c, hB, hR, hne, hso⟩ := hS
  have hnl := hR.1
  have hl := hB.lt
  have HB0 := Lib.hid hB
  have HR0 := Lib.hid hR
  have HNE := Lib.hid hne
  have EN := Lib.hid (fun why r W h (hr : endsF why fu dn = r) => ends_any p q fu why A n c dn W h hf r hr)
  have FI := Lib.hid (find_any p q fu A n c dn L s w hB hR (by omega))
  have FJ := Lib.hid (fun W (h : Below w.heap.size w W) => find_any p q fu A n c dn L t W (hB.go h) (hR.go h) (by omega))
  have NA := Lib.hid (fun W => refName_any t W (by omega))
  have h1 : endsF 0 fu dn = r := by rw [← hr]; unfold whyRen; rw [if_neg (by rw [hok]; simp), if_neg hm, if_pos hk]
  have E1 := Lib.hid h1
  have SY := Lib.hid (show renF L s t r = L by unfold renF; rw [if_neg hr0])
  have hz1 : (r.1 == 0) = false := by simpa using hr0
  have hz2 : (r.1 != 0) = true := by simpa using hr0
  have hz3 : decide (r.1 = 0) = false := by simpa using hr0
  obtain ⟨a, hat, han, hnm, hla⟩ : ∃ a : Nat, atF L s = a ∧ a < L.length ∧ (L.getD a noFi).name = s ∧ lookF L s = some (L.getD a noFi) := by
    rcases atF_cases L s with ⟨_, h⟩ | h
    · exact absurd h hm
    · exact h
  rw [hat] at FI
  have hdn : decide ((a : Int) < 0) = false := by simp
  have hbt : atF L t = -1 := by
    rcases atF_cases L t with ⟨h, _⟩ | ⟨b, _, _, _, h⟩
    · exact h
    · rw [hk] at h; cases h
  have FJ := Lib.hid (fun W h => hbt ▸ FJ.out W h)
  clear hB hR hne hf hr h1 hr0 hat hm hk hnm hla hbt
  go_enter Try.func31, Try.ntmps31
  go_wp2_with fail
  refine FI.out.mono ?_
  rintro e w1 ⟨rfl, hb1⟩
  have HB1 := Lib.hid hb1
  clear hb1
  skip
  go_wp2_with fail
  refine (NA.out w1).mono ?_
  rintro e w2 ⟨rfl, rfl⟩
  rw [hok]
  go_wp2_with fail
  refine (FJ.out w1 HB1.out).mono ?_
  rintro e w3 ⟨rfl, hb3⟩
  have HB3 := Lib.hid (below2 HB1.out hb3)
  clear hb3 HB1
  have HB1 := Lib.hid HB3.out
  obtain ⟨w1', hw1'⟩ : ∃ w1', w3 = w1' := ⟨_, rfl⟩
  rw [hw1'] at HB1 ⊢
  clear hw1' HB3
  skip
  go_wp2_with fail
  refine (EN.out 0 r _ (HB0.out.go HB1.out) E1.out).mono ?_
  rintro e w2 ⟨rfl, hB2, hg2, hs2⟩
  have FIN := Lib.hid (show OpX X w p q (renF L s t r) r.2.1 r.2.2 (.int .i64 r.1) (.returned (.int .i64 r.1)) w2 from ⟨rfl, by
    rw [SY.out]
    exact ⟨A, n, c, hB2, (((HR0.out.go HB1.out).grownO hg2 (fun a ha e => (HNE.out a ha).1 (by injection e))).more (by omega)), off_up HNE.out (by have := HB1.out.size; omega), hso⟩, grown_two (grown_of_below HB1.out (some p)) hg2⟩)
  clear hB2 hg2 hs2
  go_wp2
  go_ret
  exact FIN.out
set_option maxRecDepth 100000 in
set_option maxHeartbeats 4000000 in
theorem refRen_e (X : List Nat) (p : Nat) (q fu : Int) (dn : Bool) (L : List Fi) (s t : List UInt8) (w : World) (hS : RfX X w p q L fu dn) (hf : -1 ≤ fu ∧ fu ≤ 9223372036854775807) (ht : t.length ≤ 100000) (hn : L.length ≤ 10000) (hX : ∀ g ∈ X, g < w.heap.size) (r : Int × Int × Bool) (hr : endsF (whyRen L s t) fu dn = r) (hok : okName t = true) (hm : lookF L s ≠ none) (hk : lookF L t = none) (hr0 : r.1 = 0) :
    Calls Try.prog 31 #[.pointer (some ⟨p, 0, none⟩), .string (textOf s), .string (textOf t)] w (OpX X w p q (renF L s t r) r.2.1 r.2.2 (.int .i64 r.1)) := by
  obtain ⟨A, n, c, hB, hR, hne, hso⟩ := hS
  have hnl := hR.1
  have hl := hB.lt
  have HB0 := Lib.hid hB
  have HR0 := Lib.hid hR
  have HNE := Lib.hid hne
  have EN := Lib.hid (fun why r W h (hr : endsF why fu dn = r) => ends_any p q fu why A n c dn W h hf r hr)
  have FI := Lib.hid (find_any p q fu A n c dn L s w hB hR (by omega))
  have FJ := Lib.hid (fun W (h : Below w.heap.size w W) => find_any p q fu A n c dn L t W (hB.go h) (hR.go h) (by omega))
  have NA := Lib.hid (fun W => refName_any t W (by omega))
  have h1 : endsF 0 fu dn = r := by rw [← hr]; unfold whyRen; rw [if_neg (by rw [hok]; simp), if_neg hm, if_pos hk]
  have E1 := Lib.hid h1
  have hz1 : (r.1 == 0) = true := by simpa using hr0
  have hz2 : (r.1 != 0) = false := by simpa using hr0
  have hz3 : decide (r.1 = 0) = true := by simpa using hr0
  have HRR := Lib.hid hr0
  obtain ⟨a, hat, han, hnm, hla⟩ : ∃ a : Nat, atF L s = a ∧ a < L.length ∧ (L.getD a noFi).name = s ∧ lookF L s = some (L.getD a noFi) := by
    rcases atF_cases L s with ⟨_, h⟩ | h
    · exact absurd h hm
    · exact h
  rw [hat] at FI
  have hdn : decide ((a : Int) < 0) = false := by simp
  have hbt : atF L t = -1 := by
    rcases atF_cases L t with ⟨h, _⟩ | ⟨b, _, _, _, h⟩
    · exact h
    · rw [hk] at h; cases h
  have FJ := Lib.hid (fun W h => hbt ▸ FJ.out W h)
  have HC := Lib.hid (show L.eraseIdx a = cutF s L by rw [cut_is hso han, hnm])
  have HLA := Lib.hid hla
  have hann : a < n := by omega
  clear hB hR hne hf hr h1 hr0 hat hm hk hnm hla hbt
  go_enter Try.func31, Try.ntmps31
  go_wp2_with fail
  refine FI.out.mono ?_
  rintro e w1 ⟨rfl, hb1⟩
  have HB1 := Lib.hid hb1
  clear hb1
  skip
  go_wp2_with fail
  refine (NA.out w1).mono ?_
  rintro e w2 ⟨rfl, rfl⟩
  rw [hok]
  go_wp2_with fail
  refine (FJ.out w1 HB1.out).mono ?_
  rintro e w3 ⟨rfl, hb3⟩
  have HB3 := Lib.hid (below2 HB1.out hb3)
  clear hb3 HB1
  have HB1 := Lib.hid HB3.out
  obtain ⟨w1', hw1'⟩ : ∃ w1', w3 = w1' := ⟨_, rfl⟩
  rw [hw1'] at HB1 ⊢
  clear hw1' HB3
  skip
  go_wp2_with fail
  refine (EN.out 0 r _ (HB0.out.go HB1.out) E1.out).mono ?_
  rintro e w2 ⟨rfl, hB2, hg2, hs2⟩
  have R2 := Lib.hid (((HR0.out.go HB1.out).grownO hg2 (fun a ha e => (HNE.out a ha).1 (by injection e))).more (by omega : _ ≤ w2.heap.size))
  have HB2 := Lib.hid hB2
  have G2 := Lib.hid (grown_two (grown_of_below HB1.out (some p)) hg2)
  have hsz2 := G2.out.size
  clear hB2 hg2 hs2
  obtain ⟨f, hf⟩ : ∃ f, f = L.getD a noFi := ⟨_, rfl⟩
  have HFE := Lib.hid hf
  have CU := Lib.hid (cut_any a p q r.2.1 A n c r.2.2 L w2 HB2.out R2.out (by omega) hann)
  rw [← hf] at CU
  clear hf
  go_wp2_with fail
  refine CU.out.mono ?_
  rintro e w4 hc
  have HCU := Lib.hid hc
  obtain ⟨he, A4, c4, hb4, ho4, hg4⟩ := id hc
  subst he
  have B4 := Lib.hid hb4
  have O4 := Lib.hid ho4
  have G4 := Lib.hid (grown_two G2.out hg4)
  have hs24 := hg4.size
  have hp4 := hb4.lt
  clear hc hb4 ho4 hg4
  obtain ⟨f', hf'⟩ : ∃ f' : Fi, f' = ⟨t, f.b, f.syn⟩ := ⟨_, rfl⟩
  have SF : ({ f with name := t } : Fi) = f' := hf'.symm
  have HF' := Lib.hid hf'
  have VB := Lib.hid (B4.out.alloc (.cells f'.arr 69))
  have VR := Lib.hid (RdR.up (RdR.of_own rfl O4.out) (.cells f'.arr 69))
  have GV := Lib.hid (grown_two G4.out (grown_of_below ((Below.refl w4.heap.size w4).alloc (Nat.le_refl _) (.cells f'.arr 69)) (some p)))
  have hcl : (L.eraseIdx a).length ≤ 10000 := by rw [List.length_eraseIdx]; split <;> omega
  have PU := Lib.hid (put_any f' p q r.2.1 A4 _ c4 r.2.2 (L.eraseIdx a) _ VB.out VR.out hcl (by rw [HC.out]; exact srt_cut s hso))
  clear hf'
  trace_state
  go_wp2_with fail
  refine PU.out.mono ?_
  rintro e w6 hc
  obtain ⟨he, _⟩ := id hc
  subst he
  have FIN := Lib.hid (show OpX X w p q (renF L s t r) r.2.1 r.2.2 (.int .i64 r.1) (.returned (.int .i64 r.1)) w6 from ⟨rfl, by
    unfold renF; rw [if_pos HRR.out, HLA.out]; dsimp only; rw [← HFE.out, ← HF'.out, ← HC.out]
    exact RfX.of_put hc (by have := GV.out.size; omega) (fun g hg => Nat.lt_of_lt_of_le (hX g hg) GV.out.size) (srt_put _ _ (by rw [HC.out]; exact srt_cut s hso)), grown_two GV.out (by obtain ⟨_, _, _, _, _, h⟩ := hc; exact h)⟩)
  clear hc
  go_wp2
  go_ret
  exact FIN.out
theorem refRename_any (X : List Nat) (p : Nat) (q fu : Int) (dn : Bool) (L : List Fi) (s t : List UInt8) (w : World) (hS : RfX X w p q L fu dn) (hf : -1 ≤ fu ∧ fu ≤ 9223372036854775807) (ht : t.length ≤ 100000) (hn : L.length ≤ 10000) (hX : ∀ g ∈ X, g < w.heap.size) (r : Int × Int × Bool) (hr : endsF (whyRen L s t) fu dn = r) :
    Calls Try.prog 31 #[.pointer (some ⟨p, 0, none⟩), .string (textOf s), .string (textOf t)] w (OpX X w p q (renF L s t r) r.2.1 r.2.2 (.int .i64 r.1)) := by
  cases hok : okName t with
  | false => exact refRen_a X p q fu dn L s t w hS hf ht hn hX r hr hok
  | true =>
    by_cases hm : lookF L s = none
    · exact refRen_b X p q fu dn L s t w hS hf ht hn hX r hr hok hm
    · by_cases hk : lookF L t = none
      · by_cases hr0 : r.1 = 0
        · exact refRen_e X p q fu dn L s t w hS hf ht hn hX r hr hok hm hk hr0
        · exact refRen_d X p q fu dn L s t w hS hf ht hn hX r hr hok hm hk hr0
      · exact refRen_c X p q fu dn L s t w hS hf ht hn hX r hr hok hm hk
end Go.Proofs.Ytejjobbgceoljaa
