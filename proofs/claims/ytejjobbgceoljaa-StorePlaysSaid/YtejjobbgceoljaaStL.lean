/- The document's store: Sync. -/
import Derived.Test.YtejjobbgceoljaaStK
set_option linter.unusedSimpArgs false
set_option linter.unusedVariables false
namespace Go.Proofs.Ytejjobbgceoljaa
open Go.RowKit

attribute [local go_sem] Fi.set_2
def synF (L : List Fi) (s : List UInt8) (r : Int × Int × Bool) : List Fi := if r.1 = 0 then (match lookF L s with | some f => putF { f with syn := (f.b.length : Nat) } L | none => L) else L
set_option maxRecDepth 100000 in
set_option maxHeartbeats 4000000 in
theorem refSync_any (p : Nat) (q fu : Int) (dn : Bool) (L : List Fi) (s : List UInt8) (w : World) (hS : RfS w p q L fu dn) (hf : -1 ≤ fu ∧ fu ≤ 9223372036854775807) (hn : L.length ≤ 10000) (r : Int × Int × Bool) (hr : endsF (whyAt L s) fu dn = r) :
    Calls Try.prog 30 #[.pointer (some ⟨p, 0, none⟩), .string (textOf s)] w (OpP w p q (synF L s r) r.2.1 r.2.2 (.int .i64 r.1)) := by
  obtain ⟨A, n, c, hB, hR, hne, hso⟩ := hS
  have hnl := hR.1
  have hl := hB.lt
  have FI := Lib.hid (find_any p q fu A n c dn L s w hB hR (by omega))
  have HB0 := Lib.hid hB
  have HR0 := Lib.hid hR
  have HNE := Lib.hid hne
  have EN := Lib.hid (fun why r W h (hr : endsF why fu dn = r) => ends_any p q fu why A n c dn W h hf r hr)
  clear hB hR hne hf
  go_enter Try.func30, Try.ntmps30
  go_wp2_with fail
  refine FI.out.mono ?_
  rintro e w1 ⟨rfl, hb1⟩
  have HB1 := Lib.hid hb1
  have G1 := Lib.hid (grown_of_below hb1 (some p))
  clear hb1
  rcases atF_cases L s with ⟨h1, h2⟩ | ⟨a, h1, h2, h3, h4⟩
  · rw [h1]
    have hr2 : endsF 5 fu dn = r := by rw [← hr]; unfold whyAt; rw [if_pos h2]
    have hr0 : r.1 ≠ 0 := by
      rw [← hr2]; unfold endsF
      split
      · simp
      · simp
    have E5 := Lib.hid (EN.out 5 r w1 (HB0.out.go HB1.out) hr2)
    clear hr hr2 h1 h2
    go_wp2_with fail
    refine E5.out.mono ?_
    rintro e w2 ⟨rfl, hB2, hg2, hs2⟩
    have FIN := Lib.hid (show OpP w p q (synF L s r) r.2.1 r.2.2 (.int .i64 r.1) (.returned (.int .i64 r.1)) w2 from ⟨rfl, by
      unfold synF; rw [if_neg hr0]
      exact ⟨A, n, c, hB2, (((HR0.out.go HB1.out).grownO hg2 (fun a ha e => HNE.out a ha (by injection e))).more (by omega)), HNE.out, hso⟩, grown_two G1.out hg2⟩)
    have hz1 : (r.1 == 0) = false := by simpa using hr0
    have hz3 : decide (r.1 = 0) = false := by simpa using hr0
    clear hB2 hg2 hs2 hr0
    go_wp2
    go_ret
    exact FIN.out
  · rw [h1]
    have hr2 : endsF 0 fu dn = r := by rw [← hr]; unfold whyAt; rw [if_neg (by rw [h4]; simp)]
    have E0 := Lib.hid (EN.out 0 r w1 (HB0.out.go HB1.out) hr2)
    have han : a < n := by omega
    have hdn : decide ((a : Int) < 0) = false := by simp
    have HC := Lib.hid h4
    clear hr hr2 h1 h4
    go_wp2_with fail
    refine E0.out.mono ?_
    rintro e w2 ⟨rfl, hB2, hg2, hs2⟩
    have R2 := Lib.hid (((HR0.out.go HB1.out).grownO hg2 (fun a ha e => HNE.out a ha (by injection e))).more (by omega : w1.heap.size ≤ w2.heap.size))
    have HB2 := Lib.hid hB2
    have G2 := Lib.hid (grown_two G1.out hg2)
    have hsz2 := G2.out.size
    clear hB2 hg2 hs2
    by_cases hr0 : r.1 = 0
    · obtain ⟨bb, oo, rfl, hbb, hh, hcl, _⟩ := R2.out.fi han
      obtain ⟨f, hf⟩ : ∃ f, f = L.getD a noFi := ⟨_, rfl⟩
      rw [← hf] at hcl HC
      obtain ⟨f', hf'⟩ : ∃ f' : Fi, f' = { f with syn := (f.b.length : Nat) } := ⟨_, rfl⟩
      have HF' := Lib.hid hf'
      have VB := Lib.hid (HB2.out.alloc (.cells f'.arr 69))
      have VR := Lib.hid (R2.out.up (.cells f'.arr 69))
      have GV := Lib.hid (grown_two G2.out (grown_of_below ((Below.refl w2.heap.size w2).alloc (Nat.le_refl _) (.cells f'.arr 69)) (some p)))
      have PU := Lib.hid (put_any f' p q r.2.1 (some ⟨bb, oo, none⟩) n c r.2.2 L _ VB.out VR.out (by omega) hso)
      have SF : ({ f with syn := (f.b.length : Nat) } : Fi) = f' := hf'.symm
      obtain ⟨x1, x2, x3, x4⟩ := HB2.out.facts
      have hz1 : (r.1 == 0) = true := by simpa using hr0
      have hz3 : decide (r.1 = 0) = true := by simpa using hr0
      have HR := Lib.hid hr0
      have hlp := HB2.out.lt
      clear hr0 hf hf' hbb
      go_wp2_with fail
      refine PU.out.mono ?_
      rintro e w3 hc
      obtain ⟨he, _⟩ := id hc
      subst he
      have FIN := Lib.hid (show OpP w p q (synF L s r) r.2.1 r.2.2 (.int .i64 r.1) (.returned (.int .i64 r.1)) w3 from ⟨rfl, by
        unfold synF; rw [if_pos HR.out, HC.out]; dsimp only; rw [← HF'.out]
        exact RfS.of_put hc (by have := GV.out.size; omega) (srt_put _ _ hso), grown_two GV.out (by obtain ⟨_, _, _, _, _, h⟩ := hc; exact h)⟩)
      clear hc x1 x2 x3 x4
      go_wp2
      go_ret
      exact FIN.out
    · have FIN := Lib.hid (show OpP w p q (synF L s r) r.2.1 r.2.2 (.int .i64 r.1) (.returned (.int .i64 r.1)) w2 from ⟨rfl, by
        unfold synF; rw [if_neg hr0]
        exact ⟨A, n, c, HB2.out, R2.out, HNE.out, hso⟩, G2.out⟩)
      have hz1 : (r.1 == 0) = false := by simpa using hr0
      have hz3 : decide (r.1 = 0) = false := by simpa using hr0
      clear hr0
      go_wp2
      go_ret
      exact FIN.out
end Go.Proofs.Ytejjobbgceoljaa
