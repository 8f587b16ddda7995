/- The document's store: Remove. -/
import Derived.Test.YtejjobbgceoljaaStJ
set_option linter.unusedSimpArgs false
set_option linter.unusedVariables false
namespace Go.Proofs.Ytejjobbgceoljaa
open Go.RowKit

/-- the store is turned, and nothing below but its own block -/
def OpP (w : World) (p : Nat) (q : Int) (L : List Fi) (fu : Int) (dn : Bool) (v : Value) (e : Ending) (w' : World) : Prop := e = .returned v ∧ RfS w' p q L fu dn ∧ w.grownBy w' (some p)
def whyAt (L : List Fi) (s : List UInt8) : Int := if lookF L s = none then 5 else 0
def remF (L : List Fi) (s : List UInt8) (r : Int × Int × Bool) : List Fi := if r.1 = 0 then cutF s L else L
theorem grown_two {a b c : World} {g : Option Nat} (h : a.grownBy b g) (k : b.grownBy c g) : a.grownBy c g := ⟨k.os.trans h.os, k.tape.trans h.tape, k.output.trans h.output, Nat.le_trans h.size k.size, fun i hi hne => (k.block i (Nat.lt_of_lt_of_le hi h.size) hne).trans (h.block i hi hne)⟩
theorem grown_of_below {a b : World} (h : Below a.heap.size a b) (g : Option Nat) : a.grownBy b g := ⟨h.os, h.tape, h.output, h.size, fun i hi _ => h.block i hi⟩
set_option maxRecDepth 100000 in
set_option maxHeartbeats 4000000 in
theorem refRemove_any (p : Nat) (q fu : Int) (dn : Bool) (L : List Fi) (s : List UInt8) (w : World) (hS : RfS w p q L fu dn) (hf : -1 ≤ fu ∧ fu ≤ 9223372036854775807) (hn : L.length ≤ 10000) (r : Int × Int × Bool) (hr : endsF (whyAt L s) fu dn = r) :
    Calls Try.prog 32 #[.pointer (some ⟨p, 0, none⟩), .string (textOf s)] w (OpP w p q (remF L s r) r.2.1 r.2.2 (.int .i64 r.1)) := by
  obtain ⟨A, n, c, hB, hR, hne, hso⟩ := hS
  have hnl := hR.1
  have hl := hB.lt
  have FI := Lib.hid (find_any p q fu A n c dn L s w hB hR (by omega))
  have HB0 := Lib.hid hB
  have HR0 := Lib.hid hR
  have HNE := Lib.hid hne
  have EN := Lib.hid (fun why r W h (hr : endsF why fu dn = r) => ends_any p q fu why A n c dn W h hf r hr)
  clear hB hR hne hf
  go_enter Try.func32, Try.ntmps32
  go_wp2_with fail
  refine FI.out.mono ?_
  rintro e w1 ⟨rfl, hb1⟩
  have HB1 := Lib.hid hb1
  have G1 := Lib.hid (grown_of_below hb1 (some p))
  clear hb1
  rcases atF_cases L s with ⟨h1, h2⟩ | ⟨a, h1, h2, h3, h4⟩
  · rw [h1]
    have hr2 : endsF 5 fu dn = r := by rw [← hr]; unfold whyAt; rw [if_pos h2]
    have hr0 : r.1 ≠ 0 := by
      rw [← hr2]; unfold endsF
      split
      · simp
      · simp
    have E5 := Lib.hid (EN.out 5 r w1 (HB0.out.go HB1.out) hr2)
    clear hr hr2 h1 h2
    go_wp2_with fail
    refine E5.out.mono ?_
    rintro e w2 ⟨rfl, hB2, hg2, hs2⟩
    have FIN := Lib.hid (show OpP w p q (remF L s r) r.2.1 r.2.2 (.int .i64 r.1) (.returned (.int .i64 r.1)) w2 from ⟨rfl, by
      unfold remF; rw [if_neg hr0]
      exact ⟨A, n, c, hB2, (((HR0.out.go HB1.out).grownO hg2 (fun a ha e => HNE.out a ha (by injection e))).more (by omega)), HNE.out, hso⟩, grown_two G1.out hg2⟩)
    have hz1 : (r.1 == 0) = false := by simpa using hr0
    have hz3 : decide (r.1 = 0) = false := by simpa using hr0
    clear hB2 hg2 hs2 hr0
    go_wp2
    go_ret
    exact FIN.out
  · rw [h1]
    have hr2 : endsF 0 fu dn = r := by rw [← hr]; unfold whyAt; rw [if_neg (by rw [h4]; simp)]
    have E0 := Lib.hid (EN.out 0 r w1 (HB0.out.go HB1.out) hr2)
    have han : a < n := by omega
    have hdn : decide ((a : Int) < 0) = false := by simp
    have HC := Lib.hid (show L.eraseIdx a = cutF s L by rw [cut_is hso h2, h3])
    clear hr hr2 h1 h4
    go_wp2_with fail
    refine E0.out.mono ?_
    rintro e w2 ⟨rfl, hB2, hg2, hs2⟩
    have R2 := Lib.hid (((HR0.out.go HB1.out).grownO hg2 (fun a ha e => HNE.out a ha (by injection e))).more (by omega : w1.heap.size ≤ w2.heap.size))
    have HB2 := Lib.hid hB2
    have G2 := Lib.hid (grown_two G1.out hg2)
    have hsz2 := G2.out.size
    clear hB2 hg2 hs2
    by_cases hr0 : r.1 = 0
    · have CU := Lib.hid (cut_any a p q r.2.1 A n c r.2.2 L w2 HB2.out R2.out (by omega) han)
      have hz1 : (r.1 == 0) = true := by simpa using hr0
      have hz3 : decide (r.1 = 0) = true := by simpa using hr0
      have HR := Lib.hid hr0
      clear hr0
      go_wp2_with fail
      refine CU.out.mono ?_
      rintro e w3 hc
      obtain ⟨he, _⟩ := id hc
      subst he
      have FIN := Lib.hid (show OpP w p q (remF L s r) r.2.1 r.2.2 (.int .i64 r.1) (.returned (.int .i64 r.1)) w3 from ⟨rfl, by
        unfold remF; rw [if_pos HR.out, ← HC.out]
        exact RfS.of_cut hc (by omega) (by rw [HC.out]; exact srt_cut s hso), grown_two G2.out (by obtain ⟨_, _, _, _, _, h⟩ := hc; exact h)⟩)
      clear hc
      go_wp2
      go_ret
      exact FIN.out
    · have FIN := Lib.hid (show OpP w p q (remF L s r) r.2.1 r.2.2 (.int .i64 r.1) (.returned (.int .i64 r.1)) w2 from ⟨rfl, by
        unfold remF; rw [if_neg hr0]
        exact ⟨A, n, c, HB2.out, R2.out, HNE.out, hso⟩, G2.out⟩)
      have hz1 : (r.1 == 0) = false := by simpa using hr0
      have hz3 : decide (r.1 = 0) = false := by simpa using hr0
      clear hr0
      go_wp2
      go_ret
      exact FIN.out
end Go.Proofs.Ytejjobbgceoljaa
