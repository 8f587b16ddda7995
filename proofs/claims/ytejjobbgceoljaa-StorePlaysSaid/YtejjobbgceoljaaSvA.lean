/- The document's store as a whole, its rows off given blocks; Remove, Sync. -/
import Derived.Test.YtejjobbgceoljaaStL
set_option linter.unusedSimpArgs false
set_option linter.unusedVariables false
namespace Go.Proofs.Ytejjobbgceoljaa
open Go.RowKit

attribute [local go_sem] Fi.set_2
/-- the document's store at p tells quota q, the files L in order, the fuse, and whether the power is gone -/
def RfX (X : List Nat) (W : World) (p : Nat) (q : Int) (L : List Fi) (fu : Int) (dn : Bool) : Prop :=
  ∃ A n c, Box W p (rfC q A n c fu dn) ∧ RdF W W.heap.size A n L ∧ (∀ a, A = some a → a.block ≠ p ∧ a.block ∉ X ∧ a.block < W.heap.size) ∧ SrtF L
theorem off_up {X : List Nat} {p s s' : Nat} {A : Option Addr} (h : ∀ a, A = some a → a.block ≠ p ∧ a.block ∉ X ∧ a.block < s) (hs : s ≤ s') : ∀ a, A = some a → a.block ≠ p ∧ a.block ∉ X ∧ a.block < s' :=
  fun a ha => ⟨(h a ha).1, (h a ha).2.1, Nat.lt_of_lt_of_le (h a ha).2.2 hs⟩
theorem RfX.go {X : List Nat} {W W1 : World} {p : Nat} {q : Int} {L : List Fi} {fu : Int} {dn : Bool} (h : RfX X W p q L fu dn) (hb : Below W.heap.size W W1) : RfX X W1 p q L fu dn := by
  obtain ⟨A, n, c, h1, h2, h3, h4⟩ := h
  exact ⟨A, n, c, h1.go hb, h2.go hb, off_up h3 hb.size, h4⟩
theorem RfX.of_put {X : List Nat} {w w' : World} {p : Nat} {q fu : Int} {dn : Bool} {M : List Fi} {e : Ending} (h : PutP w p q fu dn M e w') (hp : p < w.heap.size) (hX : ∀ g ∈ X, g < w.heap.size) (hM : SrtF M) : RfX X w' p q M fu dn := by
  obtain ⟨_, A, c, h1, h2, _⟩ := h
  exact ⟨A, _, c, h1, RdR.of_own rfl h2, fun a ha => ⟨fun e => by have := (h2.lt a.block (by rw [ha]; rfl)).1; omega, fun hm => by have := (h2.lt a.block (by rw [ha]; rfl)).1; have := hX _ hm; omega, (h2.lt a.block (by rw [ha]; rfl)).2⟩, hM⟩
theorem RfX.of_cut {X : List Nat} {w w' : World} {p : Nat} {q fu : Int} {dn : Bool} {f : Fi} {M : List Fi} {e : Ending} (h : CutP w p q fu dn f M e w') (hp : p < w.heap.size) (hX : ∀ g ∈ X, g < w.heap.size) (hM : SrtF M) : RfX X w' p q M fu dn := by
  obtain ⟨_, A, c, h1, h2, _⟩ := h
  exact ⟨A, _, c, h1, RdR.of_own rfl h2, fun a ha => ⟨fun e => by have := (h2.lt a.block (by rw [ha]; rfl)).1; omega, fun hm => by have := (h2.lt a.block (by rw [ha]; rfl)).1; have := hX _ hm; omega, (h2.lt a.block (by rw [ha]; rfl)).2⟩, hM⟩
/-- the store is turned, and nothing below but its own block -/
def OpX (X : List Nat) (w : World) (p : Nat) (q : Int) (L : List Fi) (fu : Int) (dn : Bool) (v : Value) (e : Ending) (w' : World) : Prop := e = .returned v ∧ RfX X w' p q L fu dn ∧ w.grownBy w' (some p)
set_option maxRecDepth 100000 in
set_option maxHeartbeats 4000000 in
theorem refRemoveX (X : List Nat) (p : Nat) (q fu : Int) (dn : Bool) (L : List Fi) (s : List UInt8) (w : World) (hS : RfX X w p q L fu dn) (hf : -1 ≤ fu ∧ fu ≤ 9223372036854775807) (hn : L.length ≤ 10000) (hX : ∀ g ∈ X, g < w.heap.size) (r : Int × Int × Bool) (hr : endsF (whyAt L s) fu dn = r) :
    Calls Try.prog 32 #[.pointer (some ⟨p, 0, none⟩), .string (textOf s)] w (OpX X w p q (remF L s r) r.2.1 r.2.2 (.int .i64 r.1)) := by
  obtain ⟨A, n, c, hB, hR, hne, hso⟩ := hS
  have hnl := hR.1
  have hl := hB.lt
  have FI := Lib.hid (find_any p q fu A n c dn L s w hB hR (by omega))
  have HB0 := Lib.hid hB
  have HR0 := Lib.hid hR
  have HNE := Lib.hid hne
  have EN := Lib.hid (fun why r W h (hr : endsF why fu dn = r) => ends_any p q fu why A n c dn W h hf r hr)
  clear hB hR hne hf
  go_enter Try.func32, Try.ntmps32
  go_wp2_with fail
  refine FI.out.mono ?_
  rintro e w1 ⟨rfl, hb1⟩
  have HB1 := Lib.hid hb1
  have G1 := Lib.hid (grown_of_below hb1 (some p))
  clear hb1
  rcases atF_cases L s with ⟨h1, h2⟩ | ⟨a, h1, h2, h3, h4⟩
  · rw [h1]
    have hr2 : endsF 5 fu dn = r := by rw [← hr]; unfold whyAt; rw [if_pos h2]
    have hr0 : r.1 ≠ 0 := by
      rw [← hr2]; unfold endsF
      split
      · simp
      · simp
    have E5 := Lib.hid (EN.out 5 r w1 (HB0.out.go HB1.out) hr2)
    clear hr hr2 h1 h2
    go_wp2_with fail
    refine E5.out.mono ?_
    rintro e w2 ⟨rfl, hB2, hg2, hs2⟩
    have FIN := Lib.hid (show OpX X w p q (remF L s r) r.2.1 r.2.2 (.int .i64 r.1) (.returned (.int .i64 r.1)) w2 from ⟨rfl, by
      unfold remF; rw [if_neg hr0]
      exact ⟨A, n, c, hB2, (((HR0.out.go HB1.out).grownO hg2 (fun a ha e => (HNE.out a ha).1 (by injection e))).more (by omega)), off_up HNE.out (by have := HB1.out.size; omega), hso⟩, grown_two G1.out hg2⟩)
    have hz1 : (r.1 == 0) = false := by simpa using hr0
    have hz3 : decide (r.1 = 0) = false := by simpa using hr0
    clear hB2 hg2 hs2 hr0
    go_wp2
    go_ret
    exact FIN.out
  · rw [h1]
    have hr2 : endsF 0 fu dn = r := by rw [← hr]; unfold whyAt; rw [if_neg (by rw [h4]; simp)]
    have E0 := Lib.hid (EN.out 0 r w1 (HB0.out.go HB1.out) hr2)
    have han : a < n := by omega
    have hdn : decide ((a : Int) < 0) = false := by simp
    have HC := Lib.hid (show L.eraseIdx a = cutF s L by rw [cut_is hso h2, h3])
    clear hr hr2 h1 h4
    go_wp2_with fail
    refine E0.out.mono ?_
    rintro e w2 ⟨rfl, hB2, hg2, hs2⟩
    have R2 := Lib.hid (((HR0.out.go HB1.out).grownO hg2 (fun a ha e => (HNE.out a ha).1 (by injection e))).more (by omega : w1.heap.size ≤ w2.heap.size))
    have HB2 := Lib.hid hB2
    have G2 := Lib.hid (grown_two G1.out hg2)
    have hsz2 := G2.out.size
    clear hB2 hg2 hs2
    by_cases hr0 : r.1 = 0
    · have CU := Lib.hid (cut_any a p q r.2.1 A n c r.2.2 L w2 HB2.out R2.out (by omega) han)
      have hz1 : (r.1 == 0) = true := by simpa using hr0
      have hz3 : decide (r.1 = 0) = true := by simpa using hr0
      have HR := Lib.hid hr0
      clear hr0
      go_wp2_with fail
      refine CU.out.mono ?_
      rintro e w3 hc
      obtain ⟨he, _⟩ := id hc
      subst he
      have FIN := Lib.hid (show OpX X w p q (remF L s r) r.2.1 r.2.2 (.int .i64 r.1) (.returned (.int .i64 r.1)) w3 from ⟨rfl, by
        unfold remF; rw [if_pos HR.out, ← HC.out]
        exact RfX.of_cut hc (by omega) (fun g hg => Nat.lt_of_lt_of_le (hX g hg) G2.out.size) (by rw [HC.out]; exact srt_cut s hso), grown_two G2.out (by obtain ⟨_, _, _, _, _, h⟩ := hc; exact h)⟩)
      clear hc
      go_wp2
      go_ret
      exact FIN.out
    · have FIN := Lib.hid (show OpX X w p q (remF L s r) r.2.1 r.2.2 (.int .i64 r.1) (.returned (.int .i64 r.1)) w2 from ⟨rfl, by
        unfold remF; rw [if_neg hr0]
        exact ⟨A, n, c, HB2.out, R2.out, off_up HNE.out (by have := HB1.out.size; omega), hso⟩, G2.out⟩)
      have hz1 : (r.1 == 0) = false := by simpa using hr0
      have hz3 : decide (r.1 = 0) = false := by simpa using hr0
      clear hr0
      go_wp2
      go_ret
      exact FIN.out
set_option maxRecDepth 100000 in
set_option maxHeartbeats 4000000 in
theorem refSyncX (X : List Nat) (p : Nat) (q fu : Int) (dn : Bool) (L : List Fi) (s : List UInt8) (w : World) (hS : RfX X w p q L fu dn) (hf : -1 ≤ fu ∧ fu ≤ 9223372036854775807) (hn : L.length ≤ 10000) (hX : ∀ g ∈ X, g < w.heap.size) (r : Int × Int × Bool) (hr : endsF (whyAt L s) fu dn = r) :
    Calls Try.prog 30 #[.pointer (some ⟨p, 0, none⟩), .string (textOf s)] w (OpX X w p q (synF L s r) r.2.1 r.2.2 (.int .i64 r.1)) := by
  obtain ⟨A, n, c, hB, hR, hne, hso⟩ := hS
  have hnl := hR.1
  have hl := hB.lt
  have FI := Lib.hid (find_any p q fu A n c dn L s w hB hR (by omega))
  have HB0 := Lib.hid hB
  have HR0 := Lib.hid hR
  have HNE := Lib.hid hne
  have EN := Lib.hid (fun why r W h (hr : endsF why fu dn = r) => ends_any p q fu why A n c dn W h hf r hr)
  clear hB hR hne hf
  go_enter Try.func30, Try.ntmps30
  go_wp2_with fail
  refine FI.out.mono ?_
  rintro e w1 ⟨rfl, hb1⟩
  have HB1 := Lib.hid hb1
  have G1 := Lib.hid (grown_of_below hb1 (some p))
  clear hb1
  rcases atF_cases L s with ⟨h1, h2⟩ | ⟨a, h1, h2, h3, h4⟩
  · rw [h1]
    have hr2 : endsF 5 fu dn = r := by rw [← hr]; unfold whyAt; rw [if_pos h2]
    have hr0 : r.1 ≠ 0 := by
      rw [← hr2]; unfold endsF
      split
      · simp
      · simp
    have E5 := Lib.hid (EN.out 5 r w1 (HB0.out.go HB1.out) hr2)
    clear hr hr2 h1 h2
    go_wp2_with fail
    refine E5.out.mono ?_
    rintro e w2 ⟨rfl, hB2, hg2, hs2⟩
    have FIN := Lib.hid (show OpX X w p q (synF L s r) r.2.1 r.2.2 (.int .i64 r.1) (.returned (.int .i64 r.1)) w2 from ⟨rfl, by
      unfold synF; rw [if_neg hr0]
      exact ⟨A, n, c, hB2, (((HR0.out.go HB1.out).grownO hg2 (fun a ha e => (HNE.out a ha).1 (by injection e))).more (by omega)), off_up HNE.out (by have := HB1.out.size; omega), hso⟩, grown_two G1.out hg2⟩)
    have hz1 : (r.1 == 0) = false := by simpa using hr0
    have hz3 : decide (r.1 = 0) = false := by simpa using hr0
    clear hB2 hg2 hs2 hr0
    go_wp2
    go_ret
    exact FIN.out
  · rw [h1]
    have hr2 : endsF 0 fu dn = r := by rw [← hr]; unfold whyAt; rw [if_neg (by rw [h4]; simp)]
    have E0 := Lib.hid (EN.out 0 r w1 (HB0.out.go HB1.out) hr2)
    have han : a < n := by omega
    have hdn : decide ((a : Int) < 0) = false := by simp
    have HC := Lib.hid h4
    clear hr hr2 h1 h4
    go_wp2_with fail
    refine E0.out.mono ?_
    rintro e w2 ⟨rfl, hB2, hg2, hs2⟩
    have R2 := Lib.hid (((HR0.out.go HB1.out).grownO hg2 (fun a ha e => (HNE.out a ha).1 (by injection e))).more (by omega : w1.heap.size ≤ w2.heap.size))
    have HB2 := Lib.hid hB2
    have G2 := Lib.hid (grown_two G1.out hg2)
    have hsz2 := G2.out.size
    clear hB2 hg2 hs2
    by_cases hr0 : r.1 = 0
    · obtain ⟨bb, oo, rfl, hbb, hh, hcl, _⟩ := R2.out.fi han
      obtain ⟨f, hf⟩ : ∃ f, f = L.getD a noFi := ⟨_, rfl⟩
      rw [← hf] at hcl HC
      obtain ⟨f', hf'⟩ : ∃ f' : Fi, f' = { f with syn := (f.b.length : Nat) } := ⟨_, rfl⟩
      have HF' := Lib.hid hf'
      have VB := Lib.hid (HB2.out.alloc (.cells f'.arr 69))
      have VR := Lib.hid (R2.out.up (.cells f'.arr 69))
      have GV := Lib.hid (grown_two G2.out (grown_of_below ((Below.refl w2.heap.size w2).alloc (Nat.le_refl _) (.cells f'.arr 69)) (some p)))
      have PU := Lib.hid (put_any f' p q r.2.1 (some ⟨bb, oo, none⟩) n c r.2.2 L _ VB.out VR.out (by omega) hso)
      have SF : ({ f with syn := (f.b.length : Nat) } : Fi) = f' := hf'.symm
      obtain ⟨x1, x2, x3, x4⟩ := HB2.out.facts
      have hz1 : (r.1 == 0) = true := by simpa using hr0
      have hz3 : decide (r.1 = 0) = true := by simpa using hr0
      have HR := Lib.hid hr0
      have hlp := HB2.out.lt
      clear hr0 hf hf' hbb
      go_wp2_with fail
      refine PU.out.mono ?_
      rintro e w3 hc
      obtain ⟨he, _⟩ := id hc
      subst he
      have FIN := Lib.hid (show OpX X w p q (synF L s r) r.2.1 r.2.2 (.int .i64 r.1) (.returned (.int .i64 r.1)) w3 from ⟨rfl, by
        unfold synF; rw [if_pos HR.out, HC.out]; dsimp only; rw [← HF'.out]
        exact RfX.of_put hc (by have := GV.out.size; omega) (fun g hg => Nat.lt_of_lt_of_le (hX g hg) GV.out.size) (srt_put _ _ hso), grown_two GV.out (by obtain ⟨_, _, _, _, _, h⟩ := hc; exact h)⟩)
      clear hc x1 x2 x3 x4
      go_wp2
      go_ret
      exact FIN.out
    · have FIN := Lib.hid (show OpX X w p q (synF L s r) r.2.1 r.2.2 (.int .i64 r.1) (.returned (.int .i64 r.1)) w2 from ⟨rfl, by
        unfold synF; rw [if_neg hr0]
        exact ⟨A, n, c, HB2.out, R2.out, off_up HNE.out (by have := HB1.out.size; omega), hso⟩, G2.out⟩)
      have hz1 : (r.1 == 0) = false := by simpa using hr0
      have hz3 : decide (r.1 = 0) = false := by simpa using hr0
      clear hr0
      go_wp2
      go_ret
      exact FIN.out
end Go.Proofs.Ytejjobbgceoljaa
