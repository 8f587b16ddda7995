/- Acts on the document's store: does. -/
import Derived.Test.YtejjobbgceoljaaSvD
set_option linter.unusedSimpArgs false
set_option linter.unusedVariables false
namespace Go.Proofs.Ytejjobbgceoljaa
open Go.RowKit

theorem OpX.from {X : List Nat} {w W w' : World} {p : Nat} {q : Int} {L : List Fi} {fu : Int} {dn : Bool} {v : Value} {e : Ending} (hb : Below w.heap.size w W) (h : OpX X W p q L fu dn v e w') : OpX X w p q L fu dn v e w' :=
  ⟨h.1, h.2.1, grown_two (grown_of_below hb (some p)) h.2.2⟩
theorem RfX.fuse {X : List Nat} {W : World} {p : Nat} {q : Int} {L : List Fi} {fu : Int} {dn : Bool} (h : RfX X W p q L fu dn) (u : Int) : RfX X (W.setCell ⟨p, 2, none⟩ (.int .i64 u)) p q L u dn := by
  obtain ⟨A, n, c, h1, h2, h3, h4⟩ := h
  have hB := h1.set_same 2 (.int .i64 u)
  rw [rfC_set2] at hB
  refine ⟨A, n, c, hB, ?_, off_up h3 (by simp [World.setCell]), h4⟩
  have := h2.setO (p := ⟨p, 2, none⟩) (.int .i64 u) (fun a ha e => (h3 a ha).1 e.symm)
  exact this.more (by simp [World.setCell])
set_option maxRecDepth 100000 in
set_option maxHeartbeats 2000000 in
theorem does_app (X : List Nat) (p : Nat) (q : Int) (m : Mo) (x : Ac) (bs : List UInt8) (ks : List Int) (w : World) (hS : RfX X w p q m.L m.fu m.dn) (hG : GoodF q m.L) (hf : -1 ≤ m.fu ∧ m.fu ≤ 9223372036854775807) (hX : ∀ g ∈ X, g < w.heap.size) (hL : m.L.length ≤ 10000) (hx : okAc x = true) (hnum : -9223372036854775808 ≤ x.num ∧ x.num ≤ 9223372036854775807) (hA : AcR [p] w x bs ks) (hk : x.kind = 0) :
    Calls Try.prog 14 #[.pointer (some ⟨p, 0, none⟩), .agg x.arr] w (OpX X w p q (stepM q m x bs ks).1.L (stepM q m x bs ks).1.fu (stepM q m x bs ks).1.dn (.int .i64 (stepM q m x bs ks).2)) := by
  obtain ⟨x1, x2, x3, x4⟩ := okAc_bd hx
  have HB := Lib.hid ((Below.refl w.heap.size w).alloc (Nat.le_refl _) (.cells x.arr 35))
  have S1 := Lib.hid (hS.go HB.out)
  have hX1 : ∀ g ∈ X, g < (w.alloc (.cells x.arr 35)).heap.size := fun g hg => Nat.lt_of_lt_of_le (hX g hg) HB.out.size
  have RB := Lib.hid ((hA.1.to HB.out (Nat.le_refl _)).more HB.out.size)
  have RK := Lib.hid ((hA.2.2.1.to HB.out (Nat.le_refl _)).more HB.out.size)
  have HA := Lib.hid hA
  have hq1 : q ≤ 1073741824 := hG.2.2.2.2
  have hsl : sumF m.L ≤ 1073741824 := by have := hG.2.2.1; omega
  have hGs : ∀ y ∈ m.L, 0 ≤ y.syn ∧ y.syn ≤ y.b.length := fun y hy => (hG.2.1 y hy).2
  have SM := Lib.hid (show stepM q m x bs ks = (⟨appF m.L x.name bs (endsF (whyApp q m.L x.name x.b.n) m.fu m.dn), (endsF (whyApp q m.L x.name x.b.n) m.fu m.dn).2.1, (endsF (whyApp q m.L x.name x.b.n) m.fu m.dn).2.2⟩, (endsF (whyApp q m.L x.name x.b.n) m.fu m.dn).1) from by unfold stepM; rw [if_pos hk])
  have C1 := Lib.hid (refAppend_any X p q m.fu m.dn m.L x.name bs x.b.A x.b.n x.b.c _ S1.out hf (by omega) hL hX1 hq1 hsl (by omega) RB.out (fun h0 a ha e => HA.out.2.1 h0 a ha (by simp [e])) _ rfl)
  rw [SM.out]
  have hk0 : x.kind = 0 := hk
  clear hS hA hx hnum hk hG hGs hX1
  go_enter Try.func14, Try.ntmps14
  go_wp2_with fail
  refine C1.out.mono ?_
  intro e w1 hP
  obtain ⟨rfl, _⟩ := id hP
  have FIN := Lib.hid hP
  clear hP
  go_wp2
  go_ret
  obtain ⟨_, h2, h3⟩ := FIN.out.from HB.out
  exact ⟨rfl, h2, h3⟩
set_option maxRecDepth 100000 in
set_option maxHeartbeats 2000000 in
theorem does_syn (X : List Nat) (p : Nat) (q : Int) (m : Mo) (x : Ac) (bs : List UInt8) (ks : List Int) (w : World) (hS : RfX X w p q m.L m.fu m.dn) (hG : GoodF q m.L) (hf : -1 ≤ m.fu ∧ m.fu ≤ 9223372036854775807) (hX : ∀ g ∈ X, g < w.heap.size) (hL : m.L.length ≤ 10000) (hx : okAc x = true) (hnum : -9223372036854775808 ≤ x.num ∧ x.num ≤ 9223372036854775807) (hA : AcR [p] w x bs ks) (hk : x.kind = 1) :
    Calls Try.prog 14 #[.pointer (some ⟨p, 0, none⟩), .agg x.arr] w (OpX X w p q (stepM q m x bs ks).1.L (stepM q m x bs ks).1.fu (stepM q m x bs ks).1.dn (.int .i64 (stepM q m x bs ks).2)) := by
  obtain ⟨x1, x2, x3, x4⟩ := okAc_bd hx
  have HB := Lib.hid ((Below.refl w.heap.size w).alloc (Nat.le_refl _) (.cells x.arr 35))
  have S1 := Lib.hid (hS.go HB.out)
  have hX1 : ∀ g ∈ X, g < (w.alloc (.cells x.arr 35)).heap.size := fun g hg => Nat.lt_of_lt_of_le (hX g hg) HB.out.size
  have RB := Lib.hid ((hA.1.to HB.out (Nat.le_refl _)).more HB.out.size)
  have RK := Lib.hid ((hA.2.2.1.to HB.out (Nat.le_refl _)).more HB.out.size)
  have HA := Lib.hid hA
  have hq1 : q ≤ 1073741824 := hG.2.2.2.2
  have hsl : sumF m.L ≤ 1073741824 := by have := hG.2.2.1; omega
  have hGs : ∀ y ∈ m.L, 0 ≤ y.syn ∧ y.syn ≤ y.b.length := fun y hy => (hG.2.1 y hy).2
  have SM := Lib.hid (show stepM q m x bs ks = (⟨synF m.L x.name (endsF (whyAt m.L x.name) m.fu m.dn), (endsF (whyAt m.L x.name) m.fu m.dn).2.1, (endsF (whyAt m.L x.name) m.fu m.dn).2.2⟩, (endsF (whyAt m.L x.name) m.fu m.dn).1) from by unfold stepM; rw [if_neg (show ¬ x.kind = 0 by rw [hk]; decide), if_pos hk])
  have C1 := Lib.hid (refSyncX X p q m.fu m.dn m.L x.name _ S1.out hf hL hX1 _ rfl)
  rw [SM.out]
  have hk0 : x.kind = 1 := hk
  clear hS hA hx hnum hk hG hGs hX1
  go_enter Try.func14, Try.ntmps14
  go_wp2_with fail
  refine C1.out.mono ?_
  intro e w1 hP
  obtain ⟨rfl, _⟩ := id hP
  have FIN := Lib.hid hP
  clear hP
  go_wp2
  go_ret
  obtain ⟨_, h2, h3⟩ := FIN.out.from HB.out
  exact ⟨rfl, h2, h3⟩
set_option maxRecDepth 100000 in
set_option maxHeartbeats 2000000 in
theorem does_ren (X : List Nat) (p : Nat) (q : Int) (m : Mo) (x : Ac) (bs : List UInt8) (ks : List Int) (w : World) (hS : RfX X w p q m.L m.fu m.dn) (hG : GoodF q m.L) (hf : -1 ≤ m.fu ∧ m.fu ≤ 9223372036854775807) (hX : ∀ g ∈ X, g < w.heap.size) (hL : m.L.length ≤ 10000) (hx : okAc x = true) (hnum : -9223372036854775808 ≤ x.num ∧ x.num ≤ 9223372036854775807) (hA : AcR [p] w x bs ks) (hk : x.kind = 2) :
    Calls Try.prog 14 #[.pointer (some ⟨p, 0, none⟩), .agg x.arr] w (OpX X w p q (stepM q m x bs ks).1.L (stepM q m x bs ks).1.fu (stepM q m x bs ks).1.dn (.int .i64 (stepM q m x bs ks).2)) := by
  obtain ⟨x1, x2, x3, x4⟩ := okAc_bd hx
  have HB := Lib.hid ((Below.refl w.heap.size w).alloc (Nat.le_refl _) (.cells x.arr 35))
  have S1 := Lib.hid (hS.go HB.out)
  have hX1 : ∀ g ∈ X, g < (w.alloc (.cells x.arr 35)).heap.size := fun g hg => Nat.lt_of_lt_of_le (hX g hg) HB.out.size
  have RB := Lib.hid ((hA.1.to HB.out (Nat.le_refl _)).more HB.out.size)
  have RK := Lib.hid ((hA.2.2.1.to HB.out (Nat.le_refl _)).more HB.out.size)
  have HA := Lib.hid hA
  have hq1 : q ≤ 1073741824 := hG.2.2.2.2
  have hsl : sumF m.L ≤ 1073741824 := by have := hG.2.2.1; omega
  have hGs : ∀ y ∈ m.L, 0 ≤ y.syn ∧ y.syn ≤ y.b.length := fun y hy => (hG.2.1 y hy).2
  have SM := Lib.hid (show stepM q m x bs ks = (⟨renF m.L x.name x.dst (endsF (whyRen m.L x.name x.dst) m.fu m.dn), (endsF (whyRen m.L x.name x.dst) m.fu m.dn).2.1, (endsF (whyRen m.L x.name x.dst) m.fu m.dn).2.2⟩, (endsF (whyRen m.L x.name x.dst) m.fu m.dn).1) from by unfold stepM; rw [if_neg (show ¬ x.kind = 0 by rw [hk]; decide), if_neg (show ¬ x.kind = 1 by rw [hk]; decide), if_pos hk])
  have C1 := Lib.hid (refRename_any X p q m.fu m.dn m.L x.name x.dst _ S1.out hf (by omega) hL hX1 _ rfl)
  rw [SM.out]
  have hk0 : x.kind = 2 := hk
  clear hS hA hx hnum hk hG hGs hX1
  go_enter Try.func14, Try.ntmps14
  go_wp2_with fail
  refine C1.out.mono ?_
  intro e w1 hP
  obtain ⟨rfl, _⟩ := id hP
  have FIN := Lib.hid hP
  clear hP
  go_wp2
  go_ret
  obtain ⟨_, h2, h3⟩ := FIN.out.from HB.out
  exact ⟨rfl, h2, h3⟩
set_option maxRecDepth 100000 in
set_option maxHeartbeats 2000000 in
theorem does_rem (X : List Nat) (p : Nat) (q : Int) (m : Mo) (x : Ac) (bs : List UInt8) (ks : List Int) (w : World) (hS : RfX X w p q m.L m.fu m.dn) (hG : GoodF q m.L) (hf : -1 ≤ m.fu ∧ m.fu ≤ 9223372036854775807) (hX : ∀ g ∈ X, g < w.heap.size) (hL : m.L.length ≤ 10000) (hx : okAc x = true) (hnum : -9223372036854775808 ≤ x.num ∧ x.num ≤ 9223372036854775807) (hA : AcR [p] w x bs ks) (hk : x.kind = 3) :
    Calls Try.prog 14 #[.pointer (some ⟨p, 0, none⟩), .agg x.arr] w (OpX X w p q (stepM q m x bs ks).1.L (stepM q m x bs ks).1.fu (stepM q m x bs ks).1.dn (.int .i64 (stepM q m x bs ks).2)) := by
  obtain ⟨x1, x2, x3, x4⟩ := okAc_bd hx
  have HB := Lib.hid ((Below.refl w.heap.size w).alloc (Nat.le_refl _) (.cells x.arr 35))
  have S1 := Lib.hid (hS.go HB.out)
  have hX1 : ∀ g ∈ X, g < (w.alloc (.cells x.arr 35)).heap.size := fun g hg => Nat.lt_of_lt_of_le (hX g hg) HB.out.size
  have RB := Lib.hid ((hA.1.to HB.out (Nat.le_refl _)).more HB.out.size)
  have RK := Lib.hid ((hA.2.2.1.to HB.out (Nat.le_refl _)).more HB.out.size)
  have HA := Lib.hid hA
  have hq1 : q ≤ 1073741824 := hG.2.2.2.2
  have hsl : sumF m.L ≤ 1073741824 := by have := hG.2.2.1; omega
  have hGs : ∀ y ∈ m.L, 0 ≤ y.syn ∧ y.syn ≤ y.b.length := fun y hy => (hG.2.1 y hy).2
  have SM := Lib.hid (show stepM q m x bs ks = (⟨remF m.L x.name (endsF (whyAt m.L x.name) m.fu m.dn), (endsF (whyAt m.L x.name) m.fu m.dn).2.1, (endsF (whyAt m.L x.name) m.fu m.dn).2.2⟩, (endsF (whyAt m.L x.name) m.fu m.dn).1) from by unfold stepM; rw [if_neg (show ¬ x.kind = 0 by rw [hk]; decide), if_neg (show ¬ x.kind = 1 by rw [hk]; decide), if_neg (show ¬ x.kind = 2 by rw [hk]; decide), if_pos hk])
  have C1 := Lib.hid (refRemoveX X p q m.fu m.dn m.L x.name _ S1.out hf hL hX1 _ rfl)
  rw [SM.out]
  have hk0 : x.kind = 3 := hk
  clear hS hA hx hnum hk hG hGs hX1
  go_enter Try.func14, Try.ntmps14
  go_wp2_with fail
  refine C1.out.mono ?_
  intro e w1 hP
  obtain ⟨rfl, _⟩ := id hP
  have FIN := Lib.hid hP
  clear hP
  go_wp2
  go_ret
  obtain ⟨_, h2, h3⟩ := FIN.out.from HB.out
  exact ⟨rfl, h2, h3⟩
set_option maxRecDepth 100000 in
set_option maxHeartbeats 2000000 in
theorem does_crash (X : List Nat) (p : Nat) (q : Int) (m : Mo) (x : Ac) (bs : List UInt8) (ks : List Int) (w : World) (hS : RfX X w p q m.L m.fu m.dn) (hG : GoodF q m.L) (hf : -1 ≤ m.fu ∧ m.fu ≤ 9223372036854775807) (hX : ∀ g ∈ X, g < w.heap.size) (hL : m.L.length ≤ 10000) (hx : okAc x = true) (hnum : -9223372036854775808 ≤ x.num ∧ x.num ≤ 9223372036854775807) (hA : AcR [p] w x bs ks) (hk : x.kind = 6) :
    Calls Try.prog 14 #[.pointer (some ⟨p, 0, none⟩), .agg x.arr] w (OpX X w p q (stepM q m x bs ks).1.L (stepM q m x bs ks).1.fu (stepM q m x bs ks).1.dn (.int .i64 (stepM q m x bs ks).2)) := by
  obtain ⟨x1, x2, x3, x4⟩ := okAc_bd hx
  have HB := Lib.hid ((Below.refl w.heap.size w).alloc (Nat.le_refl _) (.cells x.arr 35))
  have S1 := Lib.hid (hS.go HB.out)
  have hX1 : ∀ g ∈ X, g < (w.alloc (.cells x.arr 35)).heap.size := fun g hg => Nat.lt_of_lt_of_le (hX g hg) HB.out.size
  have RB := Lib.hid ((hA.1.to HB.out (Nat.le_refl _)).more HB.out.size)
  have RK := Lib.hid ((hA.2.2.1.to HB.out (Nat.le_refl _)).more HB.out.size)
  have HA := Lib.hid hA
  have hq1 : q ≤ 1073741824 := hG.2.2.2.2
  have hsl : sumF m.L ≤ 1073741824 := by have := hG.2.2.1; omega
  have hGs : ∀ y ∈ m.L, 0 ≤ y.syn ∧ y.syn ≤ y.b.length := fun y hy => (hG.2.1 y hy).2
  have SM := Lib.hid (show stepM q m x bs ks = (⟨crL m.L ks, -1, false⟩, 0) from by unfold stepM; rw [if_neg (show ¬ x.kind = 0 by rw [hk]; decide), if_neg (show ¬ x.kind = 1 by rw [hk]; decide), if_neg (show ¬ x.kind = 2 by rw [hk]; decide), if_neg (show ¬ x.kind = 3 by rw [hk]; decide), if_neg (show ¬ x.kind = 5 by rw [hk]; decide), if_pos hk])
  have C1 := Lib.hid (refCrash_any X p q m.fu m.dn m.L ks x.keep.A x.keep.n x.keep.c _ S1.out hL hX1 hGs hsl RK.out (by omega))
  rw [SM.out]
  have hk0 : x.kind = 6 := hk
  clear hS hA hx hnum hk hG hGs hX1
  go_enter Try.func14, Try.ntmps14
  go_wp2_with fail
  refine C1.out.mono ?_
  intro e w1 hP
  obtain ⟨rfl, _⟩ := id hP
  have FIN := Lib.hid hP
  clear hP
  go_wp2
  go_ret
  obtain ⟨_, h2, h3⟩ := FIN.out.from HB.out
  exact ⟨rfl, h2, h3⟩
set_option maxRecDepth 100000 in
set_option maxHeartbeats 2000000 in
theorem does_fuse (X : List Nat) (p : Nat) (q : Int) (m : Mo) (x : Ac) (bs : List UInt8) (ks : List Int) (w : World) (hS : RfX X w p q m.L m.fu m.dn) (hG : GoodF q m.L) (hf : -1 ≤ m.fu ∧ m.fu ≤ 9223372036854775807) (hX : ∀ g ∈ X, g < w.heap.size) (hL : m.L.length ≤ 10000) (hx : okAc x = true) (hnum : -9223372036854775808 ≤ x.num ∧ x.num ≤ 9223372036854775807) (hA : AcR [p] w x bs ks) (hk : x.kind = 5) :
    Calls Try.prog 14 #[.pointer (some ⟨p, 0, none⟩), .agg x.arr] w (OpX X w p q (stepM q m x bs ks).1.L (stepM q m x bs ks).1.fu (stepM q m x bs ks).1.dn (.int .i64 (stepM q m x bs ks).2)) := by
  obtain ⟨x1, x2, x3, x4⟩ := okAc_bd hx
  have HB := Lib.hid ((Below.refl w.heap.size w).alloc (Nat.le_refl _) (.cells x.arr 35))
  have S1 := Lib.hid (hS.go HB.out)
  have hX1 : ∀ g ∈ X, g < (w.alloc (.cells x.arr 35)).heap.size := fun g hg => Nat.lt_of_lt_of_le (hX g hg) HB.out.size
  have RB := Lib.hid ((hA.1.to HB.out (Nat.le_refl _)).more HB.out.size)
  have RK := Lib.hid ((hA.2.2.1.to HB.out (Nat.le_refl _)).more HB.out.size)
  have HA := Lib.hid hA
  have hq1 : q ≤ 1073741824 := hG.2.2.2.2
  have hsl : sumF m.L ≤ 1073741824 := by have := hG.2.2.1; omega
  have hGs : ∀ y ∈ m.L, 0 ≤ y.syn ∧ y.syn ≤ y.b.length := fun y hy => (hG.2.1 y hy).2
  have SM := Lib.hid (show stepM q m x bs ks = (⟨m.L, max x.num (-1), m.dn⟩, 0) from by unfold stepM; rw [if_neg (show ¬ x.kind = 0 by rw [hk]; decide), if_neg (show ¬ x.kind = 1 by rw [hk]; decide), if_neg (show ¬ x.kind = 2 by rw [hk]; decide), if_neg (show ¬ x.kind = 3 by rw [hk]; decide), if_pos hk])
  rw [SM.out]
  have S0 := Lib.hid hS
  have hk0 : x.kind = 5 := hk
  obtain ⟨A, n, c, hBx, _⟩ := S1.out
  obtain ⟨f1, f2, f3, f4⟩ := hBx.facts
  have hpl : p < w.heap.size := by obtain ⟨_, _, _, h, _⟩ := hS; exact h.lt
  have hpn : ¬ p = w.heap.size := by omega
  have hpn2 : ¬ w.heap.size = p := by omega
  clear hS hA hx hnum hk hG hGs hX1 hBx
  go_enter Try.func14, Try.ntmps14
  go_wp2
  go_ret
  have hab := (Below.refl (w.setCell ⟨p, 2, none⟩ (.int .i64 (max x.num (-1)))).heap.size (w.setCell ⟨p, 2, none⟩ (.int .i64 (max x.num (-1))))).alloc (Nat.le_refl _) (.cells x.arr 35)
  exact ⟨rfl, (S0.out.fuse _).go hab, grown_two (grown_setCells [.int .i64 (max x.num (-1))] 2 w (World.grownBy.refl _ _)) (grown_of_below hab (some p))⟩
set_option maxRecDepth 100000 in
set_option maxHeartbeats 2000000 in
theorem does_none (X : List Nat) (p : Nat) (q : Int) (m : Mo) (x : Ac) (bs : List UInt8) (ks : List Int) (w : World) (hS : RfX X w p q m.L m.fu m.dn) (hG : GoodF q m.L) (hf : -1 ≤ m.fu ∧ m.fu ≤ 9223372036854775807) (hX : ∀ g ∈ X, g < w.heap.size) (hL : m.L.length ≤ 10000) (hx : okAc x = true) (hnum : -9223372036854775808 ≤ x.num ∧ x.num ≤ 9223372036854775807) (hA : AcR [p] w x bs ks) (k0 : x.kind ≠ 0) (k1 : x.kind ≠ 1) (k2 : x.kind ≠ 2) (k3 : x.kind ≠ 3) (k5 : x.kind ≠ 5) (k6 : x.kind ≠ 6) :
    Calls Try.prog 14 #[.pointer (some ⟨p, 0, none⟩), .agg x.arr] w (OpX X w p q (stepM q m x bs ks).1.L (stepM q m x bs ks).1.fu (stepM q m x bs ks).1.dn (.int .i64 (stepM q m x bs ks).2)) := by
  obtain ⟨x1, x2, x3, x4⟩ := okAc_bd hx
  have HB := Lib.hid ((Below.refl w.heap.size w).alloc (Nat.le_refl _) (.cells x.arr 35))
  have S1 := Lib.hid (hS.go HB.out)
  have hX1 : ∀ g ∈ X, g < (w.alloc (.cells x.arr 35)).heap.size := fun g hg => Nat.lt_of_lt_of_le (hX g hg) HB.out.size
  have RB := Lib.hid ((hA.1.to HB.out (Nat.le_refl _)).more HB.out.size)
  have RK := Lib.hid ((hA.2.2.1.to HB.out (Nat.le_refl _)).more HB.out.size)
  have HA := Lib.hid hA
  have hq1 : q ≤ 1073741824 := hG.2.2.2.2
  have hsl : sumF m.L ≤ 1073741824 := by have := hG.2.2.1; omega
  have hGs : ∀ y ∈ m.L, 0 ≤ y.syn ∧ y.syn ≤ y.b.length := fun y hy => (hG.2.1 y hy).2
  have SM := Lib.hid (show stepM q m x bs ks = (m, 0) from by unfold stepM; rw [if_neg k0, if_neg k1, if_neg k2, if_neg k3, if_neg k5, if_neg k6])
  rw [SM.out]
  have d0 : (x.kind == 0) = false := by simpa using k0
  have g0 : decide (x.kind = 0) = false := by simpa using k0
  have d1 : (x.kind == 1) = false := by simpa using k1
  have g1 : decide (x.kind = 1) = false := by simpa using k1
  have d2 : (x.kind == 2) = false := by simpa using k2
  have g2 : decide (x.kind = 2) = false := by simpa using k2
  have d3 : (x.kind == 3) = false := by simpa using k3
  have g3 : decide (x.kind = 3) = false := by simpa using k3
  have d5 : (x.kind == 5) = false := by simpa using k5
  have g5 : decide (x.kind = 5) = false := by simpa using k5
  have d6 : (x.kind == 6) = false := by simpa using k6
  have g6 : decide (x.kind = 6) = false := by simpa using k6
  clear hS hA hx hnum k0 k1 k2 k3 k5 k6 hG hGs hX1
  go_enter Try.func14, Try.ntmps14
  go_wp2
  go_ret
  exact ⟨rfl, S1.out, grown_of_below HB.out (some p)⟩
theorem does_any (X : List Nat) (p : Nat) (q : Int) (m : Mo) (x : Ac) (bs : List UInt8) (ks : List Int) (w : World) (hS : RfX X w p q m.L m.fu m.dn) (hG : GoodF q m.L) (hf : -1 ≤ m.fu ∧ m.fu ≤ 9223372036854775807) (hX : ∀ g ∈ X, g < w.heap.size) (hL : m.L.length ≤ 10000) (hx : okAc x = true) (hnum : -9223372036854775808 ≤ x.num ∧ x.num ≤ 9223372036854775807) (hA : AcR [p] w x bs ks) :
    Calls Try.prog 14 #[.pointer (some ⟨p, 0, none⟩), .agg x.arr] w (OpX X w p q (stepM q m x bs ks).1.L (stepM q m x bs ks).1.fu (stepM q m x bs ks).1.dn (.int .i64 (stepM q m x bs ks).2)) := by
  by_cases k0 : x.kind = 0
  · exact does_app X p q m x bs ks w hS hG hf hX hL hx hnum hA k0
  by_cases k1 : x.kind = 1
  · exact does_syn X p q m x bs ks w hS hG hf hX hL hx hnum hA k1
  by_cases k2 : x.kind = 2
  · exact does_ren X p q m x bs ks w hS hG hf hX hL hx hnum hA k2
  by_cases k3 : x.kind = 3
  · exact does_rem X p q m x bs ks w hS hG hf hX hL hx hnum hA k3
  by_cases k5 : x.kind = 5
  · exact does_fuse X p q m x bs ks w hS hG hf hX hL hx hnum hA k5
  by_cases k6 : x.kind = 6
  · exact does_crash X p q m x bs ks w hS hG hf hX hL hx hnum hA k6
  exact does_none X p q m x bs ks w hS hG hf hX hL hx hnum hA k0 k1 k2 k3 k5 k6
end Go.Proofs.Ytejjobbgceoljaa
