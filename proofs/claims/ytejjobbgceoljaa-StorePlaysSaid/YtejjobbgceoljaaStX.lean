/- Acts on the program's store: few, do. -/
import Derived.Test.YtejjobbgceoljaaStW
import Derived.Deep.QuietTactic
import Derived.BigQuiet
set_option linter.unusedSimpArgs false
set_option linter.unusedVariables false
namespace Go.Proofs.Ytejjobbgceoljaa
open Go.RowKit

/-! ### few -/
def okAc (x : Ac) : Bool := decide (x.name.length ≤ 60) && decide (x.dst.length ≤ 60) && decide (x.b.n ≤ 300) && decide (x.keep.n ≤ 100)
def fewA (l : List Ac) : Bool := decide (l.length ≤ 80) && l.all okAc
theorem okAc_bd {x : Ac} (h : okAc x = true) : x.name.length ≤ 60 ∧ x.dst.length ≤ 60 ∧ x.b.n ≤ 300 ∧ x.keep.n ≤ 100 := by
  unfold okAc at h
  simp at h
  exact ⟨h.1.1.1, h.1.1.2, h.1.2, h.2⟩
theorem RdR.ac {W : World} {B n : Nat} {A : Option Addr} {l : List Ac} {k : Nat} (h : RdA W B A n l) (hk : k < n) : ∃ b o, A = some ⟨b, o, none⟩ ∧ b < B ∧ Has W b (o + k * 6) 6 ∧ cellsAt W b (o + k * 6) 6 = (l.getD k noAc).arr ∧
    W.cell? ⟨b, o + k * 6, none⟩ = some (.int .i64 (l.getD k noAc).kind) ∧ W.cell? ⟨b, o + k * 6 + 1, none⟩ = some (.string (textOf (l.getD k noAc).name)) ∧ W.cell? ⟨b, o + k * 6 + 2, none⟩ = some (.string (textOf (l.getD k noAc).dst)) ∧
    W.cell? ⟨b, o + k * 6 + 3, none⟩ = some (.slice (l.getD k noAc).b.A (l.getD k noAc).b.n (l.getD k noAc).b.c) ∧ W.cell? ⟨b, o + k * 6 + 5, none⟩ = some (.slice (l.getD k noAc).keep.A (l.getD k noAc).keep.n (l.getD k noAc).keep.c) := by
  obtain ⟨b, o, hA, hb, hc⟩ := RdR.cell Ac.arr_size noAc h hk
  obtain ⟨h1, h2⟩ := cellsAt_eq (Ac.arr_size _) hc
  exact ⟨b, o, hA, hb, h1, h2, by have := hc 0 (by omega); rwa [Nat.add_zero] at this, hc 1 (by omega), hc 2 (by omega), hc 3 (by omega), hc 5 (by omega)⟩
theorem few_no {l : List Ac} {i : Nat} (hi : i < l.length) (h : okAc (l.getD i noAc) = false) : fewA l = false := by
  unfold fewA
  rw [show l.all okAc = false from List.all_eq_false.2 ⟨_, getD_mem noAc l i hi, by rw [h]; simp⟩]
  simp
set_option maxRecDepth 100000 in
set_option maxHeartbeats 2000000 in
theorem few_any (l : List Ac) (A : Option Addr) (n c : Nat) (w : World) (hR : RdA w w.heap.size A n l) (hn : n ≤ 9223372036854775807) :
    Calls Try.prog 10 #[.slice A n c] w fun e w' => e = .returned (.bool (fewA l)) ∧ Below w.heap.size w w' := by
  have HR := Lib.hid hR
  have HN := Lib.hid hR.1
  clear hR
  go_enter Try.func10, Try.ntmps10
  go_wp2
  go_loop [3] (fun s3 => ∃ i : Nat, i ≤ n ∧ i ≤ 100 ∧ s3 = .int .i64 i ∧ ∀ k, k < i → okAc (l.getD k noAc) = true) (fun s3 => n - (intOf s3).toNat)
  case atStart => exact ⟨0, by omega, by omega, rfl, fun k hk => by omega⟩
  case round =>
    obtain ⟨i, hin, hi60, rfl, hall⟩ := hrel
    have HA := Lib.hid hall
    clear hall
    by_cases hlt : i < n
    · have hi : (i : Int) < n := by omega
      by_cases h6 : i < 100
      · have hi6 : (i : Int) < 100 := by omega
        obtain ⟨b, o, rfl, hbb, hh, hcl, hc0, hc1, hc2, hc3, hc5⟩ := HR.out.ac hlt
        clear hbb hh hcl hc0
        obtain ⟨x, hx⟩ : ∃ x, x = l.getD i noAc := ⟨_, rfl⟩
        rw [← hx] at hc1 hc2 hc3 hc5
        have HX := Lib.hid hx
        clear hx
        have NO := Lib.hid (fun h : okAc x = false => few_no (l := l) (i := i) (by rw [HN.out]; exact hlt) (by rw [← HX.out]; exact h))
        by_cases q1 : x.name.length ≤ 60
        · by_cases q2 : x.dst.length ≤ 60
          · by_cases q3 : x.b.n ≤ 300
            · by_cases q4 : x.keep.n ≤ 100
              · have e1 : ¬ (60 : Int) < x.name.length := by omega
                have e2 : ¬ (60 : Int) < x.dst.length := by omega
                have e3 : ¬ (300 : Int) < x.b.n := by omega
                have e4 : ¬ (100 : Int) < x.keep.n := by omega
                have f1 : decide ((60 : Int) < x.name.length) = false := decide_eq_false e1
                have f2 : decide ((60 : Int) < x.dst.length) = false := decide_eq_false e2
                have f3 : decide ((300 : Int) < x.b.n) = false := decide_eq_false e3
                have f4 : decide ((100 : Int) < x.keep.n) = false := decide_eq_false e4
                have HOK := Lib.hid (show okAc x = true by unfold okAc; simp [q1, q2, q3, q4])
                clear q1 q2 q3 q4
                go_wp2
                go_round
                case rel => exact ⟨i + 1, by omega, by omega, by go_num, fun k hk => by
                  by_cases hki : k = i
                  · rw [hki, ← HX.out]; exact HOK.out
                  · exact HA.out k (by omega)⟩
                case measure => simp [intOf] <;> omega
              · have e1 : ¬ (60 : Int) < x.name.length := by omega
                have f1 : decide ((60 : Int) < x.name.length) = false := decide_eq_false e1
                have e2 : ¬ (60 : Int) < x.dst.length := by omega
                have f2 : decide ((60 : Int) < x.dst.length) = false := decide_eq_false e2
                have e3 : ¬ (300 : Int) < x.b.n := by omega
                have f3 : decide ((300 : Int) < x.b.n) = false := decide_eq_false e3
                have e4 : (100 : Int) < x.keep.n := by omega
                have f4 : decide ((100 : Int) < x.keep.n) = true := decide_eq_true e4
                have HF := Lib.hid (NO.out (by unfold okAc; simp; omega))
                clear q1 q2 q3 q4
                go_wp2
                go_ret
                exact ⟨by rw [HF.out]; rfl, Below.refl _ _⟩
            · have e1 : ¬ (60 : Int) < x.name.length := by omega
              have f1 : decide ((60 : Int) < x.name.length) = false := decide_eq_false e1
              have e2 : ¬ (60 : Int) < x.dst.length := by omega
              have f2 : decide ((60 : Int) < x.dst.length) = false := decide_eq_false e2
              have e3 : (300 : Int) < x.b.n := by omega
              have f3 : decide ((300 : Int) < x.b.n) = true := decide_eq_true e3
              have HF := Lib.hid (NO.out (by unfold okAc; simp; omega))
              clear q1 q2 q3
              go_wp2
              go_ret
              exact ⟨by rw [HF.out]; rfl, Below.refl _ _⟩
          · have e1 : ¬ (60 : Int) < x.name.length := by omega
            have f1 : decide ((60 : Int) < x.name.length) = false := decide_eq_false e1
            have e2 : (60 : Int) < x.dst.length := by omega
            have f2 : decide ((60 : Int) < x.dst.length) = true := decide_eq_true e2
            have HF := Lib.hid (NO.out (by unfold okAc; simp; omega))
            clear q1 q2
            go_wp2
            go_ret
            exact ⟨by rw [HF.out]; rfl, Below.refl _ _⟩
        · have e1 : (60 : Int) < x.name.length := by omega
          have f1 : decide ((60 : Int) < x.name.length) = true := decide_eq_true e1
          have HF := Lib.hid (NO.out (by unfold okAc; simp; omega))
          clear q1
          go_wp2
          go_ret
          exact ⟨by rw [HF.out]; rfl, Below.refl _ _⟩
      · have hd : decide ((i : Int) < 100) = false := by simp; omega
        have HF := Lib.hid (show fewA l = decide ((n : Int) ≤ 80) by
          unfold fewA
          rw [HN.out, show decide (n ≤ 80) = false from decide_eq_false (by omega), show decide ((n : Int) ≤ 80) = false from decide_eq_false (by omega)]; rfl)
        go_wp2
        go_ret
        exact ⟨by rw [HF.out]; rfl, Below.refl _ _⟩
    · obtain rfl : i = n := by omega
      have hd : decide ((i : Int) < i) = false := by simp
      have HF := Lib.hid (show fewA l = decide ((i : Int) ≤ 80) by
        unfold fewA
        rw [HN.out, show l.all okAc = true from List.all_eq_true.2 (fun y hy => by
          obtain ⟨k, hk, rfl⟩ := List.mem_iff_getElem.1 hy
          have := HA.out k (by rw [← HN.out]; exact hk)
          rwa [List.getD_eq_getElem?_getD, List.getElem?_eq_getElem hk] at this), Bool.and_true]
        by_cases h : i ≤ 80
        · rw [decide_eq_true h, decide_eq_true (by omega)]
        · rw [decide_eq_false h, decide_eq_false (by omega)])
      go_wp2
      go_ret
      exact ⟨by rw [HF.out]; rfl, Below.refl _ _⟩
/-! ### do -/
structure Mo where
  L : List Fi
  fu : Int
  dn : Bool
deriving DecidableEq
/-- an act on the model: what the store tells behind it, and the error -/
def stepM (q : Int) (m : Mo) (x : Ac) (bs : List UInt8) (ks : List Int) : Mo × Int :=
  if x.kind = 0 then (⟨appF m.L x.name bs (endsF (whyApp q m.L x.name x.b.n) m.fu m.dn), (endsF (whyApp q m.L x.name x.b.n) m.fu m.dn).2.1, (endsF (whyApp q m.L x.name x.b.n) m.fu m.dn).2.2⟩, (endsF (whyApp q m.L x.name x.b.n) m.fu m.dn).1)
  else if x.kind = 1 then (⟨synF m.L x.name (endsF (whyAt m.L x.name) m.fu m.dn), (endsF (whyAt m.L x.name) m.fu m.dn).2.1, (endsF (whyAt m.L x.name) m.fu m.dn).2.2⟩, (endsF (whyAt m.L x.name) m.fu m.dn).1)
  else if x.kind = 2 then (⟨renF m.L x.name x.dst (endsF (whyRen m.L x.name x.dst) m.fu m.dn), (endsF (whyRen m.L x.name x.dst) m.fu m.dn).2.1, (endsF (whyRen m.L x.name x.dst) m.fu m.dn).2.2⟩, (endsF (whyRen m.L x.name x.dst) m.fu m.dn).1)
  else if x.kind = 3 then (⟨remF m.L x.name (endsF (whyAt m.L x.name) m.fu m.dn), (endsF (whyAt m.L x.name) m.fu m.dn).2.1, (endsF (whyAt m.L x.name) m.fu m.dn).2.2⟩, (endsF (whyAt m.L x.name) m.fu m.dn).1)
  else if x.kind = 5 then (⟨m.L, max x.num (-1), m.dn⟩, 0)
  else if x.kind = 6 then (⟨crL m.L ks, -1, false⟩, 0)
  else (m, 0)
abbrev PgM (F : List Nat) (w : World) (p : Nat) (q : Int) (m : Mo) : Prop := PgS F w p q m.L m.fu m.dn
/-- an act's slices lie off the blocks F, and read so -/
def AcR (F : List Nat) (w : World) (x : Ac) (bs : List UInt8) (ks : List Int) : Prop :=
  RdB w w.heap.size x.b.A x.b.n bs ∧ (0 < x.b.n → ∀ a, x.b.A = some a → a.block ∉ F) ∧ RdZ w w.heap.size x.keep.A x.keep.n ks ∧ (0 < x.keep.n → ∀ a, x.keep.A = some a → a.block ∉ F)
theorem PgP.from {F : List Nat} {w W w' : World} {p : Nat} {q : Int} {L : List Fi} {fu : Int} {dn : Bool} {v : Value} {e : Ending} (hb : Below w.heap.size w W) (h : PgP F W p q L fu dn v e w') : PgP F w p q L fu dn v e w' := by
  obtain ⟨h1, F', h2, h3, h4⟩ := h
  exact ⟨h1, F', h2, (Frm.of_below hb).trans' h3, fun b hb' => (h4 b hb').imp id (fun h => Nat.le_trans hb.size h)⟩
set_option maxRecDepth 100000 in
set_option maxHeartbeats 2000000 in
theorem do_app (F : List Nat) (p : Nat) (q : Int) (m : Mo) (x : Ac) (bs : List UInt8) (ks : List Int) (w : World) (hS : PgM F w p q m) (hL : m.L.length ≤ 10000) (hx : okAc x = true) (hnum : -9223372036854775808 ≤ x.num ∧ x.num ≤ 9223372036854775807) (hA : AcR F w x bs ks) (hk : x.kind = 0) :
    Calls Try.prog 13 #[.pointer (some ⟨p, 0, none⟩), .agg x.arr] w (PgP F w p q (stepM q m x bs ks).1.L (stepM q m x bs ks).1.fu (stepM q m x bs ks).1.dn (.int .i64 (stepM q m x bs ks).2)) := by
  obtain ⟨x1, x2, x3, x4⟩ := okAc_bd hx
  have HB := Lib.hid ((Below.refl w.heap.size w).alloc (Nat.le_refl _) (.cells x.arr 35))
  have S1 := Lib.hid (show PgM F (w.alloc (.cells x.arr 35)) p q m from hS.go HB.out)
  have RB := Lib.hid ((hA.1.to HB.out (Nat.le_refl _)).more HB.out.size)
  have RK := Lib.hid ((hA.2.2.1.to HB.out (Nat.le_refl _)).more HB.out.size)
  have HA := Lib.hid hA
  have SM := Lib.hid (show stepM q m x bs ks = (⟨appF m.L x.name bs (endsF (whyApp q m.L x.name x.b.n) m.fu m.dn), (endsF (whyApp q m.L x.name x.b.n) m.fu m.dn).2.1, (endsF (whyApp q m.L x.name x.b.n) m.fu m.dn).2.2⟩, (endsF (whyApp q m.L x.name x.b.n) m.fu m.dn).1) from by unfold stepM; rw [if_pos hk])
  have C1 := Lib.hid (append_any F p q m.fu m.dn m.L x.name bs x.b.A x.b.n x.b.c _ S1.out (by omega) hL RB.out HA.out.2.1 (by omega) _ rfl)
  rw [SM.out]
  have hk0 : x.kind = 0 := hk
  clear hS hA hx hnum hk
  go_enter Try.func13, Try.ntmps13
  go_wp2_with fail
  refine C1.out.mono ?_
  intro e w1 hP
  obtain ⟨rfl, _⟩ := id hP
  have FIN := Lib.hid hP
  clear hP
  go_wp2
  go_ret
  obtain ⟨_, F', h2, h3, h4⟩ := FIN.out.from HB.out
  exact ⟨rfl, F', h2, h3, h4⟩
set_option maxRecDepth 100000 in
set_option maxHeartbeats 2000000 in
theorem do_syn (F : List Nat) (p : Nat) (q : Int) (m : Mo) (x : Ac) (bs : List UInt8) (ks : List Int) (w : World) (hS : PgM F w p q m) (hL : m.L.length ≤ 10000) (hx : okAc x = true) (hnum : -9223372036854775808 ≤ x.num ∧ x.num ≤ 9223372036854775807) (hA : AcR F w x bs ks) (hk : x.kind = 1) :
    Calls Try.prog 13 #[.pointer (some ⟨p, 0, none⟩), .agg x.arr] w (PgP F w p q (stepM q m x bs ks).1.L (stepM q m x bs ks).1.fu (stepM q m x bs ks).1.dn (.int .i64 (stepM q m x bs ks).2)) := by
  obtain ⟨x1, x2, x3, x4⟩ := okAc_bd hx
  have HB := Lib.hid ((Below.refl w.heap.size w).alloc (Nat.le_refl _) (.cells x.arr 35))
  have S1 := Lib.hid (show PgM F (w.alloc (.cells x.arr 35)) p q m from hS.go HB.out)
  have RB := Lib.hid ((hA.1.to HB.out (Nat.le_refl _)).more HB.out.size)
  have RK := Lib.hid ((hA.2.2.1.to HB.out (Nat.le_refl _)).more HB.out.size)
  have HA := Lib.hid hA
  have SM := Lib.hid (show stepM q m x bs ks = (⟨synF m.L x.name (endsF (whyAt m.L x.name) m.fu m.dn), (endsF (whyAt m.L x.name) m.fu m.dn).2.1, (endsF (whyAt m.L x.name) m.fu m.dn).2.2⟩, (endsF (whyAt m.L x.name) m.fu m.dn).1) from by unfold stepM; rw [if_neg (show ¬ x.kind = 0 by rw [hk]; decide), if_pos hk])
  have C1 := Lib.hid (sync_any F p q m.fu m.dn m.L x.name _ S1.out (by omega) _ rfl)
  rw [SM.out]
  have hk0 : x.kind = 1 := hk
  clear hS hA hx hnum hk
  go_enter Try.func13, Try.ntmps13
  go_wp2_with fail
  refine C1.out.mono ?_
  intro e w1 hP
  obtain ⟨rfl, _⟩ := id hP
  have FIN := Lib.hid hP
  clear hP
  go_wp2
  go_ret
  obtain ⟨_, F', h2, h3, h4⟩ := FIN.out.from HB.out
  exact ⟨rfl, F', h2, h3, h4⟩
set_option maxRecDepth 100000 in
set_option maxHeartbeats 2000000 in
theorem do_ren (F : List Nat) (p : Nat) (q : Int) (m : Mo) (x : Ac) (bs : List UInt8) (ks : List Int) (w : World) (hS : PgM F w p q m) (hL : m.L.length ≤ 10000) (hx : okAc x = true) (hnum : -9223372036854775808 ≤ x.num ∧ x.num ≤ 9223372036854775807) (hA : AcR F w x bs ks) (hk : x.kind = 2) :
    Calls Try.prog 13 #[.pointer (some ⟨p, 0, none⟩), .agg x.arr] w (PgP F w p q (stepM q m x bs ks).1.L (stepM q m x bs ks).1.fu (stepM q m x bs ks).1.dn (.int .i64 (stepM q m x bs ks).2)) := by
  obtain ⟨x1, x2, x3, x4⟩ := okAc_bd hx
  have HB := Lib.hid ((Below.refl w.heap.size w).alloc (Nat.le_refl _) (.cells x.arr 35))
  have S1 := Lib.hid (show PgM F (w.alloc (.cells x.arr 35)) p q m from hS.go HB.out)
  have RB := Lib.hid ((hA.1.to HB.out (Nat.le_refl _)).more HB.out.size)
  have RK := Lib.hid ((hA.2.2.1.to HB.out (Nat.le_refl _)).more HB.out.size)
  have HA := Lib.hid hA
  have SM := Lib.hid (show stepM q m x bs ks = (⟨renF m.L x.name x.dst (endsF (whyRen m.L x.name x.dst) m.fu m.dn), (endsF (whyRen m.L x.name x.dst) m.fu m.dn).2.1, (endsF (whyRen m.L x.name x.dst) m.fu m.dn).2.2⟩, (endsF (whyRen m.L x.name x.dst) m.fu m.dn).1) from by unfold stepM; rw [if_neg (show ¬ x.kind = 0 by rw [hk]; decide), if_neg (show ¬ x.kind = 1 by rw [hk]; decide), if_pos hk])
  have C1 := Lib.hid (rename_any F p q m.fu m.dn m.L x.name x.dst _ S1.out (by omega) (by omega) hL _ rfl)
  rw [SM.out]
  have hk0 : x.kind = 2 := hk
  clear hS hA hx hnum hk
  go_enter Try.func13, Try.ntmps13
  go_wp2_with fail
  refine C1.out.mono ?_
  intro e w1 hP
  obtain ⟨rfl, _⟩ := id hP
  have FIN := Lib.hid hP
  clear hP
  go_wp2
  go_ret
  obtain ⟨_, F', h2, h3, h4⟩ := FIN.out.from HB.out
  exact ⟨rfl, F', h2, h3, h4⟩
set_option maxRecDepth 100000 in
set_option maxHeartbeats 2000000 in
theorem do_rem (F : List Nat) (p : Nat) (q : Int) (m : Mo) (x : Ac) (bs : List UInt8) (ks : List Int) (w : World) (hS : PgM F w p q m) (hL : m.L.length ≤ 10000) (hx : okAc x = true) (hnum : -9223372036854775808 ≤ x.num ∧ x.num ≤ 9223372036854775807) (hA : AcR F w x bs ks) (hk : x.kind = 3) :
    Calls Try.prog 13 #[.pointer (some ⟨p, 0, none⟩), .agg x.arr] w (PgP F w p q (stepM q m x bs ks).1.L (stepM q m x bs ks).1.fu (stepM q m x bs ks).1.dn (.int .i64 (stepM q m x bs ks).2)) := by
  obtain ⟨x1, x2, x3, x4⟩ := okAc_bd hx
  have HB := Lib.hid ((Below.refl w.heap.size w).alloc (Nat.le_refl _) (.cells x.arr 35))
  have S1 := Lib.hid (show PgM F (w.alloc (.cells x.arr 35)) p q m from hS.go HB.out)
  have RB := Lib.hid ((hA.1.to HB.out (Nat.le_refl _)).more HB.out.size)
  have RK := Lib.hid ((hA.2.2.1.to HB.out (Nat.le_refl _)).more HB.out.size)
  have HA := Lib.hid hA
  have SM := Lib.hid (show stepM q m x bs ks = (⟨remF m.L x.name (endsF (whyAt m.L x.name) m.fu m.dn), (endsF (whyAt m.L x.name) m.fu m.dn).2.1, (endsF (whyAt m.L x.name) m.fu m.dn).2.2⟩, (endsF (whyAt m.L x.name) m.fu m.dn).1) from by unfold stepM; rw [if_neg (show ¬ x.kind = 0 by rw [hk]; decide), if_neg (show ¬ x.kind = 1 by rw [hk]; decide), if_neg (show ¬ x.kind = 2 by rw [hk]; decide), if_pos hk])
  have C1 := Lib.hid (remove_any F p q m.fu m.dn m.L x.name _ S1.out (by omega) _ rfl)
  rw [SM.out]
  have hk0 : x.kind = 3 := hk
  clear hS hA hx hnum hk
  go_enter Try.func13, Try.ntmps13
  go_wp2_with fail
  refine C1.out.mono ?_
  intro e w1 hP
  obtain ⟨rfl, _⟩ := id hP
  have FIN := Lib.hid hP
  clear hP
  go_wp2
  go_ret
  obtain ⟨_, F', h2, h3, h4⟩ := FIN.out.from HB.out
  exact ⟨rfl, F', h2, h3, h4⟩
set_option maxRecDepth 100000 in
set_option maxHeartbeats 2000000 in
theorem do_fuse (F : List Nat) (p : Nat) (q : Int) (m : Mo) (x : Ac) (bs : List UInt8) (ks : List Int) (w : World) (hS : PgM F w p q m) (hL : m.L.length ≤ 10000) (hx : okAc x = true) (hnum : -9223372036854775808 ≤ x.num ∧ x.num ≤ 9223372036854775807) (hA : AcR F w x bs ks) (hk : x.kind = 5) :
    Calls Try.prog 13 #[.pointer (some ⟨p, 0, none⟩), .agg x.arr] w (PgP F w p q (stepM q m x bs ks).1.L (stepM q m x bs ks).1.fu (stepM q m x bs ks).1.dn (.int .i64 (stepM q m x bs ks).2)) := by
  obtain ⟨x1, x2, x3, x4⟩ := okAc_bd hx
  have HB := Lib.hid ((Below.refl w.heap.size w).alloc (Nat.le_refl _) (.cells x.arr 35))
  have S1 := Lib.hid (show PgM F (w.alloc (.cells x.arr 35)) p q m from hS.go HB.out)
  have RB := Lib.hid ((hA.1.to HB.out (Nat.le_refl _)).more HB.out.size)
  have RK := Lib.hid ((hA.2.2.1.to HB.out (Nat.le_refl _)).more HB.out.size)
  have HA := Lib.hid hA
  have SM := Lib.hid (show stepM q m x bs ks = (⟨m.L, max x.num (-1), m.dn⟩, 0) from by unfold stepM; rw [if_neg (show ¬ x.kind = 0 by rw [hk]; decide), if_neg (show ¬ x.kind = 1 by rw [hk]; decide), if_neg (show ¬ x.kind = 2 by rw [hk]; decide), if_neg (show ¬ x.kind = 3 by rw [hk]; decide), if_pos hk])
  have C1 := Lib.hid (fuse_any F p q m.fu m.dn m.L x.num _ S1.out hnum)
  rw [SM.out]
  have hk0 : x.kind = 5 := hk
  clear hS hA hx hnum hk
  go_enter Try.func13, Try.ntmps13
  go_wp2_with fail
  refine C1.out.mono ?_
  intro e w1 hP
  obtain ⟨rfl, _⟩ := id hP
  have FIN := Lib.hid hP
  clear hP
  go_wp2
  go_ret
  obtain ⟨_, F', h2, h3, h4⟩ := FIN.out.from HB.out
  exact ⟨rfl, F', h2, h3, h4⟩
set_option maxRecDepth 100000 in
set_option maxHeartbeats 2000000 in
theorem do_crash (F : List Nat) (p : Nat) (q : Int) (m : Mo) (x : Ac) (bs : List UInt8) (ks : List Int) (w : World) (hS : PgM F w p q m) (hL : m.L.length ≤ 10000) (hx : okAc x = true) (hnum : -9223372036854775808 ≤ x.num ∧ x.num ≤ 9223372036854775807) (hA : AcR F w x bs ks) (hk : x.kind = 6) :
    Calls Try.prog 13 #[.pointer (some ⟨p, 0, none⟩), .agg x.arr] w (PgP F w p q (stepM q m x bs ks).1.L (stepM q m x bs ks).1.fu (stepM q m x bs ks).1.dn (.int .i64 (stepM q m x bs ks).2)) := by
  obtain ⟨x1, x2, x3, x4⟩ := okAc_bd hx
  have HB := Lib.hid ((Below.refl w.heap.size w).alloc (Nat.le_refl _) (.cells x.arr 35))
  have S1 := Lib.hid (show PgM F (w.alloc (.cells x.arr 35)) p q m from hS.go HB.out)
  have RB := Lib.hid ((hA.1.to HB.out (Nat.le_refl _)).more HB.out.size)
  have RK := Lib.hid ((hA.2.2.1.to HB.out (Nat.le_refl _)).more HB.out.size)
  have HA := Lib.hid hA
  have SM := Lib.hid (show stepM q m x bs ks = (⟨crL m.L ks, -1, false⟩, 0) from by unfold stepM; rw [if_neg (show ¬ x.kind = 0 by rw [hk]; decide), if_neg (show ¬ x.kind = 1 by rw [hk]; decide), if_neg (show ¬ x.kind = 2 by rw [hk]; decide), if_neg (show ¬ x.kind = 3 by rw [hk]; decide), if_neg (show ¬ x.kind = 5 by rw [hk]; decide), if_pos hk])
  have C1 := Lib.hid (crash_any F p q m.fu m.dn m.L ks x.keep.A x.keep.n x.keep.c _ S1.out hL RK.out HA.out.2.2.2 (by omega))
  rw [SM.out]
  have hk0 : x.kind = 6 := hk
  clear hS hA hx hnum hk
  go_enter Try.func13, Try.ntmps13
  go_wp2_with fail
  refine C1.out.mono ?_
  intro e w1 hP
  obtain ⟨rfl, _⟩ := id hP
  have FIN := Lib.hid hP
  clear hP
  go_wp2
  go_ret
  obtain ⟨_, F', h2, h3, h4⟩ := FIN.out.from HB.out
  exact ⟨rfl, F', h2, h3, h4⟩
set_option maxRecDepth 100000 in
set_option maxHeartbeats 2000000 in
theorem do_none (F : List Nat) (p : Nat) (q : Int) (m : Mo) (x : Ac) (bs : List UInt8) (ks : List Int) (w : World) (hS : PgM F w p q m) (hL : m.L.length ≤ 10000) (hx : okAc x = true) (hnum : -9223372036854775808 ≤ x.num ∧ x.num ≤ 9223372036854775807) (hA : AcR F w x bs ks) (k0 : x.kind ≠ 0) (k1 : x.kind ≠ 1) (k2 : x.kind ≠ 2) (k3 : x.kind ≠ 3) (k5 : x.kind ≠ 5) (k6 : x.kind ≠ 6) :
    Calls Try.prog 13 #[.pointer (some ⟨p, 0, none⟩), .agg x.arr] w (PgP F w p q (stepM q m x bs ks).1.L (stepM q m x bs ks).1.fu (stepM q m x bs ks).1.dn (.int .i64 (stepM q m x bs ks).2)) := by
  obtain ⟨x1, x2, x3, x4⟩ := okAc_bd hx
  have HB := Lib.hid ((Below.refl w.heap.size w).alloc (Nat.le_refl _) (.cells x.arr 35))
  have S1 := Lib.hid (show PgM F (w.alloc (.cells x.arr 35)) p q m from hS.go HB.out)
  have RB := Lib.hid ((hA.1.to HB.out (Nat.le_refl _)).more HB.out.size)
  have RK := Lib.hid ((hA.2.2.1.to HB.out (Nat.le_refl _)).more HB.out.size)
  have HA := Lib.hid hA
  have SM := Lib.hid (show stepM q m x bs ks = (m, 0) from by unfold stepM; rw [if_neg k0, if_neg k1, if_neg k2, if_neg k3, if_neg k5, if_neg k6])
  rw [SM.out]
  have d0 : (x.kind == 0) = false := by simpa using k0
  have g0 : decide (x.kind = 0) = false := by simpa using k0
  have d1 : (x.kind == 1) = false := by simpa using k1
  have g1 : decide (x.kind = 1) = false := by simpa using k1
  have d2 : (x.kind == 2) = false := by simpa using k2
  have g2 : decide (x.kind = 2) = false := by simpa using k2
  have d3 : (x.kind == 3) = false := by simpa using k3
  have g3 : decide (x.kind = 3) = false := by simpa using k3
  have d5 : (x.kind == 5) = false := by simpa using k5
  have g5 : decide (x.kind = 5) = false := by simpa using k5
  have d6 : (x.kind == 6) = false := by simpa using k6
  have g6 : decide (x.kind = 6) = false := by simpa using k6
  clear hS hA hx hnum k0 k1 k2 k3 k5 k6
  go_enter Try.func13, Try.ntmps13
  go_wp2
  go_ret
  exact ⟨rfl, F, S1.out, Frm.of_below HB.out, fun b hb => .inl hb⟩
theorem do_any (F : List Nat) (p : Nat) (q : Int) (m : Mo) (x : Ac) (bs : List UInt8) (ks : List Int) (w : World) (hS : PgM F w p q m) (hL : m.L.length ≤ 10000) (hx : okAc x = true) (hnum : -9223372036854775808 ≤ x.num ∧ x.num ≤ 9223372036854775807) (hA : AcR F w x bs ks) :
    Calls Try.prog 13 #[.pointer (some ⟨p, 0, none⟩), .agg x.arr] w (PgP F w p q (stepM q m x bs ks).1.L (stepM q m x bs ks).1.fu (stepM q m x bs ks).1.dn (.int .i64 (stepM q m x bs ks).2)) := by
  by_cases k0 : x.kind = 0
  · exact do_app F p q m x bs ks w hS hL hx hnum hA k0
  by_cases k1 : x.kind = 1
  · exact do_syn F p q m x bs ks w hS hL hx hnum hA k1
  by_cases k2 : x.kind = 2
  · exact do_ren F p q m x bs ks w hS hL hx hnum hA k2
  by_cases k3 : x.kind = 3
  · exact do_rem F p q m x bs ks w hS hL hx hnum hA k3
  by_cases k5 : x.kind = 5
  · exact do_fuse F p q m x bs ks w hS hL hx hnum hA k5
  by_cases k6 : x.kind = 6
  · exact do_crash F p q m x bs ks w hS hL hx hnum hA k6
  exact do_none F p q m x bs ks w hS hL hx hnum hA k0 k1 k2 k3 k5 k6
end Go.Proofs.Ytejjobbgceoljaa
