/- The program's store in memory: its own cells, its fuse. -/
import Derived.Test.YtejjobbgceoljaaStB
import Derived.Test.YtejjobbgceoljaaStA
set_option linter.unusedSimpArgs false
set_option linter.unusedVariables false
namespace Go.Proofs.Ytejjobbgceoljaa
open Go.RowKit

/-- the cells of a store: quota, size, the map's block, fuse, down -/
def stC (q sz : Int) (M : Nat) (fu : Int) (dn : Bool) : Array Value := #[.int .i64 q, .int .i64 sz, .map (some M), .int .i64 fu, .bool dn]
section
variable (q sz fu : Int) (M : Nat) (dn : Bool)
theorem stC_size : (stC q sz M fu dn).size = 5 := rfl
@[go_sem] theorem stC_0 : (stC q sz M fu dn)[0]? = some (.int .i64 q) := rfl
@[go_sem] theorem stC_1 : (stC q sz M fu dn)[1]? = some (.int .i64 sz) := rfl
@[go_sem] theorem stC_2 : (stC q sz M fu dn)[2]? = some (.map (some M)) := rfl
@[go_sem] theorem stC_3 : (stC q sz M fu dn)[3]? = some (.int .i64 fu) := rfl
@[go_sem] theorem stC_4 : (stC q sz M fu dn)[4]? = some (.bool dn) := rfl
theorem stC_set1 (u : Int) : (stC q sz M fu dn).setIfInBounds 1 (.int .i64 u) = stC q u M fu dn := rfl
theorem stC_set3 (u : Int) : (stC q sz M fu dn).setIfInBounds 3 (.int .i64 u) = stC q sz M u dn := rfl
theorem stC_set4 (u : Bool) : (stC q sz M fu dn).setIfInBounds 4 (.bool u) = stC q sz M fu u := rfl
end
def burn (fu : Int) : Int := if 0 < fu then fu - 1 else -1
theorem burn_max {fu : Int} (h : -1 ≤ fu) (h0 : fu ≠ 0) : max (fu - 1) (-1) = burn fu := by unfold burn; split <;> omega
theorem burn_bd {fu : Int} (h : -1 ≤ fu ∧ fu ≤ 9223372036854775807) : -1 ≤ burn fu ∧ burn fu ≤ 9223372036854775807 := by unfold burn; split <;> omega
/-- the error of an operation that has this one, or none; what the fuse is then, and whether the power is gone -/
def endsF (why fu : Int) (dn : Bool) : Int × Int × Bool :=
  if dn = true then (9, fu, true) else if why ≠ 0 then (why, fu, false) else if fu = 0 then (9, 0, true) else (0, burn fu, false)
/-- a store's block is turned, and nothing else -/
def StP (w : World) (p : Nat) (c : Array Value) (v : Value) (e : Ending) (w' : World) : Prop := e = .returned v ∧ Box w' p c ∧ w.grownBy w' (some p) ∧ w'.heap.size = w.heap.size
theorem stP_set {w : World} {p : Nat} {c : Array Value} (h : Box w p c) (j : Nat) (u v : Value) : StP w p (c.setIfInBounds j u) v (.returned v) (w.setCell ⟨p, j, none⟩ u) :=
  ⟨rfl, h.set_same j u, grown_setCells [u] j w (World.grownBy.refl _ _), by simp [World.setCell]⟩
set_option maxRecDepth 100000 in
set_option maxHeartbeats 2000000 in
theorem spend_no (p : Nat) (q sz : Int) (M : Nat) (dn : Bool) (w : World) (hB : Box w p (stC q sz M 0 dn)) :
    Calls Try.prog 48 #[.pointer (some ⟨p, 0, none⟩)] w (StP w p (stC q sz M 0 true) (.bool false)) := by
  obtain ⟨f1, f2, f3, f4⟩ := hB.facts
  have hl := hB.lt
  have FIN := Lib.hid (stP_set hB 4 (.bool true) (.bool false))
  rw [stC_set4] at FIN
  clear hB
  go_enter Try.func48, Try.ntmps48
  go_wp2
  go_ret
  exact FIN.out
set_option maxRecDepth 100000 in
set_option maxHeartbeats 2000000 in
theorem spend_yes (p : Nat) (q sz fu : Int) (M : Nat) (dn : Bool) (w : World) (hB : Box w p (stC q sz M fu dn)) (hf : -1 ≤ fu ∧ fu ≤ 9223372036854775807) (h0 : fu ≠ 0) :
    Calls Try.prog 48 #[.pointer (some ⟨p, 0, none⟩)] w (StP w p (stC q sz M (burn fu) dn) (.bool true)) := by
  obtain ⟨f1, f2, f3, f4⟩ := hB.facts
  have hl := hB.lt
  have FIN := Lib.hid (stP_set hB 3 (.int .i64 (burn fu)) (.bool true))
  rw [stC_set3] at FIN
  have HM := Lib.hid (burn_max hf.1 h0)
  obtain ⟨hf1, hf2⟩ := hf
  have hz1 : (fu == 0) = false := by simpa using h0
  have hz3 : decide (fu = 0) = false := by simpa using h0
  clear hB h0
  go_enter Try.func48, Try.ntmps48
  go_wp2
  go_ret
  rw [HM.out]
  exact FIN.out
theorem stP_self {w : World} {p : Nat} {c : Array Value} (h : Box w p c) (v : Value) : StP w p c v (.returned v) w := ⟨rfl, h, World.grownBy.refl _ _, rfl⟩
theorem ends_down (why fu : Int) : endsF why fu true = (9, fu, true) := rfl
theorem ends_why {why : Int} (h : why ≠ 0) (fu : Int) : endsF why fu false = (why, fu, false) := by unfold endsF; rw [if_neg (by simp), if_pos h]
theorem ends_out : endsF 0 0 false = (9, 0, true) := rfl
theorem ends_go {fu : Int} (h : fu ≠ 0) : endsF 0 fu false = (0, burn fu, false) := by unfold endsF; rw [if_neg (by simp), if_neg (by simp), if_neg h]
set_option maxRecDepth 100000 in
set_option maxHeartbeats 2000000 in
theorem may_any (p : Nat) (q sz fu why : Int) (M : Nat) (dn : Bool) (w : World) (hB : Box w p (stC q sz M fu dn)) (hf : -1 ≤ fu ∧ fu ≤ 9223372036854775807) (r : Int × Int × Bool) (hr : endsF why fu dn = r) :
    Calls Try.prog 40 #[.pointer (some ⟨p, 0, none⟩), .int .i64 why] w (StP w p (stC q sz M r.2.1 r.2.2) (.int .i64 r.1)) := by
  obtain ⟨f1, f2, f3, f4⟩ := hB.facts
  have hl := hB.lt
  cases dn with
  | true =>
    rw [ends_down] at hr
    subst hr
    have FIN := Lib.hid (stP_self hB (.int .i64 9))
    clear hB hf
    go_enter Try.func40, Try.ntmps40
    go_wp2
    go_ret
    exact FIN.out
  | false =>
    by_cases hw : why = 0
    · subst hw
      by_cases h0 : fu = 0
      · subst h0
        rw [ends_out] at hr
        subst hr
        have SP := Lib.hid (spend_no p q sz M false w hB)
        clear hB hf
        go_enter Try.func40, Try.ntmps40
        go_wp2_with fail
        refine SP.out.mono ?_
        rintro e w1 ⟨rfl, hB1, hg1, hs1⟩
        have FIN := Lib.hid (show StP w p (stC q sz M 0 true) (.int .i64 9) (.returned (.int .i64 9)) w1 from ⟨rfl, hB1, hg1, hs1⟩)
        clear hB1 hg1 hs1 f1 f2 f3 f4
        go_wp2
        go_ret
        exact FIN.out
      · rw [ends_go h0] at hr
        subst hr
        have SP := Lib.hid (spend_yes p q sz fu M false w hB hf h0)
        clear hB hf h0
        go_enter Try.func40, Try.ntmps40
        go_wp2_with fail
        refine SP.out.mono ?_
        rintro e w1 ⟨rfl, hB1, hg1, hs1⟩
        have FIN := Lib.hid (show StP w p (stC q sz M (burn fu) false) (.int .i64 0) (.returned (.int .i64 0)) w1 from ⟨rfl, hB1, hg1, hs1⟩)
        clear hB1 hg1 hs1 f1 f2 f3 f4
        go_wp2
        go_ret
        exact FIN.out
    · rw [ends_why hw] at hr
      subst hr
      have FIN := Lib.hid (stP_self hB (.int .i64 why))
      have hz1 : (why == 0) = false := by simpa using hw
      have hz3 : decide (why = 0) = false := by simpa using hw
      clear hB hf hw
      go_enter Try.func40, Try.ntmps40
      go_wp2
      go_ret
      exact FIN.out
end Go.Proofs.Ytejjobbgceoljaa
