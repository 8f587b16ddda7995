/- The document's store in memory: its own cells; ends, Find, Size. -/
import Derived.Test.YtejjobbgceoljaaStC
import Derived.Test.YtejjobbgceoljaaApp
set_option linter.unusedSimpArgs false
set_option linter.unusedVariables false
namespace Go.Proofs.Ytejjobbgceoljaa
open Go.RowKit

/-- the cells of the document's store: Quota, L, Fuse, Down -/
def rfC (q : Int) (A : Option Addr) (n c : Nat) (fu : Int) (dn : Bool) : Array Value := #[.int .i64 q, .slice A n c, .int .i64 fu, .bool dn]
section
variable (q fu : Int) (A : Option Addr) (n c : Nat) (dn : Bool)
@[go_sem] theorem rfC_0 : (rfC q A n c fu dn)[0]? = some (.int .i64 q) := rfl
@[go_sem] theorem rfC_1 : (rfC q A n c fu dn)[1]? = some (.slice A n c) := rfl
@[go_sem] theorem rfC_2 : (rfC q A n c fu dn)[2]? = some (.int .i64 fu) := rfl
@[go_sem] theorem rfC_3 : (rfC q A n c fu dn)[3]? = some (.bool dn) := rfl
theorem rfC_set1 (B : Option Addr) (k d : Nat) : (rfC q A n c fu dn).setIfInBounds 1 (.slice B k d) = rfC q B k d fu dn := rfl
theorem rfC_set2 (u : Int) : (rfC q A n c fu dn).setIfInBounds 2 (.int .i64 u) = rfC q A n c u dn := rfl
theorem rfC_set3 (u : Bool) : (rfC q A n c fu dn).setIfInBounds 3 (.bool u) = rfC q A n c fu u := rfl
end
set_option maxRecDepth 100000 in
set_option maxHeartbeats 2000000 in
theorem ends_any (p : Nat) (q fu why : Int) (A : Option Addr) (n c : Nat) (dn : Bool) (w : World) (hB : Box w p (rfC q A n c fu dn)) (hf : -1 ≤ fu ∧ fu ≤ 9223372036854775807) (r : Int × Int × Bool) (hr : endsF why fu dn = r) :
    Calls Try.prog 42 #[.pointer (some ⟨p, 0, none⟩), .int .i64 why] w (StP w p (rfC q A n c r.2.1 r.2.2) (.int .i64 r.1)) := by
  obtain ⟨f1, f2, f3, f4⟩ := hB.facts
  have hl := hB.lt
  obtain ⟨hf1, hf2⟩ := hf
  cases dn with
  | true =>
    rw [ends_down] at hr
    subst hr
    have FIN := Lib.hid (stP_self hB (.int .i64 9))
    clear hB
    go_enter Try.func42, Try.ntmps42
    go_wp2
    go_ret
    exact FIN.out
  | false =>
    by_cases hw : why = 0
    · subst hw
      rcases (show fu = 0 ∨ 0 < fu ∨ fu = -1 by omega) with h0 | h0 | h0
      · subst h0
        rw [ends_out] at hr
        subst hr
        have FIN := Lib.hid (stP_set hB 3 (.bool true) (.int .i64 9))
        rw [rfC_set3] at FIN
        clear hB
        go_enter Try.func42, Try.ntmps42
        go_wp2
        go_ret
        exact FIN.out
      · rw [ends_go (by omega)] at hr
        subst hr
        have FIN := Lib.hid (stP_set hB 2 (.int .i64 (fu - 1)) (.int .i64 0))
        rw [rfC_set2, show fu - 1 = burn fu by unfold burn; rw [if_pos h0]] at FIN
        have HBU := Lib.hid (show fu - 1 = burn fu by unfold burn; rw [if_pos h0])
        have hz1 : (fu == 0) = false := by simp; omega
        have hz3 : decide (fu = 0) = false := by simp; omega
        have hz4 : decide (0 < fu) = true := decide_eq_true h0
        clear hB h0
        go_enter Try.func42, Try.ntmps42
        go_wp2
        go_ret
        rw [HBU.out]
        exact FIN.out
      · subst h0
        rw [ends_go (by omega)] at hr
        subst hr
        have FIN := Lib.hid (stP_self hB (.int .i64 0))
        clear hB
        go_enter Try.func42, Try.ntmps42
        go_wp2
        go_ret
        exact FIN.out
    · rw [ends_why hw] at hr
      subst hr
      have FIN := Lib.hid (stP_self hB (.int .i64 why))
      have hz1 : (why == 0) = false := by simpa using hw
      have hz2 : (why != 0) = true := by simpa using hw
      have hz3 : decide (why = 0) = false := by simpa using hw
      clear hB hw
      go_enter Try.func42, Try.ntmps42
      go_wp2
      go_ret
      exact FIN.out
/-! ### the files of the document's store, read -/
abbrev RdF := RdR Fi.arr 3
theorem RdR.fi {W : World} {B n : Nat} {A : Option Addr} {l : List Fi} {k : Nat} (h : RdF W B A n l) (hk : k < n) : ∃ b o, A = some ⟨b, o, none⟩ ∧ b < B ∧ Has W b (o + k * 3) 3 ∧ cellsAt W b (o + k * 3) 3 = (l.getD k noFi).arr ∧
    W.cell? ⟨b, o + k * 3, none⟩ = some (.string (textOf (l.getD k noFi).name)) ∧ W.cell? ⟨b, o + k * 3 + 1, none⟩ = some (.string (textOf (l.getD k noFi).b)) ∧ W.cell? ⟨b, o + k * 3 + 2, none⟩ = some (.int .i64 (l.getD k noFi).syn) := by
  obtain ⟨b, o, hA, hb, hc⟩ := RdR.cell Fi.arr_size noFi h hk
  obtain ⟨h1, h2⟩ := cellsAt_eq (Fi.arr_size _) hc
  exact ⟨b, o, hA, hb, h1, h2, by have := hc 0 (by omega); rwa [Nat.add_zero] at this, hc 1 (by omega), hc 2 (by omega)⟩
def atF (L : List Fi) (s : List UInt8) : Int := match L.findIdx? (fun x => x.name == s) with | some i => (i : Nat) | none => -1
theorem atF_at {L : List Fi} {s : List UInt8} {i : Nat} (hi : i < L.length) (h : (L.getD i noFi).name = s) (hno : ∀ k, k < i → (L.getD k noFi).name ≠ s) : atF L s = i := by
  have : L.findIdx? (fun x => x.name == s) = some i := by
    rw [List.findIdx?_eq_some_iff_getElem]
    refine ⟨hi, ?_, fun j hj => ?_⟩
    · rw [List.getD_eq_getElem?_getD, List.getElem?_eq_getElem hi, Option.getD_some] at h
      simpa using h
    · have := hno j hj
      rw [List.getD_eq_getElem?_getD, List.getElem?_eq_getElem (by omega), Option.getD_some] at this
      simpa using this
  unfold atF; rw [this]
theorem atF_no {L : List Fi} {s : List UInt8} (hno : ∀ k, k < L.length → (L.getD k noFi).name ≠ s) : atF L s = -1 := by
  have : L.findIdx? (fun x => x.name == s) = none := by
    rw [List.findIdx?_eq_none_iff]
    intro x hx
    obtain ⟨i, hi, rfl⟩ := List.mem_iff_getElem.1 hx
    have := hno i hi
    rw [List.getD_eq_getElem?_getD, List.getElem?_eq_getElem hi, Option.getD_some] at this
    simpa using this
  unfold atF; rw [this]
set_option maxRecDepth 100000 in
set_option maxHeartbeats 2000000 in
theorem find_any (p : Nat) (q fu : Int) (A : Option Addr) (n c : Nat) (dn : Bool) (L : List Fi) (s : List UInt8) (w : World) (hB : Box w p (rfC q A n c fu dn)) (hR : RdF w w.heap.size A n L) (hn : n ≤ 100000) :
    Calls Try.prog 19 #[.pointer (some ⟨p, 0, none⟩), .string (textOf s)] w fun e w' => e = .returned (.int .i64 (atF L s)) ∧ Below w.heap.size w w' := by
  obtain ⟨f1, f2, f3, f4⟩ := hB.facts
  have hl := hB.lt
  have HB0 := Lib.hid hB
  have HR := Lib.hid hR
  have HN := Lib.hid hR.1
  clear hB hR f1 f2 f3 f4
  go_enter Try.func19, Try.ntmps19
  go_wp2
  go_loopw [5] (fun s3 wr => ∃ i : Nat, i ≤ n ∧ s3 = .int .i64 i ∧ (∀ k, k < i → (L.getD k noFi).name ≠ s) ∧ Below w.heap.size w wr) (fun s3 _ => n - (intOf s3).toNat)
  case atStart => exact ⟨0, by omega, rfl, fun k hk => by omega, Below.refl _ _⟩
  case round =>
    obtain ⟨i, hin, rfl, hno, hb⟩ := hrel
    have HNO := Lib.hid hno
    have HB := Lib.hid hb
    obtain ⟨f1, f2, f3, f4⟩ := (HB0.out.below hb hl).facts
    clear hno hb
    by_cases hlt : i < n
    · have hi : (i : Int) < n := by omega
      obtain ⟨b, o, rfl, hbb, hh, hcl, hc0, _, _⟩ := (HR.out.below HB.out).fi hlt
      obtain ⟨x, hx⟩ : ∃ x, x = L.getD i noFi := ⟨_, rfl⟩
      rw [← hx] at hcl hc0
      have HX := Lib.hid hx
      clear hx hbb
      by_cases hq : x.name = s
      · have hbq : (x.name == s) = true := by rw [hq]; simp
        have HPOS := Lib.hid (atF_at (by rw [HN.out]; exact hlt) (by rw [← HX.out]; exact hq) HNO.out)
        clear hq
        go_wp2
        go_ret
        exact ⟨by rw [HPOS.out]; rfl, by first | exact HB.out | exact below_drewN HB.out _⟩
      · have hbq : (x.name == s) = false := by simpa using hq
        have HQ := Lib.hid hq
        clear hq
        go_wp2
        go_roundw
        case rel => exact ⟨i + 1, by omega, by go_num, fun k hk => by
          by_cases hki : k = i
          · rw [hki, ← HX.out]; exact HQ.out
          · exact HNO.out k (by omega), by first | exact HB.out | exact below_drewN HB.out _⟩
        case measure => simp [intOf] <;> omega
    · obtain rfl : i = n := by omega
      have hd : decide ((i : Int) < i) = false := by simp
      have HPOS := Lib.hid (atF_no (L := L) (s := s) (fun k hk => HNO.out k (by rw [← HN.out]; exact hk)))
      go_wp2
      go_ret
      exact ⟨by rw [HPOS.out]; rfl, HB.out⟩
end Go.Proofs.Ytejjobbgceoljaa
