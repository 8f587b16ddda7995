/- The program's store: New, Synced, Read; bytes.Clone. -/
import Derived.Test.YtejjobbgceoljaaStN
set_option linter.unusedSimpArgs false
set_option linter.unusedVariables false
namespace Go.Proofs.Ytejjobbgceoljaa
open Go.RowKit

/-! ### literals -/
theorem infoSt : ∃ i : TypeInfo, Try.prog.info? 62 = some i ∧ i.zero = some (.agg #[.int .i64 0, .int .i64 0, .map none, .int .i64 0, .bool false]) := by
  cases h : Try.prog.info? 62 with
  | none => exact absurd h (by have : (Try.prog.info? 62).isSome = true := by kernel_rfl
                               intro e; rw [e] at this; cases this)
  | some i =>
    have h3 : (Try.prog.info? 62).map (·.zero) = some (some (.agg #[.int .i64 0, .int .i64 0, .map none, .int .i64 0, .bool false])) := by kernel_rfl
    rw [h] at h3
    simp at h3
    exact ⟨i, rfl, h3⟩
theorem places_st (w : World) (fs : Array Field) (h : Try.prog.underlying 62 = some (.struct fs)) : (Array.mapM (fun f => Prod.mk f.offset <$> sizeOf f.type) fs : Sem (Array (Nat × Nat))).run Try.prog w = .ok #[(0, 1), (1, 1), (2, 1), (3, 1), (4, 1)] w := by
  have e := Try.underlying62
  rw [h] at e
  cases e
  show _ = _
  kernel_rfl
def mkSt (ps : Array (Nat × Value)) : Sem Value := Instr.build 62 ps
@[go_sem ↓] theorem mkSt_is (ps : Array (Nat × Value)) : Instr.build 62 ps = mkSt ps := rfl
@[go_sem] theorem run_mkSt (w : World) (q fu : Int) (M : Nat) : (mkSt #[(0, .int .i64 q), (2, .map (some M)), (3, .int .i64 fu)]).run Try.prog w = .ok (.agg (stC q 0 M fu false)) w := by
  obtain ⟨i0, hi0, hz0⟩ := infoSt
  exact run_build w _ _ i0 #[.int .i64 0, .int .i64 0, .map none, .int .i64 0, .bool false] _ _ _ Try.underlying62 hi0 hz0 (places_st w _ Try.underlying62) rfl
theorem infoPf : ∃ i : TypeInfo, Try.prog.info? 72 = some i ∧ i.zero = some (.agg (fbC none 0 0 0)) := by
  cases h : Try.prog.info? 72 with
  | none => exact absurd h (by have : (Try.prog.info? 72).isSome = true := by kernel_rfl
                               intro e; rw [e] at this; cases this)
  | some i =>
    have h3 : (Try.prog.info? 72).map (·.zero) = some (some (.agg (fbC none 0 0 0))) := by kernel_rfl
    rw [h] at h3
    simp at h3
    exact ⟨i, rfl, h3⟩
theorem places_pf (w : World) (fs : Array Field) (h : Try.prog.underlying 72 = some (.struct fs)) : (Array.mapM (fun f => Prod.mk f.offset <$> sizeOf f.type) fs : Sem (Array (Nat × Nat))).run Try.prog w = .ok #[(0, 1), (1, 1)] w := by
  have e := Try.underlying72
  rw [h] at e
  cases e
  show _ = _
  kernel_rfl
def mkPf (ps : Array (Nat × Value)) : Sem Value := Instr.build 72 ps
@[go_sem ↓] theorem mkPf_is (ps : Array (Nat × Value)) : Instr.build 72 ps = mkPf ps := rfl
@[go_sem] theorem run_mkPf (w : World) : (mkPf #[]).run Try.prog w = .ok (.agg (fbC none 0 0 0)) w := by
  obtain ⟨i0, hi0, hz0⟩ := infoPf
  exact run_build w _ _ i0 (fbC none 0 0 0) _ _ _ Try.underlying72 hi0 hz0 (places_pf w _ Try.underlying72) rfl
theorem infoU8 : ∃ i : TypeInfo, Try.prog.info? 5 = some i ∧ i.zero = some (.int .u8 0) ∧ i.size = 1 ∧ i.bytes ≤ 16 := by
  cases h : Try.prog.info? 5 with
  | none => exact absurd h (by have : (Try.prog.info? 5).isSome = true := by kernel_rfl
                               intro e; rw [e] at this; cases this)
  | some i =>
    have h1 : (Try.prog.info? 5).map (·.size) = some 1 := by kernel_rfl
    have h2 : (Try.prog.info? 5).map (fun i => decide (i.bytes ≤ 16)) = some true := by kernel_rfl
    have h3 : (Try.prog.info? 5).map (·.zero) = some (some (.int .u8 0)) := by kernel_rfl
    rw [h] at h1 h2 h3
    simp at h1 h2 h3
    exact ⟨i, rfl, h3, h1, h2⟩
theorem RdR.toB {w : World} {B n : Nat} {A : Option Addr} {l : List UInt8} (h : RdY w B A n l) : RdB w B A n l := by
  have e : (l.flatMap fun x => (u8A x).toList) = l.map bv := by
    clear h
    induction l with
    | nil => rfl
    | cons x l ih => rw [List.flatMap_cons, ih]; rfl
  have := h.2.1
  rwa [e] at this
theorem RdB.of_own {w : World} {base n c : Nat} {e : TypeId} {A : Option Addr} {l : List UInt8} (h : w.ownsRow base e 1 (.slice A n c) n (l.map bv)) : RdB w w.heap.size A n l := Rd.of_own h

/-- bytes are answered, in memory of the call's own -/
def ClY (w : World) (n : Nat) (l : List UInt8) (e : Ending) (w' : World) : Prop :=
  ∃ A c, e = .returned (.slice A n c) ∧ w'.ownsRow w.heap.size 5 1 (.slice A n c) n (l.map bv) ∧ Below w.heap.size w w'
set_option maxRecDepth 100000 in
theorem cloneY_any (l : List UInt8) (A : Option Addr) (n c : Nat) (w : World) (hR : RdB w w.heap.size A n l) (hn : n ≤ 1073741824) :
    Calls Try.prog 36 #[.slice A n c] w (ClY w n l) := by
  have hll := hR.len
  cases A with
  | some a =>
    have hnil : ∀ W : World, (binOp .eql 32 (.slice (some a) n c) (.slice none 0 0)).run Try.prog W = .ok (.bool false) W := fun W => by
      simp only [binOp]
      simp [run_equal_slice_nil, Try.underlying32]
    obtain ⟨i0, hi0, hz0, hz1, hzb⟩ := infoU8
    have hz2 : (Value.int .u8 0).cells.size = 1 := rfl
    have O1 := Lib.hid (show (w.alloc (.cells #[] 5)).ownsRow w.heap.size 5 1 (.slice (some ⟨w.heap.size, 0, none⟩) 0 0) 0 [] from World.ownsRow_lit w #[] 0 (Nat.le_refl _) (by unfold maxLen; omega) rfl)
    have O2 := Lib.hid (hR.alloc (Nat.le_refl _) (.cells #[] 5))
    have H63 := Lib.hid (show 0 + n ≤ maxLen by unfold maxLen; omega)
    have HBY := Lib.hid (show (0 + n) * i0.bytes ≤ 140737488355328 from Nat.le_trans (Nat.mul_le_mul (show 0 + n ≤ 1073741824 by omega) hzb) (by omega))
    have O3 := Lib.hid (show w.heap.size ≤ (w.alloc (.cells #[] 5)).heap.size by simp)
    have ON := Lib.hid (bvs_one l)
    clear hR hll
    go_enter Try.func36, Try.ntmps36
    go_wp2_with (at_builtin; refine wpList_app_rd _ rfl (.tmp 5) (.tmp 6) _ rfl w.heap.size 5 i0 (.int .u8 0) 1 i0.bytes Try.underlying32 hi0 hz0 hz1 rfl hz2 (Nat.succ_pos _) (.slice (some ⟨w.heap.size, 0, none⟩) 0 0) 0 [] rfl O1.out w.heap.size (some a) n c (l.map bv) rfl O2.out ON.out H63.out HBY.out O3.out ?_; intro v1 w1 hown1 hg1 hat1)
    obtain ⟨A', c', hv, _, _⟩ := own_form hown1
    subst hv
    simp only [Nat.zero_add, List.nil_append] at hown1
    have hb := gb_below ((Below.refl w.heap.size w).alloc (Nat.le_refl _) (.cells #[] 5)) hg1 (Nat.le_refl _) O3.out
    go_wp2
    go_ret
    exact ⟨A', c', by simp, hown1, hb⟩
  | none =>
    have h0 : n = 0 := by
      rcases Nat.eq_zero_or_pos n with h0 | h0
      · exact h0
      · obtain ⟨a, ha, _⟩ := hR.2 h0; cases ha
    subst h0
    have hl : l = [] := List.eq_nil_of_length_eq_zero hll
    subst hl
    have hnil : ∀ W : World, (binOp .eql 32 (.slice none 0 c) (.slice none 0 0)).run Try.prog W = .ok (.bool true) W := fun W => by
      simp only [binOp]
      simp [run_equal_slice_nil, Try.underlying32]
    have FIN := Lib.hid (show ClY w 0 [] (.returned (.slice none 0 0)) w from ⟨none, 0, rfl, World.ownsRow_nil _ _ _ _, Below.refl _ _⟩)
    clear hR hll
    go_enter Try.func36, Try.ntmps36
    go_wp2
    go_ret
    exact FIN.out
/-! ### New -/
theorem run_makeMap {P : Program} {t k e : TypeId} (hu : P.underlying t = some (.map k e)) (w : World) : (Instr.makeMap t none).run P w = .ok (.map (some w.heap.size)) (w.alloc (.map #[] 0)) := by
  simp [Instr.makeMap, run_underlying hu, Result.andThen]
def NewP (w : World) (q : Int) (e : Ending) (w' : World) : Prop :=
  ∃ p F, e = .returned (.tuple #[.pointer (some ⟨p, 0, none⟩), .int .i64 0]) ∧ PgS F w' p q [] (-1) false ∧ Below w.heap.size w w' ∧ ∀ b ∈ F, w.heap.size ≤ b
set_option maxRecDepth 100000 in
theorem new_any (q : Int) (w : World) (hq : 1 ≤ q ∧ q ≤ 1073741824) : Calls Try.prog 11 #[.int .i64 q] w (NewP w q) := by
  obtain ⟨q1, q2⟩ := hq
  have hmk := run_makeMap Try.underlying60
  go_enter Try.func11, Try.ntmps11
  go_wp2
  go_ret2
  refine ⟨_, _, rfl, ⟨w.heap.size, [], rfl, rfl, by simp [feet], Box.new1 w _ _ _, (HasM.new w).agree (Below.heap_alloc _ _ _ (by simp)), fun r hr => (by cases hr), ⟨List.Pairwise.nil, fun x hx => (by cases hx), by simp [sumF]; omega, q1, q2⟩, by omega⟩, ((Below.refl w.heap.size w).alloc (Nat.le_refl _) _).alloc (by simp) _, ?_⟩
  intro b hb
  simp [feet] at hb
  omega
set_option maxRecDepth 100000 in
theorem new_no (q : Int) (w : World) (hq : q < 1 ∨ 1073741824 < q) : Calls Try.prog 11 #[.int .i64 q] w fun e w' => e = .returned (.tuple #[.pointer none, .int .i64 1]) ∧ w = w' := by
  by_cases h1 : q < 1
  · go_enter Try.func11, Try.ntmps11
    go_wp2
    go_ret2
    exact ⟨rfl, rfl⟩
  · have h2 : 1073741824 < q := by omega
    go_enter Try.func11, Try.ntmps11
    go_wp2
    go_ret2
    exact ⟨rfl, rfl⟩
/-! ### Synced, Read -/
def synV (L : List Fi) (s : List UInt8) : Int × Bool := match lookF L s with | some x => (x.syn, true) | none => (0, false)
theorem syn_no {L : List Fi} {s : List UInt8} (h : lookF L s = none) : synV L s = (0, false) := by unfold synV; rw [h]
theorem syn_yes {L : List Fi} {s : List UInt8} {x : Fi} (h : lookF L s = some x) : synV L s = (x.syn, true) := by unfold synV; rw [h]
set_option maxRecDepth 100000 in
theorem synced_any (F : List Nat) (p : Nat) (q fu : Int) (dn : Bool) (L : List Fi) (s : List UInt8) (w : World) (hS : PgS F w p q L fu dn) (hs : s.length ≤ 100000) :
    Calls Try.prog 18 #[.pointer (some ⟨p, 0, none⟩), .string (textOf s)] w fun e w' => e = .returned (.tuple #[.int .i64 (synV L s).1, .bool (synV L s).2]) ∧ w = w' := by
  obtain ⟨M, l, h1, h2, h3, h4, h5, h6, h7, h8⟩ := hS
  obtain ⟨f1, f2, f3, f4⟩ := h4.facts
  have HM := Lib.hid h5
  rcases look_whyAt h1 s with ⟨_, _, hw, ha⟩ | ⟨r, _, _, hw, ha, hr⟩
  · rw [syn_no hw]
    have HY := Lib.hid (show ptrV (atP l s) = .pointer none by rw [ha]; rfl)
    have HO := Lib.hid (show (atP l s).isSome = false by rw [ha]; rfl)
    clear h2 h3 h4 h5 h6 h7 h8 h1 hw ha
    go_enter Try.func18, Try.ntmps18
    go_wp2_with (at_lookup; refine wpList_look_ok rfl _ _ rfl M _ _ rfl HM.out s hs rfl _ _ HY.out HO.out ?_)
    go_ret2
    exact ⟨rfl, rfl⟩
  · rw [syn_yes hw]
    have HY := Lib.hid (show ptrV (atP l s) = .pointer (some ⟨r.fb, 0, none⟩) by rw [ha]; rfl)
    have HO := Lib.hid (show (atP l s).isSome = true by rw [ha]; rfl)
    obtain ⟨g1, g2, g3, g4⟩ := (h6 r hr).1.facts
    clear h2 h3 h4 h5 h6 h7 h8 h1 hw ha hr
    go_enter Try.func18, Try.ntmps18
    go_wp2_with (at_lookup; refine wpList_look_ok rfl _ _ rfl M _ _ rfl HM.out s hs rfl _ _ HY.out HO.out ?_)
    go_ret2
    exact ⟨rfl, rfl⟩
/-- the bytes, and the error -/
def readV (L : List Fi) (s : List UInt8) (dn : Bool) : List UInt8 × Int := if dn = true then ([], 9) else match lookF L s with | some x => (x.b, 0) | none => ([], 5)
def ReadP (w : World) (r : List UInt8 × Int) (e : Ending) (w' : World) : Prop :=
  ∃ A c, e = .returned (.tuple #[.slice A r.1.length c, .int .i64 r.2]) ∧ w'.ownsRow w.heap.size 5 1 (.slice A r.1.length c) r.1.length (r.1.map bv) ∧ Below w.heap.size w w'
theorem sumF_mem {L : List Fi} {x : Fi} (h : x ∈ L) : x.b.length ≤ sumF L := by
  induction L with
  | nil => cases h
  | cons y L ih =>
    rw [sumF_cons]
    rcases List.mem_cons.1 h with rfl | h
    · omega
    · have := ih h; omega
set_option maxRecDepth 100000 in
theorem read_any (F : List Nat) (p : Nat) (q fu : Int) (dn : Bool) (L : List Fi) (s : List UInt8) (w : World) (hS : PgS F w p q L fu dn) (hs : s.length ≤ 100000) :
    Calls Try.prog 16 #[.pointer (some ⟨p, 0, none⟩), .string (textOf s)] w (ReadP w (readV L s dn)) := by
  have TH := Lib.hid (there_any F p q fu dn L s w hS hs)
  obtain ⟨M, l, h1, h2, h3, h4, h5, h6, h7, h8⟩ := hS
  obtain ⟨f1, f2, f3, f4⟩ := h4.facts
  have HM := Lib.hid h5
  cases dn with
  | true =>
    have FIN := Lib.hid (show ReadP w (readV L s true) (.returned (.tuple #[.slice none 0 0, .int .i64 9])) w from ⟨none, 0, rfl, World.ownsRow_nil _ _ _ _, Below.refl _ _⟩)
    clear h2 h3 h4 h5 h6 h7 h8 h1
    go_enter Try.func16, Try.ntmps16
    go_wp2
    go_ret2
    exact FIN.out
  | false =>
    rcases look_whyAt h1 s with ⟨_, hw0, hw, ha⟩ | ⟨r, _, hw0, hw, ha, hr⟩
    · have FIN := Lib.hid (show ReadP w (readV L s false) (.returned (.tuple #[.slice none 0 0, .int .i64 5])) w by
        unfold readV; rw [if_neg (by simp), hw]
        exact ⟨none, 0, rfl, World.ownsRow_nil _ _ _ _, Below.refl _ _⟩)
      rw [hw0] at TH
      clear h2 h3 h4 h5 h6 h7 h8 h1 hw hw0 ha
      go_enter Try.func16, Try.ntmps16
      go_wp2_with fail
      refine TH.out.mono ?_
      rintro e w1 ⟨rfl, rfl⟩
      go_wp2
      go_ret2
      exact FIN.out
    · have HY := Lib.hid (show ptrV (atP l s) = .pointer (some ⟨r.fb, 0, none⟩) by rw [ha]; rfl)
      rw [hw0] at TH
      obtain ⟨g1, g2, g3, g4⟩ := (h6 r hr).1.facts
      have hsm : r.x.b.length ≤ 1073741824 := by
        have : r.x.b.length ≤ sumF L := sumF_mem (by rw [← h1]; exact List.mem_map.2 ⟨r, hr, rfl⟩)
        have h9 := h7.2.2
        omega
      have CL := Lib.hid (cloneY_any r.x.b r.A r.x.b.length r.c w (RdB.of_own (h6 r hr).2) hsm)
      have RV := Lib.hid (show readV L s false = (r.x.b, 0) by unfold readV; rw [if_neg (by simp), hw])
      clear h2 h3 h4 h5 h6 h7 h8 h1 hw hw0 ha hr hsm
      go_enter Try.func16, Try.ntmps16
      go_wp2_with fail
      refine TH.out.mono ?_
      rintro e w1 ⟨rfl, rfl⟩
      go_wp2_with (first | (at_lookup; refine wpList_look rfl _ _ rfl M _ _ rfl HM.out s hs rfl _ HY.out ?_) | (go_at_call 36; refine CL.out.mono ?_; rintro e w1 ⟨A1, c1, rfl, ho, hb⟩; have HO := Lib.hid ho; have HB := Lib.hid hb; clear ho hb))
      go_ret2
      rw [RV.out]
      exact ⟨A1, c1, rfl, HO.out, HB.out⟩
end Go.Proofs.Ytejjobbgceoljaa
