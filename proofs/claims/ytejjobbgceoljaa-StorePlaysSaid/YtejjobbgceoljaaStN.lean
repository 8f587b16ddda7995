/- The program's store: what only reads. -/
import Derived.Test.YtejjobbgceoljaaStM
set_option linter.unusedSimpArgs false
set_option linter.unusedVariables false
namespace Go.Proofs.Ytejjobbgceoljaa
open Go.RowKit

/-! ### the map's operations -/
theorem zero_pf (w : World) : (zeroValue 73).run Try.prog w = .ok (.pointer none) w := by
  cases h : Try.prog.info? 73 with
  | none => exact absurd h (by have : (Try.prog.info? 73).isSome = true := by kernel_rfl
                               intro e; rw [e] at this; cases this)
  | some i =>
    have h3 : (Try.prog.info? 73).map (·.zero) = some (some (.pointer none)) := by kernel_rfl
    rw [h] at h3
    simp at h3
    simp [zeroValue, typeInfo, h, h3]
theorem ptr_of {H : Type} {D : DataW H} {f : List UInt8 → Option Nat} (hF : MapB D f) (s : List UInt8) {v : Value} {ps : List MemPlace} (hv : blkElem v = some (D.atKey (.string s) (blkD (-1)), ps)) : v = ptrV (f s) := by
  have h2 := (hF.2 s).2 (blkD (-1))
  rw [h2] at hv
  rcases blkElem_inv hv with ⟨rfl, hz⟩ | ⟨b, rfl, hz⟩
  · cases hf : f s with
    | none => rfl
    | some c =>
      rw [hf] at hz
      injection hz with hz _
      simp only [blkD, DataW.lit.injEq, Lit.int.injEq, true_and] at hz
      omega
  · cases hf : f s with
    | none =>
      rw [hf] at hz
      injection hz with hz _
      simp only [blkD, DataW.lit.injEq, Lit.int.injEq, true_and] at hz
      omega
    | some c =>
      rw [hf] at hz
      injection hz with hz _
      simp only [blkD, DataW.lit.injEq, Lit.int.injEq, true_and] at hz
      have : b = c := by omega
      rw [this]; rfl
theorem key_of (s : List UInt8) (hs : s.length ≤ 100000) : keyOf Try.prog 9 (.string (textOf s)) = some (.string s) := WideMaps.keyOf_string_mk (P := Try.prog) Try.underlying9 (by unfold maxLen; rw [textOf_size]; omega)
section
variable {ops : Array Oper} {rest : List Oper} {o : Oper} {a : Act} {Q : Exit → Act → World → Prop} {w : World}
theorem wpList_look_ok (hg : o.guard = none) (m x : Operand) (hop : o.op = Op.lookup 60 m x true)
    (M n : Nat) (f : List UInt8 → Option Nat) (hm : a.eval m = .map (some M)) (hown : HasM w M n f) (s : List UInt8) (hs : s.length ≤ 100000) (hx : a.eval x = .string (textOf s))
    (y : Value) (ok : Bool) (hy : ptrV (f s) = y) (hok : (f s).isSome = ok) (hK : wpList Try.prog ops Q rest (a.put o.dst (.tuple #[y, .bool ok])) w) : wpList Try.prog ops Q (o :: rest) a w := by
  obtain ⟨D, h1, h2, _⟩ := hown
  refine wpList_lookup_own_ok w hg m x 60 hop 9 73 keyedS Try.underlying60 blkElem (zero_pf w) (blkD (-1)) [] blkElem_none M n D hm h1 _ (.string s) hx (key_of s hs) ?_
  intro v ps hv
  rw [ptr_of h2 s hv, (h2.2 s).1, hy, hok]
  exact hK
theorem run_look (M n : Nat) (f : List UInt8 → Option Nat) (hown : HasM w M n f) (s : List UInt8) (hs : s.length ≤ 100000) :
    (Instr.lookup 60 (.map (some M)) (.string (textOf s)) false).run Try.prog w = .ok (ptrV (f s)) w := by
  obtain ⟨D, h1, h2, _⟩ := hown
  obtain ⟨v, ps, hrun, hv⟩ := h1.lookup keyedS Try.underlying60 (zero_pf w) blkElem_none (key_of s hs)
  rw [hrun, ptr_of h2 s hv]
theorem wpList_look (hg : o.guard = none) (m x : Operand) (hop : o.op = Op.lookup 60 m x false)
    (M n : Nat) (f : List UInt8 → Option Nat) (hm : a.eval m = .map (some M)) (hown : HasM w M n f) (s : List UInt8) (hs : s.length ≤ 100000) (hx : a.eval x = .string (textOf s))
    (y : Value) (hy : ptrV (f s) = y) (hK : wpList Try.prog ops Q rest (a.put o.dst y) w) : wpList Try.prog ops Q (o :: rest) a w := by
  refine wpList_plain hg fun K' hK' => ?_
  have hrun := run_look M n f hown s hs
  rw [hy] at hrun
  unfold Oper.wp
  simp [execOp, hop, hm, hx, hrun, Result.andThen]
  exact hK' _ _ hK
end

/-! ### small ones -/
theorem look_whyAt {l : List Pl} {L : List Fi} (hL : l.map Pl.x = L) (s : List UInt8) : (lookP l s = none ∧ whyAt L s = 5 ∧ lookF L s = none ∧ atP l s = none) ∨ ∃ r, lookP l s = some r ∧ whyAt L s = 0 ∧ lookF L s = some r.x ∧ atP l s = some r.fb ∧ r ∈ l := by
  unfold whyAt atP
  rw [← hL, look_map]
  cases h : lookP l s with
  | none => exact .inl ⟨rfl, rfl, rfl, rfl⟩
  | some r => exact .inr ⟨r, rfl, rfl, rfl, rfl, List.mem_of_find?_eq_some h⟩
set_option maxRecDepth 100000 in
theorem there_any (F : List Nat) (p : Nat) (q fu : Int) (dn : Bool) (L : List Fi) (s : List UInt8) (w : World) (hS : PgS F w p q L fu dn) (hs : s.length ≤ 100000) :
    Calls Try.prog 35 #[.pointer (some ⟨p, 0, none⟩), .string (textOf s)] w fun e w' => e = .returned (.int .i64 (whyAt L s)) ∧ w = w' := by
  obtain ⟨M, l, h1, h2, h3, h4, h5, h6, h7, h8⟩ := hS
  obtain ⟨f1, f2, f3, f4⟩ := h4.facts
  have HM := Lib.hid h5
  rcases look_whyAt h1 s with ⟨_, hw, _, ha⟩ | ⟨r, _, hw, _, ha, _⟩
  · rw [hw]
    have HY := Lib.hid (show ptrV (atP l s) = .pointer none by rw [ha]; rfl)
    clear h2 h3 h4 h5 h6 h7 h8 h1 hw ha
    go_enter Try.func35, Try.ntmps35
    go_wp2_with (at_lookup; refine wpList_look rfl _ _ rfl M _ _ rfl HM.out s hs rfl _ HY.out ?_)
    go_ret
    exact ⟨rfl, rfl⟩
  · rw [hw]
    have HY := Lib.hid (show ptrV (atP l s) = .pointer (some ⟨r.fb, 0, none⟩) by rw [ha]; rfl)
    clear h2 h3 h4 h5 h6 h7 h8 h1 hw ha
    go_enter Try.func35, Try.ntmps35
    go_wp2_with (at_lookup; refine wpList_look rfl _ _ rfl M _ _ rfl HM.out s hs rfl _ HY.out ?_)
    go_ret
    exact ⟨rfl, rfl⟩
set_option maxRecDepth 100000 in
theorem size_any (F : List Nat) (p : Nat) (q fu : Int) (dn : Bool) (L : List Fi) (w : World) (hS : PgS F w p q L fu dn) :
    Calls Try.prog 23 #[.pointer (some ⟨p, 0, none⟩)] w fun e w' => e = .returned (.int .i64 (sumF L : Nat)) ∧ w = w' := by
  obtain ⟨M, l, h1, h2, h3, h4, h5, h6, h7, h8⟩ := hS
  obtain ⟨f1, f2, f3, f4⟩ := h4.facts
  clear h2 h3 h4 h5 h6 h7 h8 h1
  go_enter Try.func23, Try.ntmps23
  go_wp2
  go_ret
  exact ⟨rfl, rfl⟩
set_option maxRecDepth 100000 in
theorem down_any (F : List Nat) (p : Nat) (q fu : Int) (dn : Bool) (L : List Fi) (w : World) (hS : PgS F w p q L fu dn) :
    Calls Try.prog 20 #[.pointer (some ⟨p, 0, none⟩)] w fun e w' => e = .returned (.bool dn) ∧ w = w' := by
  obtain ⟨M, l, h1, h2, h3, h4, h5, h6, h7, h8⟩ := hS
  obtain ⟨f1, f2, f3, f4⟩ := h4.facts
  clear h2 h3 h4 h5 h6 h7 h8 h1
  go_enter Try.func20, Try.ntmps20
  go_wp2
  go_ret
  exact ⟨rfl, rfl⟩
/-- the store's own block has turned -/
theorem PgS.box {F : List Nat} {w w' : World} {p : Nat} {q : Int} {L : List Fi} {fu fu' : Int} {dn dn' : Bool} (hS : PgS F w p q L fu dn) (hf : -1 ≤ fu' ∧ fu' ≤ 9223372036854775807)
    (hB : ∀ M, Box w p (stC q (sumF L) M fu dn) → Box w' p (stC q (sumF L) M fu' dn')) (hg : w.grownBy w' (some p)) : PgS F w' p q L fu' dn' ∧ Frm F w w' := by
  obtain ⟨M, l, h1, h2, h3, h4, h5, h6, h7, h8⟩ := hS
  subst h2
  have hlt : ∀ g ∈ M :: feet l, w'.heap[g]? = w.heap[g]? := fun g hg' => by
    refine hg.block g ?_ (fun e => ?_)
    · rcases List.mem_cons.1 hg' with rfl | hm
      · exact h5.lt
      · obtain ⟨r, hr, hm⟩ := List.mem_flatMap.1 hm
        exact (h6 r hr).lt g hm
    · injection e with e
      subst e
      exact (List.nodup_cons.1 h3).1 hg'
  exact ⟨⟨M, l, h1, rfl, h3, hB M h4, h5.agree (hlt M (by simp)), fun r hr => (h6 r hr).agree fun g hg' => hlt g (List.mem_cons_of_mem _ (List.mem_flatMap.2 ⟨r, hr, hg'⟩)), h7, hf⟩,
    Frm.of_grown hg (fun k hk => .inl (by injection hk with hk; simp [hk]))⟩
set_option maxRecDepth 100000 in
theorem fuse_any (F : List Nat) (p : Nat) (q fu : Int) (dn : Bool) (L : List Fi) (k : Int) (w : World) (hS : PgS F w p q L fu dn) (hk : -9223372036854775808 ≤ k ∧ k ≤ 9223372036854775807) :
    Calls Try.prog 24 #[.pointer (some ⟨p, 0, none⟩), .int .i64 k] w (PgP F w p q L (max k (-1)) dn (.tuple #[])) := by
  have HS := Lib.hid hS
  obtain ⟨M, l, h1, h2, h3, h4, h5, h6, h7, h8⟩ := hS
  have hl := h4.lt
  obtain ⟨f1, f2, f3, f4⟩ := h4.facts
  clear h2 h3 h4 h5 h6 h7 h8 h1
  go_enter Try.func24, Try.ntmps24
  go_wp2
  go_end0
  obtain ⟨g1, g2⟩ := HS.out.box (w' := w.setCell ⟨p, 3, none⟩ (.int .i64 (max k (-1)))) (fu' := max k (-1)) (dn' := dn) (by omega) (fun M h => by
    have := h.set_same 3 (.int .i64 (max k (-1))); rwa [stC_set3] at this) (grown_setCells [.int .i64 (max k (-1))] 3 w (World.grownBy.refl _ _))
  exact ⟨rfl, F, g1, g2, fun b hb => .inl hb⟩
end Go.Proofs.Ytejjobbgceoljaa
