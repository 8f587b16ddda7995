/- What bytes are laid with: a writer, and a backend's bytes. -/
import Derived.Test.YtmpemeemlhmaaaaGreatQ18
import Derived.Deep.RegionHeld3
import Derived.BigQuiet
set_option linter.unusedSimpArgs false
set_option linter.unusedVariables false
set_option maxRecDepth 100000
namespace Go.Proofs.YtmpemeemlhmaaaaGreat
open Go.RowKit

/-! ### a writer -/
def wrC (A : Option Addr) (n c : Nat) : Array Value := #[.slice A n c, .int .i64 1048576, .int .i64 0]
@[go_sem] theorem wrC_csize (A : Option Addr) (n c : Nat) : csize (wrC A n c) = 3 := rfl
@[go_sem] theorem wrC_0 (A : Option Addr) (n c : Nat) : (wrC A n c)[0]? = some (.slice A n c) := rfl
@[go_sem] theorem wrC_1 (A : Option Addr) (n c : Nat) : (wrC A n c)[1]? = some (.int .i64 1048576) := rfl
@[go_sem] theorem wrC_2 (A : Option Addr) (n c : Nat) : (wrC A n c)[2]? = some (.int .i64 0) := rfl
theorem wrC_set (A : Option Addr) (n c : Nat) (A2 : Option Addr) (n2 c2 : Nat) : (wrC A n c).setIfInBounds 0 (.slice A2 n2 c2) = wrC A2 n2 c2 := rfl
/-- at p lies a writer that holds bs; since w0 nothing turned but it, and the row that it had then -/
structure Wr (B p : Nat) (g0 : Option Nat) (w0 : World) (bs : List UInt8) (W : World) : Prop where
  ex : ∃ A n c, Box W p (wrC A n c) ∧ Ow B (Value.slice A n c).ownBlock W (.slice A n c) bs W ∧ (Value.slice A n c).ownBlock ≠ some p ∧ ((Value.slice A n c).ownBlock = g0 ∨ ∃ k, (Value.slice A n c).ownBlock = some k ∧ w0.heap.size ≤ k)
  fr : Frm (p :: g0.toList) w0 W
  hp : p < w0.heap.size
section
variable {B p : Nat} {g0 : Option Nat} {w0 W W' : World} {bs : List UInt8}
theorem Wr.go (h : Wr B p g0 w0 bs W) (hb : Below W.heap.size W W') : Wr B p g0 w0 bs W' := by
  obtain ⟨A, n, c, h1, h2, h3, h4⟩ := h.ex
  exact ⟨⟨A, n, c, h1.go hb, (h2.go hb).base, h3, h4⟩, h.fr.below hb h.fr.size, h.hp⟩
theorem Wr.drewN (h : Wr B p g0 w0 bs W) (k : Nat) : Wr B p g0 w0 bs (W.drewN k) := by
  obtain ⟨A, n, c, h1, h2, h3, h4⟩ := h.ex
  exact ⟨⟨A, n, c, h1.drewN k, (h2.drewN k).base, h3, h4⟩, h.fr.drewN k, h.hp⟩
theorem Wr.drew (h : Wr B p g0 w0 bs W) : Wr B p g0 w0 bs W.drew := h.drewN 1
theorem Wr.box {q : Nat} {c : Array Value} (h : Wr B p g0 w0 bs W) (hb : Box w0 q c) (h1 : q ≠ p) (h2 : some q ≠ g0) : Box W q c :=
  h.fr.box hb (by rw [List.mem_cons]; rintro (e | e); exact h1 e; exact h2 (by cases g0 with | none => simp at e | some k => simp at e; rw [e]))
/-- the same, told from a later world on, in which nothing else turned since -/
theorem Wr.base (h : Wr B p g0 w0 bs W) (hb : Below W.heap.size W W') : ∃ g1, Wr B p g1 W' bs W' ∧ (∀ k, g1 = some k → B ≤ k ∧ k < W.heap.size) ∧ (∀ W2 ys, Wr B p g1 W' ys W2 → Wr B p g0 w0 ys W2) := by
  obtain ⟨A, n, c, h1, h2, h3, h4⟩ := h.ex
  refine ⟨(Value.slice A n c).ownBlock, ⟨⟨A, n, c, h1.go hb, (h2.go hb).base, h3, .inl rfl⟩, Frm.refl _ _, (h1.go hb).lt⟩, fun k hk => h2.own.lt k hk, fun W2 ys k => ?_⟩
  obtain ⟨A2, n2, c2, k1, k2, k3, k4⟩ := k.ex
  have hsz : w0.heap.size ≤ W'.heap.size := Nat.le_trans h.fr.size hb.size
  refine ⟨⟨A2, n2, c2, k1, k2, k3, ?_⟩, (h.fr.below hb h.fr.size).trans k.fr (fun g hg => ?_), h.hp⟩
  · rcases k4 with e | ⟨j, e, e2⟩
    · rw [e]; exact h4
    · exact .inr ⟨j, e, by omega⟩
  · rw [List.mem_cons] at hg ⊢
    rcases hg with e | e
    · exact .inl (.inl e)
    · cases ho : (Value.slice A n c).ownBlock with
      | none => rw [ho] at e; simp at e
      | some k =>
        rw [ho] at e
        simp at e
        subst e
        rcases h4 with h4 | ⟨j, h4, h5⟩
        · rw [ho] at h4; rw [← h4]; exact .inl (.inr (by simp))
        · rw [ho] at h4; injection h4 with h4; rw [h4]; exact .inr h5
end
/-- nothing is answered, and the writer holds bs -/
def WrP (B p : Nat) (g0 : Option Nat) (w0 : World) (bs : List UInt8) (e : Ending) (W : World) : Prop := e = .returned (.tuple #[]) ∧ Wr B p g0 w0 bs W
theorem WrP.mk' {B p : Nat} {g0 : Option Nat} {w0 W : World} {bs : List UInt8} (h : Wr B p g0 w0 bs W) : WrP B p g0 w0 bs (.returned (.tuple #[])) W := ⟨rfl, h⟩
/-- behind an append, and the store of what it answered -/
theorem Wr.put {B p : Nat} {g0 : Option Nat} {w0 W W1 : World} {ys : List UInt8} {A A2 : Option Addr} {n c n2 c2 : Nat} (hB : Box W p (wrC A n c)) (h3 : (Value.slice A n c).ownBlock ≠ some p) (h4 : (Value.slice A n c).ownBlock = g0 ∨ ∃ k, (Value.slice A n c).ownBlock = some k ∧ w0.heap.size ≤ k)
    (fr : Frm (p :: g0.toList) w0 W) (hp : p < w0.heap.size) (k : Ow B (Value.slice A n c).ownBlock W (.slice A2 n2 c2) ys W1) : Wr B p g0 w0 ys (W1.setCell ⟨p, 0, none⟩ (.slice A2 n2 c2)) := by
  have hpW : p < W.heap.size := hB.lt
  have hne : (Value.slice A2 n2 c2).ownBlock ≠ some p := by
    rcases k.blk with e | ⟨j, e, e2⟩
    · rw [e]; exact h3
    · rw [e]; intro e3; injection e3 with e3; omega
  have hb1 := k.box hB (fun e => h3 e.symm)
  refine ⟨⟨A2, n2, c2, hb1.set_same 0 _, Ow.of_own (own_set_ne k.own (p := ⟨p, 0, none⟩) hne _) (by simpa [World.setCell] using k.size), hne, ?_⟩, ?_, hp⟩
  · rcases k.blk with e | ⟨j, e, e2⟩
    · rw [e]; exact h4
    · exact .inr ⟨j, e, Nat.le_trans fr.size e2⟩
  · refine (fr.grown k.gr (fun j hj => ?_)).set _ _ (.inl (by simp))
    rcases h4 with h4 | ⟨i, h4, h5⟩
    · left; rw [List.mem_cons]; right; rw [← h4, hj]; simp
    · right; rw [h4] at hj; injection hj with hj; omega
set_option maxRecDepth 100000 in
set_option maxHeartbeats 2000000 in
theorem wrBytes_any (B p : Nat) (g0 : Option Nat) (w0 : World) (bs ys : List UInt8) (C : Nat) (A : Option Addr) (n c : Nat) (w : World) (h : Wr B p g0 w0 bs w) (hr : RdB w C A n ys) (hlen : bs.length + n ≤ 1048576) :
    Calls Tryz.prog 152 #[.pointer (some ⟨p, 0, none⟩), .slice A n c] w (WrP B p g0 w0 (bs ++ ys)) := by
  obtain ⟨A0, n0, c0, h1, h2, h3, h4⟩ := h.ex
  have hn0 : n0 = bs.length := by obtain ⟨A', c', e⟩ := h2.form; injection e
  obtain ⟨f1, f2, f3, f4⟩ := h1.facts
  have hl := h1.lt
  have HR := Lib.hid hr
  have HH := Lib.hid h2
  have FIN := Lib.hid (show ∀ A2 n2 c2 W1, Ow B (Value.slice A0 n0 c0).ownBlock w (.slice A2 n2 c2) (bs ++ ys) W1 → Wr B p g0 w0 (bs ++ ys) (W1.setCell ⟨p, 0, none⟩ (.slice A2 n2 c2)) from fun A2 n2 c2 W1 k => Wr.put h1 h3 h4 h.fr h.hp k)
  have FB := Lib.hid (show ∀ A2 n2 c2 W1, Ow B (Value.slice A0 n0 c0).ownBlock w (.slice A2 n2 c2) (bs ++ ys) W1 → Box W1 p (wrC A0 n0 c0) from fun A2 n2 c2 W1 k => k.box h1 (fun e => h3 e.symm))
  have HN := Lib.hid hlen
  have hng : ¬ (1048576 - (n0 : Int) < (n : Int)) := by omega
  have hd : decide (1048576 - (n0 : Int) < (n : Int)) = false := by simpa using hng
  have hn0b : n0 ≤ 1048576 := by omega
  clear h h1 h2 h3 h4 hr hn0 hlen
  go_enter Tryz.func152, Tryz.ntmps152
  go_wp2_with fail
  go_quiet (fail)
  go_wp2_with (at_builtin; go_loud (refine wpList_ow rfl (.tmp 36) (.tmp 37) rfl rfl (HH.out.drewN _) rfl (HR.out.drewN _) (by have := HN.out; omega) ?_; intro A2 n2 c2 w2 h2 h3; have O2 := Lib.hid h2; obtain ⟨y1, y2, y3, y4⟩ := (FB.out _ _ _ _ h2).facts; have hl2 := (FB.out _ _ _ _ h2).lt; clear h2 h3))
  go_end0
  exact .mk' (FIN.out _ _ _ _ O2.out)
/-! ### Num -/
theorem octPut_rd (n k : Nat) (hk : k ≤ 8) (hn : n < 18446744073709551616) (w : World) :
    Calls Tryz.prog 84 #[.int .u64 n, .int .i64 k, .bool true] w fun e w' => ∃ A, e = .returned (.slice A k k) ∧ RdB w' w'.heap.size A k (numPut n k true) ∧ Below w.heap.size w w' := by
  refine (put_low n k hk hn true w).mono ?_
  rintro e w' ⟨rfl, hr, hb⟩
  refine ⟨_, rfl, ?_, hb⟩
  have hlen : (numPut n k true).length = k := by simp [numPut, lowPut]
  have := RdB.of_rowIs (c := 0) (l := numPut n k true) hr (by rw [hlen]; omega) hr.lt (fun j hj => rfl)
  rwa [hlen] at this
set_option maxRecDepth 100000 in
set_option maxHeartbeats 2000000 in
theorem wrNum_any (B p : Nat) (g0 : Option Nat) (w0 : World) (bs : List UInt8) (n k : Nat) (w : World) (h : Wr B p g0 w0 bs w) (h1 : 1 ≤ k) (hk : k ≤ 8) (hn : n < 18446744073709551616) (hlen : bs.length + k ≤ 1048576) :
    Calls Tryz.prog 153 #[.pointer (some ⟨p, 0, none⟩), .int .u64 n, .int .i64 k, .bool true] w (WrP B p g0 w0 (bs ++ numPut n k true)) := by
  obtain ⟨A0, n0, c0, b1, b2, b3, b4⟩ := h.ex
  obtain ⟨f1, f2, f3, f4⟩ := b1.facts
  have hl := b1.lt
  have OP := Lib.hid (octPut_rd n k hk hn w)
  have HH := Lib.hid h
  have HN := Lib.hid hlen
  have g1 : ¬ (k : Int) < 1 := by omega
  have g2 : ¬ (8 : Int) < k := by omega
  clear h b1 b2 b3 b4 hlen
  go_enter Tryz.func153, Tryz.ntmps153
  go_wp2_with fail
  refine OP.out.mono ?_
  rintro e w1 ⟨A1, rfl, hr, hb⟩
  have BY := Lib.hid (wrBytes_any B p g0 w0 bs _ _ A1 k k w1 (HH.out.go hb) hr HN.out)
  clear hr hb
  go_wp2_with fail
  refine BY.out.mono ?_
  rintro e w2 ⟨rfl, hw⟩
  have FIN := Lib.hid hw
  clear hw
  go_wp2
  go_end0
  exact .mk' FIN.out
/-! ### Text -/

def mkSlcs (n : Nat) (ps : Array (Nat × Value)) : Sem Value := Instr.buildSlice 184 n ps
@[go_sem ↓] theorem mkSlcs_is (n : Nat) (ps : Array (Nat × Value)) : Instr.buildSlice 184 n ps = mkSlcs n ps := rfl
theorem infoSlc : ∃ i : TypeInfo, Tryz.prog.info? 32 = some i ∧ i.zero = some (.slice none 0 0) ∧ i.size = 1 := by
  cases h : Tryz.prog.info? 32 with
  | none => exact absurd h (by have : (Tryz.prog.info? 32).isSome = true := by kernel_rfl
                               intro e; rw [e] at this; cases this)
  | some i =>
    have h1 : (Tryz.prog.info? 32).map (·.size) = some 1 := by kernel_rfl
    have h3 : (Tryz.prog.info? 32).map (·.zero) = some (some (.slice none 0 0)) := by kernel_rfl
    rw [h] at h1 h3
    simp at h1 h3
    exact ⟨i, rfl, h3, h1⟩
def slcsC (l : List Slc) : Array Value := (l.map fun x => Value.slice x.A x.n x.c).toArray
theorem range5 : Array.range 5 = #[0, 1, 2, 3, 4] := by apply Array.ext'; rw [Array.toList_range]; rfl
@[go_sem] theorem run_mkSlcs2 (w : World) (A B : Option Addr) (a b c d : Nat) : (mkSlcs 2 #[(0, .slice A a b), (1, .slice B c d)]).run Tryz.prog w = .ok (.slice (some ⟨w.heap.size, 0, none⟩) 2 2) (w.alloc (.cells (slcsC [⟨A, a, b⟩, ⟨B, c, d⟩]) 32)) := by
  obtain ⟨i0, hi0, hz0, hz1⟩ := infoSlc
  simp [mkSlcs, Instr.buildSlice, run_underlying Tryz.underlying184, zeroValue, sizeOf, typeInfo, hi0, hz0, hz1, Instr.fill, newRow, slcsC, Value.cells, range2]
@[go_sem] theorem run_mkSlcs5 (w : World) (A0 A1 A2 A3 A4 : Option Addr) (n0 n1 n2 n3 n4 c0 c1 c2 c3 c4 : Nat) : (mkSlcs 5 #[(0, .slice A0 n0 c0), (1, .slice A1 n1 c1), (2, .slice A2 n2 c2), (3, .slice A3 n3 c3), (4, .slice A4 n4 c4)]).run Tryz.prog w = .ok (.slice (some ⟨w.heap.size, 0, none⟩) 5 5) (w.alloc (.cells (slcsC [⟨A0, n0, c0⟩, ⟨A1, n1, c1⟩, ⟨A2, n2, c2⟩, ⟨A3, n3, c3⟩, ⟨A4, n4, c4⟩]) 32)) := by
  obtain ⟨i0, hi0, hz0, hz1⟩ := infoSlc
  simp [mkSlcs, Instr.buildSlice, run_underlying Tryz.underlying184, zeroValue, sizeOf, typeInfo, hi0, hz0, hz1, Instr.fill, newRow, slcsC, Value.cells, range5]
theorem RdS.lit (w : World) (l : List Slc) (t : TypeId) : RdS (w.alloc (.cells (slcsC l) t)) (w.alloc (.cells (slcsC l) t)).heap.size (some ⟨w.heap.size, 0, none⟩) l.length l := by
  have hf : (l.flatMap fun x => (slcA x).toList) = l.map (fun x => Value.slice x.A x.n x.c) := by induction l with
    | nil => rfl
    | cons z l ih => simp only [List.flatMap_cons, ih]; rfl
  refine ⟨rfl, ⟨by rw [hf]; simp, fun _ => ⟨_, rfl, by simp, ?_⟩⟩, fun a h _ => by injection h with h; rw [← h]⟩
  intro j v hv
  rw [hf] at hv
  rw [Addr.add_mid, Nat.zero_add]
  have := cell_new w (slcsC l) t j
  rw [this]
  simpa [slcsC] using hv
theorem Held.cons {w : World} {B : Nat} {x : Slc} {l : List Slc} {ys : List UInt8} {bss : List (List UInt8)} (h : RdB w B x.A x.n ys) (k : Held w B l bss) : Held w B (x :: l) (ys :: bss) := by
  refine ⟨by simp [k.1], fun i hi => ?_⟩
  cases i with
  | zero => exact h
  | succ i => exact k.2 i (by simpa using hi)
theorem Held.nil {w : World} {B : Nat} : Held w B [] [] := ⟨rfl, fun i hi => by simp at hi⟩
/-- slices of a literal that was just made -/
theorem concat_lit (l : List Slc) (bss : List (List UInt8)) (t : TypeId) (n : Nat) (w : World) (hn : l.length = n) (hH : Held w w.heap.size l bss) (h1 : n ≤ 1000) (hs : sumS l ≤ 1000000000) :
    Calls Tryz.prog 85 #[.slice (some ⟨w.heap.size, 0, none⟩) n n] (w.alloc (.cells (slcsC l) t)) fun e w' => ∃ A m c, e = .returned (.slice A m c) ∧ m = bss.flatten.length ∧ RdB w' w'.heap.size A m bss.flatten ∧ w'.ownsRow (w.heap.size + 1) 5 1 (.slice A m c) m (bss.flatten.map bv) ∧ Below w.heap.size w w' := by
  subst hn
  refine (concat_any l bss _ _ _ _ (RdS.lit w l t) ⟨hH.1, fun i hi => ((hH.2 i hi).alloc (Nat.le_refl _) _).more (by simp)⟩ h1 hs).mono ?_
  rintro e w' ⟨v, rfl, ho, hb⟩
  obtain ⟨A, c, rfl, _, _⟩ := own_form ho
  exact ⟨A, _, c, rfl, rfl, RdB.of_own ho, by simpa using ho, call1 (Below.refl _ _) hb⟩
set_option maxRecDepth 100000 in
set_option maxHeartbeats 2000000 in
theorem wrText_any (B p : Nat) (g0 : Option Nat) (w0 : World) (bs s : List UInt8) (A : Option Addr) (n c : Nat) (w : World) (h : Wr B p g0 w0 bs w) (hr : RdB w w.heap.size A n s) (hlen : bs.length + n + 10 ≤ 1048576) :
    Calls Tryz.prog 150 #[.pointer (some ⟨p, 0, none⟩), .slice A n c] w (WrP B p g0 w0 (bs ++ textB s)) := by
  have HH := Lib.hid h
  have HR := Lib.hid hr
  have HL := Lib.hid hr.len
  have HN := Lib.hid hlen
  have hcv : IntKind.u64.wrap (n : Int) = (n : Int) := by rw [IntKind.wrap_u64]; omega
  have VP := Lib.hid (varPut_any n (by omega) w)
  clear h hr hlen
  go_enter Tryz.func150, Tryz.ntmps150
  go_wp2_with fail
  refine VP.out.mono ?_
  rintro e w1 ⟨u, rfl, ho, hb⟩
  obtain ⟨A1, c1, rfl, _, _⟩ := own_form ho
  have R1 := Lib.hid (RdB.of_own ho)
  have W1 := Lib.hid (HH.out.go hb)
  obtain ⟨m, hm⟩ : ∃ m, (varB n).length = m := ⟨_, rfl⟩
  have HM := Lib.hid (show m ≤ 10 by have := varB_len n; omega)
  rw [hm] at R1 ⊢
  have CC := Lib.hid (concat_lit [⟨A1, m, c1⟩, ⟨A, n, c⟩] [varB n, s] 32 2 w1 rfl (.cons R1.out (.cons ((HR.out.to hb (Nat.le_refl _)).more hb.size) .nil)) (by omega) (by have := HN.out; have := HM.out; simp [sumS]; omega))
  have HE := Lib.hid (show [varB n, s].flatten = textB s by have := HL.out; simp [textB, this])
  rw [HE.out] at CC
  clear hm ho hb
  go_wp2_with fail
  refine CC.out.mono ?_
  rintro e w2 ⟨A2, m2, c2, rfl, hm2, hr2, _, hb2⟩
  have BY := Lib.hid (wrBytes_any B p g0 w0 bs _ _ A2 m2 c2 w2 (W1.out.go hb2) hr2 (by have := HN.out; have := HL.out; have := varB_len n; rw [hm2]; simp only [textB, List.length_append, this]; rw [HL.out]; omega))
  clear hm2 hr2 hb2
  go_wp2_with fail
  refine BY.out.mono ?_
  rintro e w3 ⟨rfl, hw⟩
  have FIN := Lib.hid hw
  clear hw
  go_wp2
  go_end0
  exact .mk' FIN.out
end Go.Proofs.YtmpemeemlhmaaaaGreat

namespace Go.Proofs.YtmpemeemlhmaaaaGreat
open Go.RowKit

theorem eWithin_any (n m : Int) (w : World) : Calls Tryz.prog 149 #[.int .i64 n, .int .i64 m] w fun e w' => e = .returned (.bool (inN n m)) ∧ w = w' := by
  by_cases h1 : 0 ≤ n
  · by_cases h2 : n ≤ m
    · go_enter Tryz.func149, Tryz.ntmps149
      go_wp2
      go_ret
      exact ⟨by simp [inN, h1, h2], rfl⟩
    · go_enter Tryz.func149, Tryz.ntmps149
      go_wp2
      go_ret
      exact ⟨by simp [inN, h1, h2], rfl⟩
  · go_enter Tryz.func149, Tryz.ntmps149
    go_wp2
    go_ret
    exact ⟨by simp [inN, h1] <;> omega, rfl⟩
def okTold (x : Bk) : Prop := x.name.length ≤ 255 ∧ 0 ≤ x.port ∧ x.port ≤ 65535
set_option maxRecDepth 100000 in
theorem told_any (x : Bk) (h : okTold x) (w : World) : Calls Tryz.prog 120 #[.agg x.arr] w fun e w' => e = .returned (.bool true) ∧ Below w.heap.size w w' := by
  obtain ⟨h1, h2, h3⟩ := h
  have hz := text_size x.name
  have hle : (x.name.length : Int) ≤ 255 := by omega
  have WI := Lib.hid (fun W => eWithin_any x.port 65535 W)
  have HI := Lib.hid (show inN x.port 65535 = true by simp [inN]; omega)
  rw [HI.out] at WI
  have FIN := Lib.hid ((Below.refl w.heap.size w).alloc (Nat.le_refl _) (.cells x.arr 60))
  clear h1 h2 h3
  go_enter Tryz.func120, Tryz.ntmps120
  go_wp2_with fail
  refine (WI.out _).mono ?_
  rintro e w1 ⟨rfl, rfl⟩
  go_wp2
  go_ret
  exact ⟨rfl, FIN.out⟩
/-- a text's bytes in a world of their own -/
theorem text_rd (w : World) (s : List UInt8) : RdB (textWorld w 5 s) (textWorld w 5 s).heap.size (some ⟨w.heap.size, 0, none⟩) s.length s ∧ Below w.heap.size w (textWorld w 5 s) :=
  ⟨(textWorld_reads w _ s).more (by unfold textWorld; rw [Lib.bytesWorld_size]; omega), textWorld_below w _ s⟩
/-! ### laid -/
def laC (p : Nat) : Array Value := #[.pointer (some ⟨p, 0, none⟩)]
@[go_sem] theorem laC_csize (p : Nat) : csize (laC p) = 1 := by unfold csize laC; simp
@[go_sem] theorem laC_0 (p : Nat) : (laC p)[0]? = some (.pointer (some ⟨p, 0, none⟩)) := rfl
@[go_sem] theorem laC_all (p : Nat) : (laC p).extract 0 1 = laC p := by simp [laC]
@[go_sem] theorem laC_agg (p : Nat) : Value.agg #[.pointer (some ⟨p, 0, none⟩)] = Value.agg (laC p) := rfl
@[go_sem] theorem laC_z : csize #[Value.pointer none] = 1 := by simp [csize]
def loadLa (v : Value) : Sem Value := Instr.loadAt 180 v
def storeLa (v x : Value) : Sem Unit := Instr.storeAt 180 v x
@[go_sem ↓] theorem loadLa_is (v : Value) : Instr.loadAt 180 v = loadLa v := rfl
@[go_sem ↓] theorem storeLa_is (v x : Value) : Instr.storeAt 180 v x = storeLa v x := rfl
@[go_sem] theorem load_la (W : World) (b o : Nat) (h : Has W b o 1) : (loadLa (.pointer (some ⟨b, o, none⟩))).run Tryz.prog W = .ok (.agg (cellsAt W b o 1)) W :=
  run_loadAt_has W b o 1 _ _ Tryz.underlying180 rfl (by kernel_rfl) h
theorem laC_one (p : Nat) : (laC p).all (·.oneCell') = true := by simp [laC, Value.oneCell']
@[go_sem] theorem store_la_new (W : World) (c : Array Value) (p : Nat) (b : Nat) (hb : b = W.heap.size) (hc : csize c = 1) :
    (storeLa (.pointer (some ⟨b, 0, none⟩)) (.agg (laC p))).run Tryz.prog (W.alloc (.cells c 180)) = .ok () (W.alloc (.cells (laC p) 180)) := by
  subst hb; exact run_storeAt_new W _ c (laC p) (by kernel_rfl) hc (laC_one p)
theorem infoLa : ∃ i : TypeInfo, Tryz.prog.info? 180 = some i ∧ i.zero = some (.agg #[.pointer none]) := by
  cases h : Tryz.prog.info? 180 with
  | none => exact absurd h (by have : (Tryz.prog.info? 180).isSome = true := by kernel_rfl
                               intro e; rw [e] at this; cases this)
  | some i =>
    have h3 : (Tryz.prog.info? 180).map (·.zero) = some (some (.agg #[.pointer none])) := by kernel_rfl
    rw [h] at h3
    simp at h3
    exact ⟨i, rfl, h3⟩
theorem places_la (w : World) (fs : Array Field) (h : Tryz.prog.underlying 180 = some (.struct fs)) : (Array.mapM (fun f => Prod.mk f.offset <$> sizeOf f.type) fs : Sem (Array (Nat × Nat))).run Tryz.prog w = .ok #[(0, 1)] w := by
  have e := Tryz.underlying180
  rw [h] at e
  cases e
  show _ = _
  kernel_rfl

def mkLa (ps : Array (Nat × Value)) : Sem Value := Instr.build 180 ps
@[go_sem ↓] theorem mkLa_is (ps : Array (Nat × Value)) : Instr.build 180 ps = mkLa ps := rfl
@[go_sem] theorem run_mkLa (w : World) (p : Nat) : (mkLa #[(0, .pointer (some ⟨p, 0, none⟩))]).run Tryz.prog w = .ok (.agg (laC p)) w := by
  obtain ⟨i0, hi0, hz0⟩ := infoLa
  exact run_build w _ _ i0 #[.pointer none] _ _ _ Tryz.underlying180 hi0 hz0 (places_la w _ Tryz.underlying180) rfl
theorem infoWr : ∃ i : TypeInfo, Tryz.prog.info? 198 = some i ∧ i.zero = some (.agg #[.slice none 0 0, .int .i64 0, .int .i64 0]) := by
  cases h : Tryz.prog.info? 198 with
  | none => exact absurd h (by have : (Tryz.prog.info? 198).isSome = true := by kernel_rfl
                               intro e; rw [e] at this; cases this)
  | some i =>
    have h3 : (Tryz.prog.info? 198).map (·.zero) = some (some (.agg #[.slice none 0 0, .int .i64 0, .int .i64 0])) := by kernel_rfl
    rw [h] at h3
    simp at h3
    exact ⟨i, rfl, h3⟩
theorem places_wr (w : World) (fs : Array Field) (h : Tryz.prog.underlying 198 = some (.struct fs)) : (Array.mapM (fun f => Prod.mk f.offset <$> sizeOf f.type) fs : Sem (Array (Nat × Nat))).run Tryz.prog w = .ok #[(0, 1), (1, 1), (2, 1)] w := by
  have e := Tryz.underlying198
  rw [h] at e
  cases e
  show _ = _
  kernel_rfl

def mkWr (ps : Array (Nat × Value)) : Sem Value := Instr.build 198 ps
@[go_sem ↓] theorem mkWr_is (ps : Array (Nat × Value)) : Instr.build 198 ps = mkWr ps := rfl
@[go_sem] theorem run_mkWr (w : World) : (mkWr #[(1, .int .i64 1048576)]).run Tryz.prog w = .ok (.agg (wrC none 0 0)) w := by
  obtain ⟨i0, hi0, hz0⟩ := infoWr
  exact run_build w _ _ i0 #[.slice none 0 0, .int .i64 0, .int .i64 0] _ _ _ Tryz.underlying198 hi0 hz0 (places_wr w _ Tryz.underlying198) rfl
set_option maxRecDepth 100000 in
set_option maxHeartbeats 2000000 in
theorem laFlag_any (B p : Nat) (g0 : Option Nat) (w0 : World) (bs : List UInt8) (b : Bool) (w : World) (h : Wr B p g0 w0 bs w) (hlen : bs.length + 1 ≤ 1048576) :
    Calls Tryz.prog 151 #[.agg (laC p), .bool b] w (WrP B p g0 w0 (bs ++ flagB b)) := by
  have hb := (Below.refl w.heap.size w).alloc (Nat.le_refl _) (.cells (laC p) 180)
  have NU := Lib.hid (wrNum_any B p g0 w0 bs (if b then 1 else 0) 1 _ (h.go hb) (by omega) (by omega) (by cases b <;> decide) hlen)
  have HE := Lib.hid (show numPut (if b then 1 else 0) 1 true = flagB b by cases b <;> rfl)
  rw [HE.out] at NU
  clear hb h hlen
  cases b
  all_goals
    go_enter Tryz.func151, Tryz.ntmps151
    go_wp2_with fail
    refine NU.out.mono ?_
    rintro e w2 ⟨rfl, hw⟩
    have FIN := Lib.hid hw
    clear hw
    go_wp2
    go_end0
    exact .mk' FIN.out
/-! ### a backend's bytes -/
/-- what lies in the boxes of backend -/
structure Lst2 (B p q : Nat) (g0 : Option Nat) (x : Bk) (w0 : World) (bs : List UInt8) (W : World) : Prop where
  wr : Wr B p g0 w0 bs W
  b1 : Box w0 q (laC p)
  b2 : Box w0 (q + 1) x.arr
  p1 : p < q
  g1 : ∀ k, g0 = some k → k < q
section
variable {B p q : Nat} {g0 : Option Nat} {x : Bk} {w0 W W' : World} {bs bs' : List UInt8}
theorem Lst2.bx1 (h : Lst2 B p q g0 x w0 bs W) : Box W q (laC p) := h.wr.box h.b1 (by have := h.p1; omega) (fun e => by have := h.g1 q e.symm; omega)
theorem Lst2.bx2 (h : Lst2 B p q g0 x w0 bs W) : Box W (q + 1) x.arr := h.wr.box h.b2 (by have := h.p1; omega) (fun e => by have := h.g1 (q + 1) e.symm; omega)
theorem Lst2.cell0 (h : Lst2 B p q g0 x w0 bs W) : W.cell? ⟨q, 0, none⟩ = some (.pointer (some ⟨p, 0, none⟩)) := by rw [h.bx1.facts.1]; rfl
theorem Lst2.cellw (h : Lst2 B p q g0 x w0 bs W) : W.cell? ⟨q + 1, 25, none⟩ = some (.float .f64 x.w) := by rw [h.bx2.facts.1, Bk.arr_25]; rfl
theorem Lst2.cells2 (h : Lst2 B p q g0 x w0 bs W) : W.cell? ⟨q, 0, none⟩ = some (.pointer (some ⟨p, 0, none⟩)) ∧ W.cell? ⟨q + 1, 25, none⟩ = some (.float .f64 x.w) := ⟨h.cell0, h.cellw⟩
theorem Lst2.go (h : Lst2 B p q g0 x w0 bs W) (hb : Below W.heap.size W W') : Lst2 B p q g0 x w0 bs W' := ⟨h.wr.go hb, h.b1, h.b2, h.p1, h.g1⟩
theorem Lst2.to (h : Lst2 B p q g0 x w0 bs W) (k : Wr B p g0 w0 bs' W') : Lst2 B p q g0 x w0 bs' W' := ⟨k, h.b1, h.b2, h.p1, h.g1⟩
theorem Lst2.drew (h : Lst2 B p q g0 x w0 bs W) : Lst2 B p q g0 x w0 bs W.drew := ⟨h.wr.drew, h.b1, h.b2, h.p1, h.g1⟩
theorem Lst2.drewN (h : Lst2 B p q g0 x w0 bs W) (k : Nat) : Lst2 B p q g0 x w0 bs (W.drewN k) := ⟨h.wr.drewN k, h.b1, h.b2, h.p1, h.g1⟩
theorem Lst2.rdB (h : Lst2 B p q g0 x w0 bs W) : RdB W W.heap.size (some ⟨q + 1, 2, none⟩) 16 x.addr.b.toList := by
  refine ⟨by simp, fun _ => ⟨_, rfl, h.bx2.lt, fun j u hu => ?_⟩⟩
  have hj : j < 16 := by
    rcases Nat.lt_or_ge j 16 with hj | hj
    · exact hj
    · rw [List.getElem?_eq_none (by simp; omega)] at hu; cases hu
  rw [Addr.add_mid, h.bx2.facts.1, Nat.add_comm 2 j, Bk.arr_b x j hj, ← hu]
  simp [List.getD_eq_getElem?_getD, hj]
theorem Lst2.rdM (h : Lst2 B p q g0 x w0 bs W) : RdB W W.heap.size (some ⟨q + 1, 19, none⟩) 6 x.mac.toList := by
  refine ⟨by simp, fun _ => ⟨_, rfl, h.bx2.lt, fun j u hu => ?_⟩⟩
  have hj : j < 6 := by
    rcases Nat.lt_or_ge j 6 with hj | hj
    · exact hj
    · rw [List.getElem?_eq_none (by simp; omega)] at hu; cases hu
  rw [Addr.add_mid, h.bx2.facts.1, Nat.add_comm 19 j, Bk.arr_m x j hj, ← hu]
  simp [List.getD_eq_getElem?_getD, hj]
end
/-- a backend's bytes, as many as laid so far -/
def bkP (x : Bk) : Nat → List UInt8
  | 0 => []
  | 1 => textB x.name
  | 2 => textB x.name ++ flagB x.addr.six
  | 3 => (textB x.name ++ flagB x.addr.six) ++ x.addr.b.toList
  | 4 => ((textB x.name ++ flagB x.addr.six) ++ x.addr.b.toList) ++ numPut x.port.toNat 2 true
  | 5 => (((textB x.name ++ flagB x.addr.six) ++ x.addr.b.toList) ++ numPut x.port.toNat 2 true) ++ x.mac.toList
  | 6 => ((((textB x.name ++ flagB x.addr.six) ++ x.addr.b.toList) ++ numPut x.port.toNat 2 true) ++ x.mac.toList) ++ wPut x.w
  | _ => (((((textB x.name ++ flagB x.addr.six) ++ x.addr.b.toList) ++ numPut x.port.toNat 2 true) ++ x.mac.toList) ++ wPut x.w) ++ flagB x.drain
theorem bkP_all (x : Bk) : bkP x 7 = bkB x := by simp [bkP, bkB]
theorem numPut_len (n k : Nat) (big : Bool) : (numPut n k big).length = k := by cases big <;> simp [numPut, lowPut]
theorem bkB_len (x : Bk) : (bkB x).length ≤ x.name.length + 44 := by
  have := varB_len x.name.length
  simp [bkB, textB, flagB, numPut_len, wPut_len]
  omega
theorem bkP_len (x : Bk) (h : x.name.length ≤ 255) (i : Nat) (hi : i ≤ 7) : (bkP x i).length ≤ 400 := by
  have := varB_len x.name.length
  rcases (show i = 0 ∨ i = 1 ∨ i = 2 ∨ i = 3 ∨ i = 4 ∨ i = 5 ∨ i = 6 ∨ i = 7 by omega) with rfl | rfl | rfl | rfl | rfl | rfl | rfl | rfl <;> simp [bkP, textB, flagB, numPut_len, wPut_len] <;> omega
theorem lb2 (B p q : Nat) (g0 : Option Nat) (x : Bk) (w0 W : World) (h : Lst2 B p q g0 x w0 (bkP x 2) W) (ht : okTold x) : Calls Tryz.prog 152 #[.pointer (some ⟨p, 0, none⟩), .slice (some ⟨q + 1, 2, none⟩) 16 16] W (WrP B p g0 w0 (bkP x 3)) :=
  wrBytes_any B p g0 w0 (bkP x 2) _ _ _ 16 16 W h.wr h.rdB (by have := bkP_len x ht.1 2 (by omega); omega)
theorem lb4 (B p q : Nat) (g0 : Option Nat) (x : Bk) (w0 W : World) (h : Lst2 B p q g0 x w0 (bkP x 4) W) (ht : okTold x) : Calls Tryz.prog 152 #[.pointer (some ⟨p, 0, none⟩), .slice (some ⟨q + 1, 19, none⟩) 6 6] W (WrP B p g0 w0 (bkP x 5)) :=
  wrBytes_any B p g0 w0 (bkP x 4) _ _ _ 6 6 W h.wr h.rdM (by have := bkP_len x ht.1 4 (by omega); omega)
theorem lb5 (B p q : Nat) (g0 : Option Nat) (x : Bk) (w0 W : World) (A : Option Addr) (h : Lst2 B p q g0 x w0 (bkP x 5) W) (ht : okTold x) (hr : RdB W W.heap.size A 8 (wPut x.w)) : Calls Tryz.prog 152 #[.pointer (some ⟨p, 0, none⟩), .slice A 8 8] W (WrP B p g0 w0 (bkP x 6)) :=
  wrBytes_any B p g0 w0 (bkP x 5) _ _ A 8 8 W h.wr hr (by have := bkP_len x ht.1 5 (by omega); omega)
set_option maxRecDepth 100000 in
set_option maxHeartbeats 8000000 in
theorem laBackend_any (B p : Nat) (g0 : Option Nat) (w0 : World) (x : Bk) (hf : x.fine) (ht : okTold x) (w : World) (h : Wr B p g0 w0 [] w) :
    Calls Tryz.prog 122 #[.agg (laC p), .agg x.arr] w (WrP B p g0 w0 (bkB x)) := by
  rw [← bkP_all]
  have hz := text_size x.name
  have hpw := h.fr.size
  have hp1 := h.hp
  have hbb := call1 (Below.refl _ _) ((Below.refl _ (w.alloc (.cells (laC p) 180))).alloc (Nat.le_refl _) (.cells x.arr 60))
  obtain ⟨g1, hw1, hg1, back⟩ := h.base hbb
  obtain ⟨W2, hW2⟩ : ∃ W2, W2 = (w.alloc (.cells (laC p) 180)).alloc (.cells x.arr 60) := ⟨_, rfl⟩
  obtain ⟨q, hq⟩ : ∃ q, q = w.heap.size := ⟨_, rfl⟩
  have L0 := Lib.hid (show Lst2 B p q g1 x W2 (bkP x 0) W2 from ⟨by rw [hW2]; exact hw1, by rw [hW2, hq]; exact (Box.new _ _ _).alloc _, by rw [hW2, hq]; exact Box.new1 _ _ _ _, by omega, by rw [hq]; exact fun k hk => (hg1 k hk).2⟩)
  have BACK := Lib.hid (show ∀ W3 ys, Wr B p g1 W2 ys W3 → Wr B p g0 w0 ys W3 by rw [hW2]; exact back)
  have TW := Lib.hid (text_rd W2 x.name)
  have hcv := run_text_bytes (P := Tryz.prog) 9 32 5 Tryz.underlying9 Tryz.underlying32 Tryz.underlying5 x.name W2
  obtain ⟨W3, hW3⟩ : ∃ W3, W3 = textWorld W2 5 x.name := ⟨_, rfl⟩
  rw [← hW3] at hcv TW
  have L0b := Lib.hid (L0.out.go TW.out.2)
  obtain ⟨cc, hcc⟩ : ∃ cc, grownCap W2 x.name.length 0 5 = cc := ⟨_, rfl⟩
  rw [hcc] at hcv
  have HT := Lib.hid ht
  have C0 := Lib.hid (wrText_any B p g1 W2 [] x.name (some ⟨W2.heap.size, 0, none⟩) x.name.length cc W3 L0b.out.wr TW.out.1 (by have := ht.1; simp; omega))
  have C1 := Lib.hid (fun W (k : Lst2 B p q g1 x W2 (bkP x 1) W) => laFlag_any B p g1 W2 (bkP x 1) x.addr.six W k.wr (by have := bkP_len x HT.out.1 1 (by omega); omega))
  have C2 := Lib.hid (fun W (k : Lst2 B p q g1 x W2 (bkP x 2) W) => lb2 B p q g1 x W2 W k HT.out)
  obtain ⟨pn, hpn⟩ : ∃ pn : Nat, x.port = (pn : Int) := ⟨x.port.toNat, by have := ht.2.1; omega⟩
  have hcp : IntKind.u64.wrap x.port = (pn : Int) := by rw [IntKind.wrap_u64, hpn]; have := ht.2.2; omega
  have C3 := Lib.hid (fun W (k : Lst2 B p q g1 x W2 (bkP x 3) W) => wrNum_any B p g1 W2 (bkP x 3) pn 2 W k.wr (by omega) (by omega) (by have := HT.out.2.2; omega) (by have := bkP_len x HT.out.1 3 (by omega); omega))
  have HP3 := Lib.hid (show bkP x 3 ++ numPut pn 2 true = bkP x 4 by simp only [bkP]; rw [show pn = x.port.toNat by omega])
  rw [HP3.out] at C3
  have C4 := Lib.hid (fun W (k : Lst2 B p q g1 x W2 (bkP x 4) W) => lb4 B p q g1 x W2 W k HT.out)
  have CP := Lib.hid (fun W => put_any x.w hf.2 W)
  have C5 := Lib.hid (fun W A (k : Lst2 B p q g1 x W2 (bkP x 5) W) (hr : RdB W W.heap.size A 8 (wPut x.w)) => lb5 B p q g1 x W2 W A k HT.out hr)
  have C6 := Lib.hid (fun W (k : Lst2 B p q g1 x W2 (bkP x 6) W) => laFlag_any B p g1 W2 (bkP x 6) x.drain W k.wr (by have := bkP_len x HT.out.1 6 (by omega); omega))
  obtain ⟨tb, htb⟩ : ∃ tb, W2.heap.size = tb := ⟨_, rfl⟩
  rw [htb] at hcv C0
  clear hcc hW3 hpn hw1 hg1 back hbb hpw hp1 h hf ht htb TW
  obtain ⟨z1, z2, z3, z4⟩ := L0.out.bx1.facts
  obtain ⟨v1, v2, v3, v4⟩ := L0.out.bx2.facts
  subst hq hW2
  go_enter Tryz.func122, Tryz.ntmps122
  go_wp2_with fail
  refine C0.out.mono ?_
  rintro e w1 ⟨rfl, h1⟩
  have L1 := Lib.hid (show Lst2 B p w.heap.size g1 x _ (bkP x 1) w1 from L0b.out.to h1)
  obtain ⟨y1, y2, y3, y4⟩ := L1.out.bx1.facts
  obtain ⟨u1, u2, u3, u4⟩ := L1.out.bx2.facts
  clear h1 z1 z2 z3 z4 v1 v2 v3 v4
  go_wp2_with fail
  refine (C1.out _ L1.out).mono ?_
  rintro e w2 ⟨rfl, h2⟩
  have L2 := Lib.hid (show Lst2 B p w.heap.size g1 x _ (bkP x 2) w2 from L1.out.to h2)
  have hc2 := L2.out.cell0
  clear h2 y1 y2 y3 y4 u1 u2 u3 u4
  go_wp2_with fail
  clear hc2
  go_region_held3 (fun W' => W'.cell? ⟨w.heap.size, 0, none⟩ = some (.pointer (some ⟨p, 0, none⟩)))
    (first | exact L2.out.drew.cell0 | exact L2.out.cell0 | exact L3.out.cell0 | go_keep)
    (first
    | (go_at_call 152; (with_reducible refine (C2.out _ L2.out.drew).mono ?_); rintro e w3 ⟨rfl, h3⟩; have L3 := Lib.hid (L2.out.to h3); clear h3))
  obtain ⟨y1, y2, y3, y4⟩ := L3.out.bx1.facts
  obtain ⟨u1, u2, u3, u4⟩ := L3.out.bx2.facts
  go_wp2_with fail
  refine (C3.out _ L3.out).mono ?_
  rintro e w4 ⟨rfl, h4⟩
  have L4 := Lib.hid (show Lst2 B p w.heap.size g1 x _ (bkP x 4) w4 from L3.out.to h4)
  clear h4 y1 y2 y3 y4 u1 u2 u3 u4
  go_wp2_with fail
  go_region_held3 (fun W' => W'.cell? ⟨w.heap.size, 0, none⟩ = some (.pointer (some ⟨p, 0, none⟩)))
    (first | exact L4.out.drew.cell0 | exact L4.out.cell0 | exact L5.out.cell0 | go_keep)
    (first
    | (go_at_call 152; (with_reducible refine (C4.out _ L4.out.drew).mono ?_); rintro e w5 ⟨rfl, h5⟩; have L5 := Lib.hid (L4.out.to h5); clear h5))
  go_wp2_with fail
  go_region_held3 (fun W' => W'.cell? ⟨w.heap.size, 0, none⟩ = some (.pointer (some ⟨p, 0, none⟩)) ∧ W'.cell? ⟨w.heap.size + 1, 25, none⟩ = some (.float .f64 x.w))
    (first | exact L5.out.drew.cells2 | exact L5.out.cells2 | exact L5b.out.cells2 | exact L6.out.cells2 | go_keep)
    (first
    | (go_at_call 154; (with_reducible refine (CP.out _).mono ?_); rintro e w5b ⟨A5, rfl, hr5, hb5⟩; have L5b := Lib.hid (L5.out.drew.go hb5); have C5' := Lib.hid (C5.out _ _ L5b.out hr5); clear hb5 hr5)
    | (go_at_call 152; (with_reducible refine C5'.out.mono ?_); rintro e w6 ⟨rfl, h6⟩; have L6 := Lib.hid (L5b.out.to h6); clear h6))
  obtain ⟨y1, y2, y3, y4⟩ := L6.out.bx1.facts
  obtain ⟨u1, u2, u3, u4⟩ := L6.out.bx2.facts
  go_wp2_with fail
  refine (C6.out _ L6.out).mono ?_
  rintro e w7 ⟨rfl, h7⟩
  have FIN := Lib.hid (BACK.out _ _ h7)
  clear h7
  go_wp2
  go_end0
  exact .mk' FIN.out
/-! ### NewWriter, Out, PutBackend -/
theorem Wr.new (w : World) (t : TypeId) : Wr (w.heap.size + 1) w.heap.size none (w.alloc (.cells (wrC none 0 0) t)) [] (w.alloc (.cells (wrC none 0 0) t)) :=
  ⟨⟨none, 0, 0, Box.new _ _ _, Ow.nilB (by simp), by simp [Value.ownBlock], .inl rfl⟩, Frm.refl _ _, by simp⟩
/-- a writer in new memory is answered -/
def NwP (w : World) (e : Ending) (w' : World) : Prop := ∃ p, e = .returned (.pointer (some ⟨p, 0, none⟩)) ∧ w.heap.size ≤ p ∧ Wr (w.heap.size + 1) p none w' [] w' ∧ Below w.heap.size w w'
theorem NwP.mk' (w : World) : NwP w (.returned (.pointer (some ⟨w.heap.size, 0, none⟩))) (w.alloc (.cells (wrC none 0 0) 198)) := ⟨_, rfl, Nat.le_refl _, Wr.new w _, (Below.refl _ _).alloc (Nat.le_refl _) _⟩
set_option maxRecDepth 100000 in
theorem newWriter_any (w : World) : Calls Tryz.prog 121 #[.int .i64 1048576] w (NwP w) := by
  have hmx : max (1048576 : Int) 0 = 1048576 := rfl
  go_enter Tryz.func121, Tryz.ntmps121
  go_wp2
  go_ret
  exact NwP.mk' w
/-- bytes are answered, in memory of the call's own; no fault -/
def PutP (w : World) (bs : List UInt8) (e : Ending) (w' : World) : Prop := ∃ A n c, e = .returned (.tuple #[.slice A n c, .int .i64 0]) ∧ n = bs.length ∧ w'.ownsRow w.heap.size 5 1 (.slice A n c) n (bs.map bv) ∧ Below w.heap.size w w'
set_option maxRecDepth 100000 in
theorem wrOut_any (B p : Nat) (g0 : Option Nat) (w0 : World) (bs : List UInt8) (w : World) (h : Wr B p g0 w0 bs w) (hlen : bs.length ≤ 1048576) :
    Calls Tryz.prog 123 #[.pointer (some ⟨p, 0, none⟩)] w (PutP w bs) := by
  obtain ⟨A0, n0, c0, b1, b2, b3, b4⟩ := h.ex
  obtain ⟨f1, f2, f3, f4⟩ := b1.facts
  have hl := b1.lt
  have hn0 : n0 = bs.length := by obtain ⟨A', c', e⟩ := b2.form; injection e
  subst hn0
  have CL := Lib.hid (clone_any bs A0 bs.length c0 w (RdB.of_own b2.own) (by omega))
  clear h b1 b2 b3 b4
  go_enter Tryz.func123, Tryz.ntmps123
  go_wp2_with fail
  refine CL.out.mono ?_
  rintro e w1 ⟨A1, c1, rfl, ho, hb⟩
  have FIN := Lib.hid (show PutP w bs (.returned (.tuple #[.slice A1 bs.length c1, .int .i64 0])) w1 from ⟨A1, _, c1, rfl, rfl, ho, hb⟩)
  clear ho hb
  go_wp2
  go_ret2
  exact FIN.out
set_option maxRecDepth 100000 in
set_option maxHeartbeats 4000000 in
theorem putBackend_any (x : Bk) (hf : x.fine) (ht : okTold x) (w : World) : Calls Tryz.prog 83 #[.agg x.arr] w (PutP w (bkB x)) := by
  have TO := Lib.hid (fun W => told_any x ht W)
  have LB := Lib.hid (fun B p g0 w0 W (h : Wr B p g0 w0 [] W) => laBackend_any B p g0 w0 x hf ht W h)
  have OU := Lib.hid (fun B p g0 w0 W (h : Wr B p g0 w0 (bkB x) W) => wrOut_any B p g0 w0 (bkB x) W h (by have := bkB_len x; have := ht.1; omega))
  have B0 := Lib.hid (Box.new w x.arr 60)
  have hb0 := (Below.refl w.heap.size w).alloc (Nat.le_refl _) (.cells x.arr 60)
  have HB0 := Lib.hid hb0
  clear hf ht hb0
  go_enter Tryz.func83, Tryz.ntmps83
  go_wp2_with fail
  refine (TO.out _).mono ?_
  rintro e w1 ⟨rfl, hb1⟩
  have B1 := Lib.hid (B0.out.go hb1)
  have HB1 := Lib.hid (below2 HB0.out hb1)
  clear hb1
  go_wp2_with fail
  refine (newWriter_any w1).mono ?_
  rintro e w2 ⟨p, rfl, hp1, hw2, hb2⟩
  have B2 := Lib.hid (B1.out.go hb2)
  have HB2 := Lib.hid (below2 HB1.out hb2)
  have hb3 := (Below.refl w2.heap.size w2).alloc (Nat.le_refl _) (.cells (laC p) 180)
  have W3 := Lib.hid (hw2.go hb3)
  have B3 := Lib.hid (B2.out.go hb3)
  have HB3 := Lib.hid (below2 HB2.out hb3)
  have HWS := Lib.hid hw2
  have LB3 := Lib.hid (LB.out _ _ _ _ _ W3.out)
  have hlt := B2.out.lt
  have hne : w.heap.size ≠ w2.heap.size := by omega
  obtain ⟨y1, y2, y3, y4⟩ := B2.out.facts
  have BX := Lib.hid (Box.new w2 (laC p) 180)
  obtain ⟨g1, hw3, hg3, back⟩ := hw2.base hb3
  have LBX := Lib.hid (LB.out _ _ _ _ _ hw3)
  have KB := Lib.hid (show ∀ W4, Wr (w1.heap.size + 1) p g1 (w2.alloc (.cells (laC p) 180)) (bkB x) W4 → Box W4 w2.heap.size (laC p) ∧ Below w.heap.size w W4 from fun W4 k => ⟨k.box BX.out (by have := hw2.hp; omega) (fun e => by have := hg3 _ e.symm; omega), HB3.out.trans (k.fr.to_below (fun g hg => by rw [List.mem_cons] at hg; have hz1 := HB1.out.size; rcases hg with e | e; omega; (cases g1 with | none => simp at e | some kk => (simp at e; have := hg3 kk rfl; omega))) HB3.out.size)⟩)
  clear hw2 hb2 hb3 hp1 hw3 hg3 back
  go_wp2_with fail
  refine LBX.out.mono ?_
  rintro e w4 ⟨rfl, h4⟩
  obtain ⟨k1, k2⟩ := KB.out _ h4
  obtain ⟨z1, z2, z3, z4⟩ := k1.facts
  have hl4 := k1.lt
  have OU4 := Lib.hid (OU.out _ _ _ _ _ h4)
  have HB4 := Lib.hid (show Below w.heap.size w w4 from k2)
  clear h4 k1 k2
  go_wp2_with fail
  refine OU4.out.mono ?_
  rintro e w5 ⟨A5, n5, c5, rfl, hn5, ho5, hb5⟩
  have FIN := Lib.hid (show PutP w (bkB x) (.returned (.tuple #[.slice A5 n5 c5, .int .i64 0])) w5 from ⟨A5, n5, c5, rfl, hn5, own_less ho5 HB4.out.size, below2 HB4.out hb5⟩)
  clear hn5 ho5 hb5
  go_wp2
  go_ret2
  exact FIN.out
end Go.Proofs.YtmpemeemlhmaaaaGreat

namespace Go.Proofs.YtmpemeemlhmaaaaGreat
open Go.RowKit

theorem bksB_len (l : List Bk) (h : ∀ x ∈ l, okTold x) : (l.flatMap bkB).length ≤ 300 * l.length := by
  induction l with
  | nil => simp
  | cons x l ih =>
    have h1 := bkB_len x
    have h2 := (h x (by simp)).1
    have h3 := ih (fun y hy => h y (by simp [hy]))
    simp only [List.flatMap_cons, List.length_append, List.length_cons]
    omega
theorem flat_snoc {α : Type} (d : α) (f : α → List UInt8) (l : List α) (i : Nat) (hi : i < l.length) : (l.take (i + 1)).flatMap f = (l.take i).flatMap f ++ f (l.getD i d) := by
  rw [← take_snocR d l i hi]; simp
set_option maxRecDepth 100000 in
set_option maxHeartbeats 4000000 in
theorem snapBackends_any (B : Nat) (v : Value) (bs : List UInt8) (l : List Bk) (A : Option Addr) (n c : Nat) (w : World) (H : Ow B v.ownBlock w v bs w) (hR : RdR Bk.arr 27 w w.heap.size A n l) (hA : 0 < n → ∀ a, A = some a → some a.block ≠ v.ownBlock)
    (hf : ∀ x ∈ l, x.fine) (hl : ∀ x ∈ l, okTold x) (hn : n ≤ 10000) (hb : bs.length ≤ 100000000) :
    Calls Tryz.prog 32 #[v, .slice A n c] w (OwP B v (bs ++ bksB l) w) := by
  have hnl := hR.1
  have HE := Lib.hid (show bs ++ bksB l = (bs ++ numsB [(n : Int)]) ++ l.flatMap bkB by simp [bksB, numsB, hnl])
  rw [HE.out]
  have NL := Lib.hid (numbers_lit B v bs [(n : Int)] 3 1 w H (by intro z hz; simp at hz; omega) rfl (by omega) (by omega))
  have HB1 := Lib.hid (show (bs ++ numsB [(n : Int)]).length ≤ 100000010 by have := numsB_len [(n : Int)]; rw [List.length_append]; simp only [List.length_cons, List.length_nil] at this; omega)
  obtain ⟨b1, hb1⟩ : ∃ b1, bs ++ numsB [(n : Int)] = b1 := ⟨_, rfl⟩
  rw [hb1] at NL HB1 ⊢
  have HR := Lib.hid hR
  have HA := Lib.hid hA
  have HF := Lib.hid hf
  have HL := Lib.hid hl
  obtain ⟨A0, c0, rfl⟩ := H.form
  clear H hR hA hl hf hb1
  go_enter Tryz.func32, Tryz.ntmps32
  go_wp2_with fail
  refine NL.out.mono ?_
  rintro e w1 ⟨A1, n1, c1, rfl, h1⟩
  have O1 := Lib.hid h1
  clear h1
  go_wp2
  go_loopw [0, 16] (fun s0 s16 wr => ∃ (i : Nat) (A' : Option Addr) (m' c' : Nat), i ≤ n ∧ s16 = .int .i64 i ∧ s0 = .slice A' m' c' ∧ Ow B (Value.slice A0 bs.length c0).ownBlock w (.slice A' m' c') (b1 ++ (l.take i).flatMap bkB) wr) (fun _ s16 _ => n - (intOf s16).toNat)
  case atStart => exact ⟨0, A1, n1, c1, by omega, rfl, rfl, by simpa using O1.out⟩
  case round =>
    obtain ⟨i, A', m', c', hi, rfl, rfl, h⟩ := hrel
    have HO := Lib.hid h
    by_cases hlt : i < n
    · have hlt2 : (i : Int) < n := by omega
      obtain ⟨b, o, rfl, hbb, hh1, hh2⟩ := RdR.at_ Bk.arr_size noBk (HR.out.grownO h.gr (HA.out (by omega))) hlt
      have hxf := HF.out _ (getD_mem noBk l i (by omega))
      have hxt := HL.out _ (getD_mem noBk l i (by omega))
      have hs := flat_snoc noBk bkB l i (by omega)
      have hbl : (b1 ++ (l.take i).flatMap bkB).length ≤ 110000010 := by
        have := bksB_len (l.take i) (fun y hy => HL.out y (List.mem_of_mem_take hy))
        rw [List.length_append]
        rw [List.length_take] at this
        have := HB1.out
        omega
      obtain ⟨x, hx⟩ : ∃ x, l.getD i noBk = x := ⟨_, rfl⟩
      rw [hx] at hh2 hxf hxt hs
      have HS := Lib.hid hs
      have PB := Lib.hid (fun W => putBackend_any x hxf hxt W)
      have HBL := Lib.hid hbl
      have HX := Lib.hid (show (bkB x).length ≤ 400 by have := bkB_len x; have := hxt.1; omega)
      clear hx hs h hbl hxf hxt
      go_wp2_with fail
      refine (PB.out _).mono ?_
      rintro e w2 ⟨A2, n2, c2, rfl, hn2, ho2, hb2⟩
      have O2 := Lib.hid ((HO.out.alloc (.cells x.arr 60)).go hb2)
      have R2 := Lib.hid (RdB.of_own ho2)
      have HN2 := Lib.hid hn2
      clear hn2 ho2 hb2
      go_wp2_with (at_builtin; refine wpList_ow rfl (.tmp 25) (.tmp 26) rfl rfl O2.out rfl R2.out (by have := HN2.out; have := HBL.out; have := HX.out; omega) ?_; intro A3 n3 c3 w3 h2 h3; have O3 := Lib.hid h2; clear h2 h3)
      go_roundw
      case rel => exact ⟨i + 1, A3, n3, c3, by omega, by go_num, rfl, by rw [HS.out, ← List.append_assoc]; exact O3.out⟩
      case measure => simp [intOf] <;> omega
    · have hge : ¬ (i : Int) < n := by omega
      have HF2 := Lib.hid (show l.take i = l from List.take_of_length_le (by omega))
      clear h
      go_wp2
      go_ret
      exact .mk' (by have := HO.out; rw [HF2.out] at this; exact this)
end Go.Proofs.YtmpemeemlhmaaaaGreat
