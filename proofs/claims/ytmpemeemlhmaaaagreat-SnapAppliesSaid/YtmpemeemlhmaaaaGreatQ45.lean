/- The document's reading of a state. -/
import Derived.Test.YtmpemeemlhmaaaaGreatQ44
import Derived.Test.YtmpemeemlhmaaaaGreatQ38
import Derived.Deep.CutRange
import Derived.Deep.RegionHeldLaw
import Derived.Deep.RegionLaw
set_option linter.unusedSimpArgs false
set_option linter.unusedVariables false
set_option maxRecDepth 100000
namespace Go.Proofs.YtmpemeemlhmaaaaGreat
open Go.RowKit Go.ChangeShapes Go.WideShapes Go.ChangeAt

theorem rowT_hl : RowT 25 74 Hl.arr 3 := by
  obtain ⟨i0, hi0, hz0, hz1, hzb⟩ := infoHl
  exact ⟨i0, _, Tryz.underlying25, hi0, hz0, hz1, Hl.arr_size noHl, by omega, by omega, Hl.arr_size, Hl.arr_one⟩
theorem rowT_fw : RowT 26 79 Fw.arr 41 := by
  obtain ⟨i0, hi0, hz0, hz1, hzb⟩ := infoFw
  exact ⟨i0, _, Tryz.underlying26, hi0, hz0, hz1, Fw.arr_size noFw, by omega, by omega, Fw.arr_size, Fw.arr_one⟩
theorem textR_len (s : RS) : (textR s).1.length ≤ 255 := by
  unfold textR
  split
  · rw [takeD_len]; assumption
  · simp
theorem textQ_len (m : Nat) (s : RS) : (textQ m s).1.length ≤ m := by
  unfold textQ
  rw [takeD_len]; exact numD_le m s
theorem bkQ_fine (s : RS) : (bkQ s).1.fine := by
  unfold bkQ
  simp only
  split
  · exact ⟨Nat.le_trans (textQ_len _ _) (by omega), wGet_lt _⟩
  · exact ⟨by simp [noBk], by simp [noBk]⟩
theorem hlQ_fine (s : RS) : (hlQ s).1.name.length ≤ 9223372036854775807 := Nat.le_trans (textR_len s) (by omega)
theorem fwQ_fine (s : RS) : (fwQ s).1.name.length ≤ 9223372036854775807 := by
  unfold fwQ
  exact Nat.le_trans (textR_len _) (by omega)
theorem listQ_all {α : Type} {P : α → Prop} {one : RS → α × RS} (h : ∀ s, P (one s).1) : ∀ (k : Nat) (s : RS), (∀ x ∈ (listQ one k s).1, P x) ∧ (listQ one k s).1.length ≤ k
  | 0, s => by simp [listQ]
  | k + 1, s => by
    have ih := listQ_all h k (one s).2
    have hx := h s
    unfold listQ
    split
    · refine ⟨fun x hm => ?_, by simp only [List.length_cons]; omega⟩
      rcases List.mem_cons.1 hm with rfl | hm
      · exact hx
      · exact ih.1 x hm
    · simp
theorem rowsQ_all {α : Type} {P : α → Prop} {one : RS → α × RS} (h : ∀ s, P (one s).1) (m : Nat) (s : RS) : (∀ x ∈ (rowsQ one m s).1, P x) ∧ (rowsQ one m s).1.length ≤ m := by
  have h1 := listQ_all h (manyQ m s).1 (manyQ m s).2
  have h2 := manyQ_le m s
  unfold rowsQ
  exact ⟨h1.1, by omega⟩
theorem Rq.drew {α : Type} {f : α → Array Value} {sz : Nat} {e : TypeId} {F : List Nat} {W0 W : World} {p B : Nat} {r : RS} {v : Value} {l : List α} (h : Rq f sz e F W0 W p B r v l) : Rq f sz e F W0 W.drew p B r v l := ⟨h.own, h.rd.drewN 1, h.frm.drewN 1, h.hF, h.hp⟩
theorem step_is {ops : Array Oper} {o : Oper} {a : Act} {W : World} {K : Act → World → Prop} {Q : Exit → Act → World → Prop} {E : Prop} (hgd : o.guard = none) (h : Oper.wp Tryz.prog o a W K Q) : if Region.wanted o (yielded ops a.tmps) = true then Oper.wp Tryz.prog o a W K Q else E := by
  have hw : Region.wanted o (yielded ops a.tmps) = true := by simp [Region.wanted, hgd]
  rw [if_pos hw]
  exact h
theorem step_rqx {α : Type} {f : α → Array Value} {sz : Nat} {e t : TypeId} {F : List Nat} {W0 W : World} {p B : Nat} {r : RS} {l ys : List α} (T : RowT t e f sz) {ops : Array Oper} {o : Oper} {a : Act} {K : Act → World → Prop} {Q : Exit → Act → World → Prop} {E : Prop} (hgd : o.guard = none) (s x : Operand)
    (ho : o.op = .call { callee := .builtin .append, args := #[s, x], argTypes := #[t, t] }) (v : Value) (A : Option Addr) (m c : Nat) (hs : a.eval s = v) (H : Rq f sz e F W0 W p B r v l) {C : Nat} (hx : a.eval x = .slice A m c) (hr : RdR f sz W C A m ys)
    (hlen : l.length + m ≤ 1000000)
    (h : ∀ A' n' c' w', Rq f sz e F W0 w' p B r (.slice A' n' c') (l ++ ys) → W.grownBy w' v.ownBlock → K (a.put o.dst (.slice A' n' c')) w') : if Region.wanted o (yielded ops a.tmps) = true then Oper.wp Tryz.prog o a W K Q else E :=
  step_rq T hgd s x ho hs H hx hr hlen h
/-- since w: the reader, the state so far, the answer's place -/
structure Gq (w W : World) (r : RS) (x : Sh) : Prop where
  rd : RowS W (w.heap.size + 1) w.heap.size r
  bk : Box W (w.heap.size + 2) x.arr
  res : Box W w.heap.size noSh.arr
  bel : Below w.heap.size w W
section
variable {w W W' : World} {r r' : RS} {x x' : Sh}
theorem Gq.read (h : Gq w W r x) (k : RowS W' (w.heap.size + 1) w.heap.size r') (hg : W.grownBy W' (some (w.heap.size + 1))) : Gq w W' r' x :=
  ⟨k, h.bk.grown hg (fun e => by injection e; omega), h.res.grown hg (fun e => by injection e; omega), h.bel.grown hg h.bel.size (fun j hj => by injection hj; omega)⟩
theorem Gq.go (h : Gq w W r x) (hb : Below W.heap.size W W') : Gq w W' r x := ⟨h.rd.go hb, h.bk.go hb, h.res.go hb, below2 h.bel hb⟩
theorem Gq.set (h : Gq w W r x) (j : Nat) (u : Value) (hb : x.arr.setIfInBounds j u = x'.arr) : Gq w (W.setCell ⟨w.heap.size + 2, j, none⟩ u) r x' := by
  have hg := set_gb W (w.heap.size + 2) j u
  exact ⟨h.rd.grown hg (fun e => by injection e; omega) (fun k hk => by injection hk; omega), by rw [← hb]; exact h.bk.set_same j u, h.res.grown hg (fun e => by injection e; omega), h.bel.grown hg h.bel.size (fun j hj => by injection hj; omega)⟩
theorem Gq.fin (h : Gq w W r x) (x2 : Sh) : Box (setSh W w.heap.size 0 x2) w.heap.size x2.arr ∧ Below w.heap.size w (setSh W w.heap.size 0 x2) :=
  ⟨h.res.putSh (Sh.arr_size _) x2, setSh_below h.bel _ _ _ (Nat.le_refl _)⟩
/-- behind a loop: only the reader's and the state's blocks have turned -/
theorem Gq.frm (h : Gq w W r x) (hf : Frm [w.heap.size + 1, w.heap.size + 2] W W') (k : RowS W' (w.heap.size + 1) w.heap.size r') (b : Box W' (w.heap.size + 2) x'.arr) : Gq w W' r' x' := by
  have hl := h.bk.lt
  exact ⟨k, b, hf.box h.res (by simp), h.bel.trans (hf.to_below (fun g hg => by simp at hg; omega) h.bel.size)⟩
end
/-- a row that was read in -/
def RowM {α : Type} (f : α → Array Value) (sz : Nat) (w W : World) (A : Option Addr) (n : Nat) (l : List α) : Prop := RdR f sz W W.heap.size A n l ∧ ∀ a, A = some a → w.heap.size + 2 < a.block
theorem RowM.grown {α : Type} {f : α → Array Value} {sz : Nat} {w W W' : World} {k : Nat} {A : Option Addr} {n : Nat} {l : List α} (h : RowM f sz w W A n l) (hg : W.grownBy W' (some k)) (hk : k ≤ w.heap.size + 2) : RowM f sz w W' A n l :=
  ⟨(h.1.grownO hg (fun a ha e => by injection e with e; have := h.2 a ha; omega)).more hg.size, h.2⟩
theorem RowM.go {α : Type} {f : α → Array Value} {sz : Nat} {w W W' : World} {A : Option Addr} {n : Nat} {l : List α} (h : RowM f sz w W A n l) (hb : Below W.heap.size W W') : RowM f sz w W' A n l := ⟨h.1.go hb, h.2⟩
theorem RdR.frmS {α : Type} {f : α → Array Value} {s : Nat} {F : List Nat} {w w' : World} {B n : Nat} {A : Option Addr} {l : List α} (h : RdR f s w B A n l) (hB : B ≤ w.heap.size) (hf : Frm F w w') (hn : ∀ a, A = some a → a.block ∉ F) : RdR f s w' B A n l := by
  obtain ⟨h1, h2, h3⟩ := h
  refine ⟨h1, ⟨h2.1, fun h0 => ?_⟩, h3⟩
  obtain ⟨a, hA, hb, hc⟩ := h2.2 h0
  refine ⟨a, hA, hb, fun j u hu => ?_⟩
  have h1 := hc j u hu
  have h2 := hf.block a.block (by omega) (hn a hA)
  unfold World.cell? at h1 ⊢
  rw [add_block] at h1 ⊢
  rw [h2]; exact h1
theorem RowM.frm {α : Type} {f : α → Array Value} {sz : Nat} {w W W' : World} {A : Option Addr} {n : Nat} {l : List α} (h : RowM f sz w W A n l) (hf : Frm [w.heap.size + 1, w.heap.size + 2] W W') : RowM f sz w W' A n l :=
  ⟨(h.1.frmS (Nat.le_refl _) hf (fun a ha hm => by have := h.2 a ha; simp at hm; omega)).more hf.size, h.2⟩
theorem RowM.of {α : Type} {f : α → Array Value} {sz : Nat} {E : TypeId} {w W0 W' : World} {A : Option Addr} {n c : Nat} {l : List α} (h0 : w.heap.size + 2 < W0.heap.size) (ho : W'.ownsRow W0.heap.size E sz (.slice A n c) n (l.flatMap fun x => (f x).toList)) (hl : l.length = n) : RowM f sz w W' A n l :=
  ⟨RdR.of_own hl ho, fun a ha => by
    have h1 := (ho.lt a.block (by rw [ha]; rfl)).1
    omega⟩
/-- a block below all rows has turned -/
theorem StR.off {w W W' : World} {x : Sh} {s : Sta} (h : StR W W.heap.size x s) (hg : W.grownBy W' (some w.heap.size)) (hr : (∀ a, x.b.A = some a → w.heap.size + 2 < a.block) ∧ (∀ a, x.h.A = some a → w.heap.size + 2 < a.block) ∧ (∀ a, x.f.A = some a → w.heap.size + 2 < a.block)) : StR W' W'.heap.size x s :=
  ⟨h.ver, (h.b.grownO hg (fun a ha e => by injection e with e; have := hr.1 a ha; omega)).more hg.size, (h.h.grownO hg (fun a ha e => by injection e with e; have := hr.2.1 a ha; omega)).more hg.size, (h.f.grownO hg (fun a ha e => by injection e with e; have := hr.2.2 a ha; omega)).more hg.size, h.tick, h.no, h.cnt, h.fine, h.fineh, h.finef, h.nb, h.nh, h.nf⟩
/-- what the document answers: the state, or that there is none -/
def DGetP (w : World) (r : Option Sta) (e : Ending) (w' : World) : Prop := Below w.heap.size w w' ∧ match r with
  | some s => ∃ x : Sh, e = .returned (.tuple #[.agg x.arr, .bool true]) ∧ StR w' w'.heap.size x s
  | none => e = .returned (.tuple #[.agg noSh.arr, .bool false])
set_option maxRecDepth 100000 in
set_option maxHeartbeats 8000000 in
theorem refSnapGet_any (A : Option Addr) (n c : Nat) (b : List UInt8) (w : World) (hR : RdB w w.heap.size A n b) (hnc : n ≤ c) (hc : c ≤ 9223372036854775807) (hn : n ≤ 1000000000) :
    Calls Tryz.prog 17 #[.slice A n c] w (DGetP w (getV b)) := by
  obtain ⟨W1, hW1⟩ : ∃ W1, W1 = ((w.alloc (.cells noSh.arr 29)).alloc (.cells (rowC A n c false) 102)).alloc (.cells noSh.arr 29) := ⟨_, rfl⟩
  have hb1 : Below w.heap.size w W1 := by rw [hW1]; exact (((Below.refl w.heap.size w).alloc (Nat.le_refl _) _).alloc (by simp) _).alloc (by simp; omega) _
  have G1 := Lib.hid (show Gq w W1 (some b) noSh from ⟨.mk' (bad := false) (by rw [hW1]; exact (Box.new1 w _ _ _).alloc _) (hR.to hb1 (Nat.le_refl _)) hnc hc hn (by omega) rfl, by rw [hW1]; exact Box.new2 w _ _ _ _, by rw [hW1]; exact ((Box.new w _ _).alloc _).alloc _, hb1⟩)
  obtain ⟨⟨n1, r1⟩, e1⟩ : ∃ z, numD 1152921504606846976 (some b) = z := ⟨_, rfl⟩
  obtain ⟨⟨n2, r2⟩, e2⟩ : ∃ z, numD 1152921504606846976 r1 = z := ⟨_, rfl⟩
  obtain ⟨⟨l3, r3⟩, e3⟩ : ∃ z, cntQ 11 r2 = z := ⟨_, rfl⟩
  obtain ⟨⟨n4, r4⟩, e4⟩ : ∃ z, numD 1152921504606846976 r3 = z := ⟨_, rfl⟩
  obtain ⟨⟨l5, r5⟩, e5⟩ : ∃ z, rowsQ bkQ 1024 r4 = z := ⟨_, rfl⟩
  obtain ⟨⟨l6, r6⟩, e6⟩ : ∃ z, rowsQ hlQ 1024 r5 = z := ⟨_, rfl⟩
  obtain ⟨⟨l7, r7⟩, e7⟩ : ∃ z, rowsQ fwQ 4096 r6 = z := ⟨_, rfl⟩
  obtain ⟨S, hS⟩ : ∃ S : Sta, S = ⟨n4, l5, l6, l7, n1, n2, cntV l3⟩ := ⟨_, rfl⟩
  have hG : getQ b = (S, r7) := by
    unfold getQ
    simp only [M60_is, e1, e2, e3, e4, e5, e6, e7, hS]
  have HG := Lib.hid hG
  have HS := Lib.hid hS
  have C1 := Lib.hid (fun W (k : RowS W (w.heap.size + 1) w.heap.size (some b)) => rowNum_any (w.heap.size + 1) w.heap.size (some b) W k)
  have C2 := Lib.hid (fun W (k : RowS W (w.heap.size + 1) w.heap.size r1) => rowNum_any (w.heap.size + 1) w.heap.size r1 W k)
  have C4 := Lib.hid (fun W (k : RowS W (w.heap.size + 1) w.heap.size r3) => rowNum_any (w.heap.size + 1) w.heap.size r3 W k)
  have C5 := Lib.hid (fun W (k : RowS W (w.heap.size + 1) w.heap.size r4) => rowBks_any (w.heap.size + 1) w.heap.size r4 W k)
  rw [e1] at C1
  rw [e2] at C2
  rw [e4] at C4
  rw [e5] at C5
  have E3 := Lib.hid e3
  have A5 := Lib.hid (show (∀ x ∈ l5, x.fine) ∧ l5.length ≤ 1024 from by have := rowsQ_all bkQ_fine 1024 r4; rwa [e5] at this)
  have A6 := Lib.hid (show (∀ x ∈ l6, x.name.length ≤ 9223372036854775807) ∧ l6.length ≤ 1024 from by have := rowsQ_all (P := fun x : Hl => x.name.length ≤ 9223372036854775807) hlQ_fine 1024 r5; rwa [e6] at this)
  have A7 := Lib.hid (show (∀ x ∈ l7, x.name.length ≤ 9223372036854775807) ∧ l7.length ≤ 4096 from by have := rowsQ_all (P := fun x : Fw => x.name.length ≤ 9223372036854775807) fwQ_fine 4096 r6; rwa [e7] at this)
  have hm6 := manyQ_le 1024 r5
  have hm7 := manyQ_le 4096 r6
  unfold rowsQ at e6 e7
  obtain ⟨⟨n6, r50⟩, f6⟩ : ∃ z, manyQ 1024 r5 = z := ⟨_, rfl⟩
  obtain ⟨⟨n7, r60⟩, f7⟩ : ∃ z, manyQ 4096 r6 = z := ⟨_, rfl⟩
  rw [f6] at e6 hm6
  rw [f7] at e7 hm7
  have C6 := Lib.hid (fun W (k : RowS W (w.heap.size + 1) w.heap.size r5) => rowMany1024 (w.heap.size + 1) w.heap.size r5 W k)
  have C7 := Lib.hid (fun W (k : RowS W (w.heap.size + 1) w.heap.size r6) => rowMany4096 (w.heap.size + 1) w.heap.size r6 W k)
  rw [f6] at C6
  rw [f7] at C7
  have E6 := Lib.hid (show listQ hlQ n6 r50 = (l6, r6) from e6)
  have E7 := Lib.hid (show listQ fwQ n7 r60 = (l7, r7) from e7)
  have hn6 : n6 ≤ 1024 := hm6
  have hn7 : n7 ≤ 4096 := hm7
  have HW1 := Lib.hid (show ((w.alloc (.cells noSh.arr 29)).alloc (.cells (rowC A n c false) 102)).alloc (.cells noSh.arr 29) = W1 from hW1.symm)
  clear e1 e2 e3 e4 e5 e6 e7 f6 f7 hm6 hm7 hG hS hW1 hb1 hR
  obtain ⟨V, hV⟩ : ∃ V, getV b = V := ⟨_, rfl⟩
  rw [hV]
  have HV := Lib.hid (show (if r7 = some [] ∧ okSta S = true then some S else none) = V by rw [← hV, ← getQ_V, HG.out])
  clear hV
  go_enter Tryz.func17, Tryz.ntmps17
  go_wp2_with fail
  rw [HW1.out, show w.heap.size + 1 + 1 = w.heap.size + 2 from rfl]
  (with_reducible refine (C1.out _ G1.out.rd).mono ?_)
  rintro e w2 ⟨rfl, k1, k2⟩
  have G2 := Lib.hid (G1.out.read k1 k2)
  clear k1 k2
  obtain ⟨y1, y2, y3, y4⟩ := G2.out.bk.facts
  have hly := G2.out.bk.lt
  have G3 := Lib.hid (G2.out.set 4 (.int .i64 (n1 : Int)) (Sh.set_4 _ _))
  go_wp2_with fail
  (with_reducible refine (C2.out _ G3.out.rd).mono ?_)
  rintro e w3 ⟨rfl, k1, k2⟩
  have G4 := Lib.hid (G3.out.read k1 k2)
  have G5 := Lib.hid (G4.out.set 5 (.int .i64 (n2 : Int)) (Sh.set_5 _ _))
  clear k1 k2 y1 y2 y3 y4 hly G1 G2 G3 C1 C2 HW1
  obtain ⟨y1, y2, y3, y4⟩ := G4.out.bk.facts
  have hly := G4.out.bk.lt
  go_wp2
  obtain ⟨v4, hv4⟩ : ∃ v, v = w3.setCell ⟨w.heap.size + 2, 5, none⟩ (.int .i64 (n2 : Int)) := ⟨_, rfl⟩
  rw [← hv4] at G5 ⊢
  clear hv4 y1 y2 y3 y4 hly G4
  go_loopw [6] (fun s6 wr => ∃ (i : Nat) (l : List Nat) (r' : RS), i ≤ 11 ∧ s6 = .int .i64 i ∧ l.length = i ∧ Gq w wr r' ⟨0, noSlc, noSlc, noSlc, n1, n2, cntV l⟩ ∧ cntQ 11 r2 = (l ++ (cntQ (11 - i) r').1, (cntQ (11 - i) r').2)) (fun s6 _ => 11 - (intOf s6).toNat)
  case atStart => exact ⟨0, [], r2, by omega, rfl, rfl, G5.out, by simp⟩
  case round =>
    obtain ⟨i, l, r', hi, rfl, hl, hG, hc⟩ := hrel
    have GG := Lib.hid hG
    have HC := Lib.hid hc
    have HL := Lib.hid hl
    clear hG hc hl
    by_cases hlt : i < 11
    · have hlt2 : (i : Int) < 11 := by omega
      obtain ⟨⟨m, r''⟩, em⟩ : ∃ z, numD 1152921504606846976 r' = z := ⟨_, rfl⟩
      have NU := Lib.hid (rowNum_any (w.heap.size + 1) w.heap.size r' wr GG.out.rd)
      rw [em] at NU
      have HC2 := Lib.hid (show cntQ 11 r2 = ((l ++ [m]) ++ (cntQ (11 - (i + 1)) r'').1, (cntQ (11 - (i + 1)) r'').2) by
        rw [HC.out, show 11 - i = (11 - (i + 1)) + 1 by omega]
        show (l ++ ((numD 1152921504606846976 r').1 :: (cntQ (11 - (i + 1)) (numD 1152921504606846976 r').2).1), (cntQ (11 - (i + 1)) (numD 1152921504606846976 r').2).2) = _
        rw [em]
        simp)
      clear em
      go_wp2_with fail
      (with_reducible refine NU.out.mono ?_)
      rintro e w5 ⟨rfl, k1, k2⟩
      have G5 := Lib.hid (GG.out.read k1 k2)
      have G6 := Lib.hid (G5.out.set (6 + l.length) (.int .i64 (m : Int)) (Sh.set_cnt _ l m (by rw [HL.out]; exact hlt) rfl))
      rw [HL.out] at G6
      have hcell := G5.out.bk.facts.1 (6 + i)
      rw [Sh.arr_c _ i hlt] at hcell
      have hfr := G5.out.bk.facts.2.1 (6 + i)
      have hly := G5.out.bk.lt
      clear k1 k2
      go_wp2
      go_roundw
      case rel => exact ⟨i + 1, l ++ [m], r'', by omega, by go_num, by simp [HL.out], G6.out, HC2.out⟩
      case measure => simp [intOf] <;> omega
    · have hlt2 : ¬ (i : Int) < 11 := by omega
      have h3 := HC.out
      rw [E3.out, show 11 - i = 0 by omega, show (cntQ 0 r') = ([], r') from rfl, List.append_nil] at h3
      injection h3 with h31 h32
      subst h31 h32
      obtain ⟨wA, hwA⟩ : ∃ wA, wA = wr := ⟨_, rfl⟩
      rw [← hwA] at GG ⊢
      clear hwA HC HL E3 G5
      go_wp2_with fail
      (with_reducible refine (C4.out _ GG.out.rd).mono ?_)
      rintro e w5 ⟨rfl, k1, k2⟩
      have G5 := Lib.hid (GG.out.read k1 k2)
      have G6 := Lib.hid (G5.out.set 0 (.int .i64 (n4 : Int)) (Sh.set_0 _ _))
      obtain ⟨y1, y2, y3, y4⟩ := G5.out.bk.facts
      have hly := G5.out.bk.lt
      clear k1 k2
      go_wp2_with fail
      obtain ⟨v6, hv6⟩ : ∃ v, v = w5.setCell ⟨w.heap.size + 2, 0, none⟩ (.int .i64 (n4 : Int)) := ⟨_, rfl⟩
      rw [← hv6] at G6 ⊢
      clear hv6 y1 y2 y3 y4 hly G5 GG C4
      (with_reducible refine (C5.out _ G6.out.rd).mono ?_)
      rintro e w7 ⟨Ab, nb, cb, rfl, hnb, ho, k1, k2⟩
      have hnb2 : l5.length = nb := hnb.symm
      have HNB := Lib.hid hnb2
      have R5 := Lib.hid (RowM.of (w := w) (G6.out.bk.lt) ho hnb2)
      have G7 := Lib.hid (G6.out.read k1 k2)
      have G8 := Lib.hid (G7.out.set 1 (.slice Ab nb cb) (Sh.set_1 _ _ _ _))
      obtain ⟨y1, y2, y3, y4⟩ := G7.out.bk.facts
      have hly := G7.out.bk.lt
      clear k1 k2 ho hnb hnb2
      go_wp2_with fail
      obtain ⟨v8, hv8⟩ : ∃ v, v = w7.setCell ⟨w.heap.size + 2, 1, none⟩ (.slice Ab nb cb) := ⟨_, rfl⟩
      have R5b := Lib.hid (show RowM Bk.arr 27 w v8 Ab nb l5 by rw [hv8]; exact R5.out.grown (set_gb _ _ _ _) (by omega))
      rw [← hv8] at G8 ⊢
      clear hv8 y1 y2 y3 y4 hly G6 G7 R5 C5
      (with_reducible refine (C6.out _ G8.out.rd).mono ?_)
      rintro e v9 ⟨rfl, k1, k2⟩
      have G9 := Lib.hid (G8.out.read k1 k2)
      have R5c := Lib.hid (R5b.out.grown k2 (by omega))
      clear k1 k2 G8 R5b C6
      obtain ⟨X, hX⟩ : ∃ X : Sh, X = ⟨n4, ⟨Ab, nb, cb⟩, noSlc, noSlc, n1, n2, cntV l3⟩ := ⟨_, rfl⟩
      have HX := Lib.hid hX
      have G9 := Lib.hid (show Gq w v9 r50 X by rw [hX]; exact G9.out)
      have hsv := G9.out.bk.lt
      clear hX
      go_wp2
      go_loopw [8] (fun s8 wr => ∃ (k : Nat) (acc : List Hl) (r : RS) (A : Option Addr) (c : Nat), k ≤ n6 ∧ s8 = .int .i64 k ∧ acc.length = k ∧ Rq Hl.arr 3 74 [w.heap.size + 1, w.heap.size + 2] v9 wr (w.heap.size + 1) w.heap.size r (.slice A k c) acc ∧ Box wr (w.heap.size + 2) ({ X with h := ⟨A, k, c⟩ } : Sh).arr ∧ listQ hlQ n6 r50 = behindQ acc (listQ hlQ (n6 - k) r)) (fun s8 _ => n6 - (intOf s8).toNat)
      case atStart => exact ⟨0, [], r50, none, 0, by omega, rfl, rfl, ⟨World.ownsRow_nil _ _ _ _, G9.out.rd, Frm.refl _ _, fun k hk => by simp at hk; omega, by simp⟩, by have h := G9.out.bk; rw [HX.out] at h ⊢; exact h, by simp [behindQ]⟩
      case round =>
        obtain ⟨k, acc, r, A1, c1, hkn, rfl, hlen, hrq, hbox, hgo⟩ := hrel
        have HQ := Lib.hid hrq
        have HY := Lib.hid hbox
        have HGO := Lib.hid hgo
        have HL := Lib.hid hlen
        obtain ⟨d1, d2⟩ := hrq.rd.spot
        have hplr := hrq.rd.lt
        clear hgo hlen hrq hbox
        obtain ⟨go, hgo1⟩ : ∃ g : Bool, g = (decide (k < n6) && r.isSome) := ⟨_, rfl⟩
        have HGO1 := Lib.hid hgo1
        clear hgo1
        go_upto_region 13 with fail
        go_cut [50] from 41 to 78 (fun sg wx => sg = .bool go ∧ wx = wr)
        case first =>
          by_cases hlt : k < n6
          · have hlt2 : (k : Int) < (n6 : Int) := by omega
            cases r with
            | none =>
              have HZ := Lib.hid (show go = false by rw [HGO1.out]; simp)
              go_wp2
              go_meet
              case rel => exact ⟨by rw [HZ.out], rfl⟩
            | some l =>
              have HZ := Lib.hid (show go = true by rw [HGO1.out]; simp [hlt])
              go_wp2
              go_meet
              case rel => exact ⟨by rw [HZ.out], rfl⟩
          · have hd : decide ((k : Int) < (n6 : Int)) = false := decide_eq_false (by omega)
            have HZ := Lib.hid (show go = false by rw [HGO1.out]; simp [hlt])
            go_wp2
            go_meet
            case rel => exact ⟨by rw [HZ.out], rfl⟩
        case rest =>
          obtain ⟨rfl, hwc⟩ := hcut
          rw [hwc]
          clear hwc
          cases go
          · have HB := Lib.hid (show acc = l6 ∧ r = r6 by
              have h := HGO.out
              rw [E6.out] at h
              have h2 : listQ hlQ (n6 - k) r = ([], r) := by
                have h3 := HGO1.out
                by_cases hlt : k < n6
                · cases r with
                  | none => exact listQ_bad _ _
                  | some l => simp [hlt] at h3
                · rw [show n6 - k = 0 by omega]; rfl
              rw [h2] at h
              unfold behindQ at h
              rw [List.append_nil] at h
              injection h with h1 h2
              exact ⟨h1.symm, h2.symm⟩)
            obtain ⟨rfl, rfl⟩ := HB.out
            obtain ⟨v11, hv11⟩ : ∃ v, v = wr := ⟨_, rfl⟩
            rw [← hv11] at HQ HY ⊢
            have G11 := Lib.hid (G9.out.frm HQ.out.frm HQ.out.rd HY.out)
            have R5d := Lib.hid (R5c.out.frm HQ.out.frm)
            have R6 := Lib.hid (show RowM Hl.arr 3 w v11 A1 k acc from RowM.of hsv (by have h := HQ.out.own; rw [HL.out] at h; exact h) HL.out)
            have HL6 := Lib.hid HL.out
            clear HB HGO HGO1 HQ HY hv11 d1 d2 hplr HL G9 R5c
            go_wp2_with fail
            (with_reducible refine (C7.out _ G11.out.rd).mono ?_)
            rintro e w12 ⟨rfl, k1, k2⟩
            have G12 := Lib.hid (G11.out.read k1 k2)
            have R5e := Lib.hid (R5d.out.grown k2 (by omega))
            have R6b := Lib.hid (R6.out.grown k2 (by omega))
            clear k1 k2 G11 R5d R6 C7
            obtain ⟨X2, hX2⟩ : ∃ X2 : Sh, X2 = { X with h := ⟨A1, k, c1⟩ } := ⟨_, rfl⟩
            have HX2 := Lib.hid hX2
            rw [← hX2] at G12
            have hs2 := G12.out.bk.lt
            clear hX2
            go_wp2
            go_loopw [11] (fun s11 wr => ∃ (k : Nat) (acc : List Fw) (r : RS) (A : Option Addr) (c : Nat), k ≤ n7 ∧ s11 = .int .i64 k ∧ acc.length = k ∧ Rq Fw.arr 41 79 [w.heap.size + 1, w.heap.size + 2] w12 wr (w.heap.size + 1) w.heap.size r (.slice A k c) acc ∧ Box wr (w.heap.size + 2) ({ X2 with f := ⟨A, k, c⟩ } : Sh).arr ∧ listQ fwQ n7 r60 = behindQ acc (listQ fwQ (n7 - k) r)) (fun s11 _ => n7 - (intOf s11).toNat)
            case atStart => exact ⟨0, [], r60, none, 0, by omega, rfl, rfl, ⟨World.ownsRow_nil _ _ _ _, G12.out.rd, Frm.refl _ _, fun k hk => by simp at hk; omega, by simp⟩, by have h := G12.out.bk; rw [HX2.out, HX.out] at h ⊢; exact h, by simp [behindQ]⟩
            case round =>
              obtain ⟨kk, acc7, r, A8, c8, hkn7, rfl, hlen, hrq, hbox, hgo⟩ := hrel
              have HQ := Lib.hid hrq
              have HY := Lib.hid hbox
              have HGO := Lib.hid hgo
              have HL := Lib.hid hlen
              obtain ⟨d1, d2⟩ := hrq.rd.spot
              have hplr := hrq.rd.lt
              clear hgo hlen hrq hbox
              obtain ⟨go, hgo1⟩ : ∃ g : Bool, g = (decide (kk < n7) && r.isSome) := ⟨_, rfl⟩
              have HGO1 := Lib.hid hgo1
              clear hgo1
              go_upto_region 24 with fail
              go_cut [90] from 81 to 99 (fun sg wx => sg = .bool go ∧ wx = wr)
              case first =>
                by_cases hlt : kk < n7
                · have hlt2 : (kk : Int) < (n7 : Int) := by omega
                  cases r with
                  | none =>
                    have HZ := Lib.hid (show go = false by rw [HGO1.out]; simp)
                    go_wp2
                    go_meet
                    case rel => exact ⟨by rw [HZ.out], rfl⟩
                  | some l =>
                    have HZ := Lib.hid (show go = true by rw [HGO1.out]; simp [hlt])
                    go_wp2
                    go_meet
                    case rel => exact ⟨by rw [HZ.out], rfl⟩
                · have hd : decide ((kk : Int) < (n7 : Int)) = false := decide_eq_false (by omega)
                  have HZ := Lib.hid (show go = false by rw [HGO1.out]; simp [hlt])
                  go_wp2
                  go_meet
                  case rel => exact ⟨by rw [HZ.out], rfl⟩
              case rest =>
                obtain ⟨rfl, hwc⟩ := hcut
                rw [hwc]
                clear hwc
                obtain ⟨vr, hvr⟩ : ∃ v, v = wr := ⟨_, rfl⟩
                rw [← hvr] at HQ HY d1 d2 hplr ⊢
                clear hvr
                cases go
                · have HB := Lib.hid (show acc7 = l7 ∧ r = r7 by
                    have h := HGO.out
                    rw [E7.out] at h
                    have h2 : listQ fwQ (n7 - kk) r = ([], r) := by
                      have h3 := HGO1.out
                      by_cases hlt : kk < n7
                      · cases r with
                        | none => exact listQ_bad _ _
                        | some l => simp [hlt] at h3
                      · rw [show n7 - kk = 0 by omega]; rfl
                    rw [h2] at h
                    unfold behindQ at h
                    rw [List.append_nil] at h
                    injection h with h1 h2
                    exact ⟨h1.symm, h2.symm⟩)
                  obtain ⟨rfl, rfl⟩ := HB.out
                  have G13 := Lib.hid (G12.out.frm HQ.out.frm HQ.out.rd HY.out)
                  have R5f := Lib.hid (R5e.out.frm HQ.out.frm)
                  have R6c := Lib.hid (R6b.out.frm HQ.out.frm)
                  have R7 := Lib.hid (show RowM Fw.arr 41 w vr A8 kk acc7 from RowM.of hs2 (by have h := HQ.out.own; rw [HL.out] at h; exact h) HL.out)
                  have HL7 := Lib.hid HL.out
                  clear HB HGO HGO1 HQ HY HL G12 R5e R6b d1 d2 hplr E6 E7
                  obtain ⟨X3, hX3⟩ : ∃ X3 : Sh, X3 = { X2 with f := ⟨A8, kk, c8⟩ } := ⟨_, rfl⟩
                  rw [← hX3] at G13
                  have hst : StR vr vr.heap.size X3 S := by
                    rw [hX3, HX2.out, HX.out, HS.out]
                    exact ⟨rfl, R5f.out.1, R6c.out.1, R7.out.1, rfl, rfl, rfl, A5.out.1, A6.out.1, A7.out.1, by have := A5.out.2; have := HNB.out; show nb ≤ _; omega, by have := A6.out.2; have := HL6.out; show k ≤ _; omega, by have := A7.out.2; have := HL7.out; show kk ≤ _; omega⟩
                  have HST := Lib.hid hst
                  have SR := Lib.hid (rState_any X3 S vr hst)
                  obtain ⟨K, hK⟩ : ∃ K, okSta S = K := ⟨_, rfl⟩
                  rw [hK] at SR
                  have HK := Lib.hid hK
                  have HROW := Lib.hid (show (∀ a, X3.b.A = some a → w.heap.size + 2 < a.block) ∧ (∀ a, X3.h.A = some a → w.heap.size + 2 < a.block) ∧ (∀ a, X3.f.A = some a → w.heap.size + 2 < a.block) by
                    rw [hX3, HX2.out, HX.out]
                    exact ⟨R5f.out.2, R6c.out.2, R7.out.2⟩)
                  clear hst hX3 hK R5f R6c R7 A5 A6 A7
                  obtain ⟨d1, d2⟩ := G13.out.rd.spot
                  have hpl := G13.out.rd.lt
                  cases r with
                  | none =>
                    have HN := Lib.hid (show V = none by rw [← HV.out]; simp)
                    have thz := G13.out.res.there 0 17 (by rw [Sh.arr_size]; omega)
                    go_wp2
                    obtain ⟨g1, g2⟩ := G13.out.fin noSh
                    have hh := g1.facts
                    refine bodyPost_ret (ret_sh rfl _ _ w.heap.size 0 rfl (by rw [hh.2.2.1 0 17 (by rw [Sh.csize]; omega)]; trivial)) rfl ?_
                    rw [hh.2.2.2 0 17 (by rw [Sh.csize]; omega), Sh.extract_all, HN.out]
                    exact ⟨g2, rfl⟩
                  | some rest =>
                    obtain ⟨Ar, nr, cr, b1, b2, b3, b4, b5, b6⟩ := G13.out.rd.open_some
                    have hlen := b2.len
                    obtain ⟨z1, z2, z3, z4⟩ := b1.facts
                    have HLEN := Lib.hid hlen
                    clear b1 b2 b3 b4 b5 hlen
                    by_cases h0 : nr = 0
                    · subst h0
                      have HV2 := Lib.hid (show V = if K = true then some S else none by
                        rw [← HV.out, List.eq_nil_of_length_eq_zero HLEN.out, ← HK.out]
                        simp)
                      obtain ⟨y1, y2, y3, y4⟩ := G13.out.bk.facts
                      have ly := G13.out.bk.lt
                      go_wp2_with fail
                      (with_reducible refine SR.out.mono ?_)
                      rintro e w14 ⟨rfl, hb14⟩
                      have G14 := Lib.hid (G13.out.go hb14)
                      have HST2 := Lib.hid (HST.out.go hb14)
                      clear hb14 y1 y2 y3 y4 ly z1 z2 z3 z4 d1 d2
                      cases K
                      · have HN := Lib.hid (show V = none from HV2.out)
                        have thz := G14.out.res.there 0 17 (by rw [Sh.arr_size]; omega)
                        go_wp2
                        obtain ⟨g1, g2⟩ := G14.out.fin noSh
                        have hh := g1.facts
                        refine bodyPost_ret (ret_sh rfl _ _ w.heap.size 0 rfl (by rw [hh.2.2.1 0 17 (by rw [Sh.csize]; omega)]; trivial)) rfl ?_
                        rw [hh.2.2.2 0 17 (by rw [Sh.csize]; omega), Sh.extract_all, HN.out]
                        exact ⟨g2, rfl⟩
                      · have HN := Lib.hid (show V = some S from HV2.out)
                        have thz := G14.out.res.there 0 17 (by rw [Sh.arr_size]; omega)
                        obtain ⟨y1, y2, y3, y4⟩ := G14.out.bk.facts
                        have hly := G14.out.bk.lt
                        go_wp2
                        obtain ⟨g1, g2⟩ := G14.out.fin X3
                        have hh := g1.facts
                        refine bodyPost_ret (ret_sh rfl _ _ w.heap.size 0 rfl (by rw [hh.2.2.1 0 17 (by rw [Sh.csize]; omega)]; trivial)) rfl ?_
                        rw [hh.2.2.2 0 17 (by rw [Sh.csize]; omega), Sh.extract_all, HN.out]
                        have hgz := grown_cells w14 w.heap.size 0 X3.arr.toList
                        exact ⟨g2, X3, rfl, HST2.out.off hgz (HROW.out)⟩
                    · have hpos : (0 : Int) < (nr : Int) := by omega
                      have HN := Lib.hid (show V = none by
                        rw [← HV.out]
                        apply if_neg
                        rintro ⟨h1, _⟩
                        injection h1 with h1
                        have := HLEN.out
                        rw [h1] at this
                        exact h0 this.symm)
                      clear h0
                      have thz := G13.out.res.there 0 17 (by rw [Sh.arr_size]; omega)
                      go_wp2
                      obtain ⟨g1, g2⟩ := G13.out.fin noSh
                      have hh := g1.facts
                      refine bodyPost_ret (ret_sh rfl _ _ w.heap.size 0 rfl (by rw [hh.2.2.1 0 17 (by rw [Sh.csize]; omega)]; trivial)) rfl ?_
                      rw [hh.2.2.2 0 17 (by rw [Sh.csize]; omega), Sh.extract_all, HN.out]
                      exact ⟨g2, rfl⟩
                · cases r with
                  | none => exact absurd HGO1.out (by simp)
                  | some l =>
                    have hlt : kk < n7 := by have := HGO1.out; simp at this; exact this
                    obtain ⟨⟨x, r'⟩, ex⟩ : ∃ z, fwQ (some l) = z := ⟨_, rfl⟩
                    have HST := Lib.hid (HGO.out.trans (show behindQ acc7 (listQ fwQ (n7 - kk) (some l)) = behindQ (acc7 ++ [x]) (listQ fwQ (n7 - (kk + 1)) r') by
                      rw [show n7 - kk = (n7 - (kk + 1)) + 1 by omega]; exact listQ_step acc7 ex))
                    have Q0 := Lib.hid HQ.out.drew
                    have Y0 := Lib.hid HY.out.drew
                    have C1 := Lib.hid (rowFlow_any (w.heap.size + 1) w.heap.size (some l) vr.drew Q0.out.rd)
                    rw [ex] at C1
                    have K0 := Lib.hid (show vr.drew.cell? ⟨w.heap.size + 2, 3, none⟩ = some (.slice A8 kk c8) by rw [Y0.out.facts.1]; exact Sh.arr_3 _)
                    have HGL := Lib.hid (show acc7.length + 1 ≤ 1000000 by rw [HL.out]; omega)
                    have hoy : (Value.slice A8 kk c8).ownBlock ≠ some (w.heap.size + 2) := fun e => by have := HQ.out.lt e; omega
                    have YG := Lib.hid (fun (wa : World) (k2 : vr.drew.grownBy wa (some (w.heap.size + 1))) => show Box wa (w.heap.size + 2) ({ X2 with f := ⟨A8, kk, c8⟩ } : Sh).arr from Y0.out.grown k2 (fun e => by injection e with e; omega))
                    have KG := Lib.hid (fun (W' : World) (h : Box W' (w.heap.size + 2) ({ X2 with f := ⟨A8, kk, c8⟩ } : Sh).arr) => show W'.cell? ⟨w.heap.size + 2, 3, none⟩ = some (.slice A8 kk c8) from (h.facts.1 3).trans (Sh.arr_3 _))
                    have YC := Lib.hid (fun (wa w5 : World) (h : Box wa (w.heap.size + 2) ({ X2 with f := ⟨A8, kk, c8⟩ } : Sh).arr) (h6 : wa.grownBy w5 (Value.slice A8 kk c8).ownBlock) => show Box w5 (w.heap.size + 2) ({ X2 with f := ⟨A8, kk, c8⟩ } : Sh).arr from h.grown h6 (fun e => hoy e.symm))
                    have QR := Lib.hid (fun (wa : World) (k1 : RowS wa (w.heap.size + 1) w.heap.size r') (k2 : vr.drew.grownBy wa (some (w.heap.size + 1))) => show Rq Fw.arr 41 79 [w.heap.size + 1, w.heap.size + 2] w12 wa (w.heap.size + 1) w.heap.size r' (.slice A8 kk c8) acc7 from Q0.out.read k1 k2)
                    clear ex HGO HGO1 G12 d1 d2 hplr hoy
                    go_upto_region 26 with fail
                    have k0 := K0.out
                    go_region_law (first | (refine step_is (o := ⟨some 96, _, _, _, _, _⟩) rfl ?_; go_simp; go_at_call 59; (with_reducible refine C1.out.mono ?_); rintro e wa ⟨rfl, k1, k2⟩; have Qa := Lib.hid (QR.out _ k1 k2); have Ya := Lib.hid (YG.out _ k2); have ka := KG.out _ Ya.out; have Yb := Lib.hid (Ya.out.alloc (.cells (Fw.arr x) 79)); have kb := KG.out _ Yb.out; have Qb := Lib.hid (Qa.out.alloc (.cells (Fw.arr x) 79)); have RO := Lib.hid (RdR.one (f := Fw.arr) x Fw.arr_size wa 79); clear k1 k2) | (refine step_rqx (o := ⟨some 98, _, _, _, _, _⟩) rowT_fw rfl (.tmp 94) (.tmp 97) rfl (.slice A8 kk c8) (some ⟨wa.heap.size, 0, none⟩) 1 1 (by kernel_rfl) Qb.out (by kernel_rfl) RO.out HGL.out ?_; intro A5 n5 c5 w5 h5 h6; have Q5 := Lib.hid h5; have Y5 := Lib.hid (YC.out _ _ Yb.out h6); obtain ⟨x1, x2, x3, x4⟩ := Y5.out.facts; have lx := Y5.out.lt; clear h5 h6))
                    all_goals
                      have hn5 : n5 = kk + 1 := by
                        obtain ⟨_, _, e9⟩ := Q5.out.form
                        injection e9 with _ e9 _
                        rw [e9, List.length_append, HL.out]; rfl
                      subst hn5
                      go_wp2
                      go_roundw
                      case rel => exact ⟨kk + 1, acc7 ++ [x], r', A5, c5, by omega, by go_num, by simp [HL.out], Q5.out.set (by simp) (by omega) (by omega) _ _, by have h := Y5.out.set_same 3 (.slice A5 (kk + 1) c5); rw [Sh.set_3] at h; exact h, HST.out⟩
                      case measure => simp [intOf] <;> omega
          · cases r with
            | none => exact absurd HGO1.out (by simp)
            | some l =>
              have hlt : k < n6 := by have := HGO1.out; simp at this; exact this
              obtain ⟨vr, hvr⟩ : ∃ v, v = wr := ⟨_, rfl⟩
              rw [← hvr] at HQ HY d1 d2 hplr ⊢
              obtain ⟨⟨x, r'⟩, ex⟩ : ∃ z, hlQ (some l) = z := ⟨_, rfl⟩
              have HST := Lib.hid (HGO.out.trans (show behindQ acc (listQ hlQ (n6 - k) (some l)) = behindQ (acc ++ [x]) (listQ hlQ (n6 - (k + 1)) r') by
                rw [show n6 - k = (n6 - (k + 1)) + 1 by omega]; exact listQ_step acc ex))
              unfold hlQ at ex
              rw [M60_is] at ex
              obtain ⟨⟨nm, s1⟩, e1⟩ : ∃ z, textR (some l) = z := ⟨_, rfl⟩
              obtain ⟨⟨xb, s2⟩, e2⟩ : ∃ z, takeD 1 s1 = z := ⟨_, rfl⟩
              have hlb := takeD_len 1 s1
              rw [e2] at hlb
              simp only [e1, e2] at ex
              obtain ⟨bb, hbb⟩ : ∃ bb, bb = xb.getD 0 0 := ⟨_, rfl⟩
              rw [← hbb, u8_eq bb 1] at ex
              obtain ⟨s3, hs3⟩ : ∃ r : RS, (if bb ≤ 1 then s2 else none) = r := ⟨_, rfl⟩
              rw [hs3] at ex
              obtain ⟨⟨n3, s4⟩, e3⟩ : ∃ z, numD 1152921504606846976 s3 = z := ⟨_, rfl⟩
              simp only [e3] at ex
              obtain ⟨dn, hdn⟩ : ∃ d : Bool, ((bb.toNat : Int) == ((1 : UInt8).toNat : Int)) = d := ⟨_, rfl⟩
              rw [hdn] at ex
              have HDN := Lib.hid (show ((bb.toNat : Int) == 1) = dn from hdn)
              have HEX := Lib.hid ex
              have HS3 := Lib.hid hs3
              have HBB := Lib.hid (show xb.getD 0 0 = bb from hbb.symm)
              have HLB := Lib.hid (show xb.length = 1 from hlb)
              have C1 := Lib.hid (rowText_any (w.heap.size + 1) w.heap.size (some l) vr HQ.out.rd)
              rw [e1] at C1
              have C2 := Lib.hid (fun W (h : RowS W (w.heap.size + 1) w.heap.size s1) => rowTake1 (w.heap.size + 1) w.heap.size s1 W h)
              rw [e2] at C2
              have C3 := Lib.hid (fun W (h : RowS W (w.heap.size + 1) w.heap.size s3) => rowNum_any (w.heap.size + 1) w.heap.size s3 W h)
              rw [e3] at C3
              have hbb8 := bb.toNat_lt
              clear hvr ex e1 e2 e3 hlb hbb hs3 hdn HGO HGO1 G9
              go_wp2_with fail
              (with_reducible refine C1.out.mono ?_)
              rintro e w2 ⟨rfl, k1, k2⟩
              have Q2 := Lib.hid (HQ.out.read k1 k2)
              have Y2 := Lib.hid (HY.out.grown k2 (fun e => by injection e with e; omega))
              obtain ⟨hb, hhb⟩ : ∃ q, q = w2.heap.size := ⟨_, rfl⟩
              obtain ⟨W3, hW3⟩ : ∃ W3, W3 = w2.alloc (.cells (Hl.mk nm false 0).arr 74) := ⟨_, rfl⟩
              have Q3 := Lib.hid (show Rq Hl.arr 3 74 [w.heap.size + 1, w.heap.size + 2] v9 W3 (w.heap.size + 1) w.heap.size s1 (.slice A1 k c1) acc by rw [hW3]; exact Q2.out.alloc _)
              have Y3 := Lib.hid (show Box W3 (w.heap.size + 2) ({ X with h := ⟨A1, k, c1⟩ } : Sh).arr by rw [hW3]; exact Y2.out.alloc _)
              have H3 := Lib.hid (show Box W3 hb (Hl.mk nm false 0).arr by rw [hW3, hhb]; exact Box.new _ _ _)
              have hvb : v9.heap.size ≤ hb := by rw [hhb]; exact Q2.out.frm.size
              have hob : (Value.slice A1 k c1).ownBlock ≠ some hb := fun e => by have := Q2.out.lt e; omega
              have HW3 := Lib.hid (show w2.alloc (.cells (Hl.mk nm false 0).arr 74) = W3 from hW3.symm)
              have HHB := Lib.hid (show w2.heap.size = hb from hhb.symm)
              clear k1 k2 hhb hW3 C1 HQ HY d1 d2 hplr
              go_wp2_with fail
              rw [HW3.out, HHB.out]
              (with_reducible refine (C2.out _ Q3.out.rd).mono ?_)
              rintro e w4 ⟨Ag, mg, cg, rfl, hmg, hog, k1, k2⟩
              have hm1 : mg = 1 := by rw [hmg]; exact HLB.out
              subst hm1
              obtain ⟨g, rfl, hg1, hg2, hcg⟩ := own_cells hog (by omega)
              have hgb : hb ≠ g := by have := H3.out.lt; omega
              have hgp : w.heap.size + 1 ≠ g := by have := H3.out.lt; omega
              have Q4 := Lib.hid (Q3.out.read k1 k2)
              have Y4 := Lib.hid (Y3.out.grown k2 (fun e => by injection e with e; omega))
              have H4 := Lib.hid (H3.out.grown k2 (fun e => by injection e with e; omega))
              have cg4 := hcg 0 (by omega)
              rw [HBB.out] at cg4
              clear k1 k2 hog hcg hmg Q2 Y2 Q3 Y3 H3 C2 HW3 HHB hg1 hg2
              obtain ⟨z1, z2, z3, z4⟩ := H4.out.facts
              have lz := H4.out.lt
              have Q5 := Lib.hid (Q4.out.other (set_gb w4 hb 1 (.bool dn)) hvb hob)
              have Y5 := Lib.hid (Y4.out.set_other ⟨hb, 1, none⟩ (.bool dn) (show hb ≠ w.heap.size + 2 by omega))
              have H5 := Lib.hid (show Box (w4.setCell ⟨hb, 1, none⟩ (.bool dn)) hb (Hl.mk nm dn 0).arr from H4.out.set_same 1 _)
              have cg5 : (w4.setCell ⟨hb, 1, none⟩ (.bool dn)).cell? ⟨g, 0, none⟩ = some (bv bb) := by
                rw [World.cell?_setCell_other _ _ _ _ (fun e => hgb (by injection e))]; exact cg4
              have hdn1 := HDN.out
              unfold bv at cg4 cg5
              go_upto_region 18 with fail
              obtain ⟨w5, hw5⟩ : ∃ W, W = w4.setCell ⟨hb, 1, none⟩ (.bool dn) := ⟨_, rfl⟩
              rw [← hw5] at Q5 Y5 H5 cg5 ⊢
              clear hw5 hdn1 HDN z1 z2 z3 z4 lz cg4 Q4 Y4 H4
              obtain ⟨d1, d2⟩ := Q5.out.rd.spot
              have hplr := Q5.out.rd.lt
              go_upto_if 66 with fail
              go_cut [] from 41 to 78 (fun wx => Rq Hl.arr 3 74 [w.heap.size + 1, w.heap.size + 2] v9 wx (w.heap.size + 1) w.heap.size s3 (.slice A1 k c1) acc ∧ Box wx (w.heap.size + 2) ({ X with h := ⟨A1, k, c1⟩ } : Sh).arr ∧ Box wx hb (Hl.mk nm dn 0).arr)
              case first =>
                by_cases h1 : bb.toNat ≤ 1
                · have hng : decide ((1 : Int) < (bb.toNat : Int)) = false := decide_eq_false (by omega)
                  have HZ := Lib.hid (show s2 = s3 by rw [← HS3.out, if_pos (show bb ≤ 1 from h1)])
                  go_wp2
                  go_meet
                  case rel => exact ⟨by rw [← HZ.out]; exact Q5.out, Y5.out, H5.out⟩
                · have hng : decide ((1 : Int) < (bb.toNat : Int)) = true := decide_eq_true (by omega)
                  have HZ := Lib.hid (show none = s3 by rw [← HS3.out, if_neg (show ¬ bb ≤ 1 from h1)])
                  go_wp2
                  go_meet
                  case rel => exact ⟨by rw [← HZ.out]; exact Q5.out.read Q5.out.rd.bad (set_gb _ _ _ _), Y5.out.set_other _ _ (show w.heap.size + 1 ≠ w.heap.size + 2 by omega), H5.out.set_other _ _ (show w.heap.size + 1 ≠ hb by omega)⟩
              case rest =>
                obtain ⟨q6, y6, h6⟩ := hcut
                have Q6 := Lib.hid q6
                have Y6 := Lib.hid y6
                have H6 := Lib.hid h6
                clear q6 y6 h6 Q5 Y5 H5 cg5 d1 d2 hplr HS3
                go_wp2_with fail
                (with_reducible refine (C3.out _ Q6.out.rd).mono ?_)
                rintro e w7 ⟨rfl, k1, k2⟩
                have Q7 := Lib.hid (Q6.out.read k1 k2)
                have Y7 := Lib.hid (Y6.out.grown k2 (fun e => by injection e with e; omega))
                have H7 := Lib.hid (H6.out.grown k2 (fun e => by injection e with e; omega))
                clear k1 k2 Q6 Y6 H6 C3
                obtain ⟨z1, z2, z3, z4⟩ := H7.out.facts
                have lz := H7.out.lt
                have Q8 := Lib.hid (Q7.out.other (set_gb w7 hb 2 (.int .i64 (n3 : Int))) hvb hob)
                have Y8 := Lib.hid (Y7.out.set_other ⟨hb, 2, none⟩ (.int .i64 (n3 : Int)) (show hb ≠ w.heap.size + 2 by omega))
                have H8 := Lib.hid (show Box (w7.setCell ⟨hb, 2, none⟩ (.int .i64 (n3 : Int))) hb (Hl.mk nm dn n3).arr from H7.out.set_same 2 _)
                go_upto_region 21 with fail
                obtain ⟨w8, hw8⟩ : ∃ W, W = w7.setCell ⟨hb, 2, none⟩ (.int .i64 (n3 : Int)) := ⟨_, rfl⟩
                rw [← hw8] at Q8 Y8 H8 ⊢
                clear hw8 z1 z2 z3 z4 lz Q7 Y7 H7
                obtain ⟨z1, z2, z3, z4⟩ := H8.out.facts
                have lz := H8.out.lt
                obtain ⟨y1, y2, y3, y4⟩ := Y8.out.facts
                have ly := Y8.out.lt
                have HXX := Lib.hid (show Hl.mk nm dn n3 = x ∧ s4 = r' by have := HEX.out; injection this with a b; exact ⟨a, b⟩)
                obtain ⟨rfl, rfl⟩ := HXX.out
                have Q9 := Lib.hid (Q8.out.alloc (.cells (Hl.mk nm dn n3).arr 74))
                have Y9 := Lib.hid (Y8.out.alloc (.cells (Hl.mk nm dn n3).arr 74))
                have RO := Lib.hid (RdR.one (f := Hl.arr) (Hl.mk nm dn n3) Hl.arr_size w8 74)
                have HGL := Lib.hid (show acc.length + 1 ≤ 1000000 by rw [HL.out]; omega)
                have hoy : (Value.slice A1 k c1).ownBlock ≠ some (w.heap.size + 2) := fun e => by have := Q8.out.lt e; omega
                clear HXX HEX
                go_wp2_with (at_builtin; refine wpList_rq rowT_hl rfl (.tmp 74) (.tmp 76) rfl rfl Q9.out rfl RO.out HGL.out ?_; intro A5 n5 c5 w5 h5 h6; have Q5 := Lib.hid h5; have Y5 := Lib.hid (Y9.out.grown h6 (fun e => hoy e.symm)); obtain ⟨x1, x2, x3, x4⟩ := Y5.out.facts; have lx := Y5.out.lt; clear h5 h6)
                have hn5 : n5 = k + 1 := by
                  obtain ⟨_, _, e9⟩ := Q5.out.form
                  injection e9 with _ e9 _
                  rw [e9, List.length_append, HL.out]; rfl
                subst hn5
                go_roundw
                case rel => exact ⟨k + 1, acc ++ [Hl.mk nm dn n3], s4, A5, c5, by omega, by go_num, by simp [HL.out], Q5.out.set (by simp) (by omega) (by omega) _ _, by have h := Y5.out.set_same 2 (.slice A5 (k + 1) c5); rw [Sh.set_2] at h; exact h, HST.out⟩
                case measure => simp [intOf] <;> omega
end Go.Proofs.YtmpemeemlhmaaaaGreat
