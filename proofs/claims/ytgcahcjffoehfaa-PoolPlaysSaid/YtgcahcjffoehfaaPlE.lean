/- PoolPlays: whatever is done, one behind the other, from an empty pool on: the pool is right, its version is how often something was done, a backend is there just if the last that was done of its name isn't that it was removed, and has what it was given last. No condition. -/
import Derived.Test.YtgcahcjffoehfaaPlD
set_option linter.unusedSimpArgs false
set_option linter.unusedVariables false
namespace Go.Proofs.Ytgcahcjffoehfaa
open Go.ChangeShapes Go.WideShapes Go.ChangeAt Go.RowKit

/-! ### words -/
theorem RdO.up {w : World} {A : Option Addr} {n : Nat} {l : List Opr} (h : RdO w w.heap.size A n l) (ob : Obj) : RdO (w.alloc ob) (w.alloc ob).heap.size A n l := (h.to ((Below.refl _ _).alloc (Nat.le_refl _) ob) (Nat.le_refl _)).more (by simp)
theorem RdO.go {W w1 : World} {A : Option Addr} {n : Nat} {l : List Opr} (h : RdO W W.heap.size A n l) (hb : Below W.heap.size W w1) : RdO w1 w1.heap.size A n l := (h.below hb).more hb.size
theorem below_more {w W w1 : World} (h : Below w.heap.size w W) (hb : Below W.heap.size W w1) : Below w.heap.size w w1 := below2 h hb
/-- an op lies at a place -/
def OpAt (W : World) (b oo : Nat) (o : Opr) : Prop := b < W.heap.size ∧ ∀ j, j < 30 → W.cell? ⟨b, oo + j, none⟩ = o.arr[j]?
theorem OpAt.go {W w1 : World} {b oo : Nat} {o : Opr} (h : OpAt W b oo o) (hb : Below W.heap.size W w1) : OpAt w1 b oo o :=
  ⟨Nat.lt_of_lt_of_le h.1 hb.size, fun j hj => (hb.cell (p := ⟨b, oo + j, none⟩) h.1).trans (h.2 j hj)⟩
theorem OpAt.facts {W : World} {b oo : Nat} {o : Opr} (h : OpAt W b oo o) :
    W.cell? ⟨b, oo, none⟩ = some (.int .i64 o.kind) ∧ W.cell? ⟨b, oo + 1, none⟩ = some (.string (textOf o.bk.name)) ∧ W.cell? ⟨b, oo + 28, none⟩ = some (.string (textOf o.name)) ∧ W.cell? ⟨b, oo + 29, none⟩ = some (.float .f64 o.w) ∧
    Has W b oo 30 ∧ cellsAt W b oo 30 = o.arr ∧ Has W b (oo + 1) 27 ∧ cellsAt W b (oo + 1) 27 = o.bk.arr := by
  obtain ⟨hb, h⟩ := h
  have h0 := h 0 (by omega)
  have h1 := h 1 (by omega)
  have h2 := h 28 (by omega)
  have h3 := h 29 (by omega)
  rw [Opr.arr_0] at h0
  rw [Opr.arr_1] at h1
  rw [Opr.arr_28] at h2
  rw [Opr.arr_29] at h3
  obtain ⟨a1, a2⟩ := cellsAt_eq (c := o.arr) (Opr.arr_size o) h
  obtain ⟨b1, b2⟩ := cellsAt_eq (W := W) (b := b) (o := oo + 1) (n := 27) (c := o.bk.arr) (Bk.arr_size _) (fun j hj => by
    rw [← Opr.arr_bk o j hj, ← h (j + 1) (by omega)]; congr 2; omega)
  exact ⟨h0, h1, h2, h3, a1, a2, b1, b2⟩
theorem RdK.setOther {w : World} {A : Option Addr} {n : Nat} {l : List Bk} (h : RdK w w.heap.size A n l) {p : Addr} (u : Value) (hp : ∀ a, A = some a → p.block < a.block) : RdK (w.setCell p u) (w.setCell p u).heap.size A n l := by
  obtain ⟨h1, h2, h3⟩ := h
  refine ⟨h1, ⟨h2.1, fun hn => ?_⟩, h3⟩
  obtain ⟨a, e, hb, hc⟩ := h2.2 hn
  refine ⟨a, e, by simpa [World.setCell] using hb, fun j u' hu => ?_⟩
  rw [World.cell?_setCell_other _ _ _ _ (fun e2 => by have := hp a e; rw [e2, add_block] at this; omega)]
  exact hc j u' hu
/-- a pool is answered, in memory of the call's own -/
def PoolD (w : World) (v : Int) (n : Nat) (l : List Bk) (er : Int) (e : Ending) (w' : World) : Prop :=
  ∃ A c, e = .returned (.tuple #[.agg #[.int .i64 v, .slice A n c], .int .i64 er]) ∧ RdK w' w'.heap.size A n l ∧ (∀ a, A = some a → w.heap.size ≤ a.block) ∧ Below w.heap.size w w'
theorem doD_any (l : List Bk) (hs : Srt l) (v : Int) (hv : -9223372036854775808 ≤ v ∧ v < 9223372036854775807) (o : Opr) (hf : o.bk.fine) (hw : o.w < 18446744073709551616) (A : Option Addr) (n c : Nat) (w : World) (hR : RdK w w.heap.size A n l) (hn : l.length ≤ 100000) (v' : Int) (l' : List Bk) (n' : Nat) (er : Int)
    (h1 : doV v l o = v') (h2 : doL v l o = l') (h3 : l'.length = n') (h4 : whyNot v l o = er) :
    Calls Try.prog 19 #[.agg #[.int .i64 v, .slice A n c], .agg o.arr] w (PoolD w v' n' l' er) := by
  subst h1 h2 h3 h4
  obtain rfl := hR.1
  refine (do_any l hs v hv o hf hw A c w hR hn).mono fun e w' h => ?_
  obtain ⟨A', c', he, ho, hb⟩ := h
  refine ⟨A', c', he, own_reads ho, fun a ha => ?_, hb⟩
  have := (ho.lt a.block (by rw [ha]; rfl)).1
  exact this
theorem rightP_any (l : List Bk) (hf : ∀ x ∈ l, x.fine) (v : Int) (A : Option Addr) (n c : Nat) (w : World) (hR : RdK w w.heap.size A n l) (hn : l.length ≤ 100000) (K : Bool) (hK : pRight v l = K) :
    Calls Try.prog 14 #[.agg #[.int .i64 v, .slice A n c]] w fun e w' => e = .returned (.bool K) ∧ Below w.heap.size w w' := by
  subst hK
  obtain rfl := hR.1
  exact rightPool_any l hf v A c w hR (by omega)

/-! ### the plain law -/
theorem plain_or (x : Nat) : wPlain x = 0 ∨ wPlain x = x := by unfold wPlain; split <;> simp
theorem plain_ok {x : Nat} (h : wOk x = true) : wOk (wPlain x) = true := by
  rcases plain_or x with h1 | h1 <;> rw [h1]
  · decide +kernel
  · exact h
theorem plain_lt {x : Nat} (h : x < 18446744073709551616) : wPlain x < 18446744073709551616 := by
  rcases plain_or x with h1 | h1 <;> rw [h1]
  · decide
  · exact h
theorem plain_plain (x : Nat) : wPlain (wPlain x) = wPlain x := by
  unfold wPlain
  by_cases h : (ord x 0 == some .eq) = true
  · simp only [h, if_true]
    split <;> rfl
  · simp only [h]
    simp [h]
theorem plain_pos (x : Nat) : wPos (wPlain x) = true := by unfold wPos; rw [plain_plain]; exact same_refl _
theorem put_plain {x : Nat} (h : wPos x = true) : wPut x = wPut (wPlain x) := by
  unfold wPos wSame at h
  simp only [beq_iff_eq] at h
  simp only [wPut, h]
theorem fair_toW {x : Bk} {u : Nat} (h : x.fair = true) (hu : wOk u = true) : (x.toW u).fair = true := by
  unfold Bk.fair at h ⊢
  simp only [Bool.and_eq_true] at h ⊢
  exact ⟨⟨⟨⟨h.1.1.1.1, h.1.1.1.2⟩, h.1.1.2⟩, h.1.2⟩, hu⟩
theorem fair_w {x : Bk} (h : x.fair = true) : wOk x.w = true := by
  unfold Bk.fair at h
  simp only [Bool.and_eq_true] at h
  exact h.2
theorem done_right {v : Int} {l : List Bk} {o : Opr} (hr : pRight v l = true) (hf : ∀ x ∈ l, x.fine) (hof : o.bk.fine) (how : o.w < 18446744073709551616) (h : whyNot v l o = 0) :
    pRight (v + 1) (doL v l o) = true ∧ ∀ x ∈ doL v l o, x.fine := by
  obtain ⟨h1, h2, h3, h4, h5⟩ := pRight_iff.1 hr
  obtain ⟨w1, w2, w3, w4, w5, w6⟩ := why_ok h
  have hl := done_len (v := v) (l := l) o
  have hs := done_srt (v := v) h5 o
  have key : ∀ x ∈ doL v l o, (x.fair = true ∧ wPos x.w = true) ∧ x.fine := by
    unfold doL
    rw [if_pos h]
    unfold doneTo
    split
    · rename_i hk
      intro x hx
      rcases mem_ins.1 hx with rfl | hx
      · have hb := (w4 hk).1
        exact ⟨⟨fair_toW hb (plain_ok (fair_w hb)), plain_pos _⟩, hof.1, plain_lt hof.2⟩
      · exact ⟨h4 x hx, hf x hx⟩
    · rename_i hk
      have hh := w6 hk
      have hin := gotN_in hh
      have hnm := nm_low hh
      split
      · intro x hx
        have := ((mem_del h5 (lowN_lt hh)).1 hx).1
        exact ⟨h4 x this, hf x this⟩
      · split
        · rename_i hk3
          intro x hx
          rcases (mem_set h5 (lowN_lt hh) (z := (gotN l o.name).toW (wPlain o.w)) (by rw [hnm]; exact hin.2)).1 hx with rfl | ⟨hx, _⟩
          · exact ⟨⟨fair_toW (h4 _ hin.1).1 (plain_ok (w5 hk3)), plain_pos _⟩, (hf _ hin.1).1, plain_lt how⟩
          · exact ⟨h4 x hx, hf x hx⟩
        · intro x hx
          rcases (mem_set h5 (lowN_lt hh) (z := (gotN l o.name).toD (o.kind == 4)) (by rw [hnm]; exact hin.2)).1 hx with rfl | ⟨hx, _⟩
          · have e1 : ((gotN l o.name).toD (o.kind == 4)).fair = (gotN l o.name).fair := rfl
            have e2 : ((gotN l o.name).toD (o.kind == 4)).w = (gotN l o.name).w := rfl
            rw [e1, e2]
            exact ⟨h4 _ hin.1, (hf (gotN l o.name) hin.1 : (gotN l o.name).fine)⟩
          · exact ⟨h4 x hx, hf x hx⟩
  refine ⟨pRight_iff.2 ⟨by omega, by omega, ?_, fun x hx => (key x hx).1, hs⟩, fun x hx => (key x hx).2⟩
  rw [hl]
  split
  · rename_i hk
    have := (w4 hk.2).2.2
    omega
  · split <;> omega
/-- what one is to have behind what is done -/
def baseOf (l : List Bk) (o : Opr) : Bk :=
  if o.kind = 1 then o.bk else if o.kind = 3 then (gotN l o.who).toW o.w else if o.kind = 4 then (gotN l o.who).toD true else if o.kind = 5 then (gotN l o.who).toD false else gotN l o.who
theorem done_there {v : Int} {l : List Bk} {o : Opr} (hr : pRight v l = true) (hf : ∀ x ∈ l, x.fine) (hof : o.bk.fine) (how : o.w < 18446744073709551616) (h : whyNot v l o = 0) :
    (hasN l o.who == (o.kind == 1)) = false ∧ (hasN (doL v l o) o.who == (o.kind == 2)) = false ∧ (o.kind ≠ 2 → sameOne (gotN (doL v l o) o.who) ((baseOf l o).toW (wPlain (baseOf l o).w)) = true) ∧ (gotN (doL v l o) o.who).w < 18446744073709551616 ∧ (baseOf l o).w < 18446744073709551616 := by
  obtain ⟨h1, h2, h3, h4, h5⟩ := pRight_iff.1 hr
  obtain ⟨w1, w2, w3, w4, w5, w6⟩ := why_ok h
  have hs := done_srt (v := v) h5 o
  have hfd := (done_right hr hf hof how h).2
  have got : ∀ z : Bk, z ∈ doL v l o → z.name = o.who → hasN (doL v l o) o.who = true ∧ gotN (doL v l o) o.who = z := fun z hz hn =>
    ⟨(hasN_iff hs).2 ⟨z, hz, hn⟩, by rw [← hn]; exact gotN_mem hs hz⟩
  by_cases hk : o.kind = 1
  · have hw : o.who = o.bk.name := by simp [Opr.who, hk]
    have hd : doL v l o = insAt l (lowN l o.bk.name) (o.bk.toW (wPlain o.bk.w)) := by simp [doL, h, doneTo, hk]
    have hm : o.bk.toW (wPlain o.bk.w) ∈ doL v l o := by rw [hd]; exact mem_ins.2 (.inl rfl)
    obtain ⟨g1, g2⟩ := got _ hm (by rw [hw]; rfl)
    have hb : baseOf l o = o.bk := by simp [baseOf, hk]
    have hno : hasN l o.who = false := by rw [hw]; exact (w4 hk).2.1
    rw [hno, g1, g2, hb, hk]
    exact ⟨by decide, by decide, fun _ => sameOne_self _, plain_lt hof.2, hof.2⟩
  · have hw : o.who = o.name := by simp [Opr.who, hk]
    have hh : hasN l o.who = true := by rw [hw]; exact w6 hk
    have hin := gotN_in hh
    have hnm := nm_low hh
    have hk1 : (o.kind == 1) = false := by simpa using hk
    rw [hh, hk1]
    refine ⟨by decide, ?_⟩
    by_cases hk2 : o.kind = 2
    · have hd : doL v l o = delAt l (lowN l o.who) := by simp [doL, h, doneTo, hk2, hw]
      have hno : hasN (doL v l o) o.who = false := by
        cases hc : hasN (doL v l o) o.who
        · rfl
        · obtain ⟨x, hx, hn⟩ := (hasN_iff hs).1 hc
          rw [hd] at hx
          have := ((mem_del h5 (lowN_lt hh)).1 hx).2
          rw [hnm] at this
          exact absurd hn this
      have hb : baseOf l o = gotN l o.who := by simp [baseOf, hk2]
      rw [hno, gotN_no hno, hb, hk2]
      exact ⟨by decide, fun h => absurd rfl h, by decide, (hf _ hin.1).2⟩
    · have hk2' : (o.kind == 2) = false := by simpa using hk2
      rw [hk2']
      have zn : ∀ z : Bk, z.name = (gotN l o.who).name → z.name = nm l (lowN l o.who) := fun z hz => by rw [hz, hnm]; exact hin.2
      by_cases hk3 : o.kind = 3
      · have hd : doL v l o = l.set (lowN l o.who) ((gotN l o.who).toW (wPlain o.w)) := by simp [doL, h, doneTo, hk3, hw]
        have hm : (gotN l o.who).toW (wPlain o.w) ∈ doL v l o := by rw [hd]; exact (mem_set h5 (lowN_lt hh) (z := (gotN l o.who).toW (wPlain o.w)) (zn ((gotN l o.who).toW (wPlain o.w)) rfl)).2 (.inl rfl)
        obtain ⟨g1, g2⟩ := got _ hm hin.2
        have hb : baseOf l o = (gotN l o.who).toW o.w := by simp [baseOf, hk3]
        rw [g1, g2, hb]
        exact ⟨by decide, fun _ => sameOne_self _, plain_lt how, how⟩
      · have hd : doL v l o = l.set (lowN l o.who) ((gotN l o.who).toD (o.kind == 4)) := by simp [doL, h, doneTo, hk, hk2, hk3, hw]
        have hm : (gotN l o.who).toD (o.kind == 4) ∈ doL v l o := by rw [hd]; exact (mem_set h5 (lowN_lt hh) (z := (gotN l o.who).toD (o.kind == 4)) (zn ((gotN l o.who).toD (o.kind == 4)) rfl)).2 (.inl rfl)
        obtain ⟨g1, g2⟩ := got _ hm hin.2
        have hb : baseOf l o = (gotN l o.who).toD (o.kind == 4) := by
          rcases (show o.kind = 4 ∨ o.kind = 5 by omega) with h4 | h4 <;> simp [baseOf, h4]
        have hpos := (h4 _ hin.1).2
        rw [g1, g2, hb]
        refine ⟨by decide, fun _ => ?_, (hf _ hin.1).2, (hf _ hin.1).2⟩
        have hp := put_plain hpos
        unfold sameOne
        simp only [Bk.toW, Bk.toD, beq_self_eq_true, decide_true, Bool.true_and, Bool.and_true, decide_eq_true_eq]
        exact decide_eq_true hp
end Go.Proofs.Ytgcahcjffoehfaa
