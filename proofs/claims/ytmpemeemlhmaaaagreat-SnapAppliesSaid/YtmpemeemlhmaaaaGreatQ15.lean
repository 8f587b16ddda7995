/- The reading of a backend. -/
import Derived.Test.YtmpemeemlhmaaaaGreatQ12
import Derived.Test.YtmpemeemlhmaaaaGreatQ14
import Derived.Laws.IdiomCopy
import Derived.Deep.Cut
import Derived.Deep.RegionHeldLaw
set_option linter.unusedSimpArgs false
set_option linter.unusedVariables false
set_option maxRecDepth 100000
namespace Go.Proofs.YtmpemeemlhmaaaaGreat
open Go.RowKit

/-! ### a backend, field by field -/
theorem vecO_get (n : Nat) (l : List UInt8) (i : Nat) (hi : i < n) : (vecO n l).toList.getD i 0 = l.getD i 0 := by
  rw [List.getD_eq_getElem?_getD, List.getElem?_eq_getElem (by simpa using hi)]
  simp [vecO]
theorem vecO_nil (n : Nat) : vecO n [] = Vector.replicate n 0 := by
  apply Vector.ext
  intro i hi
  simp [vecO]
def Bk.toS (x : Bk) (u : Bool) : Bk := { x with addr := ⟨u, x.addr.b⟩ }
def Bk.toB (x : Bk) (l : List UInt8) : Bk := { x with addr := ⟨x.addr.six, vecO 16 l⟩ }
def Bk.toP (x : Bk) (p : Int) : Bk := { x with port := p }
def Bk.toM (x : Bk) (l : List UInt8) : Bk := { x with mac := vecO 6 l }
def Bk.toN (x : Bk) (s : List UInt8) : Bk := { x with name := s }
theorem Bk.ext_arr {c : Array Value} {x : Bk} (hc : c.size = 27) (h0 : c[0]? = some (.string (textOf x.name))) (h1 : c[1]? = some (.bool x.addr.six)) (hb : ∀ i, i < 16 → c[i + 2]? = some (bv (x.addr.b.toList.getD i 0)))
    (h18 : c[18]? = some (.int .i64 x.port)) (hm : ∀ i, i < 6 → c[i + 19]? = some (bv (x.mac.toList.getD i 0))) (h25 : c[25]? = some (fv x.w)) (h26 : c[26]? = some (.bool x.drain)) : c = x.arr := by
  apply Array.ext_getElem?
  intro j
  rcases (show j = 0 ∨ j = 1 ∨ (2 ≤ j ∧ j < 18) ∨ j = 18 ∨ (19 ≤ j ∧ j < 25) ∨ j = 25 ∨ j = 26 ∨ 27 ≤ j by omega) with rfl | rfl | ⟨h, h'⟩ | rfl | ⟨h, h'⟩ | rfl | rfl | h
  · rw [h0]; rfl
  · rw [h1]; rfl
  · obtain ⟨i, rfl⟩ : ∃ i, j = i + 2 := ⟨j - 2, by omega⟩
    rw [hb i (by omega), Bk.arr_b x i (by omega)]
  · rw [h18, Bk.arr_18]
  · obtain ⟨i, rfl⟩ : ∃ i, j = i + 19 := ⟨j - 19, by omega⟩
    rw [hm i (by omega), Bk.arr_m x i (by omega)]
  · rw [h25, Bk.arr_25]
  · rw [h26, Bk.arr_26]
  · rw [Array.getElem?_eq_none (by omega), Array.getElem?_eq_none (by rw [Bk.arr_size]; exact h)]
theorem set_get (c : Array Value) (i j : Nat) (v : Value) (hi : i < c.size) : (c.setIfInBounds i v)[j]? = if i = j then some v else c[j]? := by
  rw [Array.getElem?_setIfInBounds]
  split
  · rename_i h; subst h; simp [hi]
  · rfl
theorem Bk.set_six (x : Bk) (u : Bool) : x.arr.setIfInBounds 1 (.bool u) = (x.toS u).arr := by
  refine Bk.ext_arr (by simp [Bk.arr_size]) ?_ ?_ ?_ ?_ ?_ ?_ ?_ <;> (try intro i hi) <;> rw [set_get _ _ _ _ (by rw [Bk.arr_size]; omega)]
  · rw [if_neg (by omega)]; exact Bk.arr_0 x
  · rw [if_pos rfl]; rfl
  · rw [if_neg (by omega)]; exact Bk.arr_b x i hi
  · rw [if_neg (by omega)]; exact Bk.arr_18 x
  · rw [if_neg (by omega)]; exact Bk.arr_m x i hi
  · rw [if_neg (by omega)]; exact Bk.arr_25 x
  · rw [if_neg (by omega)]; exact Bk.arr_26 x
theorem Bk.set_port (x : Bk) (u : Int) : x.arr.setIfInBounds 18 (.int .i64 u) = (x.toP u).arr := by
  refine Bk.ext_arr (by simp [Bk.arr_size]) ?_ ?_ ?_ ?_ ?_ ?_ ?_ <;> (try intro i hi) <;> rw [set_get _ _ _ _ (by rw [Bk.arr_size]; omega)]
  · rw [if_neg (by omega)]; exact Bk.arr_0 x
  · rw [if_neg (by omega)]; exact Bk.arr_1 x
  · rw [if_neg (by omega)]; exact Bk.arr_b x i hi
  · rw [if_pos rfl]; rfl
  · rw [if_neg (by omega)]; exact Bk.arr_m x i hi
  · rw [if_neg (by omega)]; exact Bk.arr_25 x
  · rw [if_neg (by omega)]; exact Bk.arr_26 x
theorem map_bv_get (l : List UInt8) (i : Nat) (hi : i < l.length) : (l.map bv).toArray[i]? = some (bv (l.getD i 0)) := by
  simp [List.getD_eq_getElem?_getD, hi]
theorem Bk.lay_b (x : Bk) (l : List UInt8) (hl : l.length = 16) : laid x.arr 2 (l.map bv).toArray = (x.toB l).arr := by
  refine Bk.ext_arr (by rw [laid_size, Bk.arr_size]) ?_ ?_ ?_ ?_ ?_ ?_ ?_ <;> (try intro i hi) <;> rw [laid_get] <;> simp only [Bk.arr_size, List.size_toArray, List.length_map, hl]
  · rw [if_neg (by omega)]; exact (Bk.arr_0 x).trans rfl
  · rw [if_neg (by omega)]; exact (Bk.arr_1 x).trans (by unfold Bk.toB; rfl)
  · rw [if_pos (by omega), show i + 2 - 2 = i by omega, map_bv_get l i (by omega)]
    show some (bv (l.getD i 0)) = some (bv ((vecO 16 l).toList.getD i 0))
    rw [vecO_get 16 l i hi]
  · rw [if_neg (by omega)]; exact (Bk.arr_18 x).trans (by unfold Bk.toB; rfl)
  · rw [if_neg (by omega)]; exact (Bk.arr_m x i hi).trans (by unfold Bk.toB; rfl)
  · rw [if_neg (by omega)]; exact (Bk.arr_25 x).trans (by unfold Bk.toB; rfl)
  · rw [if_neg (by omega)]; exact (Bk.arr_26 x).trans (by unfold Bk.toB; rfl)
theorem Bk.lay_m (x : Bk) (l : List UInt8) (hl : l.length = 6) : laid x.arr 19 (l.map bv).toArray = (x.toM l).arr := by
  refine Bk.ext_arr (by rw [laid_size, Bk.arr_size]) ?_ ?_ ?_ ?_ ?_ ?_ ?_ <;> (try intro i hi) <;> rw [laid_get] <;> simp only [Bk.arr_size, List.size_toArray, List.length_map, hl]
  · rw [if_neg (by omega)]; exact (Bk.arr_0 x).trans rfl
  · rw [if_neg (by omega)]; exact (Bk.arr_1 x).trans (by unfold Bk.toM; rfl)
  · rw [if_neg (by omega)]; exact (Bk.arr_b x i hi).trans (by unfold Bk.toM; rfl)
  · rw [if_neg (by omega)]; exact (Bk.arr_18 x).trans (by unfold Bk.toM; rfl)
  · rw [if_pos (by omega), show i + 19 - 19 = i by omega, map_bv_get l i (by omega)]
    show some (bv (l.getD i 0)) = some (bv ((vecO 6 l).toList.getD i 0))
    rw [vecO_get 6 l i hi]
  · rw [if_neg (by omega)]; exact (Bk.arr_25 x).trans (by unfold Bk.toM; rfl)
  · rw [if_neg (by omega)]; exact (Bk.arr_26 x).trans (by unfold Bk.toM; rfl)
/-! ### copy -/
theorem run_copyB {P : Program} (W : World) {B y o m n c : Nat} {A : Option Addr} {l : List UInt8} (hR : RdB W B A n l) (hl : l.length = m ∨ l = []) (hth : W.there y o m) (T ty e : TypeId) (hu : P.underlying T = some (.slice e)) (hs : (P.info? e).map (·.size) = some 1) :
    (Builtin.copy_ #[T, T] ty #[.slice (some ⟨y, o, none⟩) m m, .slice A n c]).run P W = .ok (goInt l.length) (W.setCells y o (l.map bv)) := by
  have hn := hR.len
  rcases hl with hl | hl
  · rcases Nat.eq_zero_or_pos m with h0 | h0
    · have : l = [] := List.eq_nil_of_length_eq_zero (by omega)
      subst this
      exact run_copy_none W T T ty e _ _ _ _ _ _ hu hs (by rw [h0]; simp)
    · obtain ⟨a, rfl, _, hc⟩ := hR.2 (by omega)
      have := run_copy_cells (P := P) W T T ty e y o m m a n c (l.map bv) hu hs (by rw [List.length_map, hl, ← hn, hl]; exact (Nat.min_self m).symm) hc (fun j hj => (hth j (by rw [List.length_map] at hj; omega)).1) (fun j hj => (hth j (by rw [List.length_map] at hj; omega)).2) (bvs_one l)
      rw [List.length_map] at this
      exact this
  · subst hl
    exact run_copy_none W T T ty e _ _ _ _ _ _ hu hs (by rw [← hn]; simp)
theorem takeO_len2 (k : Nat) (s : RS) : (takeO k s).1.length = k ∨ (takeO k s).1 = [] := by
  cases s with
  | none => exact .inr rfl
  | some l =>
    by_cases h : k ≤ l.length
    · rw [takeO_ok h]; exact .inl (by simp; omega)
    · rw [takeO_no h]; exact .inr rfl
theorem Box.copyB {W : World} {y : Nat} {x : Bk} {l : List UInt8} (h : Box W y x.arr) (hl : l.length = 16 ∨ l = []) (h0 : x.addr.b = Vector.replicate 16 0) : Box (W.setCells y 2 (l.map bv)) y (x.toB l).arr := by
  rcases hl with hl | hl
  · obtain ⟨t, ht⟩ := h
    exact ⟨t, by rw [cells_laid y t _ 2 _ W ht, Bk.lay_b x l hl]⟩
  · subst hl
    have : x.toB [] = x := by unfold Bk.toB; rw [vecO_nil, ← h0]
    rw [this]
    exact h
theorem Box.copyM {W : World} {y : Nat} {x : Bk} {l : List UInt8} (h : Box W y x.arr) (hl : l.length = 6 ∨ l = []) (h0 : x.mac = Vector.replicate 6 0) : Box (W.setCells y 19 (l.map bv)) y (x.toM l).arr := by
  rcases hl with hl | hl
  · obtain ⟨t, ht⟩ := h
    exact ⟨t, by rw [cells_laid y t _ 19 _ W ht, Bk.lay_m x l hl]⟩
  · subst hl
    have : x.toM [] = x := by unfold Bk.toM; rw [vecO_nil, ← h0]
    rw [this]
    exact h
/-! ### literals -/
def mkBk (ps : Array (Nat × Value)) : Sem Value := Instr.build 60 ps
@[go_sem ↓] theorem mkBk_is (ps : Array (Nat × Value)) : Instr.build 60 ps = mkBk ps := rfl
theorem places_bk (w : World) (fs : Array Field) (h : Tryz.prog.underlying 60 = some (.struct fs)) : (Array.mapM (fun f => Prod.mk f.offset <$> sizeOf f.type) fs : Sem (Array (Nat × Nat))).run Tryz.prog w = .ok #[(0, 1), (1, 17), (18, 1), (19, 6), (25, 1), (26, 1)] w := by
  have e := Tryz.underlying60
  rw [h] at e
  cases e
  show _ = _
  kernel_rfl
@[go_sem] theorem run_mkBk_z (w : World) : (mkBk #[]).run Tryz.prog w = .ok (.agg noBk.arr) w := by
  obtain ⟨i0, hi0, hz0, _, _⟩ := infoBk
  exact run_build w _ _ i0 noBk.arr _ _ _ Tryz.underlying60 hi0 hz0 (places_bk w _ Tryz.underlying60) rfl
@[go_sem] theorem run_mkBk_n (w : World) (s : List UInt8) : (mkBk #[(0, .string (textOf s))]).run Tryz.prog w = .ok (.agg (noBk.toN s).arr) w := by
  obtain ⟨i0, hi0, hz0, _, _⟩ := infoBk
  exact run_build w _ _ i0 noBk.arr _ _ _ Tryz.underlying60 hi0 hz0 (places_bk w _ Tryz.underlying60) rfl
end Go.Proofs.YtmpemeemlhmaaaaGreat

namespace Go.Proofs.YtmpemeemlhmaaaaGreat
open Go.RowKit

/-- since world W: what reads lies at x, the backend that is read at y, the answer's place at z; nothing else that was there has turned -/
structure Bst (W w : World) (x p g N : Nat) (bad : Bool) (s : RS) (y : Nat) (b : Bk) : Prop where
  re : ReadS w x p g N bad s
  bk : Box w y b.arr
  res : Box w W.heap.size noBk.arr
  frm : Frm [x, p] W w
  ne : y ≠ x ∧ y ≠ p ∧ y ≠ g ∧ W.heap.size ≠ x ∧ W.heap.size ≠ p ∧ W.heap.size < y
section
variable {W w w' : World} {x p g N y : Nat} {bad bad' : Bool} {s s' : RS} {b b' : Bk}
theorem Bst.step (h : Bst W w x p g N bad s y b) {v : Value} {e : Ending} (k : ReP w x p g N v bad' s' e w') : e = .returned v ∧ Bst W w' x p g N bad' s' y b := by
  obtain ⟨n1, n2, n3, n4, n5, n6⟩ := h.ne
  obtain ⟨k1, k2, k3⟩ := k
  exact ⟨k1, k2, k3.box h.bk (by simp [n1, n2]), k3.box h.res (by simp [n4, n5]), h.frm.trans' k3, h.ne⟩
theorem Bst.read (h : Bst W w x p g N bad s y b) (k : RdrS w' p g N s') (hg : w.grownBy w' (some p)) : Bst W w' x p g N bad s' y b := by
  obtain ⟨n1, n2, n3, n4, n5, n6⟩ := h.ne
  exact ⟨h.re.read k hg, h.bk.grown hg (fun e => n2 (by injection e)), h.res.grown hg (fun e => n5 (by injection e)), h.frm.trans' (Frm.two hg), h.ne⟩
theorem Bst.put (h : Bst W w x p g N bad s y b) (k : Box w' y b'.arr) (hg : w.grownBy w' (some y)) : Bst W w' x p g N bad s y b' := by
  obtain ⟨n1, n2, n3, n4, n5, n6⟩ := h.ne
  exact ⟨h.re.grown hg n2 n3 n1, k, h.res.grown hg (fun e => by injection e; omega), h.frm.grown hg (fun j hj => by injection hj with hj; exact .inr (by omega)), h.ne⟩
theorem Bst.go (h : Bst W w x p g N bad s y b) (hb : Below w.heap.size w w') : Bst W w' x p g N bad s y b :=
  ⟨h.re.go hb, h.bk.go hb, h.res.go hb, h.frm.below hb h.frm.size, h.ne⟩
theorem Bst.drew (h : Bst W w x p g N bad s y b) : Bst W w.drew x p g N bad s y b := ⟨h.re.drew, h.bk.drew, h.res.drew, h.frm.drewN 1, h.ne⟩
theorem Bst.cell0 (h : Bst W w x p g N bad s y b) : w.cell? ⟨x, 0, none⟩ = some (.pointer (some ⟨p, 0, none⟩)) := by rw [h.re.1.facts.1]; rfl
theorem Bst.set (h : Bst W w x p g N bad s y b) (j : Nat) (u : Value) (hb : b.arr.setIfInBounds j u = b'.arr) : Bst W (w.setCell ⟨y, j, none⟩ u) x p g N bad s y b' :=
  h.put (by rw [← hb]; exact h.bk.set_same j u) (gb_set (World.grownBy.refl _ _) (.inl rfl) _)
end
theorem take16 (p g N : Nat) (s : RS) (W : World) (h : RdrS W p g N s) : Calls Tryz.prog 132 #[.pointer (some ⟨p, 0, none⟩), .int .i64 16] W (TakeP W p g N (takeO 16 s)) := take_any p g N s 16 (by omega) W h
theorem take6 (p g N : Nat) (s : RS) (W : World) (h : RdrS W p g N s) : Calls Tryz.prog 132 #[.pointer (some ⟨p, 0, none⟩), .int .i64 6] W (TakeP W p g N (takeO 6 s)) := take_any p g N s 6 (by omega) W h
theorem Bst.rdr {W w : World} {x p g N y : Nat} {bad : Bool} {s : RS} {b : Bk} (h : Bst W w x p g N bad s y b) : RdrS w p g N s := h.re.2.1
theorem Bst.thB {W w : World} {x p g N y : Nat} {bad : Bool} {s : RS} {b : Bk} (h : Bst W w x p g N bad s y b) : w.there y 2 16 := h.bk.there 2 16 (by rw [Bk.arr_size]; omega)
theorem Bst.thM {W w : World} {x p g N y : Nat} {bad : Bool} {s : RS} {b : Bk} (h : Bst W w x p g N bad s y b) : w.there y 19 6 := h.bk.there 19 6 (by rw [Bk.arr_size]; omega)
theorem szU8 : (Tryz.prog.info? 5).map (·.size) = some 1 := by kernel_rfl
theorem grown_cells0 (w : World) (y o : Nat) (vs : List Value) : w.grownBy (w.setCells y o vs) (some y) := grown_setCells vs o w (World.grownBy.refl _ _)
theorem Bst.cpB {W w : World} {x p g N y : Nat} {bad : Bool} {s : RS} {b : Bk} {l : List UInt8} (h : Bst W w x p g N bad s y b) (hl : l.length = 16 ∨ l = []) (h0 : b.addr.b = Vector.replicate 16 0) : Bst W (w.setCells y 2 (l.map bv)) x p g N bad s y (b.toB l) := h.put (h.bk.copyB hl h0) (grown_cells0 _ _ _ _)
theorem Bst.cpM {W w : World} {x p g N y : Nat} {bad : Bool} {s : RS} {b : Bk} {l : List UInt8} (h : Bst W w x p g N bad s y b) (hl : l.length = 6 ∨ l = []) (h0 : b.mac = Vector.replicate 6 0) : Bst W (w.setCells y 19 (l.map bv)) x p g N bad s y (b.toM l) := h.put (h.bk.copyM hl h0) (grown_cells0 _ _ _ _)
theorem Bst.cprB {W w : World} {x p g N y : Nat} {bad : Bool} {s : RS} {b : Bk} {B n c : Nat} {A : Option Addr} {l : List UInt8} (h : Bst W w x p g N bad s y b) (hr : RdB w B A n l) (hl : l.length = 16 ∨ l = []) :
    ∀ ty, (Builtin.copy_ #[32, 32] ty #[.slice (some ⟨y, 2, none⟩) 16 16, .slice A n c]).run Tryz.prog w = .ok (goInt l.length) (w.setCells y 2 (l.map bv)) := fun ty => run_copyB w hr hl h.thB _ ty 5 Tryz.underlying32 szU8
theorem Bst.cprM {W w : World} {x p g N y : Nat} {bad : Bool} {s : RS} {b : Bk} {B n c : Nat} {A : Option Addr} {l : List UInt8} (h : Bst W w x p g N bad s y b) (hr : RdB w B A n l) (hl : l.length = 6 ∨ l = []) :
    ∀ ty, (Builtin.copy_ #[32, 32] ty #[.slice (some ⟨y, 19, none⟩) 6 6, .slice A n c]).run Tryz.prog w = .ok (goInt l.length) (w.setCells y 19 (l.map bv)) := fun ty => run_copyB w hr hl h.thM _ ty 5 Tryz.underlying32 szU8
theorem grown_cells (w : World) (y o : Nat) (vs : List Value) : w.grownBy (w.setCells y o vs) (some y) := grown_setCells vs o w (World.grownBy.refl _ _)
theorem Box.putBk {W : World} {b : Nat} {c : Array Value} (h : Box W b c) (hc : c.size = 27) (x : Bk) : Box (setBk W b 0 x) b x.arr := h.setAll x.arr (by rw [Bk.arr_size, hc])
set_option maxRecDepth 100000 in
set_option maxHeartbeats 8000000 in
theorem reBackend_any (x p g N : Nat) (bad : Bool) (s : RS) (W : World) (h : ReadS W x p g N bad s) (hg : g < W.heap.size) (nm : List UInt8) (s1 : RS) (n2 : Nat) (s2 : RS) (l3 : List UInt8) (s3 : RS) (n4 : Nat) (s4 : RS) (l5 : List UInt8) (s5 : RS) (l6 : List UInt8) (s6 : RS) (n7 : Nat) (s7 : RS)
    (e1 : textO 255 s = (nm, s1)) (e2 : numB 1 s1 = (n2, s2)) (e3 : takeO 16 s2 = (l3, s3)) (e4 : numB 2 s3 = (n4, s4)) (e5 : takeO 6 s4 = (l5, s5)) (e6 : takeO 8 s5 = (l6, s6)) (e7 : numB 1 s6 = (n7, s7)) (hn4 : n4 < 65536) :
    Calls Tryz.prog 95 #[.pointer (some ⟨x, 0, none⟩)] W (ReP W x p g N (.agg (Bk.mk nm ⟨n2 == 1, vecO 16 l3⟩ n4 (vecO 6 l5) (wGet l6) (n7 == 1)).arr) (((bad || decide (1 < n2)) || !wGetOk l6) || decide (1 < n7)) s7) := by
  have hx := h.1.lt
  have hp := h.2.1.lt
  have HX := Lib.hid hx
  have HP := Lib.hid hp
  have HG := Lib.hid hg
  have R0 := Lib.hid (h.go ((Below.refl W.heap.size W).alloc (Nat.le_refl _) (.cells noBk.arr 60)))
  have E3 := Lib.hid e3
  have E4 := Lib.hid e4
  have E5 := Lib.hid e5
  have T1 := Lib.hid (reText_any x p g N bad s _ R0.out)
  rw [e1] at T1
  have C2 := Lib.hid (fun w1 (k : ReadS w1 x p g N bad s1) => reFlag_any x p g N bad s1 w1 k)
  rw [e2] at C2
  obtain ⟨b2, hb2⟩ : ∃ b, b = (bad || decide (1 < n2)) := ⟨_, rfl⟩
  dsimp only at T1 C2
  rw [← hb2] at C2 ⊢
  have C3 := Lib.hid (fun w1 (k : RdrS w1 p g N s2) => take16 p g N s2 w1 k)
  rw [e3] at C3
  have C4 := Lib.hid (fun w1 (k : RdrS w1 p g N s3) => num_any p g N s3 2 (by omega) (by omega) w1 k)
  rw [e4] at C4
  have C5 := Lib.hid (fun w1 (k : RdrS w1 p g N s4) => take6 p g N s4 w1 k)
  rw [e5] at C5
  have C6 := Lib.hid (fun w1 (k : ReadS w1 x p g N b2 s5) => reWeight_any x p g N b2 s5 w1 k)
  rw [e6] at C6
  have L3 := Lib.hid (show l3.length = 16 ∨ l3 = [] from by have := takeO_len2 16 s2; rwa [e3] at this)
  have L5 := Lib.hid (show l5.length = 6 ∨ l5 = [] from by have := takeO_len2 6 s4; rwa [e5] at this)
  dsimp only at C6
  obtain ⟨b6, hb6⟩ : ∃ b, b = (b2 || !wGetOk l6) := ⟨_, rfl⟩
  rw [← hb6] at C6 ⊢
  obtain ⟨w6, hw6⟩ : ∃ u, u = wGet l6 := ⟨_, rfl⟩
  rw [← hw6] at C6 ⊢
  have C7 := Lib.hid (fun w1 (k : ReadS w1 x p g N b6 s6) => reFlag_any x p g N b6 s6 w1 k)
  rw [e7] at C7
  dsimp only at C7
  obtain ⟨d2, hd2⟩ : ∃ d, d = (n2 == 1) := ⟨_, rfl⟩
  obtain ⟨d7, hd7⟩ : ∃ d, d = (n7 == 1) := ⟨_, rfl⟩
  rw [← hd2] at C2 ⊢
  rw [← hd7] at C7 ⊢
  obtain ⟨b7, hb7⟩ : ∃ b, b = (b6 || decide (1 < n7)) := ⟨_, rfl⟩
  rw [← hb7] at C7 ⊢
  have h03 : ((noBk.toN nm).toS d2).addr.b = Vector.replicate 16 0 := rfl
  have h05 : ((((noBk.toN nm).toS d2).toB l3).toP n4).mac = Vector.replicate 6 0 := rfl
  have hz := Lib.hid (Box.new W noBk.arr 60)
  clear h hg e1 e2 e3 e4 e5 e6 e7 hb2 hb6 hb7 hd2 hd7 hw6
  go_enter Tryz.func95, Tryz.ntmps95
  go_wp2_with fail
  refine T1.out.mono ?_
  rintro e w1 ⟨rfl, k1, k2⟩
  have hs1 : W.heap.size < w1.heap.size := Nat.lt_of_lt_of_le (by simp) k2.size
  have B1 := Lib.hid (show Bst W (w1.alloc (.cells (noBk.toN nm).arr 60)) x p g N bad s1 w1.heap.size (noBk.toN nm) from
    ⟨k1.go ((Below.refl _ _).alloc (Nat.le_refl _) _), Box.new _ _ _, (k2.box hz.out (by simp; omega)).alloc _, ((Frm.of_below (F := [x, p]) ((Below.refl W.heap.size W).alloc (Nat.le_refl _) (.cells noBk.arr 60))).trans' k2).alloc _, by have := HG.out; omega, by have := HG.out; omega, by have := HG.out; omega, by omega, by omega, hs1⟩)
  clear k1 k2
  go_wp2_with fail
  refine (C2.out _ B1.out.re).mono ?_
  rintro e w2 hP
  obtain ⟨rfl, hB⟩ := B1.out.step hP
  obtain ⟨y1, y2, y3, y4⟩ := hB.bk.facts
  have hly := hB.bk.lt
  have B2 := Lib.hid (hB.set 1 (.bool d2) (Bk.set_six _ _))
  clear hP hB
  go_wp2
  obtain ⟨v2, hv2⟩ : ∃ v, v = w2.setCell ⟨w1.heap.size, 1, none⟩ (.bool d2) := ⟨_, rfl⟩
  rw [← hv2] at B2 ⊢
  clear hv2 y1 y2 y3 y4 hly
  go_region_held3 (fun W' => W'.cell? ⟨x, 0, none⟩ = some (.pointer (some ⟨p, 0, none⟩)))
    (first | exact B2.out.drew.cell0 | exact B2.out.cell0 | exact B3.out.cell0 | exact B3b.out.cell0 | go_keep)
    (first
    | (go_at_call 132; (with_reducible refine (C3.out _ B2.out.drew.rdr).mono ?_); rintro e w3 ⟨A3, n3', c3, rfl, hrd, q1, q2, q3, h3, hg3⟩; have hB := B2.out.drew.read h3 hg3; have hcp := hB.cprB (c := c3) hrd L3.out; have B3 := Lib.hid hB; have B3b := Lib.hid (hB.cpB L3.out h03); clear hB h3 hg3 hrd q1 q2 q3))
  clear hcp
  obtain ⟨v3, hv3⟩ : ∃ v, v = w3.setCells w1.heap.size 2 (l3.map bv) := ⟨_, rfl⟩
  rw [← hv3] at B3b ⊢
  clear hv3 B3
  have hc0 := B3b.out.cell0
  go_wp2_with fail
  refine (C4.out _ B3b.out.rdr).mono ?_
  rintro e w4 ⟨rfl, h4, hg4⟩
  have hB := B3b.out.read h4 hg4
  obtain ⟨y1, y2, y3, y4⟩ := hB.bk.facts
  have hly := hB.bk.lt
  have B4 := Lib.hid (hB.set 18 (.int .i64 (n4 : Int)) (Bk.set_port _ _))
  clear h4 hg4 hB hc0
  go_wp2
  obtain ⟨v4, hv4⟩ : ∃ v, v = w4.setCell ⟨w1.heap.size, 18, none⟩ (.int .i64 (n4 : Int)) := ⟨_, rfl⟩
  rw [← hv4] at B4 ⊢
  clear hv4 y1 y2 y3 y4 hly
  go_region_held3 (fun W' => W'.cell? ⟨x, 0, none⟩ = some (.pointer (some ⟨p, 0, none⟩)))
    (first | exact B4.out.drew.cell0 | exact B4.out.cell0 | exact B5.out.cell0 | exact B5b.out.cell0 | go_keep)
    (first
    | (go_at_call 132; (with_reducible refine (C5.out _ B4.out.drew.rdr).mono ?_); rintro e w5 ⟨A5, n5', c5, rfl, hrd, q1, q2, q3, h3, hg3⟩; have hB := B4.out.drew.read h3 hg3; have hcp := hB.cprM (c := c5) hrd L5.out; have B5 := Lib.hid hB; have B5b := Lib.hid (hB.cpM L5.out h05); clear hB h3 hg3 hrd q1 q2 q3))
  clear hcp
  obtain ⟨v5, hv5⟩ : ∃ v, v = w5.setCells w1.heap.size 19 (l5.map bv) := ⟨_, rfl⟩
  rw [← hv5] at B5b ⊢
  clear hv5 B5
  go_wp2_with fail
  refine (C6.out _ B5b.out.re).mono ?_
  rintro e w6w hP
  obtain ⟨rfl, hB⟩ := B5b.out.step hP
  obtain ⟨y1, y2, y3, y4⟩ := hB.bk.facts
  have hly := hB.bk.lt
  have B6 := Lib.hid (hB.set 25 (.float .f64 w6) (Bk.set_w _ _))
  clear hP hB
  go_wp2_with fail
  refine (C7.out _ B6.out.re).mono ?_
  rintro e w7 hP
  obtain ⟨rfl, hB⟩ := B6.out.step hP
  obtain ⟨y1, y2, y3, y4⟩ := hB.bk.facts
  have hly := hB.bk.lt
  have B7 := Lib.hid (hB.set 26 (.bool d7) (Bk.set_d _ _))
  clear hP hB
  have thz := B7.out.res.there 0 27 (by rw [Bk.arr_size]; omega)
  obtain ⟨y1, y2, y3, y4⟩ := B7.out.bk.facts
  have hne : w1.heap.size ≠ W.heap.size := by omega
  go_wp2
  obtain ⟨tt, ht⟩ := Box.putBk B7.out.res (Bk.arr_size _) (((((((noBk.toN nm).toS d2).toB l3).toP n4).toM l5).toW w6).toD d7)
  refine bodyPost_ret (results_cell_row rfl _ _ W.heap.size tt (((((((noBk.toN nm).toS d2).toB l3).toP n4).toM l5).toW w6).toD d7).arr (0, 0) _ rfl ht Tryz.underlying60 rfl (by rw [Bk.arr_size]; kernel_rfl)) rfl ?_
  have hg2 := HG.out
  exact ⟨rfl, B7.out.re.grown (grown_cells _ _ _ _) (by omega) (by omega) (by omega), B7.out.frm.grown (grown_cells _ _ _ _) (fun j hj => by injection hj with hj; exact .inr (by omega))⟩
/-! ### TakeBackend -/
theorem infoRe : ∃ i : TypeInfo, Tryz.prog.info? 150 = some i ∧ i.zero = some (.agg #[.pointer none, .bool false]) := by
  cases h : Tryz.prog.info? 150 with
  | none => exact absurd h (by have : (Tryz.prog.info? 150).isSome = true := by kernel_rfl
                               intro e; rw [e] at this; cases this)
  | some i =>
    have h3 : (Tryz.prog.info? 150).map (·.zero) = some (some (.agg #[.pointer none, .bool false])) := by kernel_rfl
    rw [h] at h3
    simp at h3
    exact ⟨i, rfl, h3⟩
theorem places_re (w : World) (fs : Array Field) (h : Tryz.prog.underlying 150 = some (.struct fs)) : (Array.mapM (fun f => Prod.mk f.offset <$> sizeOf f.type) fs : Sem (Array (Nat × Nat))).run Tryz.prog w = .ok #[(0, 1), (1, 1)] w := by
  have e := Tryz.underlying150
  rw [h] at e
  cases e
  show _ = _
  kernel_rfl
def mkRe (ps : Array (Nat × Value)) : Sem Value := Instr.build 150 ps
@[go_sem ↓] theorem mkRe_is (ps : Array (Nat × Value)) : Instr.build 150 ps = mkRe ps := rfl
@[go_sem] theorem run_mkRe (w : World) (p : Nat) : (mkRe #[(0, .pointer (some ⟨p, 0, none⟩))]).run Tryz.prog w = .ok (.agg (reC p false)) w := by
  obtain ⟨i0, hi0, hz0⟩ := infoRe
  exact run_build w _ _ i0 #[.pointer none, .bool false] _ _ _ Tryz.underlying150 hi0 hz0 (places_re w _ Tryz.underlying150) rfl
theorem bigNum_two (k : Nat) (s : RS) (hk : k ≤ 2) : (numB k s).1 < 65536 := by
  unfold numB
  have h := takeO_len (k := k) (s := s)
  have h1 := bigNum_lt (takeO k s).1
  have h2 : 256 ^ (takeO k s).1.length ≤ 256 ^ 2 := Nat.pow_le_pow_right (by omega) (by omega)
  show bigNum _ < _
  omega
/-- what is read, with whether it may be, by whatever reads -/
def OneP {α : Type} (f : α → Array Value) (W : World) (p g N : Nat) (r : (α × Bool) × RS) (e : Ending) (W' : World) : Prop :=
  e = .returned (.tuple #[.agg (f r.1.1), .bool r.1.2]) ∧ RdrS W' p g N r.2 ∧ W.grownBy W' (some p)
set_option maxRecDepth 100000 in
set_option maxHeartbeats 8000000 in
theorem takeBk_any (p g N : Nat) (s : RS) (W : World) (h : RdrS W p g N s) (hg : g < W.heap.size) :
    Calls Tryz.prog 47 #[.pointer (some ⟨p, 0, none⟩)] W (OneP Bk.arr W p g N (bkO s)) := by
  have hp := h.lt
  have HG := Lib.hid hg
  -- the world in which the reading begins
  obtain ⟨W1, hW1⟩ : ∃ W1, W1 = (W.alloc (.cells noBk.arr 60)).alloc (.cells (reC p false) 150) := ⟨_, rfl⟩
  have hb1 : Below W.heap.size W W1 := by rw [hW1]; exact ((Below.refl W.heap.size W).alloc (Nat.le_refl _) _).alloc (by simp) _
  have hsz : W1.heap.size = W.heap.size + 2 := by rw [hW1]; simp
  have R1 := Lib.hid (show ReadS W1 (W.heap.size + 1) p g N false s from ⟨by rw [hW1]; exact Box.new1 W _ _ _, h.go hb1, by omega, by omega⟩)
  have Z1 := Lib.hid (show Box W1 W.heap.size noBk.arr by rw [hW1]; exact (Box.new W _ _).alloc _)
  obtain ⟨⟨nm, s1⟩, e1⟩ : ∃ r, textO 255 s = r := ⟨_, rfl⟩
  obtain ⟨⟨n2, s2⟩, e2⟩ : ∃ r, numB 1 s1 = r := ⟨_, rfl⟩
  obtain ⟨⟨l3, s3⟩, e3⟩ : ∃ r, takeO 16 s2 = r := ⟨_, rfl⟩
  obtain ⟨⟨n4, s4⟩, e4⟩ : ∃ r, numB 2 s3 = r := ⟨_, rfl⟩
  obtain ⟨⟨l5, s5⟩, e5⟩ : ∃ r, takeO 6 s4 = r := ⟨_, rfl⟩
  obtain ⟨⟨l6, s6⟩, e6⟩ : ∃ r, takeO 8 s5 = r := ⟨_, rfl⟩
  obtain ⟨⟨n7, s7⟩, e7⟩ : ∃ r, numB 1 s6 = r := ⟨_, rfl⟩
  have hn4 : n4 < 65536 := by have := bigNum_two 2 s3 (by omega); rw [e4] at this; exact this
  have RB := Lib.hid (reBackend_any (W.heap.size + 1) p g N false s W1 R1.out (by omega) nm s1 n2 s2 l3 s3 n4 s4 l5 s5 l6 s6 n7 s7 e1 e2 e3 e4 e5 e6 e7 hn4)
  have hO : bkO s = (if decide (n2 ≤ 1) && wGetOk l6 && decide (n7 ≤ 1) && s7.isSome then (⟨nm, ⟨n2 == 1, vecO 16 l3⟩, n4, vecO 6 l5, wGet l6, n7 == 1⟩, true) else (noBk, false), s7) := by
    unfold bkO
    simp only [e1, e2, e3, e4, e5, e6, e7]
  rw [hO]
  obtain ⟨b, hbb⟩ : ∃ b : Bk, b = ⟨nm, ⟨n2 == 1, vecO 16 l3⟩, n4, vecO 6 l5, wGet l6, n7 == 1⟩ := ⟨_, rfl⟩
  rw [← hbb] at RB ⊢
  obtain ⟨bad, hbad⟩ : ∃ bad, bad = (((false || decide (1 < n2)) || !wGetOk l6) || decide (1 < n7)) := ⟨_, rfl⟩
  rw [← hbad] at RB
  have hq : (decide (n2 ≤ 1) && wGetOk l6 && decide (n7 ≤ 1) && s7.isSome) = (!bad && s7.isSome) := by
    rw [hbad]
    have a1 : decide (1 < n2) = !decide (n2 ≤ 1) := by rw [← decide_not]; exact decide_eq_decide.2 (by omega)
    have a2 : decide (1 < n7) = !decide (n7 ≤ 1) := by rw [← decide_not]; exact decide_eq_decide.2 (by omega)
    rw [a1, a2]
    cases decide (n2 ≤ 1) <;> cases wGetOk l6 <;> cases decide (n7 ≤ 1) <;> cases s7.isSome <;> rfl
  rw [hq]
  have HW1 := Lib.hid hW1
  have HB1 := Lib.hid hb1
  clear e1 e2 e3 e4 e5 e6 e7 hn4 hO hbb hbad hq h hb1 hg
  obtain ⟨q, hqq⟩ : ∃ q, q = (!bad && s7.isSome) := ⟨_, rfl⟩
  rw [← hqq]
  have OK := Lib.hid (fun W' (k : ReadS W' (W.heap.size + 1) p g N bad s7) => reOkay_any (W.heap.size + 1) p g N bad s7 W' k)
  rw [← hqq] at OK
  clear hqq
  cases q
  · rw [if_neg (by decide)]
    go_enter Tryz.func47, Tryz.ntmps47
    go_wp2_with fail
    rw [← HW1.out]
    refine RB.out.mono ?_
    rintro e w2 ⟨rfl, h2, f2⟩
    have Z2 := Lib.hid (f2.box Z1.out (by simp; omega))
    have hs2 := f2.size
    have R3 := Lib.hid (h2.go ((Below.refl w2.heap.size w2).alloc (Nat.le_refl _) (.cells b.arr 60)))
    have F2 := Lib.hid (show Frm [W.heap.size + 1, p] W w2 from (Frm.of_below HB1.out).trans' f2)
    have Z3 := Lib.hid (Z2.out.alloc (.cells b.arr 60))
    clear h2 f2 hW1
    go_wp2_with fail
    refine (OK.out _ R3.out).mono ?_
    rintro e w3 ⟨rfl, hb3⟩
    have R4 := Lib.hid (R3.out.go hb3)
    have Z4 := Lib.hid (Z3.out.go hb3)
    have Y4 := Lib.hid ((Box.new w2 b.arr 60).go hb3)
    have F4 := Lib.hid ((F2.out.alloc (.cells b.arr 60)).below hb3 (by simp; omega))
    have thz := Z4.out.there 0 27 (by rw [Bk.arr_size]; omega)
    obtain ⟨y1, y2, y3, y4⟩ := Y4.out.facts
    clear hb3
    have hne : w2.heap.size ≠ W.heap.size := by omega
    have fin : ∀ (c : Bk), RdrS (setBk w3 W.heap.size 0 c) p g N s7 ∧ W.grownBy (setBk w3 W.heap.size 0 c) (some p) := fun c => by
      have hg2 := HG.out
      refine ⟨(R4.out.grown (grown_cells w3 W.heap.size 0 c.arr.toList) (by omega) (by omega) (by omega)).2.1, ?_⟩
      have hF : Frm [W.heap.size + 1, p] W (setBk w3 W.heap.size 0 c) := F4.out.grown (grown_cells _ _ _ _) (fun j hj => by injection hj with hj; exact .inr (by omega))
      exact ⟨hF.os, hF.tape, hF.output, hF.size, fun k hk hne => hF.block k hk (fun hm => by
        rcases List.mem_cons.1 hm with rfl | hm
        · omega
        · exact hne (by rw [List.mem_singleton.1 hm]))⟩
    have FIN := Lib.hid fin
    clear fin
    go_wp2
    have hh := (Box.putBk Z4.out (Bk.arr_size _) noBk).facts
    refine bodyPost_ret (ret_bk rfl _ _ W.heap.size 0 rfl (by rw [hh.2.2.1 0 27 (by rw [Bk.csize]; omega)]; trivial)) rfl ?_
    rw [hh.2.2.2 0 27 (by rw [Bk.csize]; omega), Bk.extract_all]
    exact ⟨rfl, (FIN.out noBk).1, (FIN.out noBk).2⟩
  · rw [if_pos rfl]
    go_enter Tryz.func47, Tryz.ntmps47
    go_wp2_with fail
    rw [← HW1.out]
    refine RB.out.mono ?_
    rintro e w2 ⟨rfl, h2, f2⟩
    have Z2 := Lib.hid (f2.box Z1.out (by simp; omega))
    have hs2 := f2.size
    have R3 := Lib.hid (h2.go ((Below.refl w2.heap.size w2).alloc (Nat.le_refl _) (.cells b.arr 60)))
    have F2 := Lib.hid (show Frm [W.heap.size + 1, p] W w2 from (Frm.of_below HB1.out).trans' f2)
    have Z3 := Lib.hid (Z2.out.alloc (.cells b.arr 60))
    clear h2 f2 hW1
    go_wp2_with fail
    refine (OK.out _ R3.out).mono ?_
    rintro e w3 ⟨rfl, hb3⟩
    have R4 := Lib.hid (R3.out.go hb3)
    have Z4 := Lib.hid (Z3.out.go hb3)
    have Y4 := Lib.hid ((Box.new w2 b.arr 60).go hb3)
    have F4 := Lib.hid ((F2.out.alloc (.cells b.arr 60)).below hb3 (by simp; omega))
    have thz := Z4.out.there 0 27 (by rw [Bk.arr_size]; omega)
    obtain ⟨y1, y2, y3, y4⟩ := Y4.out.facts
    clear hb3
    have hne : w2.heap.size ≠ W.heap.size := by omega
    have fin : ∀ (c : Bk), RdrS (setBk w3 W.heap.size 0 c) p g N s7 ∧ W.grownBy (setBk w3 W.heap.size 0 c) (some p) := fun c => by
      have hg2 := HG.out
      refine ⟨(R4.out.grown (grown_cells w3 W.heap.size 0 c.arr.toList) (by omega) (by omega) (by omega)).2.1, ?_⟩
      have hF : Frm [W.heap.size + 1, p] W (setBk w3 W.heap.size 0 c) := F4.out.grown (grown_cells _ _ _ _) (fun j hj => by injection hj with hj; exact .inr (by omega))
      exact ⟨hF.os, hF.tape, hF.output, hF.size, fun k hk hne => hF.block k hk (fun hm => by
        rcases List.mem_cons.1 hm with rfl | hm
        · omega
        · exact hne (by rw [List.mem_singleton.1 hm]))⟩
    have FIN := Lib.hid fin
    clear fin
    go_wp2
    have hh := (Box.putBk Z4.out (Bk.arr_size _) b).facts
    refine bodyPost_ret (ret_bk rfl _ _ W.heap.size 0 rfl (by rw [hh.2.2.1 0 27 (by rw [Bk.csize]; omega)]; trivial)) rfl ?_
    rw [hh.2.2.2 0 27 (by rw [Bk.csize]; omega), Bk.extract_all]
    exact ⟨rfl, (FIN.out b).1, (FIN.out b).2⟩

end Go.Proofs.YtmpemeemlhmaaaaGreat

namespace Go.Proofs.YtmpemeemlhmaaaaGreat
open Go.RowKit

theorem app_get (a b : Array Value) (k j : Nat) (ha : a.size = k) : (a ++ b)[j]? = if j < k then a[j]? else b[j - k]? := by
  rw [Array.getElem?_append, ha]
/-! ### tuples -/
def tuT (t : Tu) : Array Value := #[.int .i64 t.proto, .int .i64 t.sport, .int .i64 t.dport]
def Tu.arr (t : Tu) : Array Value := t.src.arr ++ (t.dst.arr ++ tuT t)
theorem Tu.arr_size (t : Tu) : t.arr.size = 37 := by simp [Tu.arr, tuT, Adr.arr_size]
theorem Tu.arr_s (t : Tu) (j : Nat) (hj : j < 17) : t.arr[j]? = t.src.arr[j]? := by
  unfold Tu.arr; rw [app_get _ _ 17 _ (Adr.arr_size _), if_pos hj]
theorem Tu.arr_d (t : Tu) (j : Nat) (hj : j < 17) : t.arr[j + 17]? = t.dst.arr[j]? := by
  unfold Tu.arr; rw [app_get _ _ 17 _ (Adr.arr_size _), if_neg (by omega), app_get _ _ 17 _ (Adr.arr_size _), if_pos (by omega)]; congr 1
theorem Tu.arr_t (t : Tu) (j : Nat) (hj : j < 3) : t.arr[j + 34]? = (tuT t)[j]? := by
  unfold Tu.arr; rw [app_get _ _ 17 _ (Adr.arr_size _), if_neg (by omega), app_get _ _ 17 _ (Adr.arr_size _), if_neg (by omega)]; congr 1
@[go_sem] theorem Tu.arr_0 (t : Tu) : t.arr[0]? = some (.bool t.src.six) := (Tu.arr_s t 0 (by omega)).trans (Adr.arr_0 _)
@[go_sem] theorem Tu.arr_17 (t : Tu) : t.arr[17]? = some (.bool t.dst.six) := (Tu.arr_d t 0 (by omega)).trans (Adr.arr_0 _)
@[go_sem] theorem Tu.arr_34 (t : Tu) : t.arr[34]? = some (.int .i64 t.proto) := Tu.arr_t t 0 (by omega)
@[go_sem] theorem Tu.arr_35 (t : Tu) : t.arr[35]? = some (.int .i64 t.sport) := Tu.arr_t t 1 (by omega)
@[go_sem] theorem Tu.arr_36 (t : Tu) : t.arr[36]? = some (.int .i64 t.dport) := Tu.arr_t t 2 (by omega)
theorem arr_one_app {a b : Array Value} (h1 : a.all (·.oneCell') = true) (h2 : b.all (·.oneCell') = true) : (a ++ b).all (·.oneCell') = true := by
  rw [Array.all_append, h1, h2]; rfl
theorem Tu.arr_one (t : Tu) : t.arr.all (·.oneCell') = true := arr_one_app (Adr.arr_one _) (arr_one_app (Adr.arr_one _) (by simp [tuT, Value.oneCell']))
theorem Tu.ext_arr {c : Array Value} {t : Tu} (hc : c.size = 37) (h0 : ∀ j, j < 17 → c[j]? = t.src.arr[j]?) (h1 : ∀ j, j < 17 → c[j + 17]? = t.dst.arr[j]?) (h2 : ∀ j, j < 3 → c[j + 34]? = (tuT t)[j]?) : c = t.arr := by
  apply Array.ext_getElem?
  intro j
  rcases (show j < 17 ∨ (17 ≤ j ∧ j < 34) ∨ (34 ≤ j ∧ j < 37) ∨ 37 ≤ j by omega) with h | ⟨h, h'⟩ | ⟨h, h'⟩ | h
  · rw [h0 j h, Tu.arr_s t j h]
  · obtain ⟨i, rfl⟩ : ∃ i, j = i + 17 := ⟨j - 17, by omega⟩
    rw [h1 i (by omega), Tu.arr_d t i (by omega)]
  · obtain ⟨i, rfl⟩ : ∃ i, j = i + 34 := ⟨j - 34, by omega⟩
    rw [h2 i (by omega), Tu.arr_t t i (by omega)]
  · rw [Array.getElem?_eq_none (by omega), Array.getElem?_eq_none (by rw [Tu.arr_size]; exact h)]
theorem Adr.ext_arr {c : Array Value} {a : Adr} (h0 : c[0]? = some (.bool a.six)) (hb : ∀ i, i < 16 → c[i + 1]? = some (bv (a.b.toList.getD i 0))) (j : Nat) (hj : j < 17) : c[j]? = a.arr[j]? := by
  rcases j with _ | i
  · rw [h0]; rfl
  · rw [hb i (by omega), Adr.arr_b a i (by omega)]
@[go_sem] theorem Tu.csize (x : Tu) : csize x.arr = 37 := Tu.arr_size x
@[go_sem] theorem Tu.extract_all (x : Tu) : x.arr.extract 0 37 = x.arr := by
  have := Tu.arr_size x
  rw [← this]; simp
def loadTu (v : Value) : Sem Value := Instr.loadAt 77 v
def storeTu (v x : Value) : Sem Unit := Instr.storeAt 77 v x
@[go_sem ↓] theorem loadTu_is (v : Value) : Instr.loadAt 77 v = loadTu v := rfl
@[go_sem ↓] theorem storeTu_is (v x : Value) : Instr.storeAt 77 v x = storeTu v x := rfl
@[go_sem] theorem load_tu (W : World) (b o : Nat) (h : Has W b o 37) : (loadTu (.pointer (some ⟨b, o, none⟩))).run Tryz.prog W = .ok (.agg (cellsAt W b o 37)) W :=
  run_loadAt_has W b o 37 _ _ Tryz.underlying77 rfl (by kernel_rfl) h
@[go_sem] theorem store_tu_new (W : World) (c : Array Value) (x : Tu) (b : Nat) (hb : b = W.heap.size) (hc : csize c = 37) :
    (storeTu (.pointer (some ⟨b, 0, none⟩)) (.agg x.arr)).run Tryz.prog (W.alloc (.cells c 77)) = .ok () (W.alloc (.cells x.arr 77)) := by
  subst hb; exact run_storeAt_new W _ c x.arr (by rw [Tu.arr_size]; kernel_rfl) (by rw [Tu.arr_size]; exact hc) (Tu.arr_one x)
/-- a whole one into cells that are there -/
def setTu (W : World) (b o : Nat) (x : Tu) : World := W.setCells b o x.arr.toList
@[go_sem] theorem store_tu (W : World) (b o : Nat) (x : Tu) (h : W.there b o 37) : (storeTu (.pointer (some ⟨b, o, none⟩)) (.agg x.arr)).run Tryz.prog W = .ok () (setTu W b o x) :=
  run_storeAt_mid W b o _ x.arr (by rw [Tu.arr_size]; exact h) (by rw [Tu.arr_size]; kernel_rfl) (Tu.arr_one x)
theorem Box.putTu {W : World} {b : Nat} {c : Array Value} (h : Box W b c) (hc : c.size = 37) (x : Tu) : Box (setTu W b 0 x) b x.arr := h.setAll x.arr (by rw [Tu.arr_size, hc])
theorem setTu_grown {w W : World} {g : Nat} (h : w.grownBy W (some g)) (o : Nat) (x : Tu) : w.grownBy (setTu W g o x) (some g) := grown_setCells _ o W h
theorem setTu_below {w W : World} {B : Nat} (h : Below B w W) (b o : Nat) (x : Tu) (hb : B ≤ b) : Below B w (setTu W b o x) := below_setCells hb _ o W h
theorem infoTu : ∃ i : TypeInfo, Tryz.prog.info? 77 = some i ∧ i.zero = some (.agg noTu.arr) ∧ i.size = 37 ∧ i.bytes ≤ 400 := by
  cases h : Tryz.prog.info? 77 with
  | none => exact absurd h (by have : (Tryz.prog.info? 77).isSome = true := by kernel_rfl
                               intro e; rw [e] at this; cases this)
  | some i =>
    have h1 : (Tryz.prog.info? 77).map (·.size) = some 37 := by kernel_rfl
    have h2 : (Tryz.prog.info? 77).map (fun i => decide (i.bytes ≤ 400)) = some true := by kernel_rfl
    have h3 : (Tryz.prog.info? 77).map (·.zero) = some (some (.agg noTu.arr)) := by kernel_rfl
    rw [h] at h1 h2 h3
    simp at h1 h2 h3
    exact ⟨i, rfl, h3, h1, h2⟩
/-- a function whose first result lies in a cell -/
theorem ret_tu {fn : Func} {p u : Tmp} (h : fn.results = #[.cell p 77, .tmp u]) (tmps : Array Value) (W : World) (b o : Nat) (hp : tmps.getD p undef = .pointer (some ⟨b, o, none⟩)) (hh : Has W b o 37) :
    (results fn tmps).run Tryz.prog W = .ok (.tuple #[.agg (cellsAt W b o 37), tmps.getD u undef]) W := by
  have hl := run_loadAt_has W b o 37 _ _ Tryz.underlying77 rfl (by kernel_rfl) hh
  simp only [Instr.loadAt, Instr.sureAddr, Sem.run_bind, Sem.run_pure, Result.andThen_ok] at hl
  rw [results_cell_tmp h, hp]
  simp [asAddr, Result.andThen, hl]
def Tu.toS (t : Tu) (u : Bool) : Tu := { t with src := ⟨u, t.src.b⟩ }
def Tu.toD (t : Tu) (u : Bool) : Tu := { t with dst := ⟨u, t.dst.b⟩ }
def Tu.toSB (t : Tu) (l : List UInt8) : Tu := { t with src := ⟨t.src.six, vecO 16 l⟩ }
def Tu.toDB (t : Tu) (l : List UInt8) : Tu := { t with dst := ⟨t.dst.six, vecO 16 l⟩ }
def Tu.to0 (t : Tu) (n : Int) : Tu := { t with proto := n }
def Tu.to1 (t : Tu) (n : Int) : Tu := { t with sport := n }
def Tu.to2 (t : Tu) (n : Int) : Tu := { t with dport := n }
theorem Tu.set_s (t : Tu) (u : Bool) : t.arr.setIfInBounds 0 (.bool u) = (t.toS u).arr := by
  refine Tu.ext_arr (by simp [Tu.arr_size]) ?_ ?_ ?_ <;> intro j hj
  · refine Adr.ext_arr ?_ (fun i hi => ?_) j hj <;> rw [set_get _ _ _ _ (by rw [Tu.arr_size]; omega)]
    · rw [if_pos rfl]; rfl
    · rw [if_neg (by omega), Tu.arr_s t _ (by omega), Adr.arr_b _ i hi]; rfl
  · rw [set_get _ _ _ _ (by rw [Tu.arr_size]; omega), if_neg (by omega), Tu.arr_d t j hj]; rfl
  · rw [set_get _ _ _ _ (by rw [Tu.arr_size]; omega), if_neg (by omega), Tu.arr_t t j hj]; rfl
theorem Tu.set_d (t : Tu) (u : Bool) : t.arr.setIfInBounds 17 (.bool u) = (t.toD u).arr := by
  refine Tu.ext_arr (by simp [Tu.arr_size]) ?_ ?_ ?_ <;> intro j hj
  · rw [set_get _ _ _ _ (by rw [Tu.arr_size]; omega), if_neg (by omega), Tu.arr_s t j hj]; rfl
  · have : ∀ j, j < 17 → (t.arr.setIfInBounds 17 (.bool u))[j + 17]? = (⟨u, t.dst.b⟩ : Adr).arr[j]? := by
      intro j hj
      rw [set_get _ _ _ _ (by rw [Tu.arr_size]; omega)]
      rcases j with _ | i
      · rw [if_pos rfl]; rfl
      · rw [if_neg (by omega), Tu.arr_d t _ (by omega), Adr.arr_b _ i (by omega), Adr.arr_b _ i (by omega)]
    exact this j hj
  · rw [set_get _ _ _ _ (by rw [Tu.arr_size]; omega), if_neg (by omega), Tu.arr_t t j hj]; rfl
theorem Tu.set_0 (t : Tu) (u : Int) : t.arr.setIfInBounds 34 (.int .i64 u) = (t.to0 u).arr := by
  refine Tu.ext_arr (by simp [Tu.arr_size]) ?_ ?_ ?_ <;> intro j hj <;> rw [set_get _ _ _ _ (by rw [Tu.arr_size]; omega)]
  · rw [if_neg (by omega), Tu.arr_s t j hj]; rfl
  · rw [if_neg (by omega), Tu.arr_d t j hj]; rfl
  · rcases (show j = 0 ∨ j = 1 ∨ j = 2 by omega) with rfl | rfl | rfl
    · rw [if_pos (by omega)]; rfl
    · rw [if_neg (by omega), Tu.arr_t t 1 (by omega)]; rfl
    · rw [if_neg (by omega), Tu.arr_t t 2 (by omega)]; rfl
theorem Tu.set_1 (t : Tu) (u : Int) : t.arr.setIfInBounds 35 (.int .i64 u) = (t.to1 u).arr := by
  refine Tu.ext_arr (by simp [Tu.arr_size]) ?_ ?_ ?_ <;> intro j hj <;> rw [set_get _ _ _ _ (by rw [Tu.arr_size]; omega)]
  · rw [if_neg (by omega), Tu.arr_s t j hj]; rfl
  · rw [if_neg (by omega), Tu.arr_d t j hj]; rfl
  · rcases (show j = 0 ∨ j = 1 ∨ j = 2 by omega) with rfl | rfl | rfl
    · rw [if_neg (by omega), Tu.arr_t t 0 (by omega)]; rfl
    · rw [if_pos (by omega)]; rfl
    · rw [if_neg (by omega), Tu.arr_t t 2 (by omega)]; rfl
theorem Tu.set_2 (t : Tu) (u : Int) : t.arr.setIfInBounds 36 (.int .i64 u) = (t.to2 u).arr := by
  refine Tu.ext_arr (by simp [Tu.arr_size]) ?_ ?_ ?_ <;> intro j hj <;> rw [set_get _ _ _ _ (by rw [Tu.arr_size]; omega)]
  · rw [if_neg (by omega), Tu.arr_s t j hj]; rfl
  · rw [if_neg (by omega), Tu.arr_d t j hj]; rfl
  · rcases (show j = 0 ∨ j = 1 ∨ j = 2 by omega) with rfl | rfl | rfl
    · rw [if_neg (by omega), Tu.arr_t t 0 (by omega)]; rfl
    · rw [if_neg (by omega), Tu.arr_t t 1 (by omega)]; rfl
    · rw [if_pos (by omega)]; rfl
theorem Tu.toSB_src (t : Tu) (l : List UInt8) : (t.toSB l).src = ⟨t.src.six, vecO 16 l⟩ := rfl
theorem Tu.toSB_dst (t : Tu) (l : List UInt8) : (t.toSB l).dst = t.dst := rfl
theorem Tu.toSB_t (t : Tu) (l : List UInt8) : tuT (t.toSB l) = tuT t := rfl
theorem Tu.toDB_src (t : Tu) (l : List UInt8) : (t.toDB l).src = t.src := rfl
theorem Tu.toDB_dst (t : Tu) (l : List UInt8) : (t.toDB l).dst = ⟨t.dst.six, vecO 16 l⟩ := rfl
theorem Tu.toDB_t (t : Tu) (l : List UInt8) : tuT (t.toDB l) = tuT t := rfl
theorem Adr.mk_0 (u : Bool) (v : Vector UInt8 16) : (Adr.mk u v).arr[0]? = some (.bool u) := rfl
theorem Adr.mk_b (u : Bool) (v : Vector UInt8 16) (i : Nat) (hi : i < 16) : (Adr.mk u v).arr[i + 1]? = some (bv (v.toList.getD i 0)) := Adr.arr_b ⟨u, v⟩ i hi
theorem Tu.lay_s (t : Tu) (l : List UInt8) (hl : l.length = 16) : laid t.arr 1 (l.map bv).toArray = (t.toSB l).arr := by
  refine Tu.ext_arr (by rw [laid_size, Tu.arr_size]) ?_ ?_ ?_ <;> intro j hj <;> rw [laid_get] <;> simp only [Tu.arr_size, List.size_toArray, List.length_map, hl]
  · rw [Tu.toSB_src]
    rcases j with _ | i
    · rw [if_neg (by omega), Tu.arr_s t 0 (by omega), Adr.mk_0, Adr.arr_0]
    · rw [if_pos (by omega), show i + 1 - 1 = i by omega, map_bv_get l i (by omega), Adr.mk_b _ _ i (by omega), vecO_get 16 l i (by omega)]
  · rw [if_neg (by omega), Tu.arr_d t j hj, Tu.toSB_dst]
  · rw [if_neg (by omega), Tu.arr_t t j hj, Tu.toSB_t]
theorem Tu.lay_d (t : Tu) (l : List UInt8) (hl : l.length = 16) : laid t.arr 18 (l.map bv).toArray = (t.toDB l).arr := by
  refine Tu.ext_arr (by rw [laid_size, Tu.arr_size]) ?_ ?_ ?_ <;> intro j hj <;> rw [laid_get] <;> simp only [Tu.arr_size, List.size_toArray, List.length_map, hl]
  · rw [if_neg (by omega), Tu.arr_s t j hj, Tu.toDB_src]
  · rw [Tu.toDB_dst]
    rcases j with _ | i
    · rw [if_neg (by omega), Tu.arr_d t 0 (by omega), Adr.mk_0, Adr.arr_0]
    · rw [if_pos (by omega), show i + 1 + 17 - 18 = i by omega, map_bv_get l i (by omega), Adr.mk_b _ _ i (by omega), vecO_get 16 l i (by omega)]
  · rw [if_neg (by omega), Tu.arr_t t j hj, Tu.toDB_t]
/-! ### flows -/
def fwT (x : Fw) : Array Value := #[.string (textOf x.name), .int .i64 x.state, .int .i64 x.seen, .int .i64 x.no]
def Fw.arr (x : Fw) : Array Value := x.key.arr ++ fwT x
theorem Fw.arr_size (x : Fw) : x.arr.size = 41 := by simp [Fw.arr, fwT, Tu.arr_size]
theorem Fw.arr_k (x : Fw) (j : Nat) (hj : j < 37) : x.arr[j]? = x.key.arr[j]? := by
  unfold Fw.arr; rw [app_get _ _ 37 _ (Tu.arr_size _), if_pos hj]
theorem Fw.arr_t (x : Fw) (j : Nat) (hj : j < 4) : x.arr[j + 37]? = (fwT x)[j]? := by
  unfold Fw.arr; rw [app_get _ _ 37 _ (Tu.arr_size _), if_neg (by omega)]; congr 1
@[go_sem] theorem Fw.arr_37 (x : Fw) : x.arr[37]? = some (.string (textOf x.name)) := Fw.arr_t x 0 (by omega)
@[go_sem] theorem Fw.arr_38 (x : Fw) : x.arr[38]? = some (.int .i64 x.state) := Fw.arr_t x 1 (by omega)
@[go_sem] theorem Fw.arr_39 (x : Fw) : x.arr[39]? = some (.int .i64 x.seen) := Fw.arr_t x 2 (by omega)
@[go_sem] theorem Fw.arr_40 (x : Fw) : x.arr[40]? = some (.int .i64 x.no) := Fw.arr_t x 3 (by omega)
theorem Fw.arr_one (x : Fw) : x.arr.all (·.oneCell') = true := arr_one_app (Tu.arr_one _) (by simp [fwT, Value.oneCell'])
theorem Fw.ext_arr {c : Array Value} {x : Fw} (hc : c.size = 41) (h0 : ∀ j, j < 37 → c[j]? = x.key.arr[j]?) (h2 : ∀ j, j < 4 → c[j + 37]? = (fwT x)[j]?) : c = x.arr := by
  apply Array.ext_getElem?
  intro j
  rcases (show j < 37 ∨ (37 ≤ j ∧ j < 41) ∨ 41 ≤ j by omega) with h | ⟨h, h'⟩ | h
  · rw [h0 j h, Fw.arr_k x j h]
  · obtain ⟨i, rfl⟩ : ∃ i, j = i + 37 := ⟨j - 37, by omega⟩
    rw [h2 i (by omega), Fw.arr_t x i (by omega)]
  · rw [Array.getElem?_eq_none (by omega), Array.getElem?_eq_none (by rw [Fw.arr_size]; exact h)]
@[go_sem] theorem Fw.csize (x : Fw) : csize x.arr = 41 := Fw.arr_size x
@[go_sem] theorem Fw.extract_all (x : Fw) : x.arr.extract 0 41 = x.arr := by
  have := Fw.arr_size x
  rw [← this]; simp
def loadFw (v : Value) : Sem Value := Instr.loadAt 79 v
def storeFw (v x : Value) : Sem Unit := Instr.storeAt 79 v x
@[go_sem ↓] theorem loadFw_is (v : Value) : Instr.loadAt 79 v = loadFw v := rfl
@[go_sem ↓] theorem storeFw_is (v x : Value) : Instr.storeAt 79 v x = storeFw v x := rfl
@[go_sem] theorem load_fw (W : World) (b o : Nat) (h : Has W b o 41) : (loadFw (.pointer (some ⟨b, o, none⟩))).run Tryz.prog W = .ok (.agg (cellsAt W b o 41)) W :=
  run_loadAt_has W b o 41 _ _ Tryz.underlying79 rfl (by kernel_rfl) h
@[go_sem] theorem store_fw_new (W : World) (c : Array Value) (x : Fw) (b : Nat) (hb : b = W.heap.size) (hc : csize c = 41) :
    (storeFw (.pointer (some ⟨b, 0, none⟩)) (.agg x.arr)).run Tryz.prog (W.alloc (.cells c 79)) = .ok () (W.alloc (.cells x.arr 79)) := by
  subst hb; exact run_storeAt_new W _ c x.arr (by rw [Fw.arr_size]; kernel_rfl) (by rw [Fw.arr_size]; exact hc) (Fw.arr_one x)
/-- a whole one into cells that are there -/
def setFw (W : World) (b o : Nat) (x : Fw) : World := W.setCells b o x.arr.toList
@[go_sem] theorem store_fw (W : World) (b o : Nat) (x : Fw) (h : W.there b o 41) : (storeFw (.pointer (some ⟨b, o, none⟩)) (.agg x.arr)).run Tryz.prog W = .ok () (setFw W b o x) :=
  run_storeAt_mid W b o _ x.arr (by rw [Fw.arr_size]; exact h) (by rw [Fw.arr_size]; kernel_rfl) (Fw.arr_one x)
theorem Box.putFw {W : World} {b : Nat} {c : Array Value} (h : Box W b c) (hc : c.size = 41) (x : Fw) : Box (setFw W b 0 x) b x.arr := h.setAll x.arr (by rw [Fw.arr_size, hc])
theorem setFw_grown {w W : World} {g : Nat} (h : w.grownBy W (some g)) (o : Nat) (x : Fw) : w.grownBy (setFw W g o x) (some g) := grown_setCells _ o W h
theorem setFw_below {w W : World} {B : Nat} (h : Below B w W) (b o : Nat) (x : Fw) (hb : B ≤ b) : Below B w (setFw W b o x) := below_setCells hb _ o W h
theorem infoFw : ∃ i : TypeInfo, Tryz.prog.info? 79 = some i ∧ i.zero = some (.agg noFw.arr) ∧ i.size = 41 ∧ i.bytes ≤ 400 := by
  cases h : Tryz.prog.info? 79 with
  | none => exact absurd h (by have : (Tryz.prog.info? 79).isSome = true := by kernel_rfl
                               intro e; rw [e] at this; cases this)
  | some i =>
    have h1 : (Tryz.prog.info? 79).map (·.size) = some 41 := by kernel_rfl
    have h2 : (Tryz.prog.info? 79).map (fun i => decide (i.bytes ≤ 400)) = some true := by kernel_rfl
    have h3 : (Tryz.prog.info? 79).map (·.zero) = some (some (.agg noFw.arr)) := by kernel_rfl
    rw [h] at h1 h2 h3
    simp at h1 h2 h3
    exact ⟨i, rfl, h3, h1, h2⟩
def mkFw (ps : Array (Nat × Value)) : Sem Value := Instr.build 79 ps
@[go_sem ↓] theorem mkFw_is (ps : Array (Nat × Value)) : Instr.build 79 ps = mkFw ps := rfl
theorem places_fw (w : World) (fs : Array Field) (h : Tryz.prog.underlying 79 = some (.struct fs)) : (Array.mapM (fun f => Prod.mk f.offset <$> sizeOf f.type) fs : Sem (Array (Nat × Nat))).run Tryz.prog w = .ok #[(0, 37), (37, 1), (38, 1), (39, 1), (40, 1)] w := by
  have e := Tryz.underlying79
  rw [h] at e
  cases e
  show _ = _
  kernel_rfl
def mkFws (n : Nat) (ps : Array (Nat × Value)) : Sem Value := Instr.buildSlice 26 n ps
@[go_sem ↓] theorem mkFws_is (n : Nat) (ps : Array (Nat × Value)) : Instr.buildSlice 26 n ps = mkFws n ps := rfl
@[go_sem] theorem run_mkFws (w : World) (x : Fw) : (mkFws 1 #[(0, .agg x.arr)]).run Tryz.prog w = .ok (.slice (some ⟨w.heap.size, 0, none⟩) 1 1) (w.alloc (.cells x.arr 79)) := by
  obtain ⟨i0, hi0, hz0, hz1, hzb⟩ := infoFw
  exact run_slice_lit w _ _ i0 (.agg noFw.arr) 41 Tryz.underlying26 hi0 hz0 hz1 (Fw.arr_size noFw) (by omega) (by omega) x.arr (Fw.arr_size x)
/-- a function whose first result lies in a cell -/
theorem ret_fw {fn : Func} {p u : Tmp} (h : fn.results = #[.cell p 79, .tmp u]) (tmps : Array Value) (W : World) (b o : Nat) (hp : tmps.getD p undef = .pointer (some ⟨b, o, none⟩)) (hh : Has W b o 41) :
    (results fn tmps).run Tryz.prog W = .ok (.tuple #[.agg (cellsAt W b o 41), tmps.getD u undef]) W := by
  have hl := run_loadAt_has W b o 41 _ _ Tryz.underlying79 rfl (by kernel_rfl) hh
  simp only [Instr.loadAt, Instr.sureAddr, Sem.run_bind, Sem.run_pure, Result.andThen_ok] at hl
  rw [results_cell_tmp h, hp]
  simp [asAddr, Result.andThen, hl]
def Fw.to1 (x : Fw) (n : Int) : Fw := { x with state := n }
def Fw.to2 (x : Fw) (n : Int) : Fw := { x with seen := n }
def Fw.to3 (x : Fw) (n : Int) : Fw := { x with no := n }
theorem Fw.set_1 (x : Fw) (u : Int) : x.arr.setIfInBounds 38 (.int .i64 u) = (x.to1 u).arr := by
  refine Fw.ext_arr (by simp [Fw.arr_size]) ?_ ?_ <;> intro j hj <;> rw [set_get _ _ _ _ (by rw [Fw.arr_size]; omega)]
  · rw [if_neg (by omega), Fw.arr_k x j hj]; rfl
  · rcases (show j = 0 ∨ j = 1 ∨ j = 2 ∨ j = 3 by omega) with rfl | rfl | rfl | rfl
    · rw [if_neg (by omega), Fw.arr_t x 0 (by omega)]; rfl
    · rw [if_pos (by omega)]; rfl
    · rw [if_neg (by omega), Fw.arr_t x 2 (by omega)]; rfl
    · rw [if_neg (by omega), Fw.arr_t x 3 (by omega)]; rfl
theorem Fw.set_2 (x : Fw) (u : Int) : x.arr.setIfInBounds 39 (.int .i64 u) = (x.to2 u).arr := by
  refine Fw.ext_arr (by simp [Fw.arr_size]) ?_ ?_ <;> intro j hj <;> rw [set_get _ _ _ _ (by rw [Fw.arr_size]; omega)]
  · rw [if_neg (by omega), Fw.arr_k x j hj]; rfl
  · rcases (show j = 0 ∨ j = 1 ∨ j = 2 ∨ j = 3 by omega) with rfl | rfl | rfl | rfl
    · rw [if_neg (by omega), Fw.arr_t x 0 (by omega)]; rfl
    · rw [if_neg (by omega), Fw.arr_t x 1 (by omega)]; rfl
    · rw [if_pos (by omega)]; rfl
    · rw [if_neg (by omega), Fw.arr_t x 3 (by omega)]; rfl
theorem Fw.set_3 (x : Fw) (u : Int) : x.arr.setIfInBounds 40 (.int .i64 u) = (x.to3 u).arr := by
  refine Fw.ext_arr (by simp [Fw.arr_size]) ?_ ?_ <;> intro j hj <;> rw [set_get _ _ _ _ (by rw [Fw.arr_size]; omega)]
  · rw [if_neg (by omega), Fw.arr_k x j hj]; rfl
  · rcases (show j = 0 ∨ j = 1 ∨ j = 2 ∨ j = 3 by omega) with rfl | rfl | rfl | rfl
    · rw [if_neg (by omega), Fw.arr_t x 0 (by omega)]; rfl
    · rw [if_neg (by omega), Fw.arr_t x 1 (by omega)]; rfl
    · rw [if_neg (by omega), Fw.arr_t x 2 (by omega)]; rfl
    · rw [if_pos (by omega)]; rfl
theorem Fw.lay_key (x : Fw) (t : Tu) : laid x.arr 0 t.arr = ({ x with key := t } : Fw).arr := by
  refine Fw.ext_arr (by rw [laid_size, Fw.arr_size]) ?_ ?_ <;> intro j hj <;> rw [laid_get] <;> simp only [Fw.arr_size, Tu.arr_size]
  · rw [if_pos (by omega)]
    rfl
  · rw [if_neg (by omega), Fw.arr_t x j hj]; rfl
theorem Fw.lay_name (x : Fw) (s : List UInt8) : laid x.arr 37 #[.string (textOf s)] = ({ x with name := s } : Fw).arr := by
  rw [laid_one]
  refine Fw.ext_arr (by simp [Fw.arr_size]) ?_ ?_ <;> intro j hj <;> rw [set_get _ _ _ _ (by rw [Fw.arr_size]; omega)]
  · rw [if_neg (by omega), Fw.arr_k x j hj]
  · rcases (show j = 0 ∨ j = 1 ∨ j = 2 ∨ j = 3 by omega) with rfl | rfl | rfl | rfl
    · rw [if_pos (by omega)]; rfl
    · rw [if_neg (by omega), Fw.arr_t x 1 (by omega)]; rfl
    · rw [if_neg (by omega), Fw.arr_t x 2 (by omega)]; rfl
    · rw [if_neg (by omega), Fw.arr_t x 3 (by omega)]; rfl
end Go.Proofs.YtmpemeemlhmaaaaGreat

namespace Go.Proofs.YtmpemeemlhmaaaaGreat
open Go.RowKit

@[go_sem] theorem noTu_cells : Obj.cells #[Value.bool false, Value.int IntKind.u8 0, Value.int IntKind.u8 0, Value.int IntKind.u8 0, Value.int IntKind.u8 0, Value.int IntKind.u8 0, Value.int IntKind.u8 0, Value.int IntKind.u8 0, Value.int IntKind.u8 0, Value.int IntKind.u8 0, Value.int IntKind.u8 0, Value.int IntKind.u8 0, Value.int IntKind.u8 0, Value.int IntKind.u8 0, Value.int IntKind.u8 0, Value.int IntKind.u8 0, Value.int IntKind.u8 0, Value.bool false, Value.int IntKind.u8 0, Value.int IntKind.u8 0, Value.int IntKind.u8 0, Value.int IntKind.u8 0, Value.int IntKind.u8 0, Value.int IntKind.u8 0, Value.int IntKind.u8 0, Value.int IntKind.u8 0, Value.int IntKind.u8 0, Value.int IntKind.u8 0, Value.int IntKind.u8 0, Value.int IntKind.u8 0, Value.int IntKind.u8 0, Value.int IntKind.u8 0, Value.int IntKind.u8 0, Value.int IntKind.u8 0, Value.int IntKind.i64 0, Value.int IntKind.i64 0, Value.int IntKind.i64 0] 77 = Obj.cells noTu.arr 77 := rfl
@[go_sem] theorem noFw_cells : Obj.cells #[Value.bool false, Value.int IntKind.u8 0, Value.int IntKind.u8 0, Value.int IntKind.u8 0, Value.int IntKind.u8 0, Value.int IntKind.u8 0, Value.int IntKind.u8 0, Value.int IntKind.u8 0, Value.int IntKind.u8 0, Value.int IntKind.u8 0, Value.int IntKind.u8 0, Value.int IntKind.u8 0, Value.int IntKind.u8 0, Value.int IntKind.u8 0, Value.int IntKind.u8 0, Value.int IntKind.u8 0, Value.int IntKind.u8 0, Value.bool false, Value.int IntKind.u8 0, Value.int IntKind.u8 0, Value.int IntKind.u8 0, Value.int IntKind.u8 0, Value.int IntKind.u8 0, Value.int IntKind.u8 0, Value.int IntKind.u8 0, Value.int IntKind.u8 0, Value.int IntKind.u8 0, Value.int IntKind.u8 0, Value.int IntKind.u8 0, Value.int IntKind.u8 0, Value.int IntKind.u8 0, Value.int IntKind.u8 0, Value.int IntKind.u8 0, Value.int IntKind.u8 0, Value.int IntKind.i64 0, Value.int IntKind.i64 0, Value.int IntKind.i64 0, Value.string { data := #[] }, Value.int IntKind.i64 0, Value.int IntKind.i64 0, Value.int IntKind.i64 0] 79 = Obj.cells noFw.arr 79 := rfl
@[go_sem] theorem noTu_agg : Value.agg #[Value.bool false, Value.int IntKind.u8 0, Value.int IntKind.u8 0, Value.int IntKind.u8 0, Value.int IntKind.u8 0, Value.int IntKind.u8 0, Value.int IntKind.u8 0, Value.int IntKind.u8 0, Value.int IntKind.u8 0, Value.int IntKind.u8 0, Value.int IntKind.u8 0, Value.int IntKind.u8 0, Value.int IntKind.u8 0, Value.int IntKind.u8 0, Value.int IntKind.u8 0, Value.int IntKind.u8 0, Value.int IntKind.u8 0, Value.bool false, Value.int IntKind.u8 0, Value.int IntKind.u8 0, Value.int IntKind.u8 0, Value.int IntKind.u8 0, Value.int IntKind.u8 0, Value.int IntKind.u8 0, Value.int IntKind.u8 0, Value.int IntKind.u8 0, Value.int IntKind.u8 0, Value.int IntKind.u8 0, Value.int IntKind.u8 0, Value.int IntKind.u8 0, Value.int IntKind.u8 0, Value.int IntKind.u8 0, Value.int IntKind.u8 0, Value.int IntKind.u8 0, Value.int IntKind.i64 0, Value.int IntKind.i64 0, Value.int IntKind.i64 0] = Value.agg noTu.arr := rfl
@[go_sem] theorem noFw_agg : Value.agg #[Value.bool false, Value.int IntKind.u8 0, Value.int IntKind.u8 0, Value.int IntKind.u8 0, Value.int IntKind.u8 0, Value.int IntKind.u8 0, Value.int IntKind.u8 0, Value.int IntKind.u8 0, Value.int IntKind.u8 0, Value.int IntKind.u8 0, Value.int IntKind.u8 0, Value.int IntKind.u8 0, Value.int IntKind.u8 0, Value.int IntKind.u8 0, Value.int IntKind.u8 0, Value.int IntKind.u8 0, Value.int IntKind.u8 0, Value.bool false, Value.int IntKind.u8 0, Value.int IntKind.u8 0, Value.int IntKind.u8 0, Value.int IntKind.u8 0, Value.int IntKind.u8 0, Value.int IntKind.u8 0, Value.int IntKind.u8 0, Value.int IntKind.u8 0, Value.int IntKind.u8 0, Value.int IntKind.u8 0, Value.int IntKind.u8 0, Value.int IntKind.u8 0, Value.int IntKind.u8 0, Value.int IntKind.u8 0, Value.int IntKind.u8 0, Value.int IntKind.u8 0, Value.int IntKind.i64 0, Value.int IntKind.i64 0, Value.int IntKind.i64 0, Value.string { data := #[] }, Value.int IntKind.i64 0, Value.int IntKind.i64 0, Value.int IntKind.i64 0] = Value.agg noFw.arr := rfl
@[go_sem] theorem run_mkFw_kn (w : World) (t : Tu) (s : List UInt8) : (mkFw #[(0, .agg t.arr), (1, .string (textOf s))]).run Tryz.prog w = .ok (.agg (Fw.mk t s 0 0 0).arr) w := by
  obtain ⟨i0, hi0, hz0, _, _⟩ := infoFw
  refine run_build w _ _ i0 noFw.arr _ _ _ Tryz.underlying79 hi0 hz0 (places_fw w _ Tryz.underlying79) ?_
  rw [show (#[(0, Value.agg t.arr), (1, .string (textOf s))] : Array (Nat × Value)).toList = [(0, .agg t.arr), (1, .string (textOf s))] from rfl,
    fill_cons _ _ 0 0 37 _ _ rfl (by rw [cells_agg, Tu.arr_size]) (by rw [Fw.arr_size]; omega), cells_agg, Fw.lay_key,
    fill_cons _ _ 1 37 1 _ _ rfl rfl (by rw [Fw.arr_size]; omega), show (Value.string (textOf s)).cells = #[.string (textOf s)] from rfl, Fw.lay_name]
  rfl
/-- since world W: the reader, the thing c that is read at y, the answer's place (c0) at the first new block; nothing else that was there has turned -/
structure Lst (W w : World) (p g N : Nat) (s : RS) (y : Nat) (c c0 : Array Value) : Prop where
  rdr : RdrS w p g N s
  bk : Box w y c
  res : Box w W.heap.size c0
  frm : Frm [p] W w
  ne : y ≠ p ∧ y ≠ g ∧ p < W.heap.size ∧ g < W.heap.size ∧ W.heap.size < y
section
variable {W w w' : World} {p g N y : Nat} {s s' : RS} {c c' c0 : Array Value}
theorem Lst.read (h : Lst W w p g N s y c c0) (k : RdrS w' p g N s') (hg : w.grownBy w' (some p)) : Lst W w' p g N s' y c c0 := by
  obtain ⟨n1, n2, n3, n4, n5⟩ := h.ne
  exact ⟨k, h.bk.grown hg (fun e => n1 (by injection e)), h.res.grown hg (fun e => by injection e; omega), h.frm.trans' (Frm.of_grown hg (fun j hj => .inl (by injection hj with hj; simp [hj]))), h.ne⟩
theorem Lst.put (h : Lst W w p g N s y c c0) (k : Box w' y c') (hg : w.grownBy w' (some y)) : Lst W w' p g N s y c' c0 := by
  obtain ⟨n1, n2, n3, n4, n5⟩ := h.ne
  exact ⟨h.rdr.grown hg n1 n2, k, h.res.grown hg (fun e => by injection e; omega), h.frm.grown hg (fun j hj => by injection hj with hj; exact .inr (by omega)), h.ne⟩
theorem Lst.go (h : Lst W w p g N s y c c0) (hb : Below w.heap.size w w') : Lst W w' p g N s y c c0 := ⟨h.rdr.go hb, h.bk.go hb, h.res.go hb, h.frm.below hb h.frm.size, h.ne⟩
theorem Lst.drew (h : Lst W w p g N s y c c0) : Lst W w.drew p g N s y c c0 := ⟨h.rdr.drew, h.bk.drew, h.res.drew, h.frm.drewN 1, h.ne⟩
theorem Lst.set (h : Lst W w p g N s y c c0) (j : Nat) (u : Value) (hb : c.setIfInBounds j u = c') : Lst W (w.setCell ⟨y, j, none⟩ u) p g N s y c' c0 :=
  h.put (by rw [← hb]; exact h.bk.set_same j u) (gb_set (World.grownBy.refl _ _) (.inl rfl) _)
theorem Lst.cells (h : Lst W w p g N s y c c0) (o : Nat) (l : List Value) (hb : laid c o l.toArray = c') : Lst W (w.setCells y o l) p g N s y c' c0 := by
  obtain ⟨t, ht⟩ := h.bk
  exact h.put ⟨t, by rw [cells_laid y t _ o _ w ht, hb]⟩ (grown_cells _ _ _ _)
/-- the answer is laid -/
theorem Lst.fin (h : Lst W w p g N s y c c0) (d : Array Value) (hd : d.size = c0.size) : Box (w.setCells W.heap.size 0 d.toList) W.heap.size d ∧ RdrS (w.setCells W.heap.size 0 d.toList) p g N s ∧ W.grownBy (w.setCells W.heap.size 0 d.toList) (some p) := by
  obtain ⟨n1, n2, n3, n4, n5⟩ := h.ne
  exact ⟨h.res.setAll d hd, h.rdr.grown (grown_cells _ _ _ _) (by omega) (by omega), (h.frm.grown (grown_cells _ _ _ _) (fun j hj => by injection hj with hj; exact .inr (by omega))).to_grown⟩
theorem Lst.finHl (h : Lst W w p g N s y c noHl.arr) (x : Hl) : Box (setHl w W.heap.size 0 x) W.heap.size x.arr ∧ RdrS (setHl w W.heap.size 0 x) p g N s ∧ W.grownBy (setHl w W.heap.size 0 x) (some p) := h.fin x.arr (by rw [Hl.arr_size, Hl.arr_size])
theorem Lst.finTu (h : Lst W w p g N s y c noTu.arr) (x : Tu) : Box (setTu w W.heap.size 0 x) W.heap.size x.arr ∧ RdrS (setTu w W.heap.size 0 x) p g N s ∧ W.grownBy (setTu w W.heap.size 0 x) (some p) := h.fin x.arr (by rw [Tu.arr_size, Tu.arr_size])
theorem Lst.finFw (h : Lst W w p g N s y c noFw.arr) (x : Fw) : Box (setFw w W.heap.size 0 x) W.heap.size x.arr ∧ RdrS (setFw w W.heap.size 0 x) p g N s ∧ W.grownBy (setFw w W.heap.size 0 x) (some p) := h.fin x.arr (by rw [Fw.arr_size, Fw.arr_size])
end
/-! ### number -/
theorem numO_lt (s : RS) : (numO s).1 ≤ 1152921504606846977 := Nat.min_le_right _ _
def NumP (W : World) (p g N : Nat) (r : Nat × RS) (e : Ending) (W' : World) : Prop := e = .returned (.int .i64 r.1) ∧ RdrS W' p g N r.2 ∧ W.grownBy W' (some p)
set_option maxRecDepth 100000 in
theorem number_any (p g N : Nat) (s : RS) (W : World) (h : RdrS W p g N s) :
    Calls Tryz.prog 45 #[.pointer (some ⟨p, 0, none⟩)] W (NumP W p g N (numO s)) := by
  have VA := Lib.hid (var_any p g N s W h)
  obtain ⟨v, hv⟩ : ∃ v, varO s = v := ⟨_, rfl⟩
  have hn : numO s = (min v.1 1152921504606846977, v.2) := by unfold numO; rw [hv]
  rw [hn]
  rw [hv] at VA
  obtain ⟨n, s'⟩ := v
  dsimp only at VA ⊢
  have hn64 : n < 18446744073709551616 := by
    have := (peek_bd s).1
    rw [varO_peek] at hv
    injection hv with h1 h2
    omega
  clear hv hn h
  rcases Nat.lt_or_ge 1152921504606846977 n with hlt | hle
  · rw [show min n 1152921504606846977 = 1152921504606846977 by omega]
    have h1 : (1152921504606846977 : Int) < n := by omega
    go_enter Tryz.func45, Tryz.ntmps45
    go_wp2_with fail
    refine VA.out.mono ?_
    rintro e w1 ⟨rfl, h1, hg1⟩
    have FIN := Lib.hid (And.intro h1 hg1)
    clear h1 hg1
    go_wp2
    go_ret
    exact ⟨by simp [hlt]; omega, FIN.out.1, FIN.out.2⟩
  · rw [show min n 1152921504606846977 = n by omega]
    have h1 : ¬ (1152921504606846977 : Int) < n := by omega
    go_enter Tryz.func45, Tryz.ntmps45
    go_wp2_with fail
    refine VA.out.mono ?_
    rintro e w1 ⟨rfl, h1, hg1⟩
    have FIN := Lib.hid (And.intro h1 hg1)
    clear h1 hg1
    go_wp2
    go_ret
    exact ⟨congrArg (fun z => Ending.returned (Value.int .i64 z)) (show min (n : Int) 1152921504606846977 = n by omega), FIN.out.1, FIN.out.2⟩
/-! ### name -/
set_option maxRecDepth 100000 in
theorem snapName_any (p g N : Nat) (s : RS) (W : World) (h : RdrS W p g N s) (hg : g < W.heap.size) :
    Calls Tryz.prog 67 #[.pointer (some ⟨p, 0, none⟩)] W fun e W' => e = .returned (.tuple #[.string (textOf (textO 255 s).1), .bool true]) ∧ RdrS W' p g N (textO 255 s).2 ∧ W.grownBy W' (some p) := by
  have TX := Lib.hid (text_any p g N s 255 (by omega) W h)
  clear h
  go_enter Tryz.func67, Tryz.ntmps67
  go_wp2_with fail
  refine TX.out.mono ?_
  rintro e w1 ⟨A1, n1, c1, rfl, hr, h1, h2, h3, h4, h5⟩
  have hcv : (convert 32 9 (.slice A1 n1 c1)).run Tryz.prog w1 = .ok (.string (textOf (textO 255 s).1)) w1 :=
    run_bytes_text (P := Tryz.prog) hr 32 5 9 Tryz.underlying32 Tryz.underlying5 Tryz.underlying9 c1
  have FIN := Lib.hid (And.intro h4 h5)
  clear hr h4 h5
  go_wp2
  go_ret2
  exact ⟨rfl, FIN.out.1, FIN.out.2⟩
/-! ### health -/
set_option maxRecDepth 100000 in
set_option maxHeartbeats 4000000 in
theorem health_any (p g N : Nat) (s : RS) (W : World) (h : RdrS W p g N s) (hg : g < W.heap.size) :
    Calls Tryz.prog 49 #[.pointer (some ⟨p, 0, none⟩)] W (OneP Hl.arr W p g N (hlO s)) := by
  have hp := h.lt
  have HG := Lib.hid hg
  have hb0 := (Below.refl W.heap.size W).alloc (Nat.le_refl _) (.cells noHl.arr 74)
  have TX := Lib.hid (text_any p g N s 255 (by omega) _ (h.go hb0))
  have Z0 := Lib.hid (Box.new W noHl.arr 74)
  have F0 := Lib.hid (Frm.of_below (F := [p]) hb0)
  obtain ⟨⟨nm, s1⟩, e1⟩ : ∃ r, textO 255 s = r := ⟨_, rfl⟩
  obtain ⟨⟨n2, s2⟩, e2⟩ : ∃ r, numB 1 s1 = r := ⟨_, rfl⟩
  obtain ⟨⟨n3, s3⟩, e3⟩ : ∃ r, numO s2 = r := ⟨_, rfl⟩
  rw [e1] at TX
  have C2 := Lib.hid (fun w1 (k : RdrS w1 p g N s1) => num_any p g N s1 1 (by omega) (by omega) w1 k)
  have C3 := Lib.hid (fun w1 (k : RdrS w1 p g N s2) => number_any p g N s2 w1 k)
  rw [e2] at C2
  rw [e3] at C3
  obtain ⟨d2, hd2⟩ : ∃ d, (n2 == 1) = d := ⟨_, rfl⟩
  have nb2 : ((n2 : Int) == 1) = d2 := by rw [← hd2]; exact nat_beq n2 1
  obtain ⟨d3, hd3⟩ : ∃ d, decide (n2 ≤ 1) = d := ⟨_, rfl⟩
  have nd3 : decide ((n2 : Int) ≤ 1) = d3 := by rw [← hd3]; exact decide_eq_decide.2 (by omega)
  have hO : hlO s = ((⟨nm, d2, n3⟩, d3), s3) := by
    unfold hlO
    simp only [e1, e2, e3, hd2, hd3]
  rw [hO]
  clear e1 e2 e3 hd2 hd3 hO h hg hb0
  go_enter Tryz.func49, Tryz.ntmps49
  go_wp2_with fail
  refine TX.out.mono ?_
  rintro e w1 ⟨A1, n1, c1, rfl, hr, h1, h2, h3, h4, h5⟩
  have hcv : (convert 32 9 (.slice A1 n1 c1)).run Tryz.prog w1 = .ok (.string (textOf nm)) w1 :=
    run_bytes_text (P := Tryz.prog) hr 32 5 9 Tryz.underlying32 Tryz.underlying5 Tryz.underlying9 c1
  have hs1 : W.heap.size < w1.heap.size := Nat.lt_of_lt_of_le (by simp) h5.size
  have B1 := Lib.hid (show Lst W (w1.alloc (.cells (Hl.mk nm false 0).arr 74)) p g N s1 w1.heap.size (Hl.mk nm false 0).arr noHl.arr from
    ⟨h4.go ((Below.refl _ _).alloc (Nat.le_refl _) _), Box.new _ _ _, (Z0.out.grown h5 (fun e => by injection e; omega)).alloc _, (F0.out.trans' (Frm.of_grown h5 (fun j hj => .inl (by injection hj with hj; simp [hj])))).alloc _, by omega, by have := HG.out; omega, hp, HG.out, hs1⟩)
  clear hr h4 h5
  go_wp2_with fail
  refine (C2.out _ B1.out.rdr).mono ?_
  rintro e w2 ⟨rfl, k1, k2⟩
  have B2 := Lib.hid (B1.out.read k1 k2)
  clear k1 k2 hcv
  go_wp2_with fail
  refine (C3.out _ B2.out.rdr).mono ?_
  rintro e w3 ⟨rfl, k1, k2⟩
  have B3 := Lib.hid (B2.out.read k1 k2)
  have B4 := Lib.hid (((B3.out.set 1 (.bool d2) (Hl.set_1 _ _)).set 2 (.int .i64 (n3 : Int)) (Hl.set_2 _ _)))
  obtain ⟨y1, y2, y3, y4⟩ := B3.out.bk.facts
  have hly := B3.out.bk.lt
  obtain ⟨x1, x2, x3, x4⟩ := B4.out.bk.facts
  have thz := B4.out.res.there 0 3 (by rw [Hl.arr_size]; omega)
  clear k1 k2
  go_wp2
  obtain ⟨g1, g2, g3⟩ := B4.out.finHl (Hl.mk nm d2 n3)
  have hh := g1.facts
  refine bodyPost_ret (ret_hl rfl _ _ W.heap.size 0 rfl (by rw [hh.2.2.1 0 3 (by rw [Hl.csize]; omega)]; trivial)) rfl ?_
  rw [hh.2.2.2 0 3 (by rw [Hl.csize]; omega), Hl.extract_all]
  exact ⟨rfl, g2, g3⟩
/-! ### tuple -/
theorem Lst.thS {t : Tu} {W w : World} {p g N y : Nat} {s : RS} {c0 : Array Value} (h : Lst W w p g N s y t.arr c0) : w.there y 1 16 := h.bk.there 1 16 (by rw [Tu.arr_size]; omega)
theorem Lst.thD {t : Tu} {W w : World} {p g N y : Nat} {s : RS} {c0 : Array Value} (h : Lst W w p g N s y t.arr c0) : w.there y 18 16 := h.bk.there 18 16 (by rw [Tu.arr_size]; omega)
theorem Lst.cprS {t : Tu} {W w : World} {p g N y : Nat} {s : RS} {c0 : Array Value} {B n c : Nat} {A : Option Addr} {l : List UInt8} (h : Lst W w p g N s y t.arr c0) (hr : RdB w B A n l) (hl : l.length = 16 ∨ l = []) :
    ∀ ty, (Builtin.copy_ #[32, 32] ty #[.slice (some ⟨y, 1, none⟩) 16 16, .slice A n c]).run Tryz.prog w = .ok (goInt l.length) (w.setCells y 1 (l.map bv)) := fun ty => run_copyB w hr hl h.thS _ ty 5 Tryz.underlying32 szU8
theorem Lst.cprD {t : Tu} {W w : World} {p g N y : Nat} {s : RS} {c0 : Array Value} {B n c : Nat} {A : Option Addr} {l : List UInt8} (h : Lst W w p g N s y t.arr c0) (hr : RdB w B A n l) (hl : l.length = 16 ∨ l = []) :
    ∀ ty, (Builtin.copy_ #[32, 32] ty #[.slice (some ⟨y, 18, none⟩) 16 16, .slice A n c]).run Tryz.prog w = .ok (goInt l.length) (w.setCells y 18 (l.map bv)) := fun ty => run_copyB w hr hl h.thD _ ty 5 Tryz.underlying32 szU8
theorem Lst.layS {t : Tu} {W w : World} {p g N y : Nat} {s : RS} {c0 : Array Value} {l : List UInt8} (h : Lst W w p g N s y t.arr c0) (hl : l.length = 16 ∨ l = []) (h0 : t.src.b = Vector.replicate 16 0) : Lst W (w.setCells y 1 (l.map bv)) p g N s y (t.toSB l).arr c0 := by
  rcases hl with hl | hl
  · exact h.cells 1 _ (Tu.lay_s t l hl)
  · subst hl
    have : t.toSB [] = t := by unfold Tu.toSB; rw [vecO_nil, ← h0]
    rw [this]
    exact h
theorem Lst.layD {t : Tu} {W w : World} {p g N y : Nat} {s : RS} {c0 : Array Value} {l : List UInt8} (h : Lst W w p g N s y t.arr c0) (hl : l.length = 16 ∨ l = []) (h0 : t.dst.b = Vector.replicate 16 0) : Lst W (w.setCells y 18 (l.map bv)) p g N s y (t.toDB l).arr c0 := by
  rcases hl with hl | hl
  · exact h.cells 18 _ (Tu.lay_d t l hl)
  · subst hl
    have : t.toDB [] = t := by unfold Tu.toDB; rw [vecO_nil, ← h0]
    rw [this]
    exact h
set_option maxRecDepth 100000 in
set_option maxHeartbeats 8000000 in
theorem tuple_any (p g N : Nat) (s : RS) (W : World) (h : RdrS W p g N s) (hg : g < W.heap.size) :
    Calls Tryz.prog 99 #[.pointer (some ⟨p, 0, none⟩)] W (OneP Tu.arr W p g N (tuO s)) := by
  have hp := h.lt
  have HG := Lib.hid hg
  obtain ⟨W1, hW1⟩ : ∃ W1, W1 = (W.alloc (.cells noTu.arr 77)).alloc (.cells noTu.arr 77) := ⟨_, rfl⟩
  have hb1 : Below W.heap.size W W1 := by rw [hW1]; exact ((Below.refl W.heap.size W).alloc (Nat.le_refl _) _).alloc (by simp) _
  have B0 := Lib.hid (show Lst W W1 p g N s (W.heap.size + 1) noTu.arr noTu.arr from ⟨h.go hb1, by rw [hW1]; exact Box.new1 W _ _ _, by rw [hW1]; exact (Box.new W _ _).alloc _, Frm.of_below hb1, by omega, by omega, hp, hg, by omega⟩)
  obtain ⟨⟨n1, s1⟩, e1⟩ : ∃ r, numB 1 s = r := ⟨_, rfl⟩
  obtain ⟨⟨l2, s2⟩, e2⟩ : ∃ r, takeO 16 s1 = r := ⟨_, rfl⟩
  obtain ⟨⟨l3, s3⟩, e3⟩ : ∃ r, takeO 16 s2 = r := ⟨_, rfl⟩
  obtain ⟨⟨n4, s4⟩, e4⟩ : ∃ r, numB 1 s3 = r := ⟨_, rfl⟩
  obtain ⟨⟨n5, s5⟩, e5⟩ : ∃ r, numB 2 s4 = r := ⟨_, rfl⟩
  obtain ⟨⟨n6, s6⟩, e6⟩ : ∃ r, numB 2 s5 = r := ⟨_, rfl⟩
  have hn4 : n4 < 65536 := by have := bigNum_two 1 s3 (by omega); rw [e4] at this; exact this
  have hn5 : n5 < 65536 := by have := bigNum_two 2 s4 (by omega); rw [e5] at this; exact this
  have hn6 : n6 < 65536 := by have := bigNum_two 2 s5 (by omega); rw [e6] at this; exact this
  have C1 := Lib.hid (num_any p g N s 1 (by omega) (by omega) W1 B0.out.rdr)
  have C2 := Lib.hid (fun w1 (k : RdrS w1 p g N s1) => take16 p g N s1 w1 k)
  have C3 := Lib.hid (fun w1 (k : RdrS w1 p g N s2) => take16 p g N s2 w1 k)
  have C4 := Lib.hid (fun w1 (k : RdrS w1 p g N s3) => num_any p g N s3 1 (by omega) (by omega) w1 k)
  have C5 := Lib.hid (fun w1 (k : RdrS w1 p g N s4) => num_any p g N s4 2 (by omega) (by omega) w1 k)
  have C6 := Lib.hid (fun w1 (k : RdrS w1 p g N s5) => num_any p g N s5 2 (by omega) (by omega) w1 k)
  rw [e1] at C1
  rw [e2] at C2
  rw [e3] at C3
  rw [e4] at C4
  rw [e5] at C5
  rw [e6] at C6
  have L2 := Lib.hid (show l2.length = 16 ∨ l2 = [] from by have := takeO_len2 16 s1; rwa [e2] at this)
  have L3 := Lib.hid (show l3.length = 16 ∨ l3 = [] from by have := takeO_len2 16 s2; rwa [e3] at this)
  obtain ⟨d6, hd6⟩ : ∃ d, (n1 == 6) = d := ⟨_, rfl⟩
  have nb6 : ((n1 : Int) == 6) = d6 := by rw [← hd6]; exact nat_beq n1 6
  obtain ⟨d4, hd4⟩ : ∃ d, (n1 == 4) = d := ⟨_, rfl⟩
  have nb4 : ((n1 : Int) == 4) = d4 := by rw [← hd4]; exact nat_beq n1 4
  have hO : tuO s = ((⟨⟨d6, vecO 16 l2⟩, ⟨d6, vecO 16 l3⟩, n4, n5, n6⟩, d6 || d4), s6) := by
    unfold tuO
    simp only [e1, e2, e3, e4, e5, e6, hd6, hd4]
  rw [hO]
  have h02 : ((noTu.toS d6).toD d6).src.b = Vector.replicate 16 0 := rfl
  have h03 : (((noTu.toS d6).toD d6).toSB l2).dst.b = Vector.replicate 16 0 := rfl
  have HW1 := Lib.hid hW1
  clear e1 e2 e3 e4 e5 e6 hd6 hd4 hO h hg hb1 hW1
  go_enter Tryz.func99, Tryz.ntmps99
  go_wp2_with fail
  rw [← HW1.out]
  refine C1.out.mono ?_
  rintro e w1 ⟨rfl, k1, k2⟩
  have B1 := Lib.hid (B0.out.read k1 k2)
  have B1s := Lib.hid ((B1.out.set 0 (.bool d6) (Tu.set_s _ _)).set 17 (.bool d6) (Tu.set_d _ _))
  obtain ⟨y1, y2, y3, y4⟩ := B1.out.bk.facts
  have hly := B1.out.bk.lt
  clear k1 k2
  go_upto_region 4 with fail
  obtain ⟨v1, hv1⟩ : ∃ v, v = (w1.setCell ⟨W.heap.size + 1, 0, none⟩ (.bool d6)).setCell ⟨W.heap.size + 1, 17, none⟩ (.bool d6) := ⟨_, rfl⟩
  rw [← hv1] at B1s ⊢
  clear hv1 y1 y2 y3 y4 hly
  go_region_held3 (fun W' => 0 ≤ W'.heap.size)
    (first | exact Nat.zero_le _ | go_keep)
    (first
    | (go_at_call 132; (with_reducible refine (C2.out _ B1s.out.drew.rdr).mono ?_); rintro e w2 ⟨A2, n2', c2, rfl, hrd, q1, q2, q3, h3, hg3⟩; have hB := B1s.out.drew.read h3 hg3; have hcp := hB.cprS (c := c2) hrd L2.out; have B2b := Lib.hid (hB.layS L2.out h02); clear hB h3 hg3 hrd q1 q2 q3))
  clear hcp
  obtain ⟨v2, hv2⟩ : ∃ v, v = w2.setCells (W.heap.size + 1) 1 (l2.map bv) := ⟨_, rfl⟩
  rw [← hv2] at B2b ⊢
  clear hv2
  go_upto_region 5 with fail
  go_region_held3 (fun W' => 0 ≤ W'.heap.size)
    (first | exact Nat.zero_le _ | go_keep)
    (first
    | (go_at_call 132; (with_reducible refine (C3.out _ B2b.out.drew.rdr).mono ?_); rintro e w3 ⟨A3, n3', c3, rfl, hrd, q1, q2, q3, h3, hg3⟩; have hB := B2b.out.drew.read h3 hg3; have hcp := hB.cprD (c := c3) hrd L3.out; have B3b := Lib.hid (hB.layD L3.out h03); clear hB h3 hg3 hrd q1 q2 q3))
  clear hcp
  obtain ⟨v3, hv3⟩ : ∃ v, v = w3.setCells (W.heap.size + 1) 18 (l3.map bv) := ⟨_, rfl⟩
  rw [← hv3] at B3b ⊢
  clear hv3
  go_wp2_with fail
  refine (C4.out _ B3b.out.rdr).mono ?_
  rintro e w4 ⟨rfl, k1, k2⟩
  have B4 := Lib.hid (B3b.out.read k1 k2)
  have B4s := Lib.hid (B4.out.set 34 (.int .i64 (n4 : Int)) (Tu.set_0 _ _))
  obtain ⟨y1, y2, y3, y4⟩ := B4.out.bk.facts
  have hly := B4.out.bk.lt
  clear k1 k2
  go_wp2_with fail
  obtain ⟨v4, hv4⟩ : ∃ v, v = w4.setCell ⟨W.heap.size + 1, 34, none⟩ (.int .i64 (n4 : Int)) := ⟨_, rfl⟩
  rw [← hv4] at B4s ⊢
  clear hv4 y1 y2 y3 y4 hly
  refine (C5.out _ B4s.out.rdr).mono ?_
  rintro e w5 ⟨rfl, k1, k2⟩
  have B5 := Lib.hid (B4s.out.read k1 k2)
  clear k1 k2
  go_wp2_with fail
  refine (C6.out _ B5.out.rdr).mono ?_
  rintro e w6 ⟨rfl, k1, k2⟩
  have B6 := Lib.hid (B5.out.read k1 k2)
  have B7 := Lib.hid ((B6.out.set 35 (.int .i64 (n5 : Int)) (Tu.set_1 _ _)).set 36 (.int .i64 (n6 : Int)) (Tu.set_2 _ _))
  obtain ⟨y1, y2, y3, y4⟩ := B6.out.bk.facts
  have hly := B6.out.bk.lt
  obtain ⟨x1, x2, x3, x4⟩ := B7.out.bk.facts
  have thz := B7.out.res.there 0 37 (by rw [Tu.arr_size]; omega)
  clear k1 k2
  obtain ⟨g1, g2, g3⟩ := B7.out.finTu (((((((noTu.toS d6).toD d6).toSB l2).toDB l3).to0 n4).to1 n5).to2 n6)
  have FIN := Lib.hid (And.intro g1 (And.intro g2 g3))
  clear g1 g2 g3
  cases d6
  all_goals
    go_wp2
    have hh := FIN.out.1.facts
    refine bodyPost_ret (ret_tu rfl _ _ W.heap.size 0 rfl (by rw [hh.2.2.1 0 37 (by rw [Tu.csize]; omega)]; trivial)) rfl ?_
    rw [hh.2.2.2 0 37 (by rw [Tu.csize]; omega), Tu.extract_all]
    exact ⟨rfl, FIN.out.2.1, FIN.out.2.2⟩
/-! ### flow -/
theorem conv_later {w W : World} {n : Nat} {A : Option Addr} {l : List UInt8} (h : RdB w w.heap.size A n l) (hb : Below w.heap.size w W) (c : Nat) : (convert 32 9 (.slice A n c)).run Tryz.prog W = .ok (.string (textOf l)) W :=
  run_bytes_text (P := Tryz.prog) (h.to hb (Nat.le_refl _)) 32 5 9 Tryz.underlying32 Tryz.underlying5 Tryz.underlying9 c
theorem conv_alloc {w : World} {n : Nat} {A : Option Addr} {l : List UInt8} (h : RdB w w.heap.size A n l) (c : Nat) : ∀ ob, (convert 32 9 (.slice A n c)).run Tryz.prog (w.alloc ob) = .ok (.string (textOf l)) (w.alloc ob) := fun ob => conv_later h ((Below.refl w.heap.size w).alloc (Nat.le_refl _) ob) c
theorem conv_now {w : World} {n : Nat} {A : Option Addr} {l : List UInt8} (h : RdB w w.heap.size A n l) (c : Nat) : (convert 32 9 (.slice A n c)).run Tryz.prog w = .ok (.string (textOf l)) w := conv_later h (Below.refl _ _) c
theorem text255 (p g N : Nat) (s : RS) (W : World) (h : RdrS W p g N s) : Calls Tryz.prog 97 #[.pointer (some ⟨p, 0, none⟩), .int .i64 255] W (TakeP W p g N (textO 255 s)) := text_any p g N s 255 (by omega) W h
theorem load_tu_box {W : World} {b : Nat} {t : Tu} (h : Box W b t.arr) : (loadTu (.pointer (some ⟨b, 0, none⟩))).run Tryz.prog W = .ok (.agg t.arr) W := by
  obtain ⟨_, _, h3, h4⟩ := h.facts
  rw [load_tu _ _ _ (by rw [h3 0 37 (by rw [Tu.csize]; omega)]; trivial), h4 0 37 (by rw [Tu.csize]; omega), Tu.extract_all]
/-- a tuple has been read, and lies at b -/
structure Tst (W w : World) (p g N : Nat) (s : RS) (b : Nat) (t : Tu) : Prop where
  rdr : RdrS w p g N s
  bk : Box w b t.arr
  res : Box w W.heap.size noFw.arr
  frm : Frm [p] W w
  ne : b ≠ p ∧ b ≠ g ∧ p < W.heap.size ∧ g < W.heap.size ∧ W.heap.size < b
section
variable {W w w' : World} {p g N b : Nat} {s s' : RS} {t : Tu}
theorem Tst.read (h : Tst W w p g N s b t) (k : RdrS w' p g N s') (hg : w.grownBy w' (some p)) : Tst W w' p g N s' b t := by
  obtain ⟨n1, n2, n3, n4, n5⟩ := h.ne
  exact ⟨k, h.bk.grown hg (fun e => n1 (by injection e)), h.res.grown hg (fun e => by injection e; omega), h.frm.trans' (Frm.of_grown hg (fun j hj => .inl (by injection hj with hj; simp [hj]))), h.ne⟩
theorem Tst.alloc (h : Tst W w p g N s b t) (ob : Obj) : Tst W (w.alloc ob) p g N s b t := ⟨h.rdr.go ((Below.refl _ _).alloc (Nat.le_refl _) _), h.bk.alloc _, h.res.alloc _, h.frm.alloc _, h.ne⟩
theorem Tst.drew (h : Tst W w p g N s b t) : Tst W w.drew p g N s b t := ⟨h.rdr.drew, h.bk.drew, h.res.drew, h.frm.drewN 1, h.ne⟩
theorem Tst.load (h : Tst W w p g N s b t) : (loadTu (.pointer (some ⟨b, 0, none⟩))).run Tryz.prog w = .ok (.agg t.arr) w := load_tu_box h.bk
theorem Tst.sz (h : Tst W w p g N s b t) : W.heap.size < w.heap.size := h.res.lt
theorem newFw {v w2 : World} {p : Nat} (hp : p < v.heap.size) (hg : (v.alloc (.cells noFw.arr 79)).drew.grownBy w2 (some p)) : Box w2 v.heap.size noFw.arr :=
  (Box.new v noFw.arr 79).drew.grown hg (fun e => by injection e; omega)
theorem newFw_there {v w2 : World} {p : Nat} (hp : p < v.heap.size) (hg : (v.alloc (.cells noFw.arr 79)).drew.grownBy w2 (some p)) : w2.there v.heap.size 0 41 := (newFw hp hg).there 0 41 (by rw [Fw.arr_size]; omega)
/-- the flow's box was made ahead of the text -/
theorem Tst.newB (h : Tst W w p g N s b t) {y : Nat} (hB : Box w y noFw.arr) (x : Fw) (h1 : W.heap.size < y) (h2 : y ≠ p) (h3 : y ≠ g) : Lst W (setFw w y 0 x) p g N s y x.arr noFw.arr := by
  obtain ⟨n1, n2, n3, n4, n5⟩ := h.ne
  have hg := grown_cells w y 0 x.arr.toList
  exact ⟨h.rdr.grown hg h2 h3, hB.putFw (Fw.arr_size _) x, h.res.grown hg (fun e => by injection e; omega), h.frm.grown hg (fun j hj => by injection hj with hj; exact .inr (by omega)), h2, h3, n3, n4, h1⟩
theorem Tst.setF (h : Tst W w p g N s b t) {y : Nat} (hy : y ≠ b ∧ y ≠ p ∧ y ≠ g ∧ W.heap.size < y) (x : Fw) : Tst W (setFw w y 0 x) p g N s b t := by
  obtain ⟨n1, n2, n3, n4, n5⟩ := h.ne
  obtain ⟨m1, m2, m3, m4⟩ := hy
  have hg := grown_cells w y 0 x.arr.toList
  exact ⟨h.rdr.grown hg m2 m3, h.bk.grown hg (fun e => m1 (by injection e with e; exact e.symm)), h.res.grown hg (fun e => by injection e; omega), h.frm.grown hg (fun j hj => by injection hj with hj; exact .inr (by omega)), n1, n2, n3, n4, n5⟩
/-- the flow's box is the newest -/
theorem Tst.new (h : Tst W w p g N s b t) (x : Fw) : Lst W (w.alloc (.cells x.arr 79)) p g N s w.heap.size x.arr noFw.arr := by
  obtain ⟨n1, n2, n3, n4, n5⟩ := h.ne
  have := h.sz
  exact ⟨(h.alloc _).rdr, Box.new _ _ _, h.res.alloc _, h.frm.alloc _, by omega, by omega, n3, n4, by omega⟩
end
set_option maxRecDepth 100000 in
set_option maxHeartbeats 8000000 in
theorem one_any (p g N : Nat) (s : RS) (W : World) (h : RdrS W p g N s) (hg : g < W.heap.size) :
    Calls Tryz.prog 51 #[.pointer (some ⟨p, 0, none⟩)] W (OneP Fw.arr W p g N (fwO s)) := by
  have hp := h.lt
  have HG := Lib.hid hg
  have hb0 := (Below.refl W.heap.size W).alloc (Nat.le_refl _) (.cells noFw.arr 79)
  have C1 := Lib.hid (tuple_any p g N s _ (h.go hb0) (by simp; omega))
  have Z0 := Lib.hid (Box.new W noFw.arr 79)
  have F0 := Lib.hid (Frm.of_below (F := [p]) hb0)
  obtain ⟨⟨⟨t, ok⟩, s1⟩, e1⟩ : ∃ r, tuO s = r := ⟨_, rfl⟩
  obtain ⟨⟨nm, s2⟩, e2⟩ : ∃ r, textO 255 s1 = r := ⟨_, rfl⟩
  obtain ⟨⟨n3, s3⟩, e3⟩ : ∃ r, numO s2 = r := ⟨_, rfl⟩
  obtain ⟨⟨n4, s4⟩, e4⟩ : ∃ r, numO s3 = r := ⟨_, rfl⟩
  obtain ⟨⟨n5, s5⟩, e5⟩ : ∃ r, numO s4 = r := ⟨_, rfl⟩
  rw [e1] at C1
  have C2 := Lib.hid (fun w1 (k : RdrS w1 p g N s1) => text255 p g N s1 w1 k)
  have C3 := Lib.hid (fun w1 (k : RdrS w1 p g N s2) => number_any p g N s2 w1 k)
  have C4 := Lib.hid (fun w1 (k : RdrS w1 p g N s3) => number_any p g N s3 w1 k)
  have C5 := Lib.hid (fun w1 (k : RdrS w1 p g N s4) => number_any p g N s4 w1 k)
  rw [e2] at C2
  rw [e3] at C3
  rw [e4] at C4
  rw [e5] at C5
  have hO : fwO s = ((⟨t, nm, n3, n4, n5⟩, ok), s5) := by
    unfold fwO
    simp only [e1, e2, e3, e4, e5]
  rw [hO]
  clear e1 e2 e3 e4 e5 hO h hg hb0
  go_enter Tryz.func51, Tryz.ntmps51
  go_wp2_with fail
  refine C1.out.mono ?_
  rintro e w1 ⟨rfl, k1, k2⟩
  have hs1 : W.heap.size < w1.heap.size := Nat.lt_of_lt_of_le (by simp) k2.size
  have T1 := Lib.hid (show Tst W (w1.alloc (.cells t.arr 77)) p g N s1 w1.heap.size t from
    ⟨k1.go ((Below.refl _ _).alloc (Nat.le_refl _) _), Box.new _ _ _, (Z0.out.grown k2 (fun e => by injection e; omega)).alloc _, (F0.out.trans' (Frm.of_grown k2 (fun j hj => .inl (by injection hj with hj; simp [hj])))).alloc _, by omega, by have := HG.out; omega, hp, HG.out, hs1⟩)
  clear k1 k2
  go_upto_region 2 with fail
  obtain ⟨b, hb⟩ : ∃ b, b = w1.heap.size := ⟨_, rfl⟩
  obtain ⟨v1, hv1⟩ : ∃ v, v = w1.alloc (.cells t.arr 77) := ⟨_, rfl⟩
  rw [← hv1, ← hb] at T1 ⊢
  clear hv1 hb hs1
  have HY := Lib.hid (show v1.heap.size ≠ b ∧ v1.heap.size ≠ p ∧ v1.heap.size ≠ g ∧ W.heap.size < v1.heap.size by
    have a1 := T1.out.bk.lt
    have a2 := T1.out.rdr.lt
    have a3 := T1.out.sz
    have a4 := HG.out
    omega)
  go_cut [6] from 12 (fun s6 wx => ∃ y, s6 = .pointer (some ⟨y, 0, none⟩) ∧ Lst W wx p g N s2 y (Fw.mk t nm 0 0 0).arr noFw.arr)
  case first =>
    go_region_held_law (fun W' => (loadTu (.pointer (some ⟨b, 0, none⟩))).run Tryz.prog W' = .ok (.agg t.arr) W')
      (first | with_reducible exact T2.out.load | with_reducible exact (T2.out.alloc _).load | with_reducible exact (T2.out.setF HY.out _).load | with_reducible exact T1.out.drew.load | with_reducible exact T1.out.load | with_reducible exact (T1.out.alloc _).load | with_reducible exact (T1.out.alloc _).drew.load)
      (first
      | (go_at_call 97; (with_reducible refine (C2.out _ T1.out.drew.rdr).mono ?_); rintro e w2 ⟨A2, n2', c2, rfl, hrd, q1, q2, q3, h3, hg3⟩; have T2 := Lib.hid (T1.out.drew.read h3 hg3); have hc1 := conv_now hrd c2; have hc2 := conv_alloc hrd c2; clear h3 hg3 hrd q1 q2 q3)
      | (go_at_call 97; (with_reducible refine (C2.out _ (T1.out.alloc (.cells noFw.arr 79)).drew.rdr).mono ?_); rintro e w2 ⟨A2, n2', c2, rfl, hrd, q1, q2, q3, h3, hg3⟩; have T2 := Lib.hid ((T1.out.alloc (.cells noFw.arr 79)).drew.read h3 hg3); have Y2 := Lib.hid (newFw T1.out.rdr.lt hg3); have thf := newFw_there T1.out.rdr.lt hg3; have hc1 := conv_now hrd c2; clear h3 hg3 hrd q1 q2 q3))
    all_goals
      go_wp2_with fail
      go_meet
      case rel =>
        first
          | exact ⟨_, rfl, T2.out.new _⟩
          | exact ⟨_, rfl, T2.out.newB Y2.out _ T1.out.sz (by have := T1.out.rdr.lt; omega) (by have := T1.out.sz; have := HG.out; omega)⟩
  case rest =>
    obtain ⟨y, rfl, hL⟩ := hcut
    have B2 := Lib.hid hL
    clear hL
    go_wp2_with fail
    refine (C3.out _ B2.out.rdr).mono ?_
    rintro e w3 ⟨rfl, k1, k2⟩
    have B3 := Lib.hid (B2.out.read k1 k2)
    clear k1 k2
    go_wp2_with fail
    refine (C4.out _ B3.out.rdr).mono ?_
    rintro e w4 ⟨rfl, k1, k2⟩
    have B4 := Lib.hid (B3.out.read k1 k2)
    clear k1 k2
    go_wp2_with fail
    refine (C5.out _ B4.out.rdr).mono ?_
    rintro e w5 ⟨rfl, k1, k2⟩
    have B5 := Lib.hid (B4.out.read k1 k2)
    have B6 := Lib.hid (((B5.out.set 38 (.int .i64 (n3 : Int)) (Fw.set_1 _ _)).set 39 (.int .i64 (n4 : Int)) (Fw.set_2 _ _)).set 40 (.int .i64 (n5 : Int)) (Fw.set_3 _ _))
    obtain ⟨y1, y2, y3, y4⟩ := B5.out.bk.facts
    have hly := B5.out.bk.lt
    obtain ⟨x1, x2, x3, x4⟩ := B6.out.bk.facts
    have thz := B6.out.res.there 0 41 (by rw [Fw.arr_size]; omega)
    clear k1 k2
    obtain ⟨g1, g2, g3⟩ := B6.out.finFw ((((Fw.mk t nm 0 0 0).to1 n3).to2 n4).to3 n5)
    have FIN := Lib.hid (And.intro g1 (And.intro g2 g3))
    clear g1 g2 g3
    go_wp2
    have hh := FIN.out.1.facts
    refine bodyPost_ret (ret_fw rfl _ _ W.heap.size 0 rfl (by rw [hh.2.2.1 0 41 (by rw [Fw.csize]; omega)]; trivial)) rfl ?_
    rw [hh.2.2.2 0 41 (by rw [Fw.csize]; omega), Fw.extract_all]
    exact ⟨rfl, FIN.out.2.1, FIN.out.2.2⟩
end Go.Proofs.YtmpemeemlhmaaaaGreat
