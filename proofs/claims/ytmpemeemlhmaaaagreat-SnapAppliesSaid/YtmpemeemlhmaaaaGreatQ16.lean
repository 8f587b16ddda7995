/- The reading of lists. -/
import Derived.Test.YtmpemeemlhmaaaaGreatQ15
import Derived.Test.YtmpemeemlhmaaaaGreatQ6
import Derived.Deep.CutRange
set_option linter.unusedSimpArgs false
set_option linter.unusedVariables false
set_option maxRecDepth 100000
namespace Go.Proofs.YtmpemeemlhmaaaaGreat
open Go.RowKit

/-- so many are answered, in new memory, and the reader behind; none: it can't be -/
def ListP {α : Type} (f : α → Array Value) (sz : Nat) (E : TypeId) (W : World) (p g N : Nat) (r : Option (List α) × RS) (e : Ending) (W' : World) : Prop :=
  ∃ A n c, e = .returned (.tuple #[.slice A n c, .bool r.1.isSome]) ∧ W'.ownsRow W.heap.size E sz (.slice A n c) n ((r.1.getD []).flatMap fun x => (f x).toList) ∧ (r.1.getD []).length = n ∧ RdrS W' p g N r.2 ∧ W.grownBy W' (some p)
/-- what is still to come is put behind what there is -/
def behind {α : Type} (acc : List α) (r : Option (List α) × RS) : Option (List α) × RS := (r.1.map (acc ++ ·), r.2)
theorem behind_nil {α : Type} (r : Option (List α) × RS) : behind [] r = r := by
  obtain ⟨a, b⟩ := r
  cases a <;> rfl
theorem listGo_ok {α : Type} {one : RS → (α × Bool) × RS} {k : Nat} {s s' : RS} {x : α} (acc : List α) (h : one s = ((x, true), s')) (hs : s'.isSome = true) : behind acc (listGo one (k + 1) s) = behind (acc ++ [x]) (listGo one k s') := by
  simp only [listGo, h, hs, Bool.and_self, if_true]
  cases h2 : listGo one k s' with
  | mk a b => cases a <;> simp [behind]
theorem listGo_no {α : Type} {one : RS → (α × Bool) × RS} {k : Nat} {s s' : RS} {x : α} {ok : Bool} (acc : List α) (h : one s = ((x, ok), s')) (hs : (ok && s'.isSome) = false) : behind acc (listGo one (k + 1) s) = (none, s') := by
  simp [listGo, h, hs, behind]
theorem FrmP_grown {p : Nat} {W w w' : World} (h : Frm [p] W w) (k : w.grownBy w' (some p)) : Frm [p] W w' := h.trans' (Frm.of_grown k (fun j hj => .inl (by injection hj with hj; simp [hj])))
/-- a length -/
def lenOf : Value → Nat
  | .slice _ n _ => n
  | _ => 0
theorem own_go {w w' : World} {base size n : Nat} {e : TypeId} {v : Value} {xs : List Value} (h : w.ownsRow base e size v n xs) (hb : Below w.heap.size w w') : w'.ownsRow base e size v n xs :=
  h.kept (row := none) ⟨hb.os, hb.tape, hb.output, hb.size, fun i hi _ => hb.block i hi⟩ (by cases hv : v.ownBlock <;> simp)
theorem lists_grown {W w4 w5 : World} {p g N size n : Nat} {s : RS} {e : TypeId} {v : Value} {xs : List Value} {ob : Obj} (hr : RdrS w4 p g N s) (hf : Frm [p] W w4) (ho : w4.ownsRow W.heap.size e size v n xs) (hp : p < W.heap.size) (hg : g < W.heap.size) (h : (w4.alloc ob).grownBy w5 v.ownBlock) : RdrS w5 p g N s ∧ Frm [p] W w5 := by
  have r1 := hr.go ((Below.refl w4.heap.size w4).alloc (Nat.le_refl _) ob)
  have f1 := hf.alloc ob
  cases hv : v.ownBlock with
  | none =>
    rw [hv] at h
    have hb : Below (w4.alloc ob).heap.size (w4.alloc ob) w5 := ⟨h.os, h.tape, h.output, h.size, fun i hi => h.block i hi (by simp)⟩
    exact ⟨r1.go hb, f1.below hb f1.size⟩
  | some b =>
    rw [hv] at h
    have hl := (ho.lt b hv).1
    exact ⟨r1.grown h (by omega) (by omega), f1.grown h (fun j hj => by injection hj with hj; exact .inr (by omega))⟩
theorem enter_bk (args : Array Value) (w : World) : (callFunc 47 args).run Tryz.prog w = .ok (.enter 47 args) w := by kernel_rfl
set_option maxRecDepth 100000 in
set_option maxHeartbeats 8000000 in
theorem list_bk (p g N : Nat) (s : RS) (most : Nat) (hm : most ≤ 4096) (W : World) (h : RdrS W p g N s) (hg : g < W.heap.size) :
    Calls Tryz.prog 46 #[.pointer (some ⟨p, 0, none⟩), .int .i64 most, (.func (.func 47) #[] #[])] W (ListP Bk.arr 27 60 W p g N (listO bkO most s)) := by
  have hen := enter_bk
  obtain ⟨i0, hi0, hz0, hz1, hzb⟩ := infoBk
  have HI0 := Lib.hid hi0
  have HZ0 := Lib.hid hz0
  have HZ1 := Lib.hid hz1
  have hp := h.lt
  have HG := Lib.hid hg
  have NU := Lib.hid (number_any p g N s W h)
  obtain ⟨⟨n, s1⟩, e1⟩ : ∃ r, numO s = r := ⟨_, rfl⟩
  have hn60 : n ≤ 1152921504606846977 := by have := numO_lt s; rw [e1] at this; exact this
  rw [e1] at NU
  have hO : listO bkO most s = if n ≤ most then listGo bkO n s1 else (none, s1) := by unfold listO; rw [e1]
  rw [hO]
  try dsimp only at NU
  clear e1 hO h hg hi0 hz0 hz1
  by_cases hnm : n ≤ most
  rotate_left
  · rw [if_neg hnm]
    have h1 : ¬ ((n : Int) ≤ (most : Int)) := by omega
    clear hnm
    go_enter Tryz.func46, Tryz.ntmps46
    go_wp2_with fail
    refine NU.out.mono ?_
    rintro e w1 ⟨rfl, k1, k2⟩
    have FIN := Lib.hid (And.intro k1 k2)
    clear k1 k2 hen
    go_wp2
    go_loopw [9] (fun s9 wr => s9 = .slice none 0 0 ∧ wr = w1) (fun _ _ => 0)
    case atStart => exact ⟨rfl, rfl⟩
    case round =>
      obtain ⟨rfl, rfl⟩ := hrel
      go_wp2
      go_ret2
      exact ⟨none, 0, 0, rfl, World.ownsRow_nil _ _ _ _, rfl, FIN.out.1, FIN.out.2⟩
  rw [if_pos hnm]
  have hle : (n : Int) ≤ (most : Int) := by omega
  go_enter Tryz.func46, Tryz.ntmps46
  go_wp2_with fail
  refine NU.out.mono ?_
  rintro e w1 ⟨rfl, k1, k2⟩
  have K1 := Lib.hid k1
  have F1 := Lib.hid (FrmP_grown (Frm.refl [p] W) k2)
  clear k1 k2
  go_wp2
  go_loopw [9] (fun s9 wr => ∃ (k : Nat) (acc : List Bk) (s' : RS) (A : Option Addr) (c : Nat), k ≤ n ∧ s9 = .slice A k c ∧ wr.ownsRow W.heap.size 60 27 (.slice A k c) k (acc.flatMap fun x => (Bk.arr x).toList) ∧ acc.length = k ∧ RdrS wr p g N s' ∧ Frm [p] W wr ∧ listGo bkO n s1 = behind acc (listGo bkO (n - k) s')) (fun s9 _ => n - lenOf s9)
  case atStart => exact ⟨0, [], s1, none, 0, by omega, rfl, World.ownsRow_nil _ _ _ _, rfl, K1.out, F1.out, (behind_nil _).symm⟩
  case round =>
    obtain ⟨k, acc, s', A, c, hkn, rfl, hown, hlen, hr, hf, hgo⟩ := hrel
    have HO := Lib.hid hown
    have HR := Lib.hid hr
    have HF := Lib.hid hf
    have HL := Lib.hid hlen
    have HGO := Lib.hid hgo
    have hsz := hf.size
    clear hown hlen hr hf hgo
    by_cases hlt : k < n
    · have hlt2 : (k : Int) < (n : Int) := by omega
      have CO := Lib.hid (takeBk_any p g N s' wr HR.out (by have := HG.out; omega))
      obtain ⟨⟨⟨x, ok⟩, s2⟩, e2⟩ : ∃ r, bkO s' = r := ⟨_, rfl⟩
      rw [e2] at CO
      have E2 := Lib.hid e2
      clear e2
      go_wp2_with fail
      refine CO.out.mono ?_
      rintro e w2 ⟨rfl, k1, k2⟩
      have OK2 := Lib.hid (HO.out.kept k2 (.inr (fun e => by have := HO.out.lt p e; omega)))
      have R2 := Lib.hid k1
      have F2 := Lib.hid (FrmP_grown HF.out k2)
      have hs2 := k2.size
      clear k1 k2
      obtain ⟨w3, hw3⟩ : ∃ w3, w3 = w2.alloc (.cells (Bk.arr x) 60) := ⟨_, rfl⟩
      have R3 := Lib.hid (show RdrS w3 p g N s2 by rw [hw3]; exact R2.out.go ((Below.refl _ _).alloc (Nat.le_refl _) _))
      have O3 := Lib.hid (show w3.ownsRow W.heap.size 60 27 (.slice A k c) k (acc.flatMap fun x => (Bk.arr x).toList) by rw [hw3]; exact OK2.out.alloc _)
      have F3 := Lib.hid (show Frm [p] W w3 by rw [hw3]; exact F2.out.alloc _)
      have X3 := Lib.hid (show Box w3 w2.heap.size (Bk.arr x) by rw [hw3]; exact Box.new _ _ _)
      have HW3 := Lib.hid hw3
      have hs3 : w2.heap.size < w3.heap.size := X3.out.lt
      clear hw3
      go_upto_region 5 with fail
      rw [← HW3.out]
      cases ok
      · have HN := Lib.hid (show behind acc (listGo bkO (n - k) s') = (none, s2) by rw [show n - k = (n - k - 1) + 1 by omega]; exact listGo_no acc E2.out rfl)
        go_wp2
        go_ret2
        exact (by rw [HGO.out, HN.out]; exact ⟨none, 0, 0, rfl, World.ownsRow_nil _ _ _ _, rfl, R3.out, F3.out.to_grown⟩)
      obtain ⟨A5, n5, c5, at5, fa5, fe5, hB5, hs5⟩ := R3.out.spot
      have FA := Lib.hid (fun W' (h : Below w3.heap.size w3 W') => fault_any p A5 n5 c5 at5 fa5 fe5 W' (hB5.go h))
      have HS := Lib.hid hs5
      clear hB5 hs5
      go_wp2_with fail
      refine (FA.out _ (Below.refl _ _)).mono ?_
      rintro e w4 ⟨rfl, hb4⟩
      have R4 := Lib.hid (R3.out.go hb4)
      have O4 := Lib.hid (own_go O3.out hb4)
      have F4 := Lib.hid (F3.out.below hb4 F3.out.size)
      have hs4 := hb4.size
      have X4 := Lib.hid (X3.out.go hb4)
      obtain ⟨z1, z2, z3, z4⟩ := X4.out.facts
      clear hb4
      have hq0 := HS.out
      obtain ⟨q, hq⟩ : ∃ q, s2.isSome = q := ⟨_, rfl⟩
      rw [hq] at hq0
      have HQ := Lib.hid hq
      clear hq
      have hzz : ({ at_ := 0, err := 0 } : Sp) = noSp := rfl
      cases q
      · have HN := Lib.hid (show behind acc (listGo bkO (n - k) s') = (none, s2) by rw [show n - k = (n - k - 1) + 1 by omega]; exact listGo_no acc E2.out (by rw [HQ.out]; rfl))
        go_wp2
        go_ret2
        exact (by rw [HGO.out, HN.out]; exact ⟨none, 0, 0, rfl, World.ownsRow_nil _ _ _ _, rfl, R4.out, F4.out.to_grown⟩)
      · have HN := Lib.hid (show behind acc (listGo bkO (n - k) s') = behind (acc ++ [x]) (listGo bkO (n - (k + 1)) s2) by rw [show n - k = (n - (k + 1)) + 1 by omega]; exact listGo_ok acc E2.out HQ.out)
        have H63 := Lib.hid (show k + 1 ≤ maxLen by unfold maxLen; omega)
        have HBY := Lib.hid (show (k + 1) * i0.bytes ≤ 140737488355328 from Nat.le_trans (Nat.mul_le_mul (show k + 1 ≤ 4097 by omega) hzb) (by omega))
        have ROW := Lib.hid (row_rdR w4 (Bk.arr x) 27 (Bk.arr_size x) 60)
        have OWN := Lib.hid (O4.out.alloc (.cells (Bk.arr x) 60))
        have BS := Lib.hid (show W.heap.size ≤ (w4.alloc (.cells (Bk.arr x) 60)).heap.size by simp; omega)
        have ONE := Lib.hid (show ∀ u ∈ (Bk.arr x).toList, u.oneCell' = true from fun u hu => Array.all_eq_true_iff_forall_mem.1 (Bk.arr_one x) u (by simpa using hu))
        have GR := Lib.hid (fun w5 (hg : (w4.alloc (.cells (Bk.arr x) 60)).grownBy w5 (Value.slice A k c).ownBlock) => show RdrS w5 p g N s2 ∧ Frm [p] W w5 from lists_grown R4.out F4.out O4.out hp HG.out hg)
        go_wp2_with (at_builtin; refine wpList_app_rd _ rfl (.tmp 37) (.tmp 39) _ rfl W.heap.size 60 i0 (.agg noBk.arr) 27 i0.bytes Tryz.underlying22 HI0.out HZ0.out HZ1.out rfl (Bk.arr_size noBk) (Nat.succ_pos _) (.slice A k c) k (acc.flatMap fun x => (Bk.arr x).toList) rfl OWN.out (w4.heap.size + 1) (some ⟨w4.heap.size, 0, none⟩) 1 1 (Bk.arr x).toList rfl ROW.out ONE.out H63.out HBY.out BS.out ?_; intro v1 w5 hown1 hg1 hat1; have O5 := Lib.hid hown1; have G5 := Lib.hid (GR.out _ hg1); clear hown1 hg1 hat1)
        obtain ⟨A', c', rfl, _, _⟩ := own_form O5.out
        go_roundw
        case rel => exact ⟨k + 1, acc ++ [x], s2, A', c', by omega, rfl, by rw [← rows_snoc]; exact O5.out, by simp [HL.out], G5.out.1, G5.out.2, by rw [HGO.out, HN.out]⟩
        case measure => simp [lenOf] <;> omega
    · obtain rfl : k = n := by omega
      have hd : decide ((k : Int) < k) = false := by simp
      go_wp2
      go_ret2
      exact (by rw [HGO.out, Nat.sub_self]; exact ⟨A, k, c, rfl, by simpa [behind, listGo] using HO.out, by simpa [behind, listGo] using HL.out, HR.out, HF.out.to_grown⟩)
theorem enter_hl (args : Array Value) (w : World) : (callFunc 49 args).run Tryz.prog w = .ok (.enter 49 args) w := by kernel_rfl
set_option maxRecDepth 100000 in
set_option maxHeartbeats 8000000 in
theorem list_hl (p g N : Nat) (s : RS) (most : Nat) (hm : most ≤ 4096) (W : World) (h : RdrS W p g N s) (hg : g < W.heap.size) :
    Calls Tryz.prog 48 #[.pointer (some ⟨p, 0, none⟩), .int .i64 most, (.func (.func 49) #[] #[])] W (ListP Hl.arr 3 74 W p g N (listO hlO most s)) := by
  have hen := enter_hl
  obtain ⟨i0, hi0, hz0, hz1, hzb⟩ := infoHl
  have HI0 := Lib.hid hi0
  have HZ0 := Lib.hid hz0
  have HZ1 := Lib.hid hz1
  have hp := h.lt
  have HG := Lib.hid hg
  have NU := Lib.hid (number_any p g N s W h)
  obtain ⟨⟨n, s1⟩, e1⟩ : ∃ r, numO s = r := ⟨_, rfl⟩
  have hn60 : n ≤ 1152921504606846977 := by have := numO_lt s; rw [e1] at this; exact this
  rw [e1] at NU
  have hO : listO hlO most s = if n ≤ most then listGo hlO n s1 else (none, s1) := by unfold listO; rw [e1]
  rw [hO]
  try dsimp only at NU
  clear e1 hO h hg hi0 hz0 hz1
  by_cases hnm : n ≤ most
  rotate_left
  · rw [if_neg hnm]
    have h1 : ¬ ((n : Int) ≤ (most : Int)) := by omega
    clear hnm
    go_enter Tryz.func48, Tryz.ntmps48
    go_wp2_with fail
    refine NU.out.mono ?_
    rintro e w1 ⟨rfl, k1, k2⟩
    have FIN := Lib.hid (And.intro k1 k2)
    clear k1 k2 hen
    go_wp2
    go_loopw [9] (fun s9 wr => s9 = .slice none 0 0 ∧ wr = w1) (fun _ _ => 0)
    case atStart => exact ⟨rfl, rfl⟩
    case round =>
      obtain ⟨rfl, rfl⟩ := hrel
      go_wp2
      go_ret2
      exact ⟨none, 0, 0, rfl, World.ownsRow_nil _ _ _ _, rfl, FIN.out.1, FIN.out.2⟩
  rw [if_pos hnm]
  have hle : (n : Int) ≤ (most : Int) := by omega
  go_enter Tryz.func48, Tryz.ntmps48
  go_wp2_with fail
  refine NU.out.mono ?_
  rintro e w1 ⟨rfl, k1, k2⟩
  have K1 := Lib.hid k1
  have F1 := Lib.hid (FrmP_grown (Frm.refl [p] W) k2)
  clear k1 k2
  go_wp2
  go_loopw [9] (fun s9 wr => ∃ (k : Nat) (acc : List Hl) (s' : RS) (A : Option Addr) (c : Nat), k ≤ n ∧ s9 = .slice A k c ∧ wr.ownsRow W.heap.size 74 3 (.slice A k c) k (acc.flatMap fun x => (Hl.arr x).toList) ∧ acc.length = k ∧ RdrS wr p g N s' ∧ Frm [p] W wr ∧ listGo hlO n s1 = behind acc (listGo hlO (n - k) s')) (fun s9 _ => n - lenOf s9)
  case atStart => exact ⟨0, [], s1, none, 0, by omega, rfl, World.ownsRow_nil _ _ _ _, rfl, K1.out, F1.out, (behind_nil _).symm⟩
  case round =>
    obtain ⟨k, acc, s', A, c, hkn, rfl, hown, hlen, hr, hf, hgo⟩ := hrel
    have HO := Lib.hid hown
    have HR := Lib.hid hr
    have HF := Lib.hid hf
    have HL := Lib.hid hlen
    have HGO := Lib.hid hgo
    have hsz := hf.size
    clear hown hlen hr hf hgo
    by_cases hlt : k < n
    · have hlt2 : (k : Int) < (n : Int) := by omega
      have CO := Lib.hid (health_any p g N s' wr HR.out (by have := HG.out; omega))
      obtain ⟨⟨⟨x, ok⟩, s2⟩, e2⟩ : ∃ r, hlO s' = r := ⟨_, rfl⟩
      rw [e2] at CO
      have E2 := Lib.hid e2
      clear e2
      go_wp2_with fail
      refine CO.out.mono ?_
      rintro e w2 ⟨rfl, k1, k2⟩
      have OK2 := Lib.hid (HO.out.kept k2 (.inr (fun e => by have := HO.out.lt p e; omega)))
      have R2 := Lib.hid k1
      have F2 := Lib.hid (FrmP_grown HF.out k2)
      have hs2 := k2.size
      clear k1 k2
      obtain ⟨w3, hw3⟩ : ∃ w3, w3 = w2.alloc (.cells (Hl.arr x) 74) := ⟨_, rfl⟩
      have R3 := Lib.hid (show RdrS w3 p g N s2 by rw [hw3]; exact R2.out.go ((Below.refl _ _).alloc (Nat.le_refl _) _))
      have O3 := Lib.hid (show w3.ownsRow W.heap.size 74 3 (.slice A k c) k (acc.flatMap fun x => (Hl.arr x).toList) by rw [hw3]; exact OK2.out.alloc _)
      have F3 := Lib.hid (show Frm [p] W w3 by rw [hw3]; exact F2.out.alloc _)
      have X3 := Lib.hid (show Box w3 w2.heap.size (Hl.arr x) by rw [hw3]; exact Box.new _ _ _)
      have HW3 := Lib.hid hw3
      have hs3 : w2.heap.size < w3.heap.size := X3.out.lt
      clear hw3
      go_upto_region 5 with fail
      rw [← HW3.out]
      cases ok
      · have HN := Lib.hid (show behind acc (listGo hlO (n - k) s') = (none, s2) by rw [show n - k = (n - k - 1) + 1 by omega]; exact listGo_no acc E2.out rfl)
        go_wp2
        go_ret2
        exact (by rw [HGO.out, HN.out]; exact ⟨none, 0, 0, rfl, World.ownsRow_nil _ _ _ _, rfl, R3.out, F3.out.to_grown⟩)
      obtain ⟨A5, n5, c5, at5, fa5, fe5, hB5, hs5⟩ := R3.out.spot
      have FA := Lib.hid (fun W' (h : Below w3.heap.size w3 W') => fault_any p A5 n5 c5 at5 fa5 fe5 W' (hB5.go h))
      have HS := Lib.hid hs5
      clear hB5 hs5
      go_wp2_with fail
      refine (FA.out _ (Below.refl _ _)).mono ?_
      rintro e w4 ⟨rfl, hb4⟩
      have R4 := Lib.hid (R3.out.go hb4)
      have O4 := Lib.hid (own_go O3.out hb4)
      have F4 := Lib.hid (F3.out.below hb4 F3.out.size)
      have hs4 := hb4.size
      have X4 := Lib.hid (X3.out.go hb4)
      obtain ⟨z1, z2, z3, z4⟩ := X4.out.facts
      clear hb4
      have hq0 := HS.out
      obtain ⟨q, hq⟩ : ∃ q, s2.isSome = q := ⟨_, rfl⟩
      rw [hq] at hq0
      have HQ := Lib.hid hq
      clear hq
      have hzz : ({ at_ := 0, err := 0 } : Sp) = noSp := rfl
      cases q
      · have HN := Lib.hid (show behind acc (listGo hlO (n - k) s') = (none, s2) by rw [show n - k = (n - k - 1) + 1 by omega]; exact listGo_no acc E2.out (by rw [HQ.out]; rfl))
        go_wp2
        go_ret2
        exact (by rw [HGO.out, HN.out]; exact ⟨none, 0, 0, rfl, World.ownsRow_nil _ _ _ _, rfl, R4.out, F4.out.to_grown⟩)
      · have HN := Lib.hid (show behind acc (listGo hlO (n - k) s') = behind (acc ++ [x]) (listGo hlO (n - (k + 1)) s2) by rw [show n - k = (n - (k + 1)) + 1 by omega]; exact listGo_ok acc E2.out HQ.out)
        have H63 := Lib.hid (show k + 1 ≤ maxLen by unfold maxLen; omega)
        have HBY := Lib.hid (show (k + 1) * i0.bytes ≤ 140737488355328 from Nat.le_trans (Nat.mul_le_mul (show k + 1 ≤ 4097 by omega) hzb) (by omega))
        have ROW := Lib.hid (row_rdR w4 (Hl.arr x) 3 (Hl.arr_size x) 74)
        have OWN := Lib.hid (O4.out.alloc (.cells (Hl.arr x) 74))
        have BS := Lib.hid (show W.heap.size ≤ (w4.alloc (.cells (Hl.arr x) 74)).heap.size by simp; omega)
        have ONE := Lib.hid (show ∀ u ∈ (Hl.arr x).toList, u.oneCell' = true from fun u hu => Array.all_eq_true_iff_forall_mem.1 (Hl.arr_one x) u (by simpa using hu))
        have GR := Lib.hid (fun w5 (hg : (w4.alloc (.cells (Hl.arr x) 74)).grownBy w5 (Value.slice A k c).ownBlock) => show RdrS w5 p g N s2 ∧ Frm [p] W w5 from lists_grown R4.out F4.out O4.out hp HG.out hg)
        go_wp2_with (at_builtin; refine wpList_app_rd _ rfl (.tmp 37) (.tmp 39) _ rfl W.heap.size 74 i0 (.agg noHl.arr) 3 i0.bytes Tryz.underlying25 HI0.out HZ0.out HZ1.out rfl (Hl.arr_size noHl) (Nat.succ_pos _) (.slice A k c) k (acc.flatMap fun x => (Hl.arr x).toList) rfl OWN.out (w4.heap.size + 1) (some ⟨w4.heap.size, 0, none⟩) 1 1 (Hl.arr x).toList rfl ROW.out ONE.out H63.out HBY.out BS.out ?_; intro v1 w5 hown1 hg1 hat1; have O5 := Lib.hid hown1; have G5 := Lib.hid (GR.out _ hg1); clear hown1 hg1 hat1)
        obtain ⟨A', c', rfl, _, _⟩ := own_form O5.out
        go_roundw
        case rel => exact ⟨k + 1, acc ++ [x], s2, A', c', by omega, rfl, by rw [← rows_snoc]; exact O5.out, by simp [HL.out], G5.out.1, G5.out.2, by rw [HGO.out, HN.out]⟩
        case measure => simp [lenOf] <;> omega
    · obtain rfl : k = n := by omega
      have hd : decide ((k : Int) < k) = false := by simp
      go_wp2
      go_ret2
      exact (by rw [HGO.out, Nat.sub_self]; exact ⟨A, k, c, rfl, by simpa [behind, listGo] using HO.out, by simpa [behind, listGo] using HL.out, HR.out, HF.out.to_grown⟩)
theorem enter_fw (args : Array Value) (w : World) : (callFunc 51 args).run Tryz.prog w = .ok (.enter 51 args) w := by kernel_rfl
set_option maxRecDepth 100000 in
set_option maxHeartbeats 8000000 in
theorem list_fw (p g N : Nat) (s : RS) (most : Nat) (hm : most ≤ 4096) (W : World) (h : RdrS W p g N s) (hg : g < W.heap.size) :
    Calls Tryz.prog 50 #[.pointer (some ⟨p, 0, none⟩), .int .i64 most, (.func (.func 51) #[] #[])] W (ListP Fw.arr 41 79 W p g N (listO fwO most s)) := by
  have hen := enter_fw
  obtain ⟨i0, hi0, hz0, hz1, hzb⟩ := infoFw
  have HI0 := Lib.hid hi0
  have HZ0 := Lib.hid hz0
  have HZ1 := Lib.hid hz1
  have hp := h.lt
  have HG := Lib.hid hg
  have NU := Lib.hid (number_any p g N s W h)
  obtain ⟨⟨n, s1⟩, e1⟩ : ∃ r, numO s = r := ⟨_, rfl⟩
  have hn60 : n ≤ 1152921504606846977 := by have := numO_lt s; rw [e1] at this; exact this
  rw [e1] at NU
  have hO : listO fwO most s = if n ≤ most then listGo fwO n s1 else (none, s1) := by unfold listO; rw [e1]
  rw [hO]
  try dsimp only at NU
  clear e1 hO h hg hi0 hz0 hz1
  by_cases hnm : n ≤ most
  rotate_left
  · rw [if_neg hnm]
    have h1 : ¬ ((n : Int) ≤ (most : Int)) := by omega
    clear hnm
    go_enter Tryz.func50, Tryz.ntmps50
    go_wp2_with fail
    refine NU.out.mono ?_
    rintro e w1 ⟨rfl, k1, k2⟩
    have FIN := Lib.hid (And.intro k1 k2)
    clear k1 k2 hen
    go_wp2
    go_loopw [9] (fun s9 wr => s9 = .slice none 0 0 ∧ wr = w1) (fun _ _ => 0)
    case atStart => exact ⟨rfl, rfl⟩
    case round =>
      obtain ⟨rfl, rfl⟩ := hrel
      go_wp2
      go_ret2
      exact ⟨none, 0, 0, rfl, World.ownsRow_nil _ _ _ _, rfl, FIN.out.1, FIN.out.2⟩
  rw [if_pos hnm]
  have hle : (n : Int) ≤ (most : Int) := by omega
  go_enter Tryz.func50, Tryz.ntmps50
  go_wp2_with fail
  refine NU.out.mono ?_
  rintro e w1 ⟨rfl, k1, k2⟩
  have K1 := Lib.hid k1
  have F1 := Lib.hid (FrmP_grown (Frm.refl [p] W) k2)
  clear k1 k2
  go_wp2
  go_loopw [9] (fun s9 wr => ∃ (k : Nat) (acc : List Fw) (s' : RS) (A : Option Addr) (c : Nat), k ≤ n ∧ s9 = .slice A k c ∧ wr.ownsRow W.heap.size 79 41 (.slice A k c) k (acc.flatMap fun x => (Fw.arr x).toList) ∧ acc.length = k ∧ RdrS wr p g N s' ∧ Frm [p] W wr ∧ listGo fwO n s1 = behind acc (listGo fwO (n - k) s')) (fun s9 _ => n - lenOf s9)
  case atStart => exact ⟨0, [], s1, none, 0, by omega, rfl, World.ownsRow_nil _ _ _ _, rfl, K1.out, F1.out, (behind_nil _).symm⟩
  case round =>
    obtain ⟨k, acc, s', A, c, hkn, rfl, hown, hlen, hr, hf, hgo⟩ := hrel
    have HO := Lib.hid hown
    have HR := Lib.hid hr
    have HF := Lib.hid hf
    have HL := Lib.hid hlen
    have HGO := Lib.hid hgo
    have hsz := hf.size
    clear hown hlen hr hf hgo
    by_cases hlt : k < n
    · have hlt2 : (k : Int) < (n : Int) := by omega
      have CO := Lib.hid (one_any p g N s' wr HR.out (by have := HG.out; omega))
      obtain ⟨⟨⟨x, ok⟩, s2⟩, e2⟩ : ∃ r, fwO s' = r := ⟨_, rfl⟩
      rw [e2] at CO
      have E2 := Lib.hid e2
      clear e2
      go_wp2_with fail
      refine CO.out.mono ?_
      rintro e w2 ⟨rfl, k1, k2⟩
      have OK2 := Lib.hid (HO.out.kept k2 (.inr (fun e => by have := HO.out.lt p e; omega)))
      have R2 := Lib.hid k1
      have F2 := Lib.hid (FrmP_grown HF.out k2)
      have hs2 := k2.size
      clear k1 k2
      obtain ⟨w3, hw3⟩ : ∃ w3, w3 = w2.alloc (.cells (Fw.arr x) 79) := ⟨_, rfl⟩
      have R3 := Lib.hid (show RdrS w3 p g N s2 by rw [hw3]; exact R2.out.go ((Below.refl _ _).alloc (Nat.le_refl _) _))
      have O3 := Lib.hid (show w3.ownsRow W.heap.size 79 41 (.slice A k c) k (acc.flatMap fun x => (Fw.arr x).toList) by rw [hw3]; exact OK2.out.alloc _)
      have F3 := Lib.hid (show Frm [p] W w3 by rw [hw3]; exact F2.out.alloc _)
      have X3 := Lib.hid (show Box w3 w2.heap.size (Fw.arr x) by rw [hw3]; exact Box.new _ _ _)
      have HW3 := Lib.hid hw3
      have hs3 : w2.heap.size < w3.heap.size := X3.out.lt
      clear hw3
      go_upto_region 5 with fail
      rw [← HW3.out]
      cases ok
      · have HN := Lib.hid (show behind acc (listGo fwO (n - k) s') = (none, s2) by rw [show n - k = (n - k - 1) + 1 by omega]; exact listGo_no acc E2.out rfl)
        go_wp2
        go_ret2
        exact (by rw [HGO.out, HN.out]; exact ⟨none, 0, 0, rfl, World.ownsRow_nil _ _ _ _, rfl, R3.out, F3.out.to_grown⟩)
      obtain ⟨A5, n5, c5, at5, fa5, fe5, hB5, hs5⟩ := R3.out.spot
      have FA := Lib.hid (fun W' (h : Below w3.heap.size w3 W') => fault_any p A5 n5 c5 at5 fa5 fe5 W' (hB5.go h))
      have HS := Lib.hid hs5
      clear hB5 hs5
      go_wp2_with fail
      refine (FA.out _ (Below.refl _ _)).mono ?_
      rintro e w4 ⟨rfl, hb4⟩
      have R4 := Lib.hid (R3.out.go hb4)
      have O4 := Lib.hid (own_go O3.out hb4)
      have F4 := Lib.hid (F3.out.below hb4 F3.out.size)
      have hs4 := hb4.size
      have X4 := Lib.hid (X3.out.go hb4)
      obtain ⟨z1, z2, z3, z4⟩ := X4.out.facts
      clear hb4
      have hq0 := HS.out
      obtain ⟨q, hq⟩ : ∃ q, s2.isSome = q := ⟨_, rfl⟩
      rw [hq] at hq0
      have HQ := Lib.hid hq
      clear hq
      have hzz : ({ at_ := 0, err := 0 } : Sp) = noSp := rfl
      cases q
      · have HN := Lib.hid (show behind acc (listGo fwO (n - k) s') = (none, s2) by rw [show n - k = (n - k - 1) + 1 by omega]; exact listGo_no acc E2.out (by rw [HQ.out]; rfl))
        go_wp2
        go_ret2
        exact (by rw [HGO.out, HN.out]; exact ⟨none, 0, 0, rfl, World.ownsRow_nil _ _ _ _, rfl, R4.out, F4.out.to_grown⟩)
      · have HN := Lib.hid (show behind acc (listGo fwO (n - k) s') = behind (acc ++ [x]) (listGo fwO (n - (k + 1)) s2) by rw [show n - k = (n - (k + 1)) + 1 by omega]; exact listGo_ok acc E2.out HQ.out)
        have H63 := Lib.hid (show k + 1 ≤ maxLen by unfold maxLen; omega)
        have HBY := Lib.hid (show (k + 1) * i0.bytes ≤ 140737488355328 from Nat.le_trans (Nat.mul_le_mul (show k + 1 ≤ 4097 by omega) hzb) (by omega))
        have ROW := Lib.hid (row_rdR w4 (Fw.arr x) 41 (Fw.arr_size x) 79)
        have OWN := Lib.hid (O4.out.alloc (.cells (Fw.arr x) 79))
        have BS := Lib.hid (show W.heap.size ≤ (w4.alloc (.cells (Fw.arr x) 79)).heap.size by simp; omega)
        have ONE := Lib.hid (show ∀ u ∈ (Fw.arr x).toList, u.oneCell' = true from fun u hu => Array.all_eq_true_iff_forall_mem.1 (Fw.arr_one x) u (by simpa using hu))
        have GR := Lib.hid (fun w5 (hg : (w4.alloc (.cells (Fw.arr x) 79)).grownBy w5 (Value.slice A k c).ownBlock) => show RdrS w5 p g N s2 ∧ Frm [p] W w5 from lists_grown R4.out F4.out O4.out hp HG.out hg)
        go_wp2_with (at_builtin; refine wpList_app_rd _ rfl (.tmp 37) (.tmp 39) _ rfl W.heap.size 79 i0 (.agg noFw.arr) 41 i0.bytes Tryz.underlying26 HI0.out HZ0.out HZ1.out rfl (Fw.arr_size noFw) (Nat.succ_pos _) (.slice A k c) k (acc.flatMap fun x => (Fw.arr x).toList) rfl OWN.out (w4.heap.size + 1) (some ⟨w4.heap.size, 0, none⟩) 1 1 (Fw.arr x).toList rfl ROW.out ONE.out H63.out HBY.out BS.out ?_; intro v1 w5 hown1 hg1 hat1; have O5 := Lib.hid hown1; have G5 := Lib.hid (GR.out _ hg1); clear hown1 hg1 hat1)
        obtain ⟨A', c', rfl, _, _⟩ := own_form O5.out
        go_roundw
        case rel => exact ⟨k + 1, acc ++ [x], s2, A', c', by omega, rfl, by rw [← rows_snoc]; exact O5.out, by simp [HL.out], G5.out.1, G5.out.2, by rw [HGO.out, HN.out]⟩
        case measure => simp [lenOf] <;> omega
    · obtain rfl : k = n := by omega
      have hd : decide ((k : Int) < k) = false := by simp
      go_wp2
      go_ret2
      exact (by rw [HGO.out, Nat.sub_self]; exact ⟨A, k, c, rfl, by simpa [behind, listGo] using HO.out, by simpa [behind, listGo] using HL.out, HR.out, HF.out.to_grown⟩)
theorem enter_tx (args : Array Value) (w : World) : (callFunc 67 args).run Tryz.prog w = .ok (.enter 67 args) w := by kernel_rfl
set_option maxRecDepth 100000 in
set_option maxHeartbeats 8000000 in
theorem list_tx (p g N : Nat) (s : RS) (most : Nat) (hm : most ≤ 4096) (W : World) (h : RdrS W p g N s) (hg : g < W.heap.size) :
    Calls Tryz.prog 66 #[.pointer (some ⟨p, 0, none⟩), .int .i64 most, (.func (.func 67) #[] #[])] W (ListP txA 1 9 W p g N (listO nameO most s)) := by
  have hen := enter_tx
  obtain ⟨i0, hi0, hz0, hz1, hzb⟩ := infoTx
  have HI0 := Lib.hid hi0
  have HZ0 := Lib.hid hz0
  have HZ1 := Lib.hid hz1
  have hp := h.lt
  have HG := Lib.hid hg
  have NU := Lib.hid (number_any p g N s W h)
  obtain ⟨⟨n, s1⟩, e1⟩ : ∃ r, numO s = r := ⟨_, rfl⟩
  have hn60 : n ≤ 1152921504606846977 := by have := numO_lt s; rw [e1] at this; exact this
  rw [e1] at NU
  have hO : listO nameO most s = if n ≤ most then listGo nameO n s1 else (none, s1) := by unfold listO; rw [e1]
  rw [hO]
  try dsimp only at NU
  clear e1 hO h hg hi0 hz0 hz1
  by_cases hnm : n ≤ most
  rotate_left
  · rw [if_neg hnm]
    have h1 : ¬ ((n : Int) ≤ (most : Int)) := by omega
    clear hnm
    go_enter Tryz.func66, Tryz.ntmps66
    go_wp2_with fail
    refine NU.out.mono ?_
    rintro e w1 ⟨rfl, k1, k2⟩
    have FIN := Lib.hid (And.intro k1 k2)
    clear k1 k2 hen
    go_wp2
    go_loopw [9] (fun s9 wr => s9 = .slice none 0 0 ∧ wr = w1) (fun _ _ => 0)
    case atStart => exact ⟨rfl, rfl⟩
    case round =>
      obtain ⟨rfl, rfl⟩ := hrel
      go_wp2
      go_ret2
      exact ⟨none, 0, 0, rfl, World.ownsRow_nil _ _ _ _, rfl, FIN.out.1, FIN.out.2⟩
  rw [if_pos hnm]
  have hle : (n : Int) ≤ (most : Int) := by omega
  go_enter Tryz.func66, Tryz.ntmps66
  go_wp2_with fail
  refine NU.out.mono ?_
  rintro e w1 ⟨rfl, k1, k2⟩
  have K1 := Lib.hid k1
  have F1 := Lib.hid (FrmP_grown (Frm.refl [p] W) k2)
  clear k1 k2
  go_wp2
  go_loopw [9] (fun s9 wr => ∃ (k : Nat) (acc : List (List UInt8)) (s' : RS) (A : Option Addr) (c : Nat), k ≤ n ∧ s9 = .slice A k c ∧ wr.ownsRow W.heap.size 9 1 (.slice A k c) k (acc.flatMap fun x => (txA x).toList) ∧ acc.length = k ∧ RdrS wr p g N s' ∧ Frm [p] W wr ∧ listGo nameO n s1 = behind acc (listGo nameO (n - k) s')) (fun s9 _ => n - lenOf s9)
  case atStart => exact ⟨0, [], s1, none, 0, by omega, rfl, World.ownsRow_nil _ _ _ _, rfl, K1.out, F1.out, (behind_nil _).symm⟩
  case round =>
    obtain ⟨k, acc, s', A, c, hkn, rfl, hown, hlen, hr, hf, hgo⟩ := hrel
    have HO := Lib.hid hown
    have HR := Lib.hid hr
    have HF := Lib.hid hf
    have HL := Lib.hid hlen
    have HGO := Lib.hid hgo
    have hsz := hf.size
    clear hown hlen hr hf hgo
    by_cases hlt : k < n
    · have hlt2 : (k : Int) < (n : Int) := by omega
      have CO := Lib.hid (snapName_any p g N s' wr HR.out (by have := HG.out; omega))
      obtain ⟨⟨⟨x, ok⟩, s2⟩, e2⟩ : ∃ r, nameO s' = r := ⟨_, rfl⟩
      have e3 : ok = true ∧ (textO 255 s').1 = x ∧ (textO 255 s').2 = s2 := by unfold nameO at e2; injection e2 with a b; injection a with a1 a2; exact ⟨a2.symm, a1, b⟩
      obtain ⟨rfl, e4, e5⟩ := e3
      rw [e4, e5] at CO
      have E2 := Lib.hid e2
      clear e2
      go_wp2_with fail
      refine CO.out.mono ?_
      rintro e w2 ⟨rfl, k1, k2⟩
      have OK2 := Lib.hid (HO.out.kept k2 (.inr (fun e => by have := HO.out.lt p e; omega)))
      have R2 := Lib.hid k1
      have F2 := Lib.hid (FrmP_grown HF.out k2)
      have hs2 := k2.size
      clear k1 k2
      obtain ⟨w3, hw3⟩ : ∃ w3, w3 = w2 := ⟨_, rfl⟩
      subst hw3
      have R3 := R2
      have O3 := OK2
      have F3 := F2
      obtain ⟨A5, n5, c5, at5, fa5, fe5, hB5, hs5⟩ := R3.out.spot
      have FA := Lib.hid (fun W' (h : Below w3.heap.size w3 W') => fault_any p A5 n5 c5 at5 fa5 fe5 W' (hB5.go h))
      have HS := Lib.hid hs5
      clear hB5 hs5
      go_wp2_with fail
      refine (FA.out _ (Below.refl _ _)).mono ?_
      rintro e w4 ⟨rfl, hb4⟩
      have R4 := Lib.hid (R3.out.go hb4)
      have O4 := Lib.hid (own_go O3.out hb4)
      have F4 := Lib.hid (F3.out.below hb4 F3.out.size)
      have hs4 := hb4.size
      skip
      clear hb4
      have hq0 := HS.out
      obtain ⟨q, hq⟩ : ∃ q, s2.isSome = q := ⟨_, rfl⟩
      rw [hq] at hq0
      have HQ := Lib.hid hq
      clear hq
      have hzz : ({ at_ := 0, err := 0 } : Sp) = noSp := rfl
      cases q
      · have HN := Lib.hid (show behind acc (listGo nameO (n - k) s') = (none, s2) by rw [show n - k = (n - k - 1) + 1 by omega]; exact listGo_no acc E2.out (by rw [HQ.out]; rfl))
        go_wp2
        go_ret2
        exact (by rw [HGO.out, HN.out]; exact ⟨none, 0, 0, rfl, World.ownsRow_nil _ _ _ _, rfl, R4.out, F4.out.to_grown⟩)
      · have HN := Lib.hid (show behind acc (listGo nameO (n - k) s') = behind (acc ++ [x]) (listGo nameO (n - (k + 1)) s2) by rw [show n - k = (n - (k + 1)) + 1 by omega]; exact listGo_ok acc E2.out HQ.out)
        have H63 := Lib.hid (show k + 1 ≤ maxLen by unfold maxLen; omega)
        have HBY := Lib.hid (show (k + 1) * i0.bytes ≤ 140737488355328 from Nat.le_trans (Nat.mul_le_mul (show k + 1 ≤ 4097 by omega) hzb) (by omega))
        have ROW := Lib.hid (row_rdR w4 (txA x) 1 (rfl) 9)
        have OWN := Lib.hid (O4.out.alloc (.cells (txA x) 9))
        have BS := Lib.hid (show W.heap.size ≤ (w4.alloc (.cells (txA x) 9)).heap.size by simp; omega)
        have ONE := Lib.hid (show ∀ u ∈ (txA x).toList, u.oneCell' = true from fun u hu => by simp [txA] at hu; subst hu; rfl)
        have GR := Lib.hid (fun w5 (hg : (w4.alloc (.cells (txA x) 9)).grownBy w5 (Value.slice A k c).ownBlock) => show RdrS w5 p g N s2 ∧ Frm [p] W w5 from lists_grown R4.out F4.out O4.out hp HG.out hg)
        go_wp2_with (at_builtin; refine wpList_app_rd _ rfl (.tmp 37) (.tmp 39) _ rfl W.heap.size 9 i0 (.string ⟨#[]⟩) 1 i0.bytes Tryz.underlying116 HI0.out HZ0.out HZ1.out rfl (rfl) (Nat.succ_pos _) (.slice A k c) k (acc.flatMap fun x => (txA x).toList) rfl OWN.out (w4.heap.size + 1) (some ⟨w4.heap.size, 0, none⟩) 1 1 (txA x).toList rfl ROW.out ONE.out H63.out HBY.out BS.out ?_; intro v1 w5 hown1 hg1 hat1; have O5 := Lib.hid hown1; have G5 := Lib.hid (GR.out _ hg1); clear hown1 hg1 hat1)
        obtain ⟨A', c', rfl, _, _⟩ := own_form O5.out
        go_roundw
        case rel => exact ⟨k + 1, acc ++ [x], s2, A', c', by omega, rfl, by rw [← rows_snoc]; exact O5.out, by simp [HL.out], G5.out.1, G5.out.2, by rw [HGO.out, HN.out]⟩
        case measure => simp [lenOf] <;> omega
    · obtain rfl : k = n := by omega
      have hd : decide ((k : Int) < k) = false := by simp
      go_wp2
      go_ret2
      exact (by rw [HGO.out, Nat.sub_self]; exact ⟨A, k, c, rfl, by simpa [behind, listGo] using HO.out, by simpa [behind, listGo] using HL.out, HR.out, HF.out.to_grown⟩)
end Go.Proofs.YtmpemeemlhmaaaaGreat

namespace Go.Proofs.YtmpemeemlhmaaaaGreat
open Go.RowKit

theorem notZeroF (c : Nat) (w : World) : Calls Tryz.prog 156 #[.int .u8 c] w fun e w' => e = .returned (.bool ((c : Int) != 0)) ∧ w = w' := by
  go_enter Tryz.func156, Tryz.ntmps156
  go_wp2
  go_ret
  exact ⟨rfl, rfl⟩
theorem enter_notZeroF (args : Array Value) (w : World) : (callFunc 156 args).run Tryz.prog w = .ok (.enter 156 args) w := by kernel_rfl

set_option maxRecDepth 100000 in
/-- the tail of an address, as a slice: is any byte not nought? -/
theorem idxTailF (a : Adr) (b o c : Nat) (w : World) (hc : ∀ j, j < 12 → w.cell? ⟨b, o + j, none⟩ = some (.int .u8 ((a.at_ (4 + j)).toNat : Nat))) :
    Calls Tryz.prog 155 #[.slice (some ⟨b, o, none⟩) 12 c, .func (.func 156) #[] #[]] w fun e w' => ∃ r : Int, e = .returned (.int .i64 r) ∧ (decide (0 ≤ r) = !a.short) ∧ w = w' := by
  have hen := enter_notZeroF
  have HC := Lib.hid hc
  clear hc
  go_enter Tryz.func155, Tryz.ntmps155
  go_wp2
  go_loop [8] (fun s8 => ∃ i : Nat, i ≤ 12 ∧ s8 = .int .i64 i ∧ ∀ j, 4 ≤ j → j < 4 + i → a.at_ j = 0) (fun s8 => 12 - (intOf s8).toNat)
  case atStart => exact ⟨0, by omega, rfl, fun j h1 h2 => by omega⟩
  case round =>
    obtain ⟨i, hi, rfl, hall⟩ := hrel
    have HA := Lib.hid hall
    clear hall
    by_cases hlt : i < 12
    · have hin : (i : Int) < 12 := by omega
      have hcell := HC.out i hlt
      have hz : ((a.at_ (4 + i)).toNat : Int) = 0 ↔ a.at_ (4 + i) = 0 := by
        constructor
        · intro h; apply UInt8.toNat_inj.1; have : (0 : UInt8).toNat = 0 := rfl; omega
        · intro h; rw [h]; rfl
      have HZ := Lib.hid hz
      clear hz
      obtain ⟨n, hn⟩ : ∃ n : Nat, n = (a.at_ (4 + i)).toNat := ⟨_, rfl⟩
      rw [← hn] at hcell HZ
      clear hn
      by_cases h0 : n = 0
      · have h1 : ((n : Int) != 0) = false := by rw [h0]; rfl
        have hz0 : a.at_ (4 + i) = 0 := HZ.out.1 (by omega)
        have HZ0 := Lib.hid hz0
        clear hz0 h0
        go_wp2_with (go_at_call 156; refine (notZeroF n _).mono ?_; rintro e w' ⟨rfl, rfl⟩)
        go_round
        case rel => exact ⟨i + 1, by omega, by go_num, fun j h1 h2 => by
          by_cases hji : j = 4 + i
          · rw [hji]; exact HZ0.out
          · exact HA.out j h1 (by omega)⟩
        case measure => simp [intOf] <;> omega
      · have h1 : ((n : Int) != 0) = true := by rw [bne_iff_ne]; omega
        have hno : a.short = false := Adr.short_no (i := 4 + i) (by omega) (by omega) (fun h => h0 (by have := HZ.out.2 h; omega))
        have HNO := Lib.hid hno
        clear hno h0
        go_wp2_with (go_at_call 156; refine (notZeroF n _).mono ?_; rintro e w' ⟨rfl, rfl⟩)
        go_ret
        exact ⟨_, rfl, by rw [HNO.out]; simp, rfl⟩
    · obtain rfl : i = 12 := by omega
      have hs : a.short = true := a.short_iff.2 HA.out
      have HS := Lib.hid hs
      clear hs
      go_wp2
      go_ret
      exact ⟨_, rfl, by rw [HS.out]; simp, rfl⟩
theorem anyTailF (a : Adr) (b o c : Nat) (w : World) (hc : ∀ j, j < 12 → w.cell? ⟨b, o + j, none⟩ = some (.int .u8 ((a.at_ (4 + j)).toNat : Nat))) :
    Calls Tryz.prog 126 #[.slice (some ⟨b, o, none⟩) 12 c, .func (.func 156) #[] #[]] w fun e w' => e = .returned (.bool (!a.short)) ∧ w = w' := by
  have HC := Lib.hid hc
  clear hc
  go_enter Tryz.func126, Tryz.ntmps126
  go_wp2_with (go_at_call 155; refine (idxTailF a b o c _ HC.out).mono ?_; rintro e w' ⟨r, rfl, hr, rfl⟩)
  go_ret
  exact ⟨by simp, rfl⟩


theorem Adr.okAdr (a : Adr) : okAdr a = (a.six || a.short) := rfl
set_option maxRecDepth 100000 in
theorem fits_any (a : Adr) (w : World) : Calls Tryz.prog 128 #[.agg a.arr] w fun e w' => e = .returned (.bool (okAdr a)) ∧ Below w.heap.size w w' := by
  have HB := Lib.hid ((Below.refl w.heap.size w).alloc (Nat.le_refl _) (.cells a.arr 56))
  have HT := Lib.hid (show ∀ j, j < 12 → (w.alloc (.cells a.arr 56)).cell? ⟨w.heap.size, 5 + j, none⟩ = some (.int .u8 ((a.at_ (4 + j)).toNat : Nat)) from fun j hj => by
    rw [cell_new, show 5 + j = (4 + j) + 1 by omega]; exact Adr.arr_b a (4 + j) (by omega))
  have HK := Lib.hid (Adr.okAdr a)
  cases h6 : a.six
  · have H6 := Lib.hid h6
    obtain ⟨K, hK⟩ : ∃ K, a.short = K := ⟨_, rfl⟩
    have HKK := Lib.hid hK
    clear hK
    go_enter Tryz.func128, Tryz.ntmps128
    go_wp2_with fail
    refine (anyTailF a _ 5 _ _ HT.out).mono ?_
    rintro e w' ⟨rfl, rfl⟩
    rw [HKK.out]
    cases K
    all_goals
      go_wp2
      go_ret
      exact ⟨by rw [HK.out, HKK.out, H6.out]; rfl, HB.out⟩
  · have H6 := Lib.hid h6
    go_enter Tryz.func128, Tryz.ntmps128
    go_wp2
    go_ret
    exact ⟨by rw [HK.out, H6.out]; rfl, HB.out⟩
@[go_sem] theorem Tu.extract_s (t : Tu) : t.arr.extract 0 17 = t.src.arr := by
  apply Array.ext_getElem?
  intro j
  rcases Nat.lt_or_ge j 17 with h | h
  · rw [extract_get t.arr 0 17 j h (by rw [Tu.arr_size]; omega), Nat.zero_add, Tu.arr_s t j h]
  · rw [Array.getElem?_eq_none (by rw [Array.size_extract, Tu.arr_size]; omega), Array.getElem?_eq_none (by rw [Adr.arr_size]; exact h)]
@[go_sem] theorem Tu.extract_d (t : Tu) : t.arr.extract 17 34 = t.dst.arr := by
  apply Array.ext_getElem?
  intro j
  rcases Nat.lt_or_ge j 17 with h | h
  · rw [show (34 : Nat) = 17 + 17 from rfl, extract_get t.arr 17 17 j h (by rw [Tu.arr_size]; omega), Nat.add_comm, Tu.arr_d t j h]
  · rw [Array.getElem?_eq_none (by rw [Array.size_extract, Tu.arr_size]; omega), Array.getElem?_eq_none (by rw [Adr.arr_size]; exact h)]
@[go_sem] theorem Fw.extract_key (x : Fw) : x.arr.extract 0 37 = x.key.arr := by
  apply Array.ext_getElem?
  intro j
  rcases Nat.lt_or_ge j 37 with h | h
  · rw [extract_get x.arr 0 37 j h (by rw [Fw.arr_size]; omega), Nat.zero_add, Fw.arr_k x j h]
  · rw [Array.getElem?_eq_none (by rw [Array.size_extract, Fw.arr_size]; omega), Array.getElem?_eq_none (by rw [Tu.arr_size]; exact h)]
theorem okTu_is (t : Tu) : okTu t = (decide (t.src.six = t.dst.six) && okAdr t.src && okAdr t.dst && (decide (0 ≤ t.proto) && decide (t.proto ≤ 255)) && (decide (0 ≤ t.sport) && decide (t.sport ≤ 65535)) && (decide (0 ≤ t.dport) && decide (t.dport ≤ 65535))) := rfl
set_option maxRecDepth 100000 in
set_option maxHeartbeats 8000000 in
theorem known_any (t : Tu) (w : World) : Calls Tryz.prog 89 #[.agg t.arr] w fun e w' => e = .returned (.bool (okTu t)) ∧ Below w.heap.size w w' := by
  have HB0 := Lib.hid ((Below.refl w.heap.size w).alloc (Nat.le_refl _) (.cells t.arr 77))
  have B0 := Lib.hid (Box.new w t.arr 77)
  obtain ⟨x1, x2, x3, x4⟩ := B0.out.facts
  have hl0 := B0.out.lt
  obtain ⟨K1, h1⟩ : ∃ K, okAdr t.src = K := ⟨_, rfl⟩
  obtain ⟨K2, h2⟩ : ∃ K, okAdr t.dst = K := ⟨_, rfl⟩
  have HS1 := Lib.hid h1
  have HS2 := Lib.hid h2
  clear h1 h2
  obtain ⟨s6, h6⟩ : ∃ s, t.src.six = s := ⟨_, rfl⟩
  obtain ⟨d6, g6⟩ : ∃ s, t.dst.six = s := ⟨_, rfl⟩
  by_cases he : s6 = d6
  rotate_left
  · have HE := Lib.hid (show ¬ t.src.six = t.dst.six by rw [h6, g6]; exact he)
    have hne : (s6 == d6) = false := by simpa using he
    clear he
    go_enter Tryz.func89, Tryz.ntmps89
    go_wp2
    go_ret
    exact ⟨by rw [okTu_is]; simp [HE.out] <;> omega, HB0.out⟩
  have HE := Lib.hid (show t.src.six = t.dst.six by rw [h6, g6]; exact he)
  have hne : (s6 == d6) = true := by simpa using he
  clear he
  cases K1
  · skip
    go_enter Tryz.func89, Tryz.ntmps89
    go_wp2_with fail
    refine (fits_any t.src _).mono ?_
    rintro e w1 ⟨rfl, hb1⟩
    rw [HS1.out]
    have B1 := Lib.hid (B0.out.go hb1)
    have HB1 := Lib.hid (below2 HB0.out hb1)
    obtain ⟨y1, y2, y3, y4⟩ := B1.out.facts
    have hl1 := B1.out.lt
    clear hb1
    go_wp2
    go_ret
    exact ⟨by rw [okTu_is]; simp [HE.out, HS1.out] <;> omega, HB1.out⟩
  cases K2
  · skip
    go_enter Tryz.func89, Tryz.ntmps89
    go_wp2_with fail
    refine (fits_any t.src _).mono ?_
    rintro e w1 ⟨rfl, hb1⟩
    rw [HS1.out]
    have B1 := Lib.hid (B0.out.go hb1)
    have HB1 := Lib.hid (below2 HB0.out hb1)
    obtain ⟨y1, y2, y3, y4⟩ := B1.out.facts
    have hl1 := B1.out.lt
    clear hb1
    go_wp2_with fail
    refine (fits_any t.dst _).mono ?_
    rintro e w2 ⟨rfl, hb2⟩
    rw [HS2.out]
    have B2 := Lib.hid (B1.out.go hb2)
    have HB2 := Lib.hid (below2 HB1.out hb2)
    obtain ⟨z1, z2, z3, z4⟩ := B2.out.facts
    have hl2 := B2.out.lt
    clear hb2 y1 y2 y3 y4 hl1
    go_wp2
    go_ret
    exact ⟨by rw [okTu_is]; simp [HE.out, HS1.out, HS2.out] <;> omega, HB2.out⟩
  by_cases p0 : 0 ≤ t.proto
  rotate_left
  · skip
    go_enter Tryz.func89, Tryz.ntmps89
    go_wp2_with fail
    refine (fits_any t.src _).mono ?_
    rintro e w1 ⟨rfl, hb1⟩
    rw [HS1.out]
    have B1 := Lib.hid (B0.out.go hb1)
    have HB1 := Lib.hid (below2 HB0.out hb1)
    obtain ⟨y1, y2, y3, y4⟩ := B1.out.facts
    have hl1 := B1.out.lt
    clear hb1
    go_wp2_with fail
    refine (fits_any t.dst _).mono ?_
    rintro e w2 ⟨rfl, hb2⟩
    rw [HS2.out]
    have B2 := Lib.hid (B1.out.go hb2)
    have HB2 := Lib.hid (below2 HB1.out hb2)
    obtain ⟨z1, z2, z3, z4⟩ := B2.out.facts
    have hl2 := B2.out.lt
    clear hb2 y1 y2 y3 y4 hl1
    go_wp2
    go_ret
    exact ⟨by rw [okTu_is]; simp [HE.out, HS1.out, HS2.out, p0] <;> omega, HB2.out⟩
  by_cases p1 : t.proto ≤ 255
  rotate_left
  · skip
    go_enter Tryz.func89, Tryz.ntmps89
    go_wp2_with fail
    refine (fits_any t.src _).mono ?_
    rintro e w1 ⟨rfl, hb1⟩
    rw [HS1.out]
    have B1 := Lib.hid (B0.out.go hb1)
    have HB1 := Lib.hid (below2 HB0.out hb1)
    obtain ⟨y1, y2, y3, y4⟩ := B1.out.facts
    have hl1 := B1.out.lt
    clear hb1
    go_wp2_with fail
    refine (fits_any t.dst _).mono ?_
    rintro e w2 ⟨rfl, hb2⟩
    rw [HS2.out]
    have B2 := Lib.hid (B1.out.go hb2)
    have HB2 := Lib.hid (below2 HB1.out hb2)
    obtain ⟨z1, z2, z3, z4⟩ := B2.out.facts
    have hl2 := B2.out.lt
    clear hb2 y1 y2 y3 y4 hl1
    go_wp2
    go_ret
    exact ⟨by rw [okTu_is]; simp [HE.out, HS1.out, HS2.out, p0, p1] <;> omega, HB2.out⟩
  by_cases p2 : 0 ≤ t.sport
  rotate_left
  · skip
    go_enter Tryz.func89, Tryz.ntmps89
    go_wp2_with fail
    refine (fits_any t.src _).mono ?_
    rintro e w1 ⟨rfl, hb1⟩
    rw [HS1.out]
    have B1 := Lib.hid (B0.out.go hb1)
    have HB1 := Lib.hid (below2 HB0.out hb1)
    obtain ⟨y1, y2, y3, y4⟩ := B1.out.facts
    have hl1 := B1.out.lt
    clear hb1
    go_wp2_with fail
    refine (fits_any t.dst _).mono ?_
    rintro e w2 ⟨rfl, hb2⟩
    rw [HS2.out]
    have B2 := Lib.hid (B1.out.go hb2)
    have HB2 := Lib.hid (below2 HB1.out hb2)
    obtain ⟨z1, z2, z3, z4⟩ := B2.out.facts
    have hl2 := B2.out.lt
    clear hb2 y1 y2 y3 y4 hl1
    go_wp2
    go_ret
    exact ⟨by rw [okTu_is]; simp [HE.out, HS1.out, HS2.out, p0, p1, p2] <;> omega, HB2.out⟩
  by_cases p3 : t.sport ≤ 65535
  rotate_left
  · skip
    go_enter Tryz.func89, Tryz.ntmps89
    go_wp2_with fail
    refine (fits_any t.src _).mono ?_
    rintro e w1 ⟨rfl, hb1⟩
    rw [HS1.out]
    have B1 := Lib.hid (B0.out.go hb1)
    have HB1 := Lib.hid (below2 HB0.out hb1)
    obtain ⟨y1, y2, y3, y4⟩ := B1.out.facts
    have hl1 := B1.out.lt
    clear hb1
    go_wp2_with fail
    refine (fits_any t.dst _).mono ?_
    rintro e w2 ⟨rfl, hb2⟩
    rw [HS2.out]
    have B2 := Lib.hid (B1.out.go hb2)
    have HB2 := Lib.hid (below2 HB1.out hb2)
    obtain ⟨z1, z2, z3, z4⟩ := B2.out.facts
    have hl2 := B2.out.lt
    clear hb2 y1 y2 y3 y4 hl1
    go_wp2
    go_ret
    exact ⟨by rw [okTu_is]; simp [HE.out, HS1.out, HS2.out, p0, p1, p2, p3] <;> omega, HB2.out⟩
  by_cases p4 : 0 ≤ t.dport
  rotate_left
  · skip
    go_enter Tryz.func89, Tryz.ntmps89
    go_wp2_with fail
    refine (fits_any t.src _).mono ?_
    rintro e w1 ⟨rfl, hb1⟩
    rw [HS1.out]
    have B1 := Lib.hid (B0.out.go hb1)
    have HB1 := Lib.hid (below2 HB0.out hb1)
    obtain ⟨y1, y2, y3, y4⟩ := B1.out.facts
    have hl1 := B1.out.lt
    clear hb1
    go_wp2_with fail
    refine (fits_any t.dst _).mono ?_
    rintro e w2 ⟨rfl, hb2⟩
    rw [HS2.out]
    have B2 := Lib.hid (B1.out.go hb2)
    have HB2 := Lib.hid (below2 HB1.out hb2)
    obtain ⟨z1, z2, z3, z4⟩ := B2.out.facts
    have hl2 := B2.out.lt
    clear hb2 y1 y2 y3 y4 hl1
    go_wp2
    go_ret
    exact ⟨by rw [okTu_is]; simp [HE.out, HS1.out, HS2.out, p0, p1, p2, p3, p4] <;> omega, HB2.out⟩
  by_cases p5 : t.dport ≤ 65535
  rotate_left
  · skip
    go_enter Tryz.func89, Tryz.ntmps89
    go_wp2_with fail
    refine (fits_any t.src _).mono ?_
    rintro e w1 ⟨rfl, hb1⟩
    rw [HS1.out]
    have B1 := Lib.hid (B0.out.go hb1)
    have HB1 := Lib.hid (below2 HB0.out hb1)
    obtain ⟨y1, y2, y3, y4⟩ := B1.out.facts
    have hl1 := B1.out.lt
    clear hb1
    go_wp2_with fail
    refine (fits_any t.dst _).mono ?_
    rintro e w2 ⟨rfl, hb2⟩
    rw [HS2.out]
    have B2 := Lib.hid (B1.out.go hb2)
    have HB2 := Lib.hid (below2 HB1.out hb2)
    obtain ⟨z1, z2, z3, z4⟩ := B2.out.facts
    have hl2 := B2.out.lt
    clear hb2 y1 y2 y3 y4 hl1
    go_wp2
    go_ret
    exact ⟨by rw [okTu_is]; simp [HE.out, HS1.out, HS2.out, p0, p1, p2, p3, p4, p5] <;> omega, HB2.out⟩
  go_enter Tryz.func89, Tryz.ntmps89
  go_wp2_with fail
  refine (fits_any t.src _).mono ?_
  rintro e w1 ⟨rfl, hb1⟩
  rw [HS1.out]
  have B1 := Lib.hid (B0.out.go hb1)
  have HB1 := Lib.hid (below2 HB0.out hb1)
  obtain ⟨y1, y2, y3, y4⟩ := B1.out.facts
  have hl1 := B1.out.lt
  clear hb1
  go_wp2_with fail
  refine (fits_any t.dst _).mono ?_
  rintro e w2 ⟨rfl, hb2⟩
  rw [HS2.out]
  have B2 := Lib.hid (B1.out.go hb2)
  have HB2 := Lib.hid (below2 HB1.out hb2)
  obtain ⟨z1, z2, z3, z4⟩ := B2.out.facts
  have hl2 := B2.out.lt
  clear hb2 y1 y2 y3 y4 hl1
  go_wp2
  go_ret
  exact ⟨by rw [okTu_is]; simp [HE.out, HS1.out, HS2.out, p0, p1, p2, p3, p4, p5] <;> omega, HB2.out⟩
theorem okFw_is (x : Fw) : okFw x = (okTu x.key && okName x.name && decide (1 ≤ x.state) && decide (x.state ≤ 5) && (decide (0 ≤ x.seen) && decide (x.seen ≤ 1099511627776)) && (decide (0 ≤ x.no) && decide (x.no ≤ 1152921504606846976))) := rfl
set_option maxRecDepth 100000 in
set_option maxHeartbeats 8000000 in
theorem flowRight_any (x : Fw) (w : World) (hn : x.name.length ≤ 9223372036854775807) : Calls Tryz.prog 39 #[.agg x.arr] w fun e w' => e = .returned (.bool (okFw x)) ∧ Below w.heap.size w w' := by
  have HB0 := Lib.hid ((Below.refl w.heap.size w).alloc (Nat.le_refl _) (.cells x.arr 79))
  have B0 := Lib.hid (Box.new w x.arr 79)
  obtain ⟨x1, x2, x3, x4⟩ := B0.out.facts
  have hl0 := B0.out.lt
  obtain ⟨K1, h1⟩ : ∃ K, okTu x.key = K := ⟨_, rfl⟩
  obtain ⟨K2, h2⟩ : ∃ K, okName x.name = K := ⟨_, rfl⟩
  have HS1 := Lib.hid h1
  have HS2 := Lib.hid h2
  clear h1 h2
  cases K1
  · skip
    go_enter Tryz.func39, Tryz.ntmps39
    go_wp2_with fail
    refine (known_any x.key _).mono ?_
    rintro e w1 ⟨rfl, hb1⟩
    rw [HS1.out]
    have B1 := Lib.hid (B0.out.go hb1)
    have HB1 := Lib.hid (below2 HB0.out hb1)
    obtain ⟨y1, y2, y3, y4⟩ := B1.out.facts
    have hl1 := B1.out.lt
    clear hb1
    go_wp2
    go_ret
    exact ⟨by rw [okFw_is]; simp [HS1.out] <;> omega, HB1.out⟩
  cases K2
  · skip
    go_enter Tryz.func39, Tryz.ntmps39
    go_wp2_with fail
    refine (known_any x.key _).mono ?_
    rintro e w1 ⟨rfl, hb1⟩
    rw [HS1.out]
    have B1 := Lib.hid (B0.out.go hb1)
    have HB1 := Lib.hid (below2 HB0.out hb1)
    obtain ⟨y1, y2, y3, y4⟩ := B1.out.facts
    have hl1 := B1.out.lt
    clear hb1
    go_wp2_with fail
    refine (name_any x.name _ hn).mono ?_
    rintro e w2 ⟨rfl, hb2⟩
    rw [HS2.out]
    have B2 := Lib.hid (B1.out.go hb2)
    have HB2 := Lib.hid (below2 HB1.out hb2)
    obtain ⟨z1, z2, z3, z4⟩ := B2.out.facts
    have hl2 := B2.out.lt
    clear hb2 y1 y2 y3 y4 hl1
    go_wp2
    go_ret
    exact ⟨by rw [okFw_is]; simp [HS1.out, HS2.out] <;> omega, HB2.out⟩
  by_cases p0 : 1 ≤ x.state
  rotate_left
  · skip
    go_enter Tryz.func39, Tryz.ntmps39
    go_wp2_with fail
    refine (known_any x.key _).mono ?_
    rintro e w1 ⟨rfl, hb1⟩
    rw [HS1.out]
    have B1 := Lib.hid (B0.out.go hb1)
    have HB1 := Lib.hid (below2 HB0.out hb1)
    obtain ⟨y1, y2, y3, y4⟩ := B1.out.facts
    have hl1 := B1.out.lt
    clear hb1
    go_wp2_with fail
    refine (name_any x.name _ hn).mono ?_
    rintro e w2 ⟨rfl, hb2⟩
    rw [HS2.out]
    have B2 := Lib.hid (B1.out.go hb2)
    have HB2 := Lib.hid (below2 HB1.out hb2)
    obtain ⟨z1, z2, z3, z4⟩ := B2.out.facts
    have hl2 := B2.out.lt
    clear hb2 y1 y2 y3 y4 hl1
    go_wp2
    go_ret
    exact ⟨by rw [okFw_is]; simp [HS1.out, HS2.out, p0] <;> omega, HB2.out⟩
  by_cases p1 : x.state ≤ 5
  rotate_left
  · skip
    go_enter Tryz.func39, Tryz.ntmps39
    go_wp2_with fail
    refine (known_any x.key _).mono ?_
    rintro e w1 ⟨rfl, hb1⟩
    rw [HS1.out]
    have B1 := Lib.hid (B0.out.go hb1)
    have HB1 := Lib.hid (below2 HB0.out hb1)
    obtain ⟨y1, y2, y3, y4⟩ := B1.out.facts
    have hl1 := B1.out.lt
    clear hb1
    go_wp2_with fail
    refine (name_any x.name _ hn).mono ?_
    rintro e w2 ⟨rfl, hb2⟩
    rw [HS2.out]
    have B2 := Lib.hid (B1.out.go hb2)
    have HB2 := Lib.hid (below2 HB1.out hb2)
    obtain ⟨z1, z2, z3, z4⟩ := B2.out.facts
    have hl2 := B2.out.lt
    clear hb2 y1 y2 y3 y4 hl1
    go_wp2
    go_ret
    exact ⟨by rw [okFw_is]; simp [HS1.out, HS2.out, p0, p1] <;> omega, HB2.out⟩
  by_cases p2 : 0 ≤ x.seen
  rotate_left
  · skip
    go_enter Tryz.func39, Tryz.ntmps39
    go_wp2_with fail
    refine (known_any x.key _).mono ?_
    rintro e w1 ⟨rfl, hb1⟩
    rw [HS1.out]
    have B1 := Lib.hid (B0.out.go hb1)
    have HB1 := Lib.hid (below2 HB0.out hb1)
    obtain ⟨y1, y2, y3, y4⟩ := B1.out.facts
    have hl1 := B1.out.lt
    clear hb1
    go_wp2_with fail
    refine (name_any x.name _ hn).mono ?_
    rintro e w2 ⟨rfl, hb2⟩
    rw [HS2.out]
    have B2 := Lib.hid (B1.out.go hb2)
    have HB2 := Lib.hid (below2 HB1.out hb2)
    obtain ⟨z1, z2, z3, z4⟩ := B2.out.facts
    have hl2 := B2.out.lt
    clear hb2 y1 y2 y3 y4 hl1
    go_wp2
    go_ret
    exact ⟨by rw [okFw_is]; simp [HS1.out, HS2.out, p0, p1, p2] <;> omega, HB2.out⟩
  by_cases p3 : x.seen ≤ 1099511627776
  rotate_left
  · skip
    go_enter Tryz.func39, Tryz.ntmps39
    go_wp2_with fail
    refine (known_any x.key _).mono ?_
    rintro e w1 ⟨rfl, hb1⟩
    rw [HS1.out]
    have B1 := Lib.hid (B0.out.go hb1)
    have HB1 := Lib.hid (below2 HB0.out hb1)
    obtain ⟨y1, y2, y3, y4⟩ := B1.out.facts
    have hl1 := B1.out.lt
    clear hb1
    go_wp2_with fail
    refine (name_any x.name _ hn).mono ?_
    rintro e w2 ⟨rfl, hb2⟩
    rw [HS2.out]
    have B2 := Lib.hid (B1.out.go hb2)
    have HB2 := Lib.hid (below2 HB1.out hb2)
    obtain ⟨z1, z2, z3, z4⟩ := B2.out.facts
    have hl2 := B2.out.lt
    clear hb2 y1 y2 y3 y4 hl1
    go_wp2
    go_ret
    exact ⟨by rw [okFw_is]; simp [HS1.out, HS2.out, p0, p1, p2, p3] <;> omega, HB2.out⟩
  by_cases p4 : 0 ≤ x.no
  rotate_left
  · skip
    go_enter Tryz.func39, Tryz.ntmps39
    go_wp2_with fail
    refine (known_any x.key _).mono ?_
    rintro e w1 ⟨rfl, hb1⟩
    rw [HS1.out]
    have B1 := Lib.hid (B0.out.go hb1)
    have HB1 := Lib.hid (below2 HB0.out hb1)
    obtain ⟨y1, y2, y3, y4⟩ := B1.out.facts
    have hl1 := B1.out.lt
    clear hb1
    go_wp2_with fail
    refine (name_any x.name _ hn).mono ?_
    rintro e w2 ⟨rfl, hb2⟩
    rw [HS2.out]
    have B2 := Lib.hid (B1.out.go hb2)
    have HB2 := Lib.hid (below2 HB1.out hb2)
    obtain ⟨z1, z2, z3, z4⟩ := B2.out.facts
    have hl2 := B2.out.lt
    clear hb2 y1 y2 y3 y4 hl1
    go_wp2
    go_ret
    exact ⟨by rw [okFw_is]; simp [HS1.out, HS2.out, p0, p1, p2, p3, p4] <;> omega, HB2.out⟩
  by_cases p5 : x.no ≤ 1152921504606846976
  rotate_left
  · skip
    go_enter Tryz.func39, Tryz.ntmps39
    go_wp2_with fail
    refine (known_any x.key _).mono ?_
    rintro e w1 ⟨rfl, hb1⟩
    rw [HS1.out]
    have B1 := Lib.hid (B0.out.go hb1)
    have HB1 := Lib.hid (below2 HB0.out hb1)
    obtain ⟨y1, y2, y3, y4⟩ := B1.out.facts
    have hl1 := B1.out.lt
    clear hb1
    go_wp2_with fail
    refine (name_any x.name _ hn).mono ?_
    rintro e w2 ⟨rfl, hb2⟩
    rw [HS2.out]
    have B2 := Lib.hid (B1.out.go hb2)
    have HB2 := Lib.hid (below2 HB1.out hb2)
    obtain ⟨z1, z2, z3, z4⟩ := B2.out.facts
    have hl2 := B2.out.lt
    clear hb2 y1 y2 y3 y4 hl1
    go_wp2
    go_ret
    exact ⟨by rw [okFw_is]; simp [HS1.out, HS2.out, p0, p1, p2, p3, p4, p5] <;> omega, HB2.out⟩
  go_enter Tryz.func39, Tryz.ntmps39
  go_wp2_with fail
  refine (known_any x.key _).mono ?_
  rintro e w1 ⟨rfl, hb1⟩
  rw [HS1.out]
  have B1 := Lib.hid (B0.out.go hb1)
  have HB1 := Lib.hid (below2 HB0.out hb1)
  obtain ⟨y1, y2, y3, y4⟩ := B1.out.facts
  have hl1 := B1.out.lt
  clear hb1
  go_wp2_with fail
  refine (name_any x.name _ hn).mono ?_
  rintro e w2 ⟨rfl, hb2⟩
  rw [HS2.out]
  have B2 := Lib.hid (B1.out.go hb2)
  have HB2 := Lib.hid (below2 HB1.out hb2)
  obtain ⟨z1, z2, z3, z4⟩ := B2.out.facts
  have hl2 := B2.out.lt
  clear hb2 y1 y2 y3 y4 hl1
  go_wp2
  go_ret
  exact ⟨by rw [okFw_is]; simp [HS1.out, HS2.out, p0, p1, p2, p3, p4, p5] <;> omega, HB2.out⟩
theorem within_any (n m : Int) (w : World) : Calls Tryz.prog 38 #[.int .i64 n, .int .i64 m] w fun e w' => e = .returned (.bool (inN n m)) ∧ w = w' := by
  by_cases h1 : 0 ≤ n
  · by_cases h2 : n ≤ m
    · go_enter Tryz.func38, Tryz.ntmps38
      go_wp2
      go_ret
      exact ⟨by simp [inN, h1, h2], rfl⟩
    · go_enter Tryz.func38, Tryz.ntmps38
      go_wp2
      go_ret
      exact ⟨by simp [inN, h1, h2], rfl⟩
  · go_enter Tryz.func38, Tryz.ntmps38
    go_wp2
    go_ret
    exact ⟨by simp [inN, h1] <;> omega, rfl⟩
end Go.Proofs.YtmpemeemlhmaaaaGreat

namespace Go.Proofs.YtmpemeemlhmaaaaGreat
open Go.RowKit

structure Slc where
  A : Option Addr
  n : Nat
  c : Nat
deriving DecidableEq
def Slc.v (x : Slc) : Value := .slice x.A x.n x.c
/-- a state's cells: its slices as they are -/
structure Sh where
  ver : Int
  b : Slc
  h : Slc
  f : Slc
  tick : Int
  no : Int
  cnt : Vector Int 11
deriving DecidableEq
def shT (x : Sh) : Array Value := #[.int .i64 x.ver, .slice x.b.A x.b.n x.b.c, .slice x.h.A x.h.n x.h.c, .slice x.f.A x.f.n x.f.c, .int .i64 x.tick, .int .i64 x.no]
def cntC (v : Vector Int 11) : Array Value := (v.toList.map (Value.int .i64)).toArray
def Sh.arr (x : Sh) : Array Value := shT x ++ cntC x.cnt
theorem cntC_size (v : Vector Int 11) : (cntC v).size = 11 := by simp [cntC]
theorem Sh.arr_size (x : Sh) : x.arr.size = 17 := by simp [Sh.arr, shT, cntC_size]
theorem Sh.arr_h (x : Sh) (j : Nat) (hj : j < 6) : x.arr[j]? = (shT x)[j]? := by unfold Sh.arr; rw [app_get _ _ 6 _ rfl, if_pos hj]
theorem cntC_get (v : Vector Int 11) (j : Nat) (hj : j < 11) : (cntC v)[j]? = some (.int .i64 (v.toList.getD j 0)) := by
  simp [cntC, List.getElem?_toArray, hj, List.getD_eq_getElem?_getD]
theorem Sh.arr_c (x : Sh) (j : Nat) (hj : j < 11) : x.arr[6 + j]? = some (.int .i64 (x.cnt.toList.getD j 0)) := by
  unfold Sh.arr; rw [app_get _ _ 6 _ rfl, if_neg (by omega), Nat.add_sub_cancel_left, cntC_get _ _ hj]
@[go_sem] theorem Sh.arr_0 (x : Sh) : x.arr[0]? = some (.int .i64 x.ver) := Sh.arr_h x 0 (by omega)
@[go_sem] theorem Sh.arr_1 (x : Sh) : x.arr[1]? = some (.slice x.b.A x.b.n x.b.c) := Sh.arr_h x 1 (by omega)
@[go_sem] theorem Sh.arr_2 (x : Sh) : x.arr[2]? = some (.slice x.h.A x.h.n x.h.c) := Sh.arr_h x 2 (by omega)
@[go_sem] theorem Sh.arr_3 (x : Sh) : x.arr[3]? = some (.slice x.f.A x.f.n x.f.c) := Sh.arr_h x 3 (by omega)
@[go_sem] theorem Sh.arr_4 (x : Sh) : x.arr[4]? = some (.int .i64 x.tick) := Sh.arr_h x 4 (by omega)
@[go_sem] theorem Sh.arr_5 (x : Sh) : x.arr[5]? = some (.int .i64 x.no) := Sh.arr_h x 5 (by omega)
theorem ints_one (l : List Int) : ((l.map (Value.int .i64)).toArray).all (·.oneCell') = true := by
  rw [Array.all_eq_true_iff_forall_mem]
  intro v hv
  simp at hv
  obtain ⟨z, _, rfl⟩ := hv
  rfl
theorem Sh.arr_one (x : Sh) : x.arr.all (·.oneCell') = true := arr_one_app (by simp [shT, Value.oneCell']) (ints_one _)
theorem Sh.ext_arr {c : Array Value} {x : Sh} (hc : c.size = 17) (h0 : ∀ j, j < 6 → c[j]? = (shT x)[j]?) (h1 : ∀ j, j < 11 → c[6 + j]? = some (.int .i64 (x.cnt.toList.getD j 0))) : c = x.arr := by
  apply Array.ext_getElem?
  intro j
  rcases (show j < 6 ∨ (6 ≤ j ∧ j < 17) ∨ 17 ≤ j by omega) with h | ⟨h, h'⟩ | h
  · rw [h0 j h, Sh.arr_h x j h]
  · obtain ⟨i, rfl⟩ : ∃ i, j = 6 + i := ⟨j - 6, by omega⟩
    rw [h1 i (by omega), Sh.arr_c x i (by omega)]
  · rw [Array.getElem?_eq_none (by omega), Array.getElem?_eq_none (by rw [Sh.arr_size]; exact h)]
def noSlc : Slc := ⟨none, 0, 0⟩
def noSh : Sh := ⟨0, noSlc, noSlc, noSlc, 0, 0, Vector.replicate 11 0⟩
@[go_sem] theorem noSh_cells : Obj.cells #[Value.int IntKind.i64 0, Value.slice none 0 0, Value.slice none 0 0, Value.slice none 0 0, Value.int IntKind.i64 0, Value.int IntKind.i64 0, Value.int IntKind.i64 0, Value.int IntKind.i64 0, Value.int IntKind.i64 0, Value.int IntKind.i64 0, Value.int IntKind.i64 0, Value.int IntKind.i64 0, Value.int IntKind.i64 0, Value.int IntKind.i64 0, Value.int IntKind.i64 0, Value.int IntKind.i64 0, Value.int IntKind.i64 0] 29 = Obj.cells noSh.arr 29 := rfl
@[go_sem] theorem noSh_agg : Value.agg #[Value.int IntKind.i64 0, Value.slice none 0 0, Value.slice none 0 0, Value.slice none 0 0, Value.int IntKind.i64 0, Value.int IntKind.i64 0, Value.int IntKind.i64 0, Value.int IntKind.i64 0, Value.int IntKind.i64 0, Value.int IntKind.i64 0, Value.int IntKind.i64 0, Value.int IntKind.i64 0, Value.int IntKind.i64 0, Value.int IntKind.i64 0, Value.int IntKind.i64 0, Value.int IntKind.i64 0, Value.int IntKind.i64 0] = Value.agg noSh.arr := rfl
@[go_sem] theorem Sh.csize (x : Sh) : csize x.arr = 17 := Sh.arr_size x
@[go_sem] theorem Sh.extract_all (x : Sh) : x.arr.extract 0 17 = x.arr := by
  have := Sh.arr_size x
  rw [← this]; simp
def loadSh (v : Value) : Sem Value := Instr.loadAt 29 v
def storeSh (v x : Value) : Sem Unit := Instr.storeAt 29 v x
@[go_sem ↓] theorem loadSh_is (v : Value) : Instr.loadAt 29 v = loadSh v := rfl
@[go_sem ↓] theorem storeSh_is (v x : Value) : Instr.storeAt 29 v x = storeSh v x := rfl
@[go_sem] theorem load_sh (W : World) (b o : Nat) (h : Has W b o 17) : (loadSh (.pointer (some ⟨b, o, none⟩))).run Tryz.prog W = .ok (.agg (cellsAt W b o 17)) W :=
  run_loadAt_has W b o 17 _ _ Tryz.underlying29 rfl (by kernel_rfl) h
@[go_sem] theorem store_sh_new (W : World) (c : Array Value) (x : Sh) (b : Nat) (hb : b = W.heap.size) (hc : csize c = 17) :
    (storeSh (.pointer (some ⟨b, 0, none⟩)) (.agg x.arr)).run Tryz.prog (W.alloc (.cells c 29)) = .ok () (W.alloc (.cells x.arr 29)) := by
  subst hb; exact run_storeAt_new W _ c x.arr (by rw [Sh.arr_size]; kernel_rfl) (by rw [Sh.arr_size]; exact hc) (Sh.arr_one x)
/-- a whole one into cells that are there -/
def setSh (W : World) (b o : Nat) (x : Sh) : World := W.setCells b o x.arr.toList
@[go_sem] theorem store_sh (W : World) (b o : Nat) (x : Sh) (h : W.there b o 17) : (storeSh (.pointer (some ⟨b, o, none⟩)) (.agg x.arr)).run Tryz.prog W = .ok () (setSh W b o x) :=
  run_storeAt_mid W b o _ x.arr (by rw [Sh.arr_size]; exact h) (by rw [Sh.arr_size]; kernel_rfl) (Sh.arr_one x)
theorem Box.putSh {W : World} {b : Nat} {c : Array Value} (h : Box W b c) (hc : c.size = 17) (x : Sh) : Box (setSh W b 0 x) b x.arr := h.setAll x.arr (by rw [Sh.arr_size, hc])
theorem setSh_grown {w W : World} {g : Nat} (h : w.grownBy W (some g)) (o : Nat) (x : Sh) : w.grownBy (setSh W g o x) (some g) := grown_setCells _ o W h
theorem setSh_below {w W : World} {B : Nat} (h : Below B w W) (b o : Nat) (x : Sh) (hb : B ≤ b) : Below B w (setSh W b o x) := below_setCells hb _ o W h
theorem infoSh : ∃ i : TypeInfo, Tryz.prog.info? 29 = some i ∧ i.zero = some (.agg noSh.arr) ∧ i.size = 17 ∧ i.bytes ≤ 400 := by
  cases h : Tryz.prog.info? 29 with
  | none => exact absurd h (by have : (Tryz.prog.info? 29).isSome = true := by kernel_rfl
                               intro e; rw [e] at this; cases this)
  | some i =>
    have h1 : (Tryz.prog.info? 29).map (·.size) = some 17 := by kernel_rfl
    have h2 : (Tryz.prog.info? 29).map (fun i => decide (i.bytes ≤ 400)) = some true := by kernel_rfl
    have h3 : (Tryz.prog.info? 29).map (·.zero) = some (some (.agg noSh.arr)) := by kernel_rfl
    rw [h] at h1 h2 h3
    simp at h1 h2 h3
    exact ⟨i, rfl, h3, h1, h2⟩
def mkSh (ps : Array (Nat × Value)) : Sem Value := Instr.build 29 ps
@[go_sem ↓] theorem mkSh_is (ps : Array (Nat × Value)) : Instr.build 29 ps = mkSh ps := rfl
theorem places_sh (w : World) (fs : Array Field) (h : Tryz.prog.underlying 29 = some (.struct fs)) : (Array.mapM (fun f => Prod.mk f.offset <$> sizeOf f.type) fs : Sem (Array (Nat × Nat))).run Tryz.prog w = .ok #[(0, 2), (2, 1), (3, 1), (4, 1), (5, 1), (6, 11)] w := by
  have e := Tryz.underlying29
  rw [h] at e
  cases e
  show _ = _
  kernel_rfl
/-- a function whose first result lies in a cell -/
theorem ret_sh {fn : Func} {p u : Tmp} (h : fn.results = #[.cell p 29, .tmp u]) (tmps : Array Value) (W : World) (b o : Nat) (hp : tmps.getD p undef = .pointer (some ⟨b, o, none⟩)) (hh : Has W b o 17) :
    (results fn tmps).run Tryz.prog W = .ok (.tuple #[.agg (cellsAt W b o 17), tmps.getD u undef]) W := by
  have hl := run_loadAt_has W b o 17 _ _ Tryz.underlying29 rfl (by kernel_rfl) hh
  simp only [Instr.loadAt, Instr.sureAddr, Sem.run_bind, Sem.run_pure, Result.andThen_ok] at hl
  rw [results_cell_tmp h, hp]
  simp [asAddr, Result.andThen, hl]
@[go_sem] theorem run_mkSh_z (w : World) : (mkSh #[]).run Tryz.prog w = .ok (.agg noSh.arr) w := by
  obtain ⟨i0, hi0, hz0, _, _⟩ := infoSh
  exact run_build w _ _ i0 noSh.arr _ _ _ Tryz.underlying29 hi0 hz0 (places_sh w _ Tryz.underlying29) rfl
/-- its pool -/
@[go_sem] theorem Sh.extract_pool (x : Sh) : x.arr.extract 0 2 = #[.int .i64 x.ver, .slice x.b.A x.b.n x.b.c] := by
  apply Array.ext_getElem?
  intro j
  rcases Nat.lt_or_ge j 2 with h | h
  · rw [extract_get x.arr 0 2 j h (by rw [Sh.arr_size]; omega), Nat.zero_add, Sh.arr_h x j (by omega)]
    rcases (show j = 0 ∨ j = 1 by omega) with rfl | rfl <;> rfl
  · rw [Array.getElem?_eq_none (by rw [Array.size_extract, Sh.arr_size]; omega), Array.getElem?_eq_none (by simp; omega)]
@[go_sem] theorem Sh.extract_cnt (x : Sh) : x.arr.extract 6 17 = cntC x.cnt := by
  apply Array.ext_getElem?
  intro j
  rcases Nat.lt_or_ge j 11 with h | h
  · rw [show (17 : Nat) = 6 + 11 from rfl, extract_get x.arr 6 11 j h (by rw [Sh.arr_size]; omega), Sh.arr_c x j h, cntC_get _ _ h]
  · rw [Array.getElem?_eq_none (by rw [Array.size_extract, Sh.arr_size]; omega), Array.getElem?_eq_none (by rw [cntC_size]; exact h)]
/-- a state's cells read as s -/
structure StR (w : World) (B : Nat) (x : Sh) (s : Sta) : Prop where
  ver : x.ver = s.ver
  b : RdR Bk.arr 27 w B x.b.A x.b.n s.bks
  h : RdR Hl.arr 3 w B x.h.A x.h.n s.hls
  f : RdR Fw.arr 41 w B x.f.A x.f.n s.fws
  tick : x.tick = s.tick
  no : x.no = s.no
  cnt : x.cnt = s.cnt
  fine : ∀ y ∈ s.bks, y.fine
  fineh : ∀ y ∈ s.hls, y.name.length ≤ 9223372036854775807
  finef : ∀ y ∈ s.fws, y.name.length ≤ 9223372036854775807
  nb : x.b.n ≤ 4611686018427387903
  nh : x.h.n ≤ 4611686018427387903
  nf : x.f.n ≤ 4611686018427387903
theorem StR.go {w w' : World} {x : Sh} {s : Sta} (h : StR w w.heap.size x s) (hb : Below w.heap.size w w') : StR w' w'.heap.size x s := ⟨h.ver, h.b.go hb, h.h.go hb, h.f.go hb, h.tick, h.no, h.cnt, h.fine, h.fineh, h.finef, h.nb, h.nh, h.nf⟩
end Go.Proofs.YtmpemeemlhmaaaaGreat
