/- The health of a name stepped: the program's way and the document's. -/
import Derived.Test.YtjeeigdbfngjaaaHeE
set_option linter.unusedSimpArgs false
set_option linter.unusedVariables false
namespace Go.Proofs.Ytjeeigdbfngjaaa
open Go.RowKit

/-! ### a row written in its middle -/
def setL (xs : List Value) : Nat → List Value → List Value
  | _, [] => xs
  | o, v :: vs => setL (xs.set o v) (o + 1) vs
theorem setL_len (vs : List Value) : ∀ (xs : List Value) (o : Nat), (setL xs o vs).length = xs.length := by
  induction vs with
  | nil => intros; rfl
  | cons v vs ih => intro xs o; rw [setL, ih, List.length_set]
theorem setL_get (vs : List Value) : ∀ (xs : List Value) (o j : Nat), (setL xs o vs)[j]? = if o ≤ j ∧ j < o + vs.length ∧ j < xs.length then vs[j - o]? else xs[j]? := by
  induction vs with
  | nil => intro xs o j; rw [setL, if_neg (by simp; omega)]
  | cons v vs ih =>
    intro xs o j
    rw [setL, ih, List.length_set, List.length_cons]
    by_cases h1 : o + 1 ≤ j ∧ j < o + 1 + vs.length ∧ j < xs.length
    · rw [if_pos h1, if_pos (by omega), show j - o = (j - (o + 1)) + 1 by omega, List.getElem?_cons_succ]
    · rw [if_neg h1]
      by_cases h2 : o = j
      · subst h2
        by_cases h3 : o < xs.length
        · rw [if_pos ⟨Nat.le_refl _, by omega, h3⟩, List.getElem?_set_self h3]; simp
        · rw [if_neg (by omega), List.getElem?_set]; simp [h3]
      · rw [List.getElem?_set_ne h2, if_neg (by omega)]
theorem own_setCells {base size n g c : Nat} {e : TypeId} (vs : List Value) : ∀ (xs : List Value) (W : World) (o : Nat), W.ownsRow base e size (.slice (some ⟨g, 0, none⟩) n c) n xs → o + vs.length ≤ n * size →
    (W.setCells g o vs).ownsRow base e size (.slice (some ⟨g, 0, none⟩) n c) n (setL xs o vs) := by
  induction vs with
  | nil => intro xs W o h _; exact h
  | cons v vs ih =>
    intro xs W o h ho
    rw [List.length_cons] at ho
    rw [World.setCells, setL]
    exact ih _ _ _ (own_put h o (by omega) v) (by omega)
theorem rows_set {α : Type} (f : α → Array Value) (s : Nat) (hs : ∀ x, (f x).size = s) (hp : 0 < s) (l : List α) (i : Nat) (hi : i < l.length) (x : α) :
    setL (l.flatMap fun x => (f x).toList) (i * s) (f x).toList = (l.set i x).flatMap fun x => (f x).toList := by
  apply List.ext_getElem?
  intro j
  rw [setL_get, Array.length_toList, hs, flatMap_len f s hs]
  have hl2 := flatMap_len f s hs (l.set i x)
  rw [List.length_set] at hl2
  rcases Nat.lt_or_ge j (l.length * s) with hj | hj
  · have e1 : j = j / s * s + j % s := by rw [Nat.mul_comm]; exact (Nat.div_add_mod j s).symm
    have h2 : j / s < l.length := (Nat.div_lt_iff_lt_mul hp).2 hj
    have h3 : j % s < s := Nat.mod_lt _ hp
    have g1 := flatMap_get f s hs l (j / s) (j % s) h2 h3
    have g2 := flatMap_get f s hs (l.set i x) (j / s) (j % s) (by rw [List.length_set]; exact h2) h3
    rw [← e1] at g1 g2
    rw [g2]
    by_cases hij : i = j / s
    · subst hij
      rw [if_pos ⟨Nat.div_mul_le_self j s, by omega, hj⟩, List.getElem_set_self, Array.getElem?_toList]
      congr 1; omega
    · rw [List.getElem_set_ne hij, if_neg, g1]
      rintro ⟨h4, h5, _⟩
      apply hij
      have h6 : i * s ≤ j := h4
      have h7 : j < (i + 1) * s := by rw [Nat.succ_mul]; exact h5
      exact (Nat.le_antisymm ((Nat.le_div_iff_mul_le hp).2 h6) (Nat.lt_succ_iff.1 ((Nat.div_lt_iff_lt_mul hp).2 h7)))
  · rw [if_neg (by omega), List.getElem?_eq_none (by rw [flatMap_len f s hs]; exact hj), List.getElem?_eq_none (by omega)]
theorem own_setCells_ne {base size n g : Nat} {e : TypeId} {v : Value} {xs : List Value} (vs : List Value) : ∀ (o : Nat) (W : World), W.ownsRow base e size v n xs → v.ownBlock ≠ some g → (W.setCells g o vs).ownsRow base e size v n xs := by
  induction vs with
  | nil => intro o W h _; exact h
  | cons u vs ih => intro o W h hne; rw [World.setCells]; exact ih _ _ (own_set_ne h (p := ⟨g, o, none⟩) hne u) hne

theorem own_setHl_ne {W : World} {base size n g : Nat} {e : TypeId} {v : Value} {xs : List Value} (h : W.ownsRow base e size v n xs) (hne : v.ownBlock ≠ some g) (o : Nat) (x : Hl) : (setHl W g o x).ownsRow base e size v n xs := own_setCells_ne _ o W h hne
def cellsH (l : List Hl) : List Value := l.flatMap fun x => x.arr.toList
theorem cellsH_one (l : List Hl) : ∀ u ∈ cellsH l, u.oneCell' = true := rows_one Hl.arr Hl.arr_one l
theorem cellsH_snoc (l : List Hl) (x : Hl) : cellsH l ++ x.arr.toList = cellsH (l ++ [x]) := rows_snoc Hl.arr l x
/-- healths are answered, in memory of the call's own -/
def ClP (w : World) (n : Nat) (l : List Hl) (e : Ending) (w' : World) : Prop :=
  ∃ A c, e = .returned (.slice A n c) ∧ w'.ownsRow w.heap.size 23 3 (.slice A n c) n (cellsH l) ∧ Below w.heap.size w w'
theorem clone_any (l : List Hl) (A : Option Addr) (n c : Nat) (w : World) (hR : RdH w w.heap.size A n l) (hn : n ≤ 100000) :
    Calls Try.prog 32 #[.slice A n c] w (ClP w n l) := by
  have hll := hR.1
  cases A with
  | some a =>
    have hnil : ∀ W : World, (binOp .eql 34 (.slice (some a) n c) (.slice none 0 0)).run Try.prog W = .ok (.bool false) W := fun W => by
      simp only [binOp]
      simp [run_equal_slice_nil, Try.underlying34]
    obtain ⟨i0, hi0, hz0, hz1, hzb⟩ := infoHl
    have hz2 : (Value.agg noHl.arr).cells.size = 3 := by simp [Value.cells, Hl.arr_size]
    have O1 := Lib.hid (show (w.alloc (.cells #[] 23)).ownsRow w.heap.size 23 3 (.slice (some ⟨w.heap.size, 0, none⟩) 0 0) 0 [] from World.ownsRow_lit w #[] 0 (Nat.le_refl _) (by unfold maxLen; omega) rfl)
    have O2 := Lib.hid (hR.alloc (Nat.le_refl _) (.cells #[] 23)).2.1
    have H63 := Lib.hid (show 0 + n ≤ maxLen by unfold maxLen; omega)
    have HBY := Lib.hid (show (0 + n) * i0.bytes ≤ 140737488355328 from Nat.le_trans (Nat.mul_le_mul (show 0 + n ≤ 100000 by omega) hzb) (by omega))
    have O3 := Lib.hid (show w.heap.size ≤ (w.alloc (.cells #[] 23)).heap.size by simp)
    have ON := Lib.hid (cellsH_one l)
    clear hR hll
    go_enter Try.func32, Try.ntmps32
    go_wp2_with (at_builtin; refine wpList_app_rd _ rfl (.tmp 5) (.tmp 6) _ rfl w.heap.size 23 i0 (.agg noHl.arr) 3 i0.bytes Try.underlying34 hi0 hz0 hz1 rfl hz2 (Nat.succ_pos _) (.slice (some ⟨w.heap.size, 0, none⟩) 0 0) 0 [] rfl O1.out w.heap.size (some a) n c (cellsH l) rfl O2.out ON.out H63.out HBY.out O3.out ?_; intro v1 w1 hown1 hg1 hat1)
    obtain ⟨A', c', hv, _, _⟩ := own_form hown1
    subst hv
    simp only [Nat.zero_add, List.nil_append] at hown1
    have hb := gb_below ((Below.refl w.heap.size w).alloc (Nat.le_refl _) (.cells #[] 23)) hg1 (Nat.le_refl _) O3.out
    go_wp2
    go_ret
    exact ⟨A', c', by simp, hown1, hb⟩
  | none =>
    have h0 : n = 0 := by
      rcases Nat.eq_zero_or_pos n with h0 | h0
      · exact h0
      · obtain ⟨a, ha, _⟩ := hR.2.1.2 h0; cases ha
    subst h0
    have hl : l = [] := List.eq_nil_of_length_eq_zero hll
    subst hl
    have hnil : ∀ W : World, (binOp .eql 34 (.slice none 0 c) (.slice none 0 0)).run Try.prog W = .ok (.bool true) W := fun W => by
      simp only [binOp]
      simp [run_equal_slice_nil, Try.underlying34]
    have FIN := Lib.hid (show ClP w 0 [] (.returned (.slice none 0 0)) w from ⟨none, 0, rfl, World.ownsRow_nil _ _ _ _, Below.refl _ _⟩)
    clear hR hll
    go_enter Try.func32, Try.ntmps32
    go_wp2
    go_ret
    exact FIN.out

/-! ### the place of a name, by a function -/
theorem enter_set1 (args : Array Value) (w : World) : (callFunc 34 args).run Try.prog w = .ok (.enter 34 args) w := by kernel_rfl
theorem pred_any (x : Hl) (s : List UInt8) (bn : Nat) (w : World) (hb : bn < w.heap.size) (hc : w.cell? ⟨bn, 0, none⟩ = some (.string (textOf s))) :
    Calls Try.prog 34 #[.agg x.arr, .pointer (some ⟨bn, 0, none⟩)] w fun e w' => e = .returned (.bool (x.name == s)) ∧ Below w.heap.size w w' := by
  have HB := Lib.hid (fun ob => (Below.refl w.heap.size w).alloc (Nat.le_refl _) ob)
  go_enter Try.func34, Try.ntmps34
  go_wp2
  go_ret
  exact ⟨by simp, HB.out _⟩
set_option maxHeartbeats 1000000 in
set_option maxRecDepth 100000 in
theorem index_any (l : List Hl) (s : List UInt8) (bn : Nat) (A : Option Addr) (n c : Nat) (w : World) (hR : RdH w w.heap.size A n l) (hn : n ≤ 100000) (hb : bn < w.heap.size) (hc : w.cell? ⟨bn, 0, none⟩ = some (.string (textOf s))) :
    Calls Try.prog 33 #[.slice A n c, .func (.func 34) #[] #[.pointer (some ⟨bn, 0, none⟩)]] w fun e w' => e = .returned (.int .i64 (posH l s)) ∧ Below w.heap.size w w' := by
  have hen := enter_set1
  have HR := Lib.hid hR
  have HN := Lib.hid hR.1
  have PR := Lib.hid (fun x W (h : Below w.heap.size w W) => pred_any x s bn W (Nat.lt_of_lt_of_le hb h.size) (by rw [h.cell (p := ⟨bn, 0, none⟩) hb]; exact hc))
  clear hR hc
  go_enter Try.func33, Try.ntmps33
  go_wp2
  go_loopw [8] (fun s8 wr => ∃ i : Nat, i ≤ n ∧ s8 = .int .i64 i ∧ (∀ k, k < i → (l.getD k noHl).name ≠ s) ∧ Below w.heap.size w wr) (fun s8 _ => n - (intOf s8).toNat)
  case atStart => exact ⟨0, by omega, rfl, fun k hk => by omega, Below.refl _ _⟩
  case round =>
    obtain ⟨i, hin, rfl, hno, hb⟩ := hrel
    have HNO := Lib.hid hno
    have HB := Lib.hid hb
    clear hno hb
    by_cases hlt : i < n
    · have hi : (i : Int) < n := by omega
      obtain ⟨b, o, rfl, hbb, hh, hcl, _, _⟩ := (HR.out.below HB.out).hl hlt
      obtain ⟨x, hx⟩ : ∃ x, x = l.getD i noHl := ⟨_, rfl⟩
      rw [← hx] at hcl
      have HX := Lib.hid hx
      clear hx hbb
      by_cases hq : x.name = s
      · have hbq : (x.name == s) = true := by rw [hq]; simp
        have HPOS := Lib.hid (posH_at (by rw [HN.out]; exact hlt) (by rw [← HX.out]; exact hq) HNO.out)
        clear hq
        go_wp2_with (go_at_call 34; refine (PR.out x _ HB.out).mono ?_; rintro e w1 ⟨rfl, hb1⟩; clear hh hcl; have HB1 := Lib.hid hb1; clear hb1)
        go_ret
        exact ⟨by rw [HPOS.out]; rfl, below2 HB.out HB1.out⟩
      · have hbq : (x.name == s) = false := by simpa using hq
        have HQ := Lib.hid hq
        clear hq
        go_wp2_with (go_at_call 34; refine (PR.out x _ HB.out).mono ?_; rintro e w1 ⟨rfl, hb1⟩; clear hh hcl; have HB1 := Lib.hid hb1; clear hb1)
        go_roundw
        case rel => exact ⟨i + 1, by omega, by go_num, fun k hk => by
          by_cases hki : k = i
          · rw [hki, ← HX.out]; exact HQ.out
          · exact HNO.out k (by omega), below2 HB.out HB1.out⟩
        case measure => simp [intOf] <;> omega
    · obtain rfl : i = n := by omega
      have HPOS := Lib.hid (posH_no (l := l) (s := s) (fun k hk => HNO.out k (by have := HN.out; omega)))
      have hd : decide ((i : Int) < i) = false := by simp
      go_wp2
      go_ret
      exact ⟨by rw [HPOS.out]; rfl, HB.out⟩

/-! ### set -/
def setH (l : List Hl) (s : List UInt8) (well : Bool) (rise fall : Int) : List Hl × Bool × Int :=
  if posH l s < 0 then (l, false, 5) else (l.set (posH l s).toNat (stepH (l.getD (posH l s).toNat noHl) well rise fall).1, (stepH (l.getD (posH l s).toNat noHl) well rise fall).2, 0)
theorem setH_no {l : List Hl} {s : List UInt8} (h : posH l s = -1) (well : Bool) (rise fall : Int) : setH l s well rise fall = (l, false, 5) := by unfold setH; rw [if_pos (by omega)]
theorem setH_yes {l : List Hl} {s : List UInt8} {k : Nat} (h : posH l s = k) {well : Bool} {rise fall : Int} {x : Hl} (hx : x = l.getD k noHl) {q : Hl × Bool} (hq : stepH x well rise fall = q) : setH l s well rise fall = (l.set k q.1, q.2, 0) := by
  unfold setH; rw [if_neg (by omega), h, Int.toNat_natCast, ← hx, hq]
/-- healths, whether one turned, the error, are answered, in memory of the call's own -/
def SetP (w : World) (n : Nat) (r : List Hl × Bool × Int) (e : Ending) (w' : World) : Prop :=
  ∃ A c, e = .returned (.tuple #[.slice A n c, .bool r.2.1, .int .i64 r.2.2]) ∧ w'.ownsRow w.heap.size 23 3 (.slice A n c) n (cellsH r.1) ∧ Below w.heap.size w w'
set_option maxHeartbeats 2000000 in
set_option maxRecDepth 100000 in
theorem set_any (l : List Hl) (s : List UInt8) (well : Bool) (rise fall : Int) (A : Option Addr) (n c : Nat) (w : World) (hR : RdH w w.heap.size A n l) (hg : ∀ x ∈ l, okRun x) (hn : n ≤ 100000) :
    Calls Try.prog 23 #[.slice A n c, .string (textOf s), .bool well, .int .i64 rise, .int .i64 fall] w (SetP w n (setH l s well rise fall)) := by
  have hen := enter_set1
  have HN := Lib.hid hR.1
  have HG := Lib.hid hg
  have HR1 := Lib.hid (fun ob => hR.up ob)
  have BN := Lib.hid (Box.new w #[.string (textOf s)] 9)
  have HB := Lib.hid ((Below.refl w.heap.size w).alloc (Nat.le_refl _) (.cells #[.string (textOf s)] 9))
  clear hR hg
  go_enter Try.func23, Try.ntmps23
  go_wp2_with fail
  refine (clone_any l A n c _ (HR1.out _) hn).mono ?_
  rintro e w1 ⟨A1, c1, rfl, hown, hb1⟩
  have HOWN := Lib.hid hown
  have BN := Lib.hid (BN.out.go hb1)
  have HB := Lib.hid (call0 HB.out hb1)
  clear hown hb1
  obtain ⟨x1, x2, x3, x4⟩ := BN.out.facts
  have l1 := BN.out.lt
  go_wp2_with fail
  refine (index_any l s w.heap.size A1 n c1 _ (RdR.of_own HN.out HOWN.out) hn l1 (by rw [x1]; rfl)).mono ?_
  rintro e w2 ⟨rfl, hb2⟩
  have HOWN := Lib.hid (own_less (own_below HOWN.out hb2) (base' := w.heap.size) (by simp))
  have HB := Lib.hid (call0 HB.out hb2)
  clear hb2 x1 x2 x3 x4 l1
  rcases posH_cases l s with hp | ⟨k, hp, hk⟩
  · have HS := Lib.hid (setH_no hp well rise fall)
    rw [hp]
    clear hp
    go_wp2_with fail
    go_ret3
    exact ⟨A1, c1, by rw [HS.out]; rfl, by rw [HS.out]; exact HOWN.out, HB.out⟩
  · have hkn : k < n := by rw [← HN.out]; exact hk
    have hki : (k : Int) < n := by omega
    have HKL := Lib.hid hk
    obtain ⟨x, hx⟩ : ∃ x, x = l.getD k noHl := ⟨_, rfl⟩
    obtain ⟨⟨qx, qt⟩, hq⟩ : ∃ q, stepH x well rise fall = q := ⟨_, rfl⟩
    have HS := Lib.hid (setH_yes hp hx hq)
    have ST := Lib.hid (fun W => hq ▸ step_any x well rise fall W (HG.out x (by rw [hx]; exact getD_mem noHl l k hk)))
    obtain ⟨b, o, hA, hbb, hh, hc, _, _⟩ := (RdR.of_own HN.out HOWN.out).hl hkn
    rw [← hx] at hc
    obtain ⟨g, rfl⟩ : ∃ g, A1 = some ⟨g, 0, none⟩ := by
      rcases HOWN.out.2 with ⟨hv, _⟩ | ⟨g, cap, cur, hv, _⟩
      · injection hv with e1 _ _; rw [e1] at hA; cases hA
      · injection hv with e1 _ _; exact ⟨g, e1⟩
    injection hA with hA
    injection hA with e1 e2
    subst e1 e2
    rw [hp]
    have hnk : decide ((k : Int) < 0) = false := by simp
    rw [Nat.zero_add] at hh hc
    clear hx hq hp hk
    go_wp2_with fail
    refine (ST.out _).mono ?_
    rintro e w3 ⟨rfl, hb3⟩
    have OW := Lib.hid (own_below HOWN.out hb3)
    have hth : w3.there g (k * 3) 3 := by
      rcases OW.out.2 with ⟨hv, _⟩ | ⟨g', cap, cur, hv, _, h3, h4, _, h6, _⟩
      · cases hv
      · injection hv with e1 _ e3
        injection e1 with e1
        injection e1 with e1
        subst e1
        refine Box.there (c := cur) ⟨_, h3⟩ (k * 3) 3 ?_
        rw [h6]
        have : (k + 1) * 3 ≤ cap * 3 := Nat.mul_le_mul_right 3 (by omega)
        omega
    have HBF := Lib.hid (setHl_below (call0 HB.out hb3) g (k * 3) qx (HOWN.out.lt g rfl).1)
    have OF := Lib.hid (own_setCells qx.arr.toList _ _ (k * 3) OW.out (by rw [Array.length_toList, Hl.arr_size]; have : (k + 1) * 3 ≤ n * 3 := Nat.mul_le_mul_right 3 hkn; omega))
    clear hh hc hb3 hbb
    go_wp2_with fail
    go_ret3
    refine ⟨some ⟨g, 0, none⟩, c1, by rw [HS.out]; rfl, ?_, HBF.out⟩
    rw [HS.out]
    have := OF.out
    unfold cellsH at this
    rw [rows_set Hl.arr 3 Hl.arr_size (by omega) l k HKL.out qx] at this
    exact this
end Go.Proofs.Ytjeeigdbfngjaaa
