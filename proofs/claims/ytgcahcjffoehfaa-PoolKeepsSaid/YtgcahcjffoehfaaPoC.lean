/- Rows of backends in memory; names in order. -/
import Derived.Test.YtgcahcjffoehfaaPoB
import Derived.Lib.Bytealg
set_option linter.unusedSimpArgs false
set_option linter.unusedVariables false
namespace Go.Proofs.Ytgcahcjffoehfaa
open Go.RowKit

def cellsBk (l : List Bk) : List Value := l.flatMap (·.arr.toList)
theorem cellsBk_length (l : List Bk) : (cellsBk l).length = l.length * 27 := by
  induction l with
  | nil => rfl
  | cons x l ih =>
    have hx := Bk.arr_size x
    rw [cellsBk, List.flatMap_cons, List.length_append, Array.length_toList, hx, List.length_cons]
    rw [cellsBk] at ih
    rw [ih]; omega
theorem cellsBk_get (l : List Bk) (k j : Nat) (hk : k < l.length) (hj : j < 27) : (cellsBk l)[k * 27 + j]? = (l.getD k noBk).arr[j]? := by
  induction l generalizing k with
  | nil => simp at hk
  | cons x l ih =>
    have hx := Bk.arr_size x
    rw [cellsBk, List.flatMap_cons]
    rcases k with _ | k
    · rw [List.getElem?_append_left (by rw [Array.length_toList, hx]; omega), Array.getElem?_toList]
      simp
    · rw [List.getElem?_append_right (by rw [Array.length_toList, hx]; omega), Array.length_toList, hx, show (k + 1) * 27 + j - 27 = k * 27 + j by omega]
      rw [List.length_cons] at hk
      rw [List.getD_cons_succ]
      exact ih k (by omega)
/-- a slice of backends reads as l, and lies below block B -/
def RdK (w : World) (B : Nat) (A : Option Addr) (n : Nat) (l : List Bk) : Prop :=
  l.length = n ∧ Rd w B 27 A n (cellsBk l) ∧ ∀ a, A = some a → 0 < n → a = ⟨a.block, a.off, none⟩
section
variable {w w' : World} {B B' n : Nat} {A : Option Addr} {l : List Bk}
theorem RdK.nil (w : World) (B : Nat) : RdK w B none 0 [] := ⟨rfl, Rd.nil, fun a h _ => by cases h⟩
theorem RdK.len (h : RdK w B A n l) : l.length = n := h.1
theorem RdK.below (h : RdK w B A n l) (hb : Below B w w') : RdK w' B A n l := ⟨h.1, Rd.below h.2.1 hb, h.2.2⟩
theorem RdK.to {C : Nat} (h : RdK w B A n l) (hb : Below C w w') (hC : B ≤ C) : RdK w' B A n l := ⟨h.1, Rd.to h.2.1 hb hC, h.2.2⟩
theorem RdK.more (h : RdK w B A n l) (hB : B ≤ B') : RdK w B' A n l := ⟨h.1, Rd.more h.2.1 hB, h.2.2⟩
theorem RdK.drew (h : RdK w B A n l) : RdK w.drew B A n l := h
theorem RdK.alloc (h : RdK w B A n l) (hB : B ≤ w.heap.size) (o : Obj) : RdK (w.alloc o) B A n l := ⟨h.1, Rd.alloc h.2.1 hB o, h.2.2⟩
theorem RdK.cell {k : Nat} (h : RdK w B A n l) (hk : k < n) : ∃ b o, A = some ⟨b, o, none⟩ ∧ b < B ∧ ∀ j, j < 27 → w.cell? ⟨b, o + k * 27 + j, none⟩ = (l.getD k noBk).arr[j]? := by
  obtain ⟨h1, h2, h3⟩ := h
  obtain ⟨a, hA, hb, hc⟩ := h2.2 (by omega)
  have := h3 a hA (by omega)
  refine ⟨a.block, a.off, by rw [hA, ← this], hb, fun j hj => ?_⟩
  have hg := cellsBk_get l k j (by omega) hj
  have hs : ((l.getD k noBk).arr)[j]? = some ((l.getD k noBk).arr[j]'(by rw [Bk.arr_size]; exact hj)) := Array.getElem?_eq_getElem _
  rw [hs] at hg ⊢
  have := hc _ _ hg
  rw [h3 a hA (by omega), Addr.add_mid] at this
  rw [← this, Nat.add_assoc]
theorem RdK.at_ {k : Nat} (h : RdK w B A n l) (hk : k < n) : ∃ b o, A = some ⟨b, o, none⟩ ∧ b < B ∧ Has w b (o + k * 27) 27 ∧ cellsAt w b (o + k * 27) 27 = (l.getD k noBk).arr := by
  obtain ⟨b, o, hA, hb, hc⟩ := h.cell hk
  exact ⟨b, o, hA, hb, cellsAt_eq (Bk.arr_size _) hc⟩
end

/-! ### names in order -/
/-- how two names lie -/
def cmpS (a b : List UInt8) : Int := Lib.compareBytes a b
theorem cmpS_cases (a b : List UInt8) : cmpS a b = -1 ∨ cmpS a b = 0 ∨ cmpS a b = 1 := by
  unfold cmpS
  induction a generalizing b with
  | nil => cases b <;> simp [Lib.compareBytes]
  | cons x a ih =>
    cases b with
    | nil => simp [Lib.compareBytes]
    | cons y b =>
      unfold Lib.compareBytes
      split
      · simp
      · split
        · simp
        · exact ih b
theorem u8_tri (x y : UInt8) : x < y ∨ x = y ∨ y < x := by
  rcases Nat.lt_trichotomy x.toNat y.toNat with h | h | h
  · exact Or.inl (UInt8.lt_iff_toNat_lt.2 h)
  · exact Or.inr (Or.inl (UInt8.toNat_inj.1 h))
  · exact Or.inr (Or.inr (UInt8.lt_iff_toNat_lt.2 h))
theorem cmpS_zero {a b : List UInt8} : cmpS a b = 0 ↔ a = b := by
  unfold cmpS
  induction a generalizing b with
  | nil => cases b <;> simp [Lib.compareBytes]
  | cons x a ih =>
    cases b with
    | nil => simp [Lib.compareBytes]
    | cons y b =>
      unfold Lib.compareBytes
      rcases u8_tri x y with h | rfl | h
      · have : x ≠ y := fun e => by subst e; exact UInt8.lt_irrefl x h
        simp [h, this]
      · have := UInt8.lt_irrefl x
        simp [this, ih]
      · have h1 : ¬ x < y := fun h2 => UInt8.lt_irrefl x (UInt8.lt_trans h2 h)
        have : x ≠ y := fun e => by subst e; exact UInt8.lt_irrefl x h
        simp [h, h1, this]
theorem cmpS_swap (a b : List UInt8) : cmpS b a = - cmpS a b := by
  unfold cmpS
  induction a generalizing b with
  | nil => cases b <;> simp [Lib.compareBytes]
  | cons x a ih =>
    cases b with
    | nil => simp [Lib.compareBytes]
    | cons y b =>
      unfold Lib.compareBytes
      rcases u8_tri x y with h | rfl | h
      · have h1 : ¬ y < x := fun h2 => UInt8.lt_irrefl x (UInt8.lt_trans h h2)
        simp [h, h1]
      · have := UInt8.lt_irrefl x
        simp [this, ih]
      · have h1 : ¬ x < y := fun h2 => UInt8.lt_irrefl x (UInt8.lt_trans h2 h)
        simp [h, h1]
theorem cmpS_trans {a b c : List UInt8} (h1 : cmpS a b < 0) (h2 : cmpS b c < 0) : cmpS a c < 0 := by
  unfold cmpS at *
  induction a generalizing b c with
  | nil =>
    cases c with
    | nil => cases b <;> simp [Lib.compareBytes] at h1 h2
    | cons z c => simp [Lib.compareBytes]
  | cons x a ih =>
    cases b with
    | nil => simp [Lib.compareBytes] at h1
    | cons y b =>
      cases c with
      | nil => simp [Lib.compareBytes] at h2
      | cons z c =>
        unfold Lib.compareBytes at h1 h2 ⊢
        rcases u8_tri x y with h | rfl | h
        · rcases u8_tri y z with k | rfl | k
          · have := UInt8.lt_trans h k
            simp [this]
          · simp [h]
          · have k1 : ¬ y < z := fun k2 => UInt8.lt_irrefl z (UInt8.lt_trans k k2)
            simp [k, k1] at h2
        · have hx := UInt8.lt_irrefl x
          rcases u8_tri x z with k | rfl | k
          · simp [k]
          · simp [hx] at h1 h2 ⊢
            exact ih h1 h2
          · have k1 : ¬ x < z := fun k2 => UInt8.lt_irrefl z (UInt8.lt_trans k k2)
            simp [k, k1] at h2
        · have h3 : ¬ x < y := fun k2 => UInt8.lt_irrefl y (UInt8.lt_trans h k2)
          simp [h, h3] at h1
theorem bytesLess_is (a b : List UInt8) : Op.bytesLess a b = decide (cmpS a b < 0) := by
  unfold cmpS
  induction a generalizing b with
  | nil => cases b <;> simp [Lib.compareBytes, Op.bytesLess]
  | cons x a ih =>
    cases b with
    | nil => simp [Lib.compareBytes, Op.bytesLess]
    | cons y b =>
      unfold Lib.compareBytes Op.bytesLess
      rcases u8_tri x y with h | rfl | h
      · simp [h]
      · have := UInt8.lt_irrefl x
        simp [this, ih]
      · have h1 : ¬ x < y := fun h2 => UInt8.lt_irrefl x (UInt8.lt_trans h2 h)
        have : x ≠ y := fun e => by subst e; exact UInt8.lt_irrefl x h
        simp [h, h1, this]
/-- the names stand in order, each once -/
def Srt (l : List Bk) : Prop := l.Pairwise fun x y => cmpS x.name y.name < 0
def nm (l : List Bk) (i : Nat) : List UInt8 := (l.getD i noBk).name
theorem Srt.lt {l : List Bk} (h : Srt l) {i j : Nat} (hij : i < j) (hj : j < l.length) : cmpS (nm l i) (nm l j) < 0 := by
  have := List.pairwise_iff_getElem.1 h i j (by omega) hj hij
  unfold nm
  rw [List.getD_eq_getElem?_getD, List.getD_eq_getElem?_getD, List.getElem?_eq_getElem hj, List.getElem?_eq_getElem (by omega : i < l.length)]
  exact this
theorem Srt.down {l : List Bk} (h : Srt l) {i j : Nat} (s : List UInt8) (hij : i ≤ j) (hj : j < l.length) (hs : cmpS (nm l j) s < 0) : cmpS (nm l i) s < 0 := by
  rcases Nat.lt_or_ge i j with h1 | h1
  · exact cmpS_trans (h.lt h1 hj) hs
  · obtain rfl : i = j := by omega
    exact hs
theorem Srt.up {l : List Bk} (h : Srt l) {i j : Nat} (s : List UInt8) (hij : i ≤ j) (hj : j < l.length) (hs : ¬ cmpS (nm l i) s < 0) : ¬ cmpS (nm l j) s < 0 := fun h1 => hs (h.down s hij hj h1)
/-- how many names stand ahead of s -/
def lowN (l : List Bk) (s : List UInt8) : Nat := (l.takeWhile fun x => decide (cmpS x.name s < 0)).length
theorem lowN_of {l : List Bk} {s : List UInt8} {k : Nat} (hk : k ≤ l.length) (h1 : ∀ i, i < k → cmpS (nm l i) s < 0) (h2 : k < l.length → ¬ cmpS (nm l k) s < 0) : lowN l s = k := by
  unfold lowN
  induction l generalizing k with
  | nil => simp at hk ⊢; omega
  | cons x l ih =>
    rcases k with _ | k
    · have : ¬ cmpS x.name s < 0 := h2 (by simp)
      simp [this]
    · have h0 : cmpS x.name s < 0 := h1 0 (by omega)
      rw [List.takeWhile_cons]
      simp only [h0, decide_true, if_true, List.length_cons]
      rw [ih (k := k) (by simpa using hk) (fun i hi => h1 (i + 1) (by omega)) (fun hi => h2 (by simpa using hi))]

/-! ### comparing -/
theorem call_cmpstring (a b : List UInt8) (w : World) : (callFunc 70 #[.string (textOf a), .string (textOf b)]).run Try.prog w = .ok (.value (.int .i64 (cmpS a b))) w := by
  rw [run_callFunc_extern Try.func70 (by kernel_rfl) (by kernel_rfl) (by kernel_rfl) (e := Extern.BytealgCompare.compare) (by kernel_rfl), Lib.run_compareString]
  rfl
theorem compareString_any (a b : List UInt8) (w : World) : Calls Try.prog 66 #[.string (textOf a), .string (textOf b)] w fun e w' => e = .returned (.int .i64 (cmpS a b)) ∧ w = w' := by
  have h := call_cmpstring a b
  go_enter Try.func66, Try.ntmps66
  go_wp2
  go_ret
  exact ⟨rfl, rfl⟩
theorem compare_any (a b : List UInt8) (w : World) : Calls Try.prog 59 #[.string (textOf a), .string (textOf b)] w fun e w' => e = .returned (.int .i64 (cmpS a b)) ∧ w = w' := by
  go_enter Try.func59, Try.ntmps59
  go_wp2_with (go_at_call 66; refine (compareString_any _ _ _).mono ?_; rintro e w' ⟨rfl, rfl⟩)
  go_ret
  exact ⟨rfl, rfl⟩
theorem at1_any (x : Bk) (s : List UInt8) (w : World) : Calls Try.prog 58 #[.agg x.arr, .string (textOf s)] w fun e w' => e = .returned (.int .i64 (cmpS x.name s)) ∧ Below w.heap.size w w' := by
  have hb0 : Below w.heap.size w (w.alloc (.cells x.arr 36)) := (Below.refl _ _).alloc (Nat.le_refl _) _
  have HB0 := Lib.hid hb0
  clear hb0
  go_enter Try.func58, Try.ntmps58
  go_wp2_with (go_at_call 59; refine (compare_any _ _ _).mono ?_; rintro e w' ⟨rfl, rfl⟩)
  go_ret
  exact ⟨rfl, HB0.out⟩
end Go.Proofs.Ytgcahcjffoehfaa
