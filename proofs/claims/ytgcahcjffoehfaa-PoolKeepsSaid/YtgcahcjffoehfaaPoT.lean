/- What is done to a pool: the program's way, up to why it isn't done. -/
import Derived.Test.YtgcahcjffoehfaaPoQ
import Derived.Test.YtgcahcjffoehfaaPoS
set_option linter.unusedSimpArgs false
set_option linter.unusedVariables false
namespace Go.Proofs.Ytgcahcjffoehfaa
open Go.RowKit

/-- clone, nil or not -/
def CloneP (w : World) (l : List Bk) (e : Ending) (w' : World) : Prop :=
  ∃ A c, e = .returned (.slice A l.length c) ∧ w'.ownsRow w.heap.size 36 27 (.slice A l.length c) l.length (cellsBk l) ∧ Below w.heap.size w w'
theorem clone_all (l : List Bk) (A : Option Addr) (c : Nat) (w : World) (hR : RdK w w.heap.size A l.length l) (hn : l.length ≤ 100000) :
    Calls Try.prog 35 #[.slice A l.length c] w (CloneP w l) := by
  cases A with
  | some a => exact clone_any l a c w hR (by omega)
  | none =>
    have h0 : l.length = 0 := by
      rcases Nat.eq_zero_or_pos l.length with h0 | h0
      · exact h0
      · obtain ⟨a, ha, _⟩ := hR.2.1.2 h0; cases ha
    have hl : l = [] := List.eq_nil_of_length_eq_zero h0
    subst hl
    have hnil : ∀ W : World, (binOp .eql 22 (.slice none 0 c) (.slice none 0 0)).run Try.prog W = .ok (.bool true) W := fun W => by
      simp only [binOp]
      simp [run_equal_slice_nil, Try.underlying22]
    have fin : CloneP w [] (.returned (.slice none 0 0)) w := ⟨none, 0, rfl, World.ownsRow_nil _ _ _ _, Below.refl _ _⟩
    have FIN := Lib.hid fin
    clear fin
    clear hR
    simp only [List.length_nil]
    go_enter Try.func35, Try.ntmps35
    go_wp2
    go_ret
    exact FIN.out
/-- what an own row is behind a call that only made memory -/
theorem own_below {w w' : World} {base size n : Nat} {e : TypeId} {v : Value} {xs : List Value} (h : w.ownsRow base e size v n xs) (hb : Below w.heap.size w w') : w'.ownsRow base e size v n xs :=
  ⟨h.1, h.2.imp id fun ⟨g, cap, cur, h1, h2, h3, h4⟩ => ⟨g, cap, cur, h1, h2, (hb.block g (Array.getElem?_eq_some_iff.1 h3).1).trans h3, h4⟩⟩
theorem own_set {w : World} {base size n : Nat} {e : TypeId} {v : Value} {xs : List Value} (h : w.ownsRow base e size v n xs) {p : Addr} (hp : p.block < base) (u : Value) : (w.setCell p u).ownsRow base e size v n xs :=
  ⟨h.1, h.2.imp id fun ⟨g, cap, cur, h1, h2, h3, h4⟩ => ⟨g, cap, cur, h1, h2, (Below.heap_setCell w p u g (by omega)).trans h3, h4⟩⟩
theorem own_alloc {w : World} {base size n : Nat} {e : TypeId} {v : Value} {xs : List Value} (h : w.ownsRow base e size v n xs) (ob : Obj) : (w.alloc ob).ownsRow base e size v n xs := h.alloc ob
theorem own_less {w : World} {base base' size n : Nat} {e : TypeId} {v : Value} {xs : List Value} (h : w.ownsRow base e size v n xs) (hb : base' ≤ base) : w.ownsRow base' e size v n xs :=
  ⟨h.1, h.2.imp id fun ⟨g, cap, cur, h1, h2, h3, h4⟩ => ⟨g, cap, cur, h1, Nat.le_trans hb h2, h3, h4⟩⟩
theorem own_reads {w : World} {base : Nat} {l : List Bk} {A : Option Addr} {c : Nat} (h : w.ownsRow base 36 27 (.slice A l.length c) l.length (cellsBk l)) : RdK w w.heap.size A l.length l :=
  ⟨rfl, Rd.of_own h, fun a ha _ => by
    rcases h.2 with ⟨hv, h0⟩ | ⟨g, cap, cur, hv, _⟩
    · injection hv with e1 _ _
      rw [e1] at ha; cases ha
    · injection hv with e1 _ _
      rw [e1] at ha
      injection ha with ha
      rw [← ha]⟩
/-- one cell of an own row is set -/
theorem own_put {w : World} {base size n g c : Nat} {e : TypeId} {xs : List Value} (h : w.ownsRow base e size (.slice (some ⟨g, 0, none⟩) n c) n xs) (j : Nat) (hj : j < n * size) (u : Value) :
    (w.setCell ⟨g, j, none⟩ u).ownsRow base e size (.slice (some ⟨g, 0, none⟩) n c) n (xs.set j u) := by
  refine ⟨by rw [List.length_set]; exact h.1, ?_⟩
  rcases h.2 with ⟨hv, h0⟩ | ⟨g', cap, cur, hv, h2, h3, h4, h5, h6, h7⟩
  · cases hv
  · injection hv with e1 e2 e3
    injection e1 with e1
    injection e1 with e1
    subst e1 e3
    refine .inr ⟨g, c, cur.setIfInBounds j u, rfl, h2, ?_, h4, h5, by rw [Array.size_setIfInBounds]; exact h6, ?_⟩
    · rw [setCell_eq_setRow w g j cur e (0, 0) u h3]; exact setRow_heap w g cur _ e (0, 0) h3
    · rw [Array.toList_setIfInBounds, List.take_set, h7]
theorem cellsBk_ext (l : List Bk) (k : Nat) (hk : k < l.length) (y : Bk) (j : Nat) (hj : j < 27) (u : Value) (h : y.arr = (l.getD k noBk).arr.setIfInBounds j u) : (cellsBk l).set (k * 27 + j) u = cellsBk (l.set k y) := by
  have hs := Bk.arr_size (l.getD k noBk)
  have hlen := cellsBk_length l
  have hlen2 := cellsBk_length (l.set k y)
  rw [List.length_set] at hlen2
  apply List.ext_getElem?
  intro i
  rcases Nat.lt_or_ge i (l.length * 27) with h1 | h1
  · have e1 : i = i / 27 * 27 + i % 27 := by omega
    have h2 : i / 27 < l.length := by omega
    have h3 : i % 27 < 27 := Nat.mod_lt _ (by omega)
    have g1 := cellsBk_get l (i / 27) (i % 27) h2 h3
    have g2 := cellsBk_get (l.set k y) (i / 27) (i % 27) (by rw [List.length_set]; exact h2) h3
    rw [← e1] at g1 g2
    rw [g2, List.getElem?_set, hlen]
    by_cases h4 : i / 27 = k
    · have e2 : (l.set k y).getD (i / 27) noBk = y := by
        rw [List.getD_eq_getElem?_getD, h4, List.getElem?_set_self hk]; rfl
      rw [e2, h, Array.getElem?_setIfInBounds, hs]
      by_cases h5 : j = i % 27
      · have : k * 27 + j = i := by omega
        simp [h5, h3]
        rw [if_pos (by omega), if_pos (by omega)]
      · have : ¬ k * 27 + j = i := by omega
        rw [if_neg this, if_neg h5, g1, h4]
    · have e2 : (l.set k y).getD (i / 27) noBk = l.getD (i / 27) noBk := by
        rw [List.getD_eq_getElem?_getD, List.getD_eq_getElem?_getD, List.getElem?_set_ne (fun e => h4 e.symm)]
      have : ¬ k * 27 + j = i := by omega
      rw [if_neg this, e2, g1]
  · rw [List.getElem?_eq_none (by rw [List.length_set, hlen]; exact h1), List.getElem?_eq_none (by rw [hlen2]; exact h1)]
theorem why_ok {v : Int} {l : List Bk} {o : Opr} (h : whyNot v l o = 0) : 1 ≤ o.kind ∧ o.kind ≤ 5 ∧ v < 1099511627776 ∧ (o.kind = 1 → o.bk.fair = true ∧ hasN l o.bk.name = false ∧ l.length < 1024) ∧ (o.kind = 3 → wOk o.w = true) ∧ (o.kind ≠ 1 → hasN l o.name = true) := by
  unfold whyNot at h
  repeat' split at h
  all_goals first | (exact absurd h (by decide)) | skip
  rename_i h1 h2 h3 h4 h5 h6 h7 h8 h9 h10
  refine ⟨by omega, by omega, by omega, fun hk => ⟨?_, ?_, ?_⟩, fun hk => ?_, fun hk => ?_⟩
  · simpa [hk] using h3
  · simpa [hk, Opr.who] using h5
  · simp [hk] at h6; omega
  · simpa [hk] using h4
  · simpa [hk, Opr.who] using h7
end Go.Proofs.Ytgcahcjffoehfaa
