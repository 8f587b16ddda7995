/- Texts sorted, and each once: the library's sort and compaction. -/
import Derived.Test.YtjeeigdbfngjaaaOrd
import Derived.Test.YtjeeigdbfngjaaaTx
import Derived.Shelf.SortM.Plain
import Derived.Shelf.SortM.SortNone
import Derived.Shelf.SlicesG.CompactS
import Derived.Sort.OwnSorted
set_option linter.unusedSimpArgs false
set_option linter.unusedVariables false
namespace Go.Proofs.Ytjeeigdbfngjaaa
open Go.RowKit

def sort_lays_ren : Go.Shelf.Ren := ⟨fun | 6 => 37 | 8 => 41 | 9 => 40 | 19 => 51 | 20 => 52 | 21 => 42 | 22 => 43 | 23 => 44 | 24 => 45 | 25 => 46 | 26 => 47 | 27 => 48 | 28 => 49 | 29 => 50 | 36 => 53 | 31 => 54 | 32 => 55 | 37 => 56 | 38 => 57 | 39 => 58 | 41 => 59 | n => n, fun | 27 => 35 | 29 => 9 | 3 => 3 | 32 => 70 | 26 => 35 | 0 => 0 | 44 => 81 | 46 => 83 | 4 => 4 | 36 => 73 | 35 => 72 | 41 => 78 | 5 => 5 | 9 => 9 | 53 => 84 | 57 => 88 | 63 => 90 | 64 => 91 | n => n, fun | n => n⟩
theorem sort_lays : Go.Proofs.SlLaysM.n6 Try.prog sort_lays_ren := {
  mixed := by kernel_rfl,
  f6 := ⟨Try.f37.name, by decide, Try.func37.trans (congrArg some (by kernel_rfl))⟩,
  f8 := Try.func41.trans (congrArg some (by kernel_rfl)),
  f9 := ⟨Try.f40.name, by decide, Try.func40.trans (congrArg some (by kernel_rfl))⟩,
  f19 := Try.func51.trans (congrArg some (by kernel_rfl)),
  f20 := Try.func52.trans (congrArg some (by kernel_rfl)),
  f21 := ⟨Try.f42.name, by decide, Try.func42.trans (congrArg some (by kernel_rfl))⟩,
  f22 := ⟨Try.f43.name, by decide, Try.func43.trans (congrArg some (by kernel_rfl))⟩,
  f23 := ⟨Try.f44.name, by decide, Try.func44.trans (congrArg some (by kernel_rfl))⟩,
  f24 := ⟨Try.f45.name, by decide, Try.func45.trans (congrArg some (by kernel_rfl))⟩,
  f25 := ⟨Try.f46.name, by decide, Try.func46.trans (congrArg some (by kernel_rfl))⟩,
  f26 := ⟨Try.f47.name, by decide, Try.func47.trans (congrArg some (by kernel_rfl))⟩,
  f27 := ⟨Try.f48.name, by decide, Try.func48.trans (congrArg some (by kernel_rfl))⟩,
  f28 := ⟨Try.f49.name, by decide, Try.func49.trans (congrArg some (by kernel_rfl))⟩,
  f29 := ⟨Try.f50.name, by decide, Try.func50.trans (congrArg some (by kernel_rfl))⟩,
  f31 := Try.func54.trans (congrArg some (by kernel_rfl)),
  f32 := Try.func55.trans (congrArg some (by kernel_rfl)),
  f36 := ⟨Try.f53.name, by decide, Try.func53.trans (congrArg some (by kernel_rfl))⟩,
  f37 := ⟨Try.f56.name, by decide, Try.func56.trans (congrArg some (by kernel_rfl))⟩,
  f38 := ⟨Try.f57.name, by decide, Try.func57.trans (congrArg some (by kernel_rfl))⟩,
  f39 := ⟨Try.f58.name, by decide, Try.func58.trans (congrArg some (by kernel_rfl))⟩,
  f41 := ⟨Try.f59.name, by decide, Try.func59.trans (congrArg some (by kernel_rfl))⟩,
  t0 := Try.underlying0,
  a0 := Try.isAgg0,
  z0 := Try.sizeOf0,
  v0 := Try.zeroValue0,
  t3 := Try.underlying3,
  a3 := Try.isAgg3,
  z3 := Try.sizeOf3,
  v3 := Try.zeroValue3,
  t4 := Try.underlying4,
  a4 := Try.isAgg4,
  z4 := Try.sizeOf4,
  v4 := Try.zeroValue4,
  t5 := Try.underlying5,
  a5 := Try.isAgg5,
  z5 := Try.sizeOf5,
  v5 := Try.zeroValue5,
  t9 := Try.underlying9,
  a9 := Try.isAgg9,
  z9 := Try.sizeOf9,
  v9 := Try.zeroValue9,
  t26 := Try.underlying35,
  a26 := Try.isAgg35,
  z26 := Try.sizeOf35,
  v26 := Try.zeroValue35,
  t27 := Try.underlying35,
  a27 := Try.isAgg35,
  z27 := Try.sizeOf35,
  v27 := Try.zeroValue35,
  t29 := Try.underlying9,
  a29 := Try.isAgg9,
  z29 := Try.sizeOf9,
  v29 := Try.zeroValue9,
  t32 := Try.underlying70,
  a32 := Try.isAgg70,
  z32 := Try.sizeOf70,
  v32 := Try.zeroValue70,
  t35 := Try.underlying72,
  a35 := Try.isAgg72,
  z35 := Try.sizeOf72,
  v35 := Try.zeroValue72,
  t36 := Try.underlying73,
  a36 := Try.isAgg73,
  z36 := Try.sizeOf73,
  v36 := Try.zeroValue73,
  t41 := Try.underlying78,
  a41 := Try.isAgg78,
  z41 := Try.sizeOf78,
  v41 := Try.zeroValue78,
  t44 := Try.underlying81,
  a44 := Try.isAgg81,
  z44 := Try.sizeOf81,
  v44 := Try.zeroValue81,
  t46 := Try.underlying83,
  a46 := Try.isAgg83,
  z46 := Try.sizeOf83,
  v46 := Try.zeroValue83,
  t53 := Try.underlying84,
  a53 := Try.isAgg84,
  z53 := Try.sizeOf84,
  v53 := Try.zeroValue84,
  t57 := Try.underlying88,
  a57 := Try.isAgg88,
  z57 := Try.sizeOf88,
  v57 := Try.zeroValue88,
  t63 := Try.underlying90,
  a63 := Try.isAgg90,
  z63 := Try.sizeOf90,
  v63 := Try.zeroValue90,
  t64 := Try.underlying91,
  a64 := Try.isAgg91,
  z64 := Try.sizeOf91,
  v64 := Try.zeroValue91 }

def compact_lays_ren : Go.Shelf.Ren := ⟨fun | 44 => 28 | n => n, fun | 25 => 35 | 26 => 9 | 3 => 3 | 4 => 4 | 0 => 0 | n => n, fun | n => n⟩
theorem compact_lays : Go.Proofs.SlLaysN.n44 Try.prog compact_lays_ren := {
  mixed := by kernel_rfl,
  f44 := ⟨Try.f28.name, by decide, Try.func28.trans (congrArg some (by kernel_rfl))⟩,
  t0 := Try.underlying0,
  a0 := Try.isAgg0,
  z0 := Try.sizeOf0,
  v0 := Try.zeroValue0,
  t3 := Try.underlying3,
  a3 := Try.isAgg3,
  z3 := Try.sizeOf3,
  v3 := Try.zeroValue3,
  t4 := Try.underlying4,
  a4 := Try.isAgg4,
  z4 := Try.sizeOf4,
  v4 := Try.zeroValue4,
  t25 := Try.underlying35,
  a25 := Try.isAgg35,
  z25 := Try.sizeOf35,
  v25 := Try.zeroValue35,
  t26 := Try.underlying9,
  a26 := Try.isAgg9,
  z26 := Try.sizeOf9,
  v26 := Try.zeroValue9,
  i26 := by kernel_rfl }

theorem cellsT_enc (l : List (List UInt8)) : cellsT l = l.map encStr := by
  unfold cellsT
  induction l with
  | nil => rfl
  | cons x l ih => rw [List.flatMap_cons, ih]; rfl
def srtL (l : List (List UInt8)) : List (List UInt8) := l.mergeSort fun x y => decide (x ≤ y)
theorem le_bl (x y : List UInt8) : decide (x ≤ y) = !Op.bytesLess y x := by
  rw [bytesLess_eq, Bool.eq_iff_iff]
  simp
theorem srtL_len (l : List (List UInt8)) : (srtL l).length = l.length := List.length_mergeSort _
theorem mem_srtL (s : List UInt8) (l : List (List UInt8)) : s ∈ srtL l ↔ s ∈ l := List.mem_mergeSort
theorem bl_le_trans {a b c : List UInt8} (h1 : Op.bytesLess b a = false) (h2 : Op.bytesLess c b = false) : Op.bytesLess c a = false := by
  cases hc : Op.bytesLess c a
  · rfl
  · exfalso
    cases hb : Op.bytesLess a b
    · have := bl_total _ _ hb h1
      subst this
      rw [hc] at h2; cases h2
    · have := bl_trans _ _ _ hc hb
      rw [this] at h2; cases h2
theorem srtL_pw (l : List (List UInt8)) : (srtL l).Pairwise (fun x y => Op.bytesLess y x = false) := by
  have h := List.pairwise_mergeSort (le := fun x y : List UInt8 => decide (x ≤ y)) (fun a b c h1 h2 => by
    rw [le_bl] at h1 h2 ⊢
    simp only [Bool.not_eq_true'] at h1 h2 ⊢
    exact bl_le_trans h1 h2) (fun a b => by
    rw [le_bl, le_bl]
    cases h1 : Op.bytesLess b a
    · rfl
    · rw [bl_asymm h1]; rfl) l
  refine h.imp ?_
  intro a b hab
  rw [le_bl] at hab
  simpa using hab
theorem srtL_le {l : List (List UInt8)} {i j : Nat} (hij : i ≤ j) (hj : j < l.length) : Op.bytesLess ((srtL l).toArray[j]!) ((srtL l).toArray[i]!) = false := by
  have hl := srtL_len l
  rw [getElem!_pos _ j (by simp; omega), getElem!_pos _ i (by simp; omega)]
  simp only [List.getElem_toArray]
  rcases Nat.lt_or_ge i j with h | h
  · exact List.pairwise_iff_getElem.1 (srtL_pw l) i j (by omega) (by omega) h
  · have : i = j := by omega
    subst this
    exact bl_irrefl _
theorem mem_compact (zs : List (List UInt8)) (s : List UInt8) : s ∈ Lib.compact zs ↔ s ∈ zs := by
  unfold Lib.compact Lib.compactUpTo
  rw [List.mem_map]
  constructor
  · rintro ⟨j, hj, rfl⟩
    have hj2 := List.mem_range.1 (List.mem_filter.1 hj).1
    rw [getElem!_pos _ j (by simpa using hj2)]
    simp
  · intro hs
    obtain ⟨j0, hj0, he0⟩ := List.getElem_of_mem hs
    have key : ∀ k, ∀ j (hj : j < zs.length), j ≤ k → zs[j] = s → ∃ i, i < zs.length ∧ Lib.keeps zs.toArray i = true ∧ zs.toArray[i]! = s := by
      intro k
      induction k with
      | zero =>
        intro j hj hjk he
        obtain rfl : j = 0 := by omega
        refine ⟨0, hj, by simp [Lib.keeps], ?_⟩
        rw [getElem!_pos _ 0 (by simpa using hj)]; simpa using he
      | succ k ih =>
        intro j hj hjk he
        by_cases hk : j = 0 ∨ zs.toArray[j]! ≠ zs.toArray[j - 1]!
        · refine ⟨j, hj, by simp only [Lib.keeps]; exact decide_eq_true hk, ?_⟩
          rw [getElem!_pos _ j (by simpa using hj)]; simpa using he
        · have h1 : j ≠ 0 := fun h => hk (.inl h)
          have h2 : zs.toArray[j]! = zs.toArray[j - 1]! := Classical.byContradiction fun h => hk (.inr h)
          rw [getElem!_pos _ j (by simpa using hj), getElem!_pos _ (j - 1) (by simp; omega)] at h2
          simp only [List.getElem_toArray] at h2
          exact ih (j - 1) (by omega) (by omega) (by rw [← h2]; exact he)
    obtain ⟨i, hi, hk, he⟩ := key j0 j0 hj0 (Nat.le_refl _) he0
    exact ⟨i, List.mem_filter.2 ⟨List.mem_range.2 hi, hk⟩, he⟩
theorem srt_compact (l : List (List UInt8)) : SrtT (Lib.compact (srtL l)) := by
  unfold SrtT Lib.compact Lib.compactUpTo
  rw [List.pairwise_map]
  have hp : ((List.range (srtL l).length).filter (Lib.keeps (srtL l).toArray)).Pairwise (fun a b => a < b) := List.Pairwise.filter _ List.pairwise_lt_range
  refine (List.Pairwise.and_mem.1 hp).imp ?_
  rintro a b ⟨ha, hb, hab⟩
  obtain ⟨hb1, hb2⟩ := List.mem_filter.1 hb
  have hbl := List.mem_range.1 hb1
  rw [srtL_len] at hbl
  simp only [Lib.keeps, decide_eq_true_eq] at hb2
  have hne := hb2.resolve_left (by omega)
  have h1 := srtL_le (l := l) (show a ≤ b - 1 by omega) (by omega)
  have h2 := srtL_le (l := l) (show b - 1 ≤ b by omega) hbl
  cases hc : Op.bytesLess ((srtL l).toArray[a]!) ((srtL l).toArray[b]!)
  · exfalso
    have h3 := bl_le_trans h1 h2
    have e := bl_total _ _ hc h3
    have h4 : Op.bytesLess ((srtL l).toArray[b - 1]!) ((srtL l).toArray[b]!) = false := by rw [← e]; exact h1
    exact hne (bl_total _ _ h2 h4)
  · rfl
theorem compact_uniq (l : List (List UInt8)) : Lib.compact (srtL l) = uniq l :=
  sorted_ext _ _ (srt_compact l) (srt_uniq l) (fun s => by rw [mem_compact, mem_srtL, mem_uniq])
theorem sortT_any (base : Nat) (names : List (List UInt8)) (A : Option Addr) (n c : Nat) (w : World) (hn : n ≤ 100000) (hl : names.length = n) (h : w.ownsRow base 9 1 (.slice A n c) n (cellsT names)) :
    Calls Try.prog 37 #[.slice A n c] w fun e w' => e = .returned (.tuple #[]) ∧ w'.ownsRow base 9 1 (.slice A n c) n (cellsT (srtL names)) ∧ w.grownBy w' (Value.slice A n c).ownBlock := by
  subst hl
  rcases h.2 with ⟨hv, h0⟩ | ⟨g, cap, cur, hv, h2, h3, h4, h5, h6, h7⟩
  · injection hv with e1 e2 e3
    subst e1 e3
    have hnil : names = [] := List.eq_nil_of_length_eq_zero h0
    subst hnil
    refine (AnyM.slices_Sort_string_none sort_lays none 0 w).mono ?_
    rintro e w' ⟨rfl, rfl⟩
    refine ⟨rfl, ?_, World.grownBy.refl _ _⟩
    rw [show srtL [] = [] from by simp [srtL]]
    exact h
  · injection hv with e1 e2 e3
    subst e1 e3
    have hg : g < w.heap.size := (Array.getElem?_eq_some_iff.1 h3).1
    rw [Nat.mul_one] at h7
    have hH : Go.Sort.Holds encStr w g 0 names.toArray := Go.holds_of_block h3 (by rw [h7, cellsT_enc])
    refine (AnyM.slices_Sort_string sort_lays g 0 c names w hH hg (by omega)).mono ?_
    rintro e w' ⟨rfl, nn, os, rfl⟩
    refine ⟨rfl, ?_, Go.grownBy_sorted _⟩
    rw [cellsT_enc]
    exact Go.ownsRow_sorted (ss := names) (srtL_len names) h2 h3 h4 h5 h6
theorem compactT_any (base : Nat) (zs : List (List UInt8)) (A : Option Addr) (n c : Nat) (w : World) (hn : n ≤ 100000) (hl : zs.length = n) (h : w.ownsRow base 9 1 (.slice A n c) n (cellsT zs)) (m : Nat) (hm : (Lib.compact zs).length = m) :
    Calls Try.prog 28 #[.slice A n c] w fun e w' => e = .returned (.slice A m c) ∧ w'.ownsRow base 9 1 (.slice A m c) m (cellsT (Lib.compact zs)) ∧ w.grownBy w' (Value.slice A n c).ownBlock := by
  subst hl hm
  rcases h.2 with ⟨hv, h0⟩ | ⟨g, cap, cur, hv, h2, h3, h4, h5, h6, h7⟩
  · injection hv with e1 e2 e3
    subst e1 e3
    have hnil : zs = [] := List.eq_nil_of_length_eq_zero h0
    subst hnil
    refine (AnyG.slices_Compact_string_empty compact_lays none 0 w).mono ?_
    rintro e w' ⟨rfl, rfl⟩
    exact ⟨rfl, h, World.grownBy.refl _ _⟩
  · injection hv with e1 e2 e3
    subst e1 e3
    rw [Nat.mul_one] at h7
    have hH : Go.Sort.Holds encStr w g 0 zs.toArray := Go.holds_of_block h3 (by rw [h7, cellsT_enc])
    refine (AnyG.slices_Compact_string compact_lays g 0 c zs w hH (by omega) h4).mono ?_
    rintro e w' ⟨rfl, q, rfl⟩
    have hle : (Lib.compact zs).length ≤ zs.length := by
      unfold Lib.compact Lib.compactUpTo
      rw [List.length_map]
      exact Nat.le_trans (List.length_filter_le _ _) (by simp)
    have hs := Go.ownsRow_sorted (n := q) (os := #[]) (e := 9) (base := base) (w := w) (g := g) (cap := c) (cur := cur) (ss := zs) (ts := Lib.compact zs ++ List.replicate (zs.length - (Lib.compact zs).length) []) (by simp; omega) h2 h3 h4 h5 h6
    have hg := Go.grownBy_sorted (w := w) (g := g) (n := q) (os := #[]) (Lib.compact zs ++ List.replicate (zs.length - (Lib.compact zs).length) []).toArray
    rw [Go.Sort.grow_empty] at hs hg
    refine ⟨rfl, ⟨by rw [cellsT_enc]; simp, .inr ?_⟩, hg⟩
    rcases hs.2 with ⟨hv, _⟩ | ⟨g', cap', cur', hv, k2, k3, k4, k5, k6, k7⟩
    · cases hv
    · injection hv with e1 _ e3
      injection e1 with e1
      injection e1 with e1
      subst e1 e3
      refine ⟨g, c, cur', rfl, k2, k3, by omega, k5, k6, ?_⟩
      rw [Nat.mul_one] at k7 ⊢
      have := congrArg (List.take (Lib.compact zs).length) k7
      rw [List.take_take, Nat.min_eq_left hle] at this
      rw [this, cellsT_enc, List.map_append, List.take_left' (by simp)]
end Go.Proofs.Ytjeeigdbfngjaaa
