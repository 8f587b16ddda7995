/- The plain laws of pools: what is right, who is there behind what is done. -/
import Derived.Test.YtgcahcjffoehfaaPoW
import Derived.Test.YtgcahcjffoehfaaPoG
import Derived.Test.YtgcahcjffoehfaaPoN
set_option linter.unusedSimpArgs false
set_option linter.unusedVariables false
namespace Go.Proofs.Ytgcahcjffoehfaa
open Go.RowKit

theorem nm_get (l : List Bk) (i : Nat) (hi : i < l.length) : nm l i = (l[i]'hi).name := by
  unfold nm; rw [List.getD_eq_getElem?_getD, List.getElem?_eq_getElem hi]; rfl
theorem cmpS_self (a : List UInt8) : cmpS a a = 0 := cmpS_zero.2 rfl
theorem pRight_iff {v : Int} {l : List Bk} : pRight v l = true ↔ 0 ≤ v ∧ v ≤ 1099511627776 ∧ l.length ≤ 1024 ∧ (∀ x ∈ l, x.fair = true ∧ wPos x.w = true) ∧ Srt l := by
  unfold pRight okAt
  simp only [Bool.and_eq_true, decide_eq_true_eq, List.all_eq_true, List.mem_range, Bool.or_eq_true]
  constructor
  · rintro ⟨⟨⟨h1, h2⟩, h3⟩, h4⟩
    refine ⟨h1, h2, h3, fun x hx => ?_, ?_⟩
    · obtain ⟨i, hi, rfl⟩ := List.getElem_of_mem hx
      have := (h4 i hi).1
      rw [List.getD_eq_getElem?_getD, List.getElem?_eq_getElem hi] at this
      exact this
    · unfold Srt
      have key : ∀ d i (hi : i + d + 1 < l.length), cmpS (nm l i) (nm l (i + d + 1)) < 0 := by
        intro d
        induction d with
        | zero =>
          intro i hi
          have := (h4 (i + 1) hi).2
          rcases this with h | h
          · omega
          · simpa using h
        | succ d ih =>
          intro i hi
          have h5 := ih i (by omega)
          have h6 := (h4 (i + d + 1 + 1) hi).2
          rcases h6 with h | h
          · omega
          · have h7 : cmpS (nm l (i + d + 1)) (nm l (i + (d + 1) + 1)) < 0 := by simpa [Nat.add_assoc] using h
            exact cmpS_trans h5 h7
      rw [List.pairwise_iff_getElem]
      intro i j hi hj hij
      have := key (j - i - 1) i (by omega)
      rw [show i + (j - i - 1) + 1 = j by omega, nm_get l i hi, nm_get l j hj] at this
      exact this
  · rintro ⟨h1, h2, h3, h4, h5⟩
    refine ⟨⟨⟨h1, h2⟩, h3⟩, fun i hi => ⟨?_, ?_⟩⟩
    · have := h4 (l[i]'hi) (List.getElem_mem hi)
      rw [List.getD_eq_getElem?_getD, List.getElem?_eq_getElem hi]
      exact this
    · rcases Nat.eq_zero_or_pos i with h | h
      · exact .inl h
      · exact .inr (h5.lt (by omega) hi)
/-- who is there, by membership -/
theorem hasN_iff {l : List Bk} (hs : Srt l) {s : List UInt8} : hasN l s = true ↔ ∃ x ∈ l, x.name = s := by
  constructor
  · intro h
    have hl := lowN_lt h
    unfold hasN at h
    simp at h
    refine ⟨l[lowN l s]'hl, List.getElem_mem hl, ?_⟩
    rw [← nm_get l _ hl]
    exact cmpS_zero.1 h.2
  · rintro ⟨x, hx, rfl⟩
    obtain ⟨i, hi, rfl⟩ := List.getElem_of_mem hx
    exact (hasN_at hs hi (nm_get l i hi)).2
theorem gotN_mem {l : List Bk} (hs : Srt l) {x : Bk} (hx : x ∈ l) : gotN l x.name = x := by
  obtain ⟨i, hi, rfl⟩ := List.getElem_of_mem hx
  obtain ⟨h1, h2⟩ := hasN_at hs hi (nm_get l i hi)
  rw [gotN_yes h2, h1, List.getD_eq_getElem?_getD, List.getElem?_eq_getElem hi]; rfl
theorem gotN_in {l : List Bk} {s : List UInt8} (h : hasN l s = true) : gotN l s ∈ l ∧ (gotN l s).name = s := by
  have hl := lowN_lt h
  rw [gotN_yes h, List.getD_eq_getElem?_getD, List.getElem?_eq_getElem hl]
  refine ⟨List.getElem_mem hl, ?_⟩
  unfold hasN at h
  simp at h
  show (l[lowN l s]).name = s
  rw [← nm_get l _ hl]
  exact cmpS_zero.1 h.2
theorem nm_low {l : List Bk} {s : List UInt8} (h : hasN l s = true) : nm l (lowN l s) = s := by
  unfold hasN at h; simp at h; exact cmpS_zero.1 h.2
theorem srt_name {l : List Bk} (hs : Srt l) {x y : Bk} (hx : x ∈ l) (hy : y ∈ l) (h : x.name = y.name) : x = y := by
  rw [← gotN_mem hs hx, h, gotN_mem hs hy]
/-- the names ahead of a place, and from it on -/
theorem low_split (l : List Bk) (s : List UInt8) : (∀ i, i < lowN l s → cmpS (nm l i) s < 0) ∧ (lowN l s < l.length → ¬ cmpS (nm l (lowN l s)) s < 0) := by
  induction l with
  | nil => exact ⟨fun i hi => absurd hi (by simp [lowN]), fun h => absurd h (by simp)⟩
  | cons x l ih =>
    by_cases hx : cmpS x.name s < 0
    · have e : lowN (x :: l) s = lowN l s + 1 := by unfold lowN; rw [List.takeWhile_cons]; simp [hx]
      rw [e]
      refine ⟨fun i hi => ?_, fun h => ?_⟩
      · rcases i with _ | i
        · exact hx
        · exact ih.1 i (by omega)
      · exact ih.2 (by simpa using h)
    · have e : lowN (x :: l) s = 0 := by unfold lowN; rw [List.takeWhile_cons]; simp [hx]
      rw [e]
      exact ⟨fun i hi => by omega, fun _ => hx⟩
theorem low_before {l : List Bk} (s : List UInt8) {x : Bk} (hx : x ∈ l.take (lowN l s)) : cmpS x.name s < 0 := by
  obtain ⟨i, hi, rfl⟩ := List.getElem_of_mem hx
  rw [List.length_take] at hi
  rw [List.getElem_take, ← nm_get l i (by omega)]
  exact (low_split l s).1 i (by omega)
theorem low_next {l : List Bk} (s : List UInt8) (h : lowN l s < l.length) : ¬ cmpS (nm l (lowN l s)) s < 0 := (low_split l s).2 h
theorem low_after {l : List Bk} (hs : Srt l) (s : List UInt8) (hno : hasN l s = false) {x : Bk} (hx : x ∈ l.drop (lowN l s)) : cmpS s x.name < 0 := by
  obtain ⟨i, hi, rfl⟩ := List.getElem_of_mem hx
  rw [List.length_drop] at hi
  rw [List.getElem_drop]
  have h0 := low_next s (show lowN l s < l.length by omega)
  have h1 : cmpS (nm l (lowN l s)) s ≠ 0 := by
    intro h
    unfold hasN at hno
    simp [show lowN l s < l.length by omega, h] at hno
  have h2 : cmpS s (nm l (lowN l s)) < 0 := by
    rw [cmpS_swap]
    have := cmpS_cases (nm l (lowN l s)) s
    omega
  rw [← nm_get l _ (by omega)]
  rcases Nat.eq_zero_or_pos i with h | h
  · subst h; simpa using h2
  · exact cmpS_trans h2 (hs.lt (by omega) (by omega))
theorem mem_ins {l : List Bk} {k : Nat} {x y : Bk} : y ∈ insAt l k x ↔ y = x ∨ y ∈ l := by
  unfold insAt
  rw [List.mem_append, List.mem_cons]
  have : y ∈ l ↔ y ∈ l.take k ∨ y ∈ l.drop k := by rw [← List.mem_append, List.take_append_drop]
  rw [this]
  constructor
  · rintro (h | h | h)
    · exact .inr (.inl h)
    · exact .inl h
    · exact .inr (.inr h)
  · rintro (h | h | h)
    · exact .inr (.inl h)
    · exact .inl h
    · exact .inr (.inr h)
theorem srt_ins {l : List Bk} (hs : Srt l) {x : Bk} (hno : hasN l x.name = false) : Srt (insAt l (lowN l x.name) x) := by
  unfold Srt insAt
  rw [List.pairwise_append]
  refine ⟨hs.sublist (List.take_sublist _ _), ?_, ?_⟩
  · rw [List.pairwise_cons]
    exact ⟨fun y hy => low_after hs x.name hno hy, hs.sublist (List.drop_sublist _ _)⟩
  · intro a ha b hb
    rcases List.mem_cons.1 hb with rfl | hb
    · exact low_before _ ha
    · exact cmpS_trans (low_before _ ha) (low_after hs x.name hno hb)
theorem srt_del {l : List Bk} (hs : Srt l) (i : Nat) : Srt (delAt l i) := by
  unfold delAt
  refine hs.sublist ?_
  conv => rhs; rw [← List.take_append_drop i l]
  exact List.Sublist.append_left (by rw [← List.drop_drop]; exact List.drop_sublist _ _) _
theorem mem_del {l : List Bk} (hs : Srt l) {i : Nat} (hi : i < l.length) {y : Bk} : y ∈ delAt l i ↔ y ∈ l ∧ y.name ≠ nm l i := by
  have e : l = l.take i ++ l[i] :: l.drop (i + 1) := by
    conv => lhs; rw [← List.take_append_drop i l, List.drop_eq_getElem_cons hi]
  unfold delAt
  constructor
  · intro h
    have hm : y ∈ l := by
      rw [e]
      rcases List.mem_append.1 h with h | h
      · exact List.mem_append_left _ h
      · exact List.mem_append_right _ (List.mem_cons_of_mem _ h)
    refine ⟨hm, fun hn => ?_⟩
    rw [nm_get l i hi] at hn
    have hs2 := hs
    unfold Srt at hs2
    rw [e, List.pairwise_append, List.pairwise_cons] at hs2
    rcases List.mem_append.1 h with h | h
    · have := hs2.2.2 y h l[i] (List.mem_cons_self ..)
      rw [hn, cmpS_self] at this; omega
    · have := hs2.2.1.1 y h
      rw [hn, cmpS_self] at this; omega
  · rintro ⟨hm, hn⟩
    rw [e] at hm
    rcases List.mem_append.1 hm with h | h
    · exact List.mem_append_left _ h
    · rcases List.mem_cons.1 h with rfl | h
      · exact absurd (nm_get l i hi).symm hn
      · exact List.mem_append_right _ h
theorem srt_set {l : List Bk} (hs : Srt l) {i : Nat} (hi : i < l.length) {z : Bk} (hz : z.name = nm l i) : Srt (l.set i z) := by
  unfold Srt
  rw [List.pairwise_iff_getElem]
  intro a b ha hb hab
  rw [List.length_set] at ha hb
  have hn : ∀ j (hj : j < (l.set i z).length), ((l.set i z)[j]).name = nm l j := by
    intro j hj
    rw [List.length_set] at hj
    rw [List.getElem_set]
    split
    · rename_i h; subst h; exact hz
    · exact (nm_get l j hj).symm
  rw [hn, hn]
  exact hs.lt hab hb
theorem mem_set {l : List Bk} (hs : Srt l) {i : Nat} (hi : i < l.length) {z y : Bk} (hz : z.name = nm l i) : y ∈ l.set i z ↔ y = z ∨ (y ∈ l ∧ y.name ≠ nm l i) := by
  have e : l = l.take i ++ l[i] :: l.drop (i + 1) := by
    conv => lhs; rw [← List.take_append_drop i l, List.drop_eq_getElem_cons hi]
  have e2 : l.set i z = l.take i ++ z :: l.drop (i + 1) := List.set_eq_take_append_cons_drop ▸ (by rw [if_pos hi])
  have hd := @mem_del l hs i hi y
  rw [e2, List.mem_append, List.mem_cons]
  unfold delAt at hd
  rw [List.mem_append] at hd
  rw [← hd]
  constructor
  · rintro (h | h | h)
    · exact .inr (.inl h)
    · exact .inl h
    · exact .inr (.inr h)
  · rintro (h | h | h)
    · exact .inr (.inl h)
    · exact .inl h
    · exact .inr (.inr h)
theorem insAt_get (l : List Bk) (k : Nat) (x : Bk) (hk : k ≤ l.length) (i : Nat) : (insAt l k x)[i]? = if i < k then l[i]? else if i = k then some x else l[i - 1]? := by
  unfold insAt
  have h1 : (l.take k).length = k := by rw [List.length_take]; omega
  by_cases h : i < k
  · rw [if_pos h, List.getElem?_append_left (by omega), List.getElem?_take_of_lt h]
  · rw [if_neg h, List.getElem?_append_right (by omega), h1]
    by_cases h2 : i = k
    · subst h2; simp
    · rw [if_neg h2]
      obtain ⟨d, hd⟩ : ∃ d, i - k = d + 1 := ⟨i - k - 1, by omega⟩
      rw [hd, List.getElem?_cons_succ, List.getElem?_drop]
      congr 1; omega
end Go.Proofs.Ytgcahcjffoehfaa
