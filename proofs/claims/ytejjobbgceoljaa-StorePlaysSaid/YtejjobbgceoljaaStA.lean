/- Files by name, in order: the plain law of the store. -/
import Derived.Test.YtejjobbgceoljaaOrd
import Derived.Test.YtejjobbgceoljaaStF
set_option linter.unusedSimpArgs false
set_option linter.unusedVariables false
namespace Go.Proofs.Ytejjobbgceoljaa

def SrtF (L : List Fi) : Prop := L.Pairwise (fun x y => Op.bytesLess x.name y.name = true)
def lookF (L : List Fi) (s : List UInt8) : Option Fi := L.find? (fun x => x.name == s)
/-- a file at its place -/
def putF (f : Fi) : List Fi → List Fi
  | [] => [f]
  | x :: r => if x.name = f.name then f :: r else if Op.bytesLess f.name x.name = true then f :: x :: r else x :: putF f r
theorem lookF_nil (s : List UInt8) : lookF [] s = none := rfl
theorem lookF_cons (x : Fi) (r : List Fi) (s : List UInt8) : lookF (x :: r) s = if x.name = s then some x else lookF r s := by
  unfold lookF
  rw [List.find?_cons]
  by_cases h : x.name = s
  · have hb : (x.name == s) = true := by simp [h]
    rw [if_pos h, hb]
  · have hb : (x.name == s) = false := by simp [h]
    rw [if_neg h, hb]
theorem lookF_put (f : Fi) (s : List UInt8) : ∀ L, lookF (putF f L) s = if s = f.name then some f else lookF L s
  | [] => by
    unfold putF
    rw [lookF_cons, lookF_nil]
    by_cases h : s = f.name
    · rw [if_pos h, if_pos h.symm]
    · rw [if_neg h, if_neg (fun e => h e.symm)]
  | x :: r => by
    unfold putF
    by_cases h1 : x.name = f.name
    · rw [if_pos h1, lookF_cons f r s, lookF_cons x r s, h1]
      by_cases h : s = f.name
      · rw [if_pos h, if_pos h.symm]
      · rw [if_neg h, if_neg (fun e => h e.symm), if_neg (fun e => h e.symm)]
    · rw [if_neg h1]
      by_cases h2 : Op.bytesLess f.name x.name = true
      · rw [if_pos h2, lookF_cons f (x :: r) s, lookF_cons x r s]
        by_cases h : s = f.name
        · subst h; simp
        · have h' : ¬ f.name = s := fun e => h e.symm
          simp only [h, h', if_false]
      · rw [if_neg h2, lookF_cons x (putF f r) s, lookF_put f s r, lookF_cons x r s]
        by_cases h : s = f.name
        · rw [if_neg (fun e => h1 (e.trans h)), if_pos h, if_pos h]
        · rw [if_neg h, if_neg h]
theorem mem_put (f y : Fi) : ∀ L, y ∈ putF f L → y = f ∨ y ∈ L
  | [] => by simp [putF]
  | x :: r => by
    unfold putF
    intro h
    split at h
    · rcases List.mem_cons.1 h with h | h
      · exact .inl h
      · exact .inr (List.mem_cons_of_mem _ h)
    · split at h
      · rcases List.mem_cons.1 h with h | h
        · exact .inl h
        · exact .inr h
      · rcases List.mem_cons.1 h with h | h
        · exact .inr (by rw [h]; exact List.mem_cons_self)
        · rcases mem_put f y r h with h | h
          · exact .inl h
          · exact .inr (List.mem_cons_of_mem _ h)
theorem srt_put (f : Fi) : ∀ L, SrtF L → SrtF (putF f L)
  | [], _ => List.pairwise_singleton _ _
  | x :: r, h => by
    obtain ⟨h1, h2⟩ := List.pairwise_cons.1 h
    unfold putF
    split
    · rename_i he
      exact List.pairwise_cons.2 ⟨fun y hy => by rw [← he]; exact h1 y hy, h2⟩
    · rename_i hne
      split
      · rename_i hlt
        refine List.pairwise_cons.2 ⟨fun y hy => ?_, h⟩
        rcases List.mem_cons.1 hy with rfl | hy
        · exact hlt
        · exact bl_trans _ _ _ hlt (h1 y hy)
      · rename_i hlt
        refine List.pairwise_cons.2 ⟨fun y hy => ?_, srt_put f r h2⟩
        rcases mem_put f y r hy with rfl | hy
        · cases hc : Op.bytesLess x.name y.name
          · exact absurd (bl_total _ _ hc (by simpa using hlt)) hne
          · rfl
        · exact h1 y hy
/-- a file taken out -/
def cutF (s : List UInt8) (L : List Fi) : List Fi := L.filter fun x => x.name != s
theorem lookF_cut (s t : List UInt8) : ∀ L, lookF (cutF s L) t = if t = s then none else lookF L t
  | [] => by simp [cutF, lookF]
  | x :: r => by
    have ih := lookF_cut s t r
    unfold cutF at ih ⊢
    by_cases h : x.name = s
    · rw [List.filter_cons_of_neg (by simp [h]), ih, lookF_cons]
      by_cases ht : t = s
      · rw [if_pos ht, if_pos ht]
      · rw [if_neg ht, if_neg ht, if_neg (fun e => ht (e.symm.trans h))]
    · rw [List.filter_cons_of_pos (by simp [h]), lookF_cons, lookF_cons, ih]
      by_cases ht : t = s
      · rw [if_pos ht, if_neg (fun e => h (e.trans ht)), if_pos ht]
      · rw [if_neg ht, if_neg ht]
theorem srt_cut (s : List UInt8) {L : List Fi} (h : SrtF L) : SrtF (cutF s L) := List.Pairwise.filter _ h
theorem lookF_name {L : List Fi} {s : List UInt8} {f : Fi} (h : lookF L s = some f) : f.name = s := by
  have := List.find?_some h; simpa using this
theorem lookF_mem {L : List Fi} {s : List UInt8} {f : Fi} (h : lookF L s = some f) : f ∈ L := List.mem_of_find?_eq_some h
theorem lookF_of_mem {L : List Fi} (hs : SrtF L) {f : Fi} (h : f ∈ L) : lookF L f.name = some f := by
  induction L with
  | nil => cases h
  | cons x r ih =>
    obtain ⟨h1, h2⟩ := List.pairwise_cons.1 hs
    rw [lookF_cons]
    rcases List.mem_cons.1 h with rfl | h
    · rw [if_pos rfl]
    · rw [if_neg, ih h2 h]
      intro e
      have := h1 f h
      rw [e, bl_irrefl] at this; cases this
/-- two ordered lists that tell the same of every name are one -/
theorem look_ext : ∀ (L M : List Fi), SrtF L → SrtF M → (∀ s, lookF L s = lookF M s) → L = M
  | [], [], _, _, _ => rfl
  | [], y :: m, _, _, h => by have := h y.name; rw [lookF_nil, lookF_cons, if_pos rfl] at this; cases this
  | x :: l, [], _, _, h => by have := h x.name; rw [lookF_nil, lookF_cons, if_pos rfl] at this; cases this
  | x :: l, y :: m, hl, hm, h => by
    obtain ⟨l1, l2⟩ := List.pairwise_cons.1 hl
    obtain ⟨m1, m2⟩ := List.pairwise_cons.1 hm
    have hxy : x = y := by
      have hx := lookF_mem ((h x.name).symm.trans (lookF_of_mem hl List.mem_cons_self))
      have hy := lookF_mem ((h y.name).trans (lookF_of_mem hm List.mem_cons_self))
      rcases List.mem_cons.1 hx with e | hx
      · exact e
      · rcases List.mem_cons.1 hy with e | hy
        · exact e.symm
        · have a := m1 x hx
          have b := l1 y hy
          rw [bl_asymm a] at b; cases b
    subst hxy
    refine congrArg (x :: ·) (look_ext l m l2 m2 fun s => ?_)
    have := h s
    rw [lookF_cons, lookF_cons] at this
    by_cases hs : x.name = s
    · have e1 : lookF l s = none := by
        cases hc : lookF l s with
        | none => rfl
        | some f =>
          have := l1 f (lookF_mem hc)
          rw [lookF_name hc, hs, bl_irrefl] at this; cases this
      have e2 : lookF m s = none := by
        cases hc : lookF m s with
        | none => rfl
        | some f =>
          have := m1 f (lookF_mem hc)
          rw [lookF_name hc, hs, bl_irrefl] at this; cases this
      rw [e1, e2]
    · rw [if_neg hs, if_neg hs] at this
      exact this
/-- all bytes -/
def sumF (L : List Fi) : Nat := (L.map fun x => x.b.length).sum
theorem sumF_cons (x : Fi) (r : List Fi) : sumF (x :: r) = x.b.length + sumF r := by simp [sumF]
theorem sumF_put (f : Fi) : ∀ L, SrtF L → sumF (putF f L) + (match lookF L f.name with | some g => g.b.length | none => 0) = sumF L + f.b.length
  | [], _ => by simp [putF, sumF, lookF]
  | x :: r, h => by
    obtain ⟨h1, h2⟩ := List.pairwise_cons.1 h
    unfold putF
    rw [lookF_cons]
    split
    · rename_i he
      simp only [sumF_cons]; omega
    · rename_i hne
      split
      · rename_i hlt
        have e1 : lookF r f.name = none := by
          cases hc : lookF r f.name with
          | none => rfl
          | some g =>
            have := h1 g (lookF_mem hc)
            rw [lookF_name hc, bl_asymm hlt] at this; cases this
        rw [e1]
        simp only [sumF_cons]; omega
      · have ih := sumF_put f r h2
        simp only [sumF_cons]; omega
theorem sumF_cut (s : List UInt8) : ∀ L, SrtF L → sumF (cutF s L) + (match lookF L s with | some g => g.b.length | none => 0) = sumF L
  | [], _ => by simp [cutF, sumF, lookF]
  | x :: r, h => by
    obtain ⟨h1, h2⟩ := List.pairwise_cons.1 h
    have ih := sumF_cut s r h2
    rw [lookF_cons]
    unfold cutF at ih ⊢
    by_cases hx : x.name = s
    · have e1 : lookF r s = none := by
        cases hc : lookF r s with
        | none => rfl
        | some g =>
          have := h1 g (lookF_mem hc)
          rw [lookF_name hc, hx, bl_irrefl] at this; cases this
      rw [e1] at ih
      rw [if_pos hx, List.filter_cons_of_neg (by simp [hx])]
      simp only [sumF_cons]; dsimp only at ih; omega
    · rw [if_neg hx, List.filter_cons_of_pos (by simp [hx])]
      simp only [sumF_cons]; omega
/-- the document's way of putting one, step by step -/
def stepPut (f : Fi) (p : List Fi × Bool) (x : Fi) : List Fi × Bool :=
  if x.name = f.name then p else if p.2 = false ∧ Op.bytesLess f.name x.name = true then (p.1 ++ [f, x], true) else (p.1 ++ [x], p.2)
def endPut (f : Fi) (p : List Fi × Bool) : List Fi := if p.2 = true then p.1 else p.1 ++ [f]
theorem put_done (f : Fi) : ∀ (L o : List Fi), (∀ x ∈ L, x.name ≠ f.name) → L.foldl (stepPut f) (o, true) = (o ++ L, true)
  | [], o, _ => by simp
  | x :: r, o, h => by
    rw [List.foldl_cons]
    have : stepPut f (o, true) x = (o ++ [x], true) := by unfold stepPut; rw [if_neg (h x List.mem_cons_self), if_neg (by simp)]
    rw [this, put_done f r (o ++ [x]) (fun y hy => h y (List.mem_cons_of_mem _ hy))]
    simp
theorem put_steps (f : Fi) : ∀ (L o : List Fi), SrtF L → endPut f (L.foldl (stepPut f) (o, false)) = o ++ putF f L
  | [], o, _ => by simp [endPut, putF]
  | x :: r, o, h => by
    obtain ⟨h1, h2⟩ := List.pairwise_cons.1 h
    rw [List.foldl_cons]
    unfold putF
    by_cases he : x.name = f.name
    · have e : stepPut f (o, false) x = (o, false) := by unfold stepPut; rw [if_pos he]
      rw [e, put_steps f r o h2, if_pos he]
      cases r with
      | nil => simp [putF]
      | cons y r2 =>
        have hy := h1 y List.mem_cons_self
        rw [he] at hy
        unfold putF
        rw [if_neg (fun e => by rw [e, bl_irrefl] at hy; cases hy), if_pos hy]
    · rw [if_neg he]
      by_cases hl : Op.bytesLess f.name x.name = true
      · have e : stepPut f (o, false) x = (o ++ [f, x], true) := by unfold stepPut; rw [if_neg he, if_pos ⟨rfl, hl⟩]
        rw [e, put_done f r _ (fun y hy e2 => by
          have := bl_trans _ _ _ hl (h1 y hy)
          rw [e2, bl_irrefl] at this; cases this), if_pos hl]
        simp [endPut]
      · have e : stepPut f (o, false) x = (o ++ [x], false) := by unfold stepPut; rw [if_neg he, if_neg (fun hh => hl hh.2)]
        rw [e, put_steps f r (o ++ [x]) h2, if_neg hl]
        simp
end Go.Proofs.Ytejjobbgceoljaa
