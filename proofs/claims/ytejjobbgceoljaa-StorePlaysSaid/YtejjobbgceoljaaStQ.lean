/- The program's store: one file turned, put in, taken out; the map's operations. -/
import Derived.Test.YtejjobbgceoljaaStP
set_option linter.unusedSimpArgs false
set_option linter.unusedVariables false
namespace Go.Proofs.Ytejjobbgceoljaa
open Go.RowKit

/-! ### what is good stays so -/
theorem good_mid {q : Int} {L1 L2 : List Fi} {x x' : Fi} (h : GoodF q (L1 ++ x :: L2)) (hn : x'.name = x.name) (hs : 0 ≤ x'.syn ∧ x'.syn ≤ x'.b.length) (hq : (sumF (L1 ++ x' :: L2) : Int) ≤ q) : GoodF q (L1 ++ x' :: L2) := by
  obtain ⟨h1, h2, h3, h4⟩ := h
  refine ⟨by rw [← put_mid x x' hn L2 L1 h1]; exact srt_put _ _ h1, fun y hy => ?_, hq, h4⟩
  rcases List.mem_append.1 hy with hy | hy
  · exact h2 y (List.mem_append_left _ hy)
  · rcases List.mem_cons.1 hy with rfl | hy
    · exact ⟨by rw [hn]; exact (h2 x (by simp)).1, hs⟩
    · exact h2 y (by simp [hy])
theorem good_del {q : Int} {L1 L2 : List Fi} {x : Fi} (h : GoodF q (L1 ++ x :: L2)) : GoodF q (L1 ++ L2) := by
  obtain ⟨h1, h2, h3, h4⟩ := h
  refine ⟨by rw [← cut_mid h1]; exact srt_cut _ h1, fun y hy => h2 y (by rcases List.mem_append.1 hy with hy | hy <;> simp [hy]), ?_, h4⟩
  rw [sumF_app, sumF_cons] at h3
  rw [sumF_app]
  omega
theorem good_put {q : Int} {L : List Fi} {x : Fi} (h : GoodF q L) (hn : x.name.length ≤ 100000) (hs : 0 ≤ x.syn ∧ x.syn ≤ x.b.length) (hq : (sumF (putF x L) : Int) ≤ q) : GoodF q (putF x L) := by
  obtain ⟨h1, h2, h3, h4⟩ := h
  refine ⟨srt_put _ _ h1, fun y hy => ?_, hq, h4⟩
  rcases mem_put x y L hy with rfl | hy
  · exact ⟨hn, hs⟩
  · exact h2 y hy
section
variable {F : List Nat} {M : Nat} {l l1 l2 : List Pl} {r r' : Pl} {w w' : World} {p : Nat} {q : Int} {L L' : List Fi} {sz sz' fu fu' : Int} {dn dn' : Bool}
theorem PgX.fst (h : PgX F M l w p q L sz fu dn) : p < w.heap.size ∧ M < w.heap.size := ⟨h.2.2.2.1.lt, h.2.2.2.2.1.lt⟩
/-- p, the map's block, and a file's blocks are apart -/
theorem PgX.apart (h : PgX F M (l1 ++ ([r] ++ l2)) w p q L sz fu dn) : p ≠ M ∧ p ∉ r.foot ∧ M ∉ r.foot ∧ r.foot.Nodup ∧ (∀ k ∈ r.foot, k < w.heap.size) := by
  obtain ⟨h1, h2, h3, h4, h5, h6, h7, h8⟩ := h
  subst h2
  have e : p :: M :: feet (l1 ++ ([r] ++ l2)) = [p, M] ++ (feet l1 ++ (r.foot ++ feet l2)) := by simp [feet]
  rw [e] at h3
  obtain ⟨a1, a2, a3⟩ := List.nodup_append.1 h3
  obtain ⟨b1, b2, b3⟩ := List.nodup_append.1 a2
  obtain ⟨c1, c2, c3⟩ := List.nodup_append.1 b2
  refine ⟨by simpa using a1, fun hm => a3 p (by simp) p (by simp [hm]) rfl, fun hm => a3 M (by simp) M (by simp [hm]) rfl, c1, (h6 r (by simp)).lt⟩
/-- a file turned in its place -/
theorem PgX.file (h : PgX F M (l1 ++ ([r] ++ l2)) w p q L sz fu dn) (hf : Frm (p :: M :: r.foot) w w') (hB : Box w' p (stC q sz' M fu' dn')) (hM : w'.heap[M]? = w.heap[M]?) (hr : r'.ok w')
    (hnd : r'.foot.Nodup) (hin : ∀ k ∈ r'.foot, k ∈ r.foot ∨ w.heap.size ≤ k) (hn : r'.x.name = r.x.name) (hfb : r'.fb = r.fb) (hs : 0 ≤ r'.x.syn ∧ r'.x.syn ≤ r'.x.b.length) (hL : putF r'.x L = L') (hq : (sumF L' : Int) ≤ q) (hfu : -1 ≤ fu' ∧ fu' ≤ 9223372036854775807) :
    ∃ F', PgX F' M (l1 ++ ([r'] ++ l2)) w' p q L' sz' fu' dn' ∧ Frm F w w' ∧ (∀ b ∈ F', b ∈ F ∨ w.heap.size ≤ b) := by
  have hlt := h.fst
  obtain ⟨h1, h2, h3, h4, h5, h6, h7, h8⟩ := h
  subst h2
  have hmap : ∀ t : Pl, (l1 ++ ([t] ++ l2)).map Pl.x = l1.map Pl.x ++ t.x :: l2.map Pl.x := fun t => by simp
  have hL2 : (l1 ++ ([r'] ++ l2)).map Pl.x = L' := by
    rw [hmap] at h1 ⊢
    rw [← hL, ← h1]
    rw [← h1] at h7
    exact (put_mid r.x r'.x hn _ _ h7.1).symm
  have hG : GoodF q L' := by
    rw [← hL2, hmap] at hq ⊢
    rw [← h1, hmap] at h7
    exact good_mid h7 hn hs hq
  refine pg_turn (mid := [r]) (mid' := [r']) h3 h6 hlt (by simpa [feet] using hf) hL2 hB ?_ (fun t ht => by simp at ht; subst ht; exact hr) (by simpa [feet] using hnd) (by simpa [feet] using hin) hG hfu
  rw [at_set hn hfb]
  have := h5.agree hM
  simpa using this
/-- a file put in -/
theorem PgX.ins (h : PgX F M l w p q L sz fu dn) (hno : lookP l r.x.name = none) (hf : Frm [p, M] w w') (hB : Box w' p (stC q sz' M fu' dn'))
    (hM : ∀ g : List UInt8 → Option Nat, (∀ t, g t = if t = r.x.name then some r.fb else atP l t) → HasM w' M (l.length + 1) g) (hr : r.ok w') (hnd : r.foot.Nodup) (hin : ∀ k ∈ r.foot, w.heap.size ≤ k) (hL : putF r.x L = L') (hG : GoodF q L') (hfu : -1 ≤ fu' ∧ fu' ≤ 9223372036854775807) :
    ∃ F' l', PgX F' M l' w' p q L' sz' fu' dn' ∧ Frm F w w' ∧ (∀ b ∈ F', b ∈ F ∨ w.heap.size ≤ b) ∧ l'.length = l.length + 1 := by
  have hlt := h.fst
  obtain ⟨h1, h2, h3, h4, h5, h6, h7, h8⟩ := h
  subst h2
  have hlk : lookF L r.x.name = none := by rw [← h1, look_map, hno]; rfl
  obtain ⟨L1, L2, e1, e2⟩ := put_new r.x L hlk
  obtain ⟨l1, l2, el, g1, g2⟩ : ∃ l1 l2, l = l1 ++ l2 ∧ l1.map Pl.x = L1 ∧ l2.map Pl.x = L2 := by
    rw [e1] at h1
    obtain ⟨a, b, h, ha, hb⟩ := List.map_eq_append_iff.1 h1
    exact ⟨a, b, h, ha, hb⟩
  subst el
  have hL2 : (l1 ++ ([r] ++ l2)).map Pl.x = L' := by rw [← hL, e2, ← g1, ← g2]; simp
  obtain ⟨F', k1, k2, k3⟩ := pg_turn (l1 := l1) (mid := []) (mid' := [r]) (l2 := l2) h3 h6 hlt (by simpa [feet] using hf) hL2 hB (by
    have := hM (atP (l1 ++ ([r] ++ l2))) (fun t => at_ins hno t)
    simpa [Nat.add_assoc] using this) (fun t ht => by simp at ht; subst ht; exact hr) (by simpa [feet] using hnd) (by
    intro k hk
    exact .inr (hin k (by simpa [feet] using hk))) hG hfu
  exact ⟨F', _, k1, k2, k3, by simp; omega⟩
/-- a file taken out -/
theorem PgX.del (h : PgX F M (l1 ++ ([r] ++ l2)) w p q L sz fu dn) (hf : Frm (p :: M :: r.foot) w w') (hB : Box w' p (stC q sz' M fu' dn'))
    (hM : ∀ g : List UInt8 → Option Nat, (∀ t, g t = if t = r.x.name then none else atP (l1 ++ ([r] ++ l2)) t) → HasM w' M ((l1 ++ ([r] ++ l2)).length - 1) g) (hL : cutF r.x.name L = L') (hfu : -1 ≤ fu' ∧ fu' ≤ 9223372036854775807) :
    ∃ F', PgX F' M (l1 ++ ([] ++ l2)) w' p q L' sz' fu' dn' ∧ Frm F w w' ∧ (∀ b ∈ F', b ∈ F ∨ w.heap.size ≤ b) := by
  have hlt := h.fst
  obtain ⟨h1, h2, h3, h4, h5, h6, h7, h8⟩ := h
  subst h2
  obtain ⟨o1, o2⟩ := look_out h1 h7.1
  have hmap : (l1 ++ ([r] ++ l2)).map Pl.x = l1.map Pl.x ++ r.x :: l2.map Pl.x := by simp
  rw [hmap] at h1
  have hL2 : (l1 ++ ([] ++ l2)).map Pl.x = L' := by
    rw [← hL, ← h1]
    rw [← h1] at h7
    rw [cut_mid h7.1]; simp
  refine pg_turn (mid := [r]) (mid' := []) h3 h6 hlt (by simpa [feet] using hf) hL2 hB ?_ (fun t ht => by cases ht) (by simp [feet]) (fun k hk => by simp [feet] at hk) ?_ hfu
  · have := hM (atP (l1 ++ ([] ++ l2))) (fun t => at_del o1 o2 t)
    have e : (l1 ++ ([r] ++ l2)).length - 1 = (l1 ++ ([] ++ l2)).length := by simp
    rwa [e] at this
  · rw [← hL2]
    rw [← h1] at h7
    have := good_del h7
    simpa using this
end
section
variable {ops : Array Oper} {rest : List Oper} {o : Oper} {a : Act} {Q : Exit → Act → World → Prop} {w : World}
theorem wpList_upd (hg : o.guard = none) (m x v : Operand) (hop : o.op = Op.mapUpdate 60 m x v)
    (M n : Nat) (f : List UInt8 → Option Nat) (hm : a.eval m = .map (some M)) (hown : HasM w M n f) (hn : n ≤ 100000) (s : List UInt8) (hs : s.length ≤ 100000) (hx : a.eval x = .string (textOf s)) (b : Nat) (hv : a.eval v = .pointer (some ⟨b, 0, none⟩))
    (hK : ∀ w', (∀ g : List UInt8 → Option Nat, (∀ t, g t = if t = s then some b else f t) → HasM w' M (if (f s).isSome then n else n + 1) g) → w.grownBy w' (some M) → wpList Try.prog ops Q rest (a.put o.dst undef) w') : wpList Try.prog ops Q (o :: rest) a w := by
  obtain ⟨D, h1, h2, h3⟩ := hown
  refine wpList_mapUpdate_own w hg m x v 60 hop 9 73 keyedS Try.underlying60 blkElem M n D hm h1 (by unfold maxLen; omega) _ _ (.string s) hx hv (key_of s hs) _ [] (blkElem_mk b) ?_
  intro w' k1 k2
  exact hK w' (fun g hg => HasM.put h1 h2 h3 s b _ k1 hg) k2
theorem wpList_del (hg : o.guard = none) (m x : Operand) (hop : o.op = Op.call { callee := Callee.builtin Builtin.delete, args := #[m, x], argTypes := #[60, 9] })
    (M n : Nat) (f : List UInt8 → Option Nat) (hm : a.eval m = .map (some M)) (hown : HasM w M n f) (s : List UInt8) (hs : s.length ≤ 100000) (hx : a.eval x = .string (textOf s))
    (hK : ∀ w', (∀ g : List UInt8 → Option Nat, (∀ t, g t = if t = s then none else f t) → HasM w' M (if (f s).isSome then n - 1 else n) g) → w.grownBy w' (some M) → wpList Try.prog ops Q rest (a.put o.dst (.tuple #[])) w') : wpList Try.prog ops Q (o :: rest) a w := by
  obtain ⟨D, h1, h2, h3⟩ := hown
  refine wpList_delete_own w hg m x 60 9 hop 73 keyedS Try.underlying60 blkElem M n D hm h1 _ (.string s) hx (key_of s hs) ?_
  intro w' k1 k2
  exact hK w' (fun g hg => HasM.del h1 h2 h3 s _ k1 hg) k2.grown
end
end Go.Proofs.Ytejjobbgceoljaa
