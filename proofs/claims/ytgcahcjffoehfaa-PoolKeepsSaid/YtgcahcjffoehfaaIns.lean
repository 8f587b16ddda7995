/- copy, append of a make and slices.Insert's roads on elements of many cells, whatever the program. -/
import Derived.Test.YtgcahcjffoehfaaApp
import Derived.Laws.CopyOwn
import Derived.Lib.AppendZerosOnto
import Derived.Lib.Overlaps
set_option linter.unusedSimpArgs false
set_option linter.unusedVariables false
namespace Go.Proofs.Ytgcahcjffoehfaa
open Go.RowKit

section
variable {P : Program}
theorem run_copy_wide (w : World) (dT sT ty elem : TypeId) (size g o dLen dCap : Nat) (a : Addr) (sLen sCap : Nat) (cur : Array Value) (t : TypeId) (cs : List Value) (m : Nat)
    (hu : P.underlying dT = some (.slice elem)) (hs : (P.info? elem).map (·.size) = some size)
    (hg : w.heap[g]? = some (.cells cur t (0, 0))) (hm : m = Nat.min sLen dLen) (hn : cs.length = m * size)
    (hsrc : ∀ j v, cs[j]? = some v → w.cell? (a.add j) = some v) (hfit : o + cs.length ≤ cur.size) (h1 : ∀ v ∈ cs, v.oneCell' = true) :
    (Builtin.copy_ #[dT, sT] ty #[.slice (some ⟨g, o, none⟩) dLen dCap, .slice (some a) sLen sCap]).run P w =
      .ok (goInt m) (w.setRow g (splice cur.toList o cs).toArray) := by
  have hl := run_loadCells_list (P := P) w a cs hsrc
  have hst := run_storeCells_at P g o t cs 0 cur w hg (by simpa using hfit) h1
  cases hq : P.info? elem with
  | none => simp [hq] at hs
  | some i =>
    have hi : i.size = size := by simpa [hq] using hs
    subst hm
    simp [Builtin.copy_, run_underlying hu, Builtin.lenOf, Builtin.firstCells, sizeOf, typeInfo, hq, hi, ← hn, hl, hst, splice]
theorem wpList_copy_wide {w : World} {ops : Array Oper} {rest : List Oper} {o : Oper} {a : Act} {Q : Exit → Act → World → Prop} (hgd : o.guard = none) (d s : Operand) (dT sT : TypeId)
    (ho : o.op = .call { callee := .builtin .copy, args := #[d, s], argTypes := #[dT, sT] }) (elem : TypeId) (size : Nat) (hu : P.underlying dT = some (.slice elem)) (hsz : (P.info? elem).map (·.size) = some size)
    (g off dLen dCap : Nat) (ad : Addr) (sLen sCap : Nat) (hd : a.eval d = .slice (some ⟨g, off, none⟩) dLen dCap) (hs : a.eval s = .slice (some ad) sLen sCap)
    (cur : Array Value) (t : TypeId) (hg : w.heap[g]? = some (.cells cur t (0, 0))) (cs : List Value) (m : Nat) (hm : m = Nat.min sLen dLen) (hn : cs.length = m * size)
    (hsrc : ∀ j v, cs[j]? = some v → w.cell? (ad.add j) = some v) (hfit : off + cs.length ≤ cur.size) (h1 : ∀ v ∈ cs, v.oneCell' = true)
    (h : ∀ w', w' = w.setRow g (splice cur.toList off cs).toArray → wpList P ops Q rest (a.put o.dst (goInt m)) w') : wpList P ops Q (o :: rest) a w := by
  refine wpList_plain hgd fun K hK => ?_
  have hrun := run_copy_wide (P := P) w dT sT o.type elem size g off dLen dCap ad sLen sCap cur t cs m hu hsz hg hm hn hsrc hfit h1
  unfold Oper.wp
  simp [execOp, ho, resolve, invoke, builtin, hd, hs, hrun, Result.andThen]
  exact hK _ _ (h _ rfl)
theorem step_copy_wide {ops : Array Oper} {o : Oper} {a : Act} {w : World} {K : Act → World → Prop} {Q : Exit → Act → World → Prop} {E : Prop} (hgd : o.guard = none) (d s : Operand) (dT sT : TypeId)
    (ho : o.op = .call { callee := .builtin .copy, args := #[d, s], argTypes := #[dT, sT] }) (elem : TypeId) (size : Nat) (hu : P.underlying dT = some (.slice elem)) (hsz : (P.info? elem).map (·.size) = some size)
    (g off dLen dCap : Nat) (ad : Addr) (sLen sCap : Nat) (hd : a.eval d = .slice (some ⟨g, off, none⟩) dLen dCap) (hs : a.eval s = .slice (some ad) sLen sCap)
    (cur : Array Value) (t : TypeId) (hg : w.heap[g]? = some (.cells cur t (0, 0))) (cs : List Value) (m : Nat) (hm : m = Nat.min sLen dLen) (hn : cs.length = m * size)
    (hsrc : ∀ j v, cs[j]? = some v → w.cell? (ad.add j) = some v) (hfit : off + cs.length ≤ cur.size) (h1 : ∀ v ∈ cs, v.oneCell' = true)
    (h : ∀ w', w' = w.setRow g (splice cur.toList off cs).toArray → K (a.put o.dst (goInt m)) w') :
    if Region.wanted o (yielded ops a.tmps) = true then Oper.wp P o a w K Q else E := by
  have hw : Region.wanted o (yielded ops a.tmps) = true := by simp [Region.wanted, hgd]
  rw [if_pos hw]
  have hrun := run_copy_wide (P := P) w dT sT o.type elem size g off dLen dCap ad sLen sCap cur t cs m hu hsz hg hm hn hsrc hfit h1
  unfold Oper.wp
  simp [execOp, ho, resolve, invoke, builtin, hd, hs, hrun, Result.andThen]
  exact h _ rfl
/-- append of a make, no room: a new row, of which the first cells are the old ones -/
theorem wpList_app_zeros {w : World} {ops : Array Oper} {rest : List Oper} {o : Oper} {a : Act} {Q : Exit → Act → World → Prop} (hgd : o.guard = none) (s x : Operand) (t tn : TypeId)
    (ho : o.op = .call { callee := .builtin .append, args := #[s, x], argTypes := #[t, tn] }) (e : TypeId) (i : TypeInfo) (z : Value) (size : Nat) (kq kn : IntKind) (ht : P.underlying t = some (.slice e)) (htn : P.underlying tn = some (.int kn)) (hi : P.info? e = some i) (hz : i.zero = some z)
    (hsize : i.size = size) (hzs : z.cells.size = size)
    (ad : Addr) (sLen sCap : Nat) (hs : a.eval s = .slice (some ad) sLen sCap) (k : Nat) (hx : a.eval x = .int kq k)
    (olds : List Value) (hlo : olds.length = sLen * size) (hold : ∀ j u, olds[j]? = some u → w.cell? (ad.add j) = some u)
    (h0 : 0 < k) (hsz : 0 < size) (hg : sCap < sLen + k) (h63 : sLen + k ≤ maxLen) (hb : (sLen + k) * i.bytes ≤ 140737488355328)
    (h : ∀ c' cur w', sLen + k ≤ c' → c' ≤ maxLen → cur.size = c' * size → cur.toList.take (sLen * size) = olds → w'.heap[w.heap.size]? = some (.cells cur e (0, 0)) → Below w.heap.size w w' →
      wpList P ops Q rest (a.put o.dst (.slice (some ⟨w.heap.size, 0, none⟩) (sLen + k) c')) w') : wpList P ops Q (o :: rest) a w := by
  subst hsize
  refine wpList_plain hgd fun K hK => ?_
  have hl : (Builtin.firstCells i.size sLen (.slice (some ad) sLen sCap)).run P w.drew = .ok olds.toArray w.drew := by
    have := run_loadCells_list (P := P) w.drew ad olds (fun j v hj => by simpa using hold j v hj)
    rw [hlo] at this
    simpa [Builtin.firstCells] using this
  have h63' : ((sLen + k : Nat) : Int) ≤ 9223372036854775807 := by unfold maxLen at h63; omega
  have h48 : k * i.bytes ≤ 281474976710656 := Nat.le_trans (Nat.mul_le_mul_right _ (by omega : k ≤ sLen + k)) (by omega)
  have hrun := Lib.run_append_grow_zeros (P := P) w t tn o.type e i z kq kn ht htn hi hz (some ad) sLen sCap olds hl k h0 hsz hg h63' h48 (growslice_fits hg hb)
  have hge := grownCap_ge w (sLen + k) sCap e
  have := h (grownCap w (sLen + k) sCap e) _ _ hge (grownCap_le_maxLen w (sLen + k) sCap e h63)
    (by simp only [Array.size_append, List.size_toArray, size_zeroCells, hzs, hlo, ← Nat.add_mul]; congr 1; omega)
    (by simp only [Array.toList_append, List.append_assoc]; rw [← hlo]; exact List.take_left)
    (heap_alloc_new w.drew (.cells (olds.toArray ++ Builtin.zeroCells z.cells k ++ Builtin.zeroCells z.cells (grownCap w (sLen + k) sCap e - (sLen + k))) e))
    (((Below.refl w.heap.size w).drew).alloc (Nat.le_refl _) _)
  unfold Oper.wp
  simp [execOp, ho, resolve, invoke, builtin, hs, hx, hrun, Result.andThen]
  exact hK _ _ (by simpa using this)
/-- append where there is room, whatever the source: as one step of a region that draws -/
theorem step_app_room {ops : Array Oper} {o : Oper} {a : Act} {w : World} {K : Act → World → Prop} {Q : Exit → Act → World → Prop} {E : Prop} (hgd : o.guard = none) (s x : Operand) (t : TypeId)
    (ho : o.op = .call { callee := .builtin .append, args := #[s, x], argTypes := #[t, t] }) (e : TypeId) (i : TypeInfo) (size : Nat) (ht : P.underlying t = some (.slice e)) (hi : P.info? e = some i) (hsize : i.size = size)
    (g sLen sCap : Nat) (ad : Addr) (m c : Nat) (hs : a.eval s = .slice (some ⟨g, 0, none⟩) sLen sCap) (hx : a.eval x = .slice (some ad) m c)
    (cur : Array Value) (hg : w.heap[g]? = some (.cells cur e (0, 0))) (news : List Value) (hl : news.length = m * size) (hnews : ∀ j u, news[j]? = some u → w.cell? (ad.add j) = some u) (h1 : ∀ u ∈ news, u.oneCell' = true)
    (hroom : sLen + m ≤ sCap) (hfit : sLen * size + news.length ≤ cur.size)
    (h : ∀ w', w' = w.setRow g (splice cur.toList (sLen * size) news).toArray → K (a.put o.dst (.slice (some ⟨g, 0, none⟩) (sLen + m) sCap)) w') :
    if Region.wanted o (yielded ops a.tmps) = true then Oper.wp P o a w K Q else E := by
  subst hsize
  have hw : Region.wanted o (yielded ops a.tmps) = true := by simp [Region.wanted, hgd]
  rw [if_pos hw]
  have hrun := run_append_room (P := P) w t o.type e i ht hi g sLen sCap cur hg ad m c news hl hnews h1 hroom hfit
  unfold Oper.wp
  simp [execOp, ho, resolve, invoke, builtin, hs, hx, hrun, Result.andThen]
  exact h _ (by simp [splice])
/-- clear of a piece of a known row -/
theorem wpList_clear_row {w : World} {ops : Array Oper} {rest : List Oper} {o : Oper} {a : Act} {Q : Exit → Act → World → Prop} (hgd : o.guard = none) (s : Operand) (t : TypeId)
    (ho : o.op = .call { callee := .builtin .clear, args := #[s], argTypes := #[t] }) (e : TypeId) (i : TypeInfo) (z : Value) (size : Nat) (ht : P.underlying t = some (.slice e)) (hi : P.info? e = some i) (hz : i.zero = some z) (hzs : z.cells.size = size) (h1 : z.cells.all (·.oneCell') = true)
    (g off n c : Nat) (hs : a.eval s = .slice (some ⟨g, off, none⟩) n c) (h0 : 0 < n) (cur : Array Value) (tt : TypeId) (hg : w.heap[g]? = some (.cells cur tt (0, 0))) (hfit : off + n * size ≤ cur.size)
    (h : ∀ w' zs, zs.length = n * size → w' = w.setRow g (splice cur.toList off zs).toArray → wpList P ops Q rest (a.put o.dst (.tuple #[])) w') : wpList P ops Q (o :: rest) a w := by
  refine wpList_plain hgd fun K hK => ?_
  have hzl : (Builtin.zeroCells z.cells n).toList.length = n * size := by rw [Array.length_toList, size_zeroCells, hzs]
  have hst := run_storeCells_at P g off tt (Builtin.zeroCells z.cells n).toList 0 cur w hg (by rw [hzl]; omega) (fun v hv => by
    have hv' : v ∈ Builtin.zeroCells z.cells n := by simpa using hv
    unfold Builtin.zeroCells at hv'
    obtain ⟨j, hj, rfl⟩ := Array.mem_map.1 hv'
    have hj' : j < n * z.cells.size := by simpa using hj
    have hpos : 0 < z.cells.size := by
      rcases Nat.eq_zero_or_pos z.cells.size with h2 | h2
      · rw [h2] at hj'; omega
      · exact h2
    have hm : j % z.cells.size < z.cells.size := Nat.mod_lt _ hpos
    rw [getElem!_pos z.cells _ hm]
    exact Array.all_eq_true_iff_forall_mem.1 h1 _ (Array.getElem_mem hm))
  have hrun : (Builtin.clear_ #[t] o.type #[.slice (some ⟨g, off, none⟩) n c]).run P w = .ok (.tuple #[]) (w.setRow g (splice cur.toList off (Builtin.zeroCells z.cells n).toList).toArray) := by
    obtain ⟨n', rfl⟩ : ∃ n', n = n' + 1 := ⟨n - 1, by omega⟩
    simp [Builtin.clear_, run_underlying ht, zeroValue, typeInfo, hi, hz, hst, splice]
  unfold Oper.wp
  simp [execOp, ho, resolve, invoke, builtin, hs, hrun, Result.andThen]
  exact hK _ _ (h _ _ hzl rfl)
end

theorem ins_place {α : Type} (cur xs ys : List α) (k s : Nat) (hx : cur.take xs.length = xs) (hk : k ≤ xs.length) (hy : ys.length = s) (hfit : xs.length + s ≤ cur.length) :
    (splice (splice cur (k + s) (xs.drop k)) k ys).take (xs.length + s) = xs.take k ++ ys ++ xs.drop k := by
  have hc : cur = xs ++ cur.drop xs.length := by
    conv => lhs; rw [← List.take_append_drop xs.length cur]
    rw [hx]
  generalize cur.drop xs.length = r at hc
  subst hc
  have hr : s ≤ r.length := by simp at hfit; omega
  unfold splice
  have e1 : ((xs ++ r).take (k + s) ++ (xs.drop k ++ (xs ++ r).drop (k + s + (xs.drop k).length))).take k = xs.take k := by
    rw [List.take_append_of_le_length (by simp; omega), List.take_take, Nat.min_eq_left (by omega), List.take_append_of_le_length hk]
  have e2 : ((xs ++ r).take (k + s) ++ (xs.drop k ++ (xs ++ r).drop (k + s + (xs.drop k).length))).drop (k + ys.length) = xs.drop k ++ (xs ++ r).drop (k + s + (xs.drop k).length) := by
    rw [hy]
    have : (List.take (k + s) (xs ++ r)).length = k + s := by simp; omega
    rw [List.drop_append_of_le_length (by omega), List.drop_of_length_le (by omega), List.nil_append]
  rw [e1, e2, ← List.append_assoc, ← List.append_assoc, List.take_append_of_le_length (by simp; omega)]
  exact List.take_of_length_le (by simp; omega)
theorem ins_new {α : Type} (cur xs ys : List α) (k s : Nat) (hx : cur.take k = xs.take k) (hk : k ≤ xs.length) (hy : ys.length = s) (hfit : xs.length + s ≤ cur.length) :
    (splice (splice cur k ys) (k + s) (xs.drop k)).take (xs.length + s) = xs.take k ++ ys ++ xs.drop k := by
  unfold splice
  rw [hx]
  have e1 : (xs.take k ++ (ys ++ cur.drop (k + ys.length))).take (k + s) = xs.take k ++ ys := by
    rw [← List.append_assoc, List.take_append_of_le_length (by simp; omega)]
    exact List.take_of_length_le (by simp; omega)
  rw [e1, ← List.append_assoc, List.take_append_of_le_length (by simp; omega)]
  exact List.take_of_length_le (by simp; omega)
theorem del_place {α : Type} (cur xs : List α) (k s : Nat) (hx : cur.take xs.length = xs) (hk : k + s ≤ xs.length) :
    (splice cur k (xs.drop (k + s))).take (xs.length - s) = xs.take k ++ xs.drop (k + s) := by
  have hc : cur = xs ++ cur.drop xs.length := by
    conv => lhs; rw [← List.take_append_drop xs.length cur]
    rw [hx]
  generalize cur.drop xs.length = r at hc
  subst hc
  unfold splice
  have e1 : (xs ++ r).take k = xs.take k := List.take_append_of_le_length (by omega)
  rw [e1, ← List.append_assoc, List.take_append_of_le_length (by simp; omega)]
  exact List.take_of_length_le (by simp; omega)
end Go.Proofs.Ytgcahcjffoehfaa
