/- copy, append of a make and slices.Insert's roads on elements of many cells, whatever the program. -/
import Derived.Test.YtmpemeemlhmaaaaGreatQ3
import Derived.Laws.CopyOwn
import Derived.Lib.AppendZerosOnto
import Derived.Lib.Overlaps
import Derived.Test.YtmpemeemlhmaaaaGreatQ17
import Derived.Lib.AppendStr
import Derived.Deep.RegionHeldLaw
set_option linter.unusedSimpArgs false
set_option linter.unusedVariables false
set_option maxRecDepth 100000
namespace Go.Proofs.YtmpemeemlhmaaaaGreat
open Go.RowKit

section
variable {P : Program}
theorem run_copy_wide (w : World) (dT sT ty elem : TypeId) (size g o dLen dCap : Nat) (a : Addr) (sLen sCap : Nat) (cur : Array Value) (t : TypeId) (cs : List Value) (m : Nat)
    (hu : P.underlying dT = some (.slice elem)) (hs : (P.info? elem).map (·.size) = some size)
    (hg : w.heap[g]? = some (.cells cur t (0, 0))) (hm : m = Nat.min sLen dLen) (hn : cs.length = m * size)
    (hsrc : ∀ j v, cs[j]? = some v → w.cell? (a.add j) = some v) (hfit : o + cs.length ≤ cur.size) (h1 : ∀ v ∈ cs, v.oneCell' = true) :
    (Builtin.copy_ #[dT, sT] ty #[.slice (some ⟨g, o, none⟩) dLen dCap, .slice (some a) sLen sCap]).run P w =
      .ok (goInt m) (w.setRow g (splice cur.toList o cs).toArray) := by
  have hl := run_loadCells_list (P := P) w a cs hsrc
  have hst := run_storeCells_at P g o t cs 0 cur w hg (by simpa using hfit) h1
  cases hq : P.info? elem with
  | none => simp [hq] at hs
  | some i =>
    have hi : i.size = size := by simpa [hq] using hs
    subst hm
    simp [Builtin.copy_, run_underlying hu, Builtin.lenOf, Builtin.firstCells, sizeOf, typeInfo, hq, hi, ← hn, hl, hst, splice]
theorem wpList_copy_wide {w : World} {ops : Array Oper} {rest : List Oper} {o : Oper} {a : Act} {Q : Exit → Act → World → Prop} (hgd : o.guard = none) (d s : Operand) (dT sT : TypeId)
    (ho : o.op = .call { callee := .builtin .copy, args := #[d, s], argTypes := #[dT, sT] }) (elem : TypeId) (size : Nat) (hu : P.underlying dT = some (.slice elem)) (hsz : (P.info? elem).map (·.size) = some size)
    (g off dLen dCap : Nat) (ad : Addr) (sLen sCap : Nat) (hd : a.eval d = .slice (some ⟨g, off, none⟩) dLen dCap) (hs : a.eval s = .slice (some ad) sLen sCap)
    (cur : Array Value) (t : TypeId) (hg : w.heap[g]? = some (.cells cur t (0, 0))) (cs : List Value) (m : Nat) (hm : m = Nat.min sLen dLen) (hn : cs.length = m * size)
    (hsrc : ∀ j v, cs[j]? = some v → w.cell? (ad.add j) = some v) (hfit : off + cs.length ≤ cur.size) (h1 : ∀ v ∈ cs, v.oneCell' = true)
    (h : ∀ w', w' = w.setRow g (splice cur.toList off cs).toArray → wpList P ops Q rest (a.put o.dst (goInt m)) w') : wpList P ops Q (o :: rest) a w := by
  refine wpList_plain hgd fun K hK => ?_
  have hrun := run_copy_wide (P := P) w dT sT o.type elem size g off dLen dCap ad sLen sCap cur t cs m hu hsz hg hm hn hsrc hfit h1
  unfold Oper.wp
  simp [execOp, ho, resolve, invoke, builtin, hd, hs, hrun, Result.andThen]
  exact hK _ _ (h _ rfl)
theorem step_copy_wide {ops : Array Oper} {o : Oper} {a : Act} {w : World} {K : Act → World → Prop} {Q : Exit → Act → World → Prop} {E : Prop} (hgd : o.guard = none) (d s : Operand) (dT sT : TypeId)
    (ho : o.op = .call { callee := .builtin .copy, args := #[d, s], argTypes := #[dT, sT] }) (elem : TypeId) (size : Nat) (hu : P.underlying dT = some (.slice elem)) (hsz : (P.info? elem).map (·.size) = some size)
    (g off dLen dCap : Nat) (ad : Addr) (sLen sCap : Nat) (hd : a.eval d = .slice (some ⟨g, off, none⟩) dLen dCap) (hs : a.eval s = .slice (some ad) sLen sCap)
    (cur : Array Value) (t : TypeId) (hg : w.heap[g]? = some (.cells cur t (0, 0))) (cs : List Value) (m : Nat) (hm : m = Nat.min sLen dLen) (hn : cs.length = m * size)
    (hsrc : ∀ j v, cs[j]? = some v → w.cell? (ad.add j) = some v) (hfit : off + cs.length ≤ cur.size) (h1 : ∀ v ∈ cs, v.oneCell' = true)
    (h : ∀ w', w' = w.setRow g (splice cur.toList off cs).toArray → K (a.put o.dst (goInt m)) w') :
    if Region.wanted o (yielded ops a.tmps) = true then Oper.wp P o a w K Q else E := by
  have hw : Region.wanted o (yielded ops a.tmps) = true := by simp [Region.wanted, hgd]
  rw [if_pos hw]
  have hrun := run_copy_wide (P := P) w dT sT o.type elem size g off dLen dCap ad sLen sCap cur t cs m hu hsz hg hm hn hsrc hfit h1
  unfold Oper.wp
  simp [execOp, ho, resolve, invoke, builtin, hd, hs, hrun, Result.andThen]
  exact h _ rfl
/-- append of a make, no room: a new row, of which the first cells are the old ones -/
theorem wpList_app_zeros {w : World} {ops : Array Oper} {rest : List Oper} {o : Oper} {a : Act} {Q : Exit → Act → World → Prop} (hgd : o.guard = none) (s x : Operand) (t tn : TypeId)
    (ho : o.op = .call { callee := .builtin .append, args := #[s, x], argTypes := #[t, tn] }) (e : TypeId) (i : TypeInfo) (z : Value) (size : Nat) (kq kn : IntKind) (ht : P.underlying t = some (.slice e)) (htn : P.underlying tn = some (.int kn)) (hi : P.info? e = some i) (hz : i.zero = some z)
    (hsize : i.size = size) (hzs : z.cells.size = size)
    (ad : Addr) (sLen sCap : Nat) (hs : a.eval s = .slice (some ad) sLen sCap) (k : Nat) (hx : a.eval x = .int kq k)
    (olds : List Value) (hlo : olds.length = sLen * size) (hold : ∀ j u, olds[j]? = some u → w.cell? (ad.add j) = some u)
    (h0 : 0 < k) (hsz : 0 < size) (hg : sCap < sLen + k) (h63 : sLen + k ≤ maxLen) (hb : (sLen + k) * i.bytes ≤ 140737488355328)
    (h : ∀ c' cur w', sLen + k ≤ c' → c' ≤ maxLen → cur.size = c' * size → cur.toList.take (sLen * size) = olds → w'.heap[w.heap.size]? = some (.cells cur e (0, 0)) → Below w.heap.size w w' →
      wpList P ops Q rest (a.put o.dst (.slice (some ⟨w.heap.size, 0, none⟩) (sLen + k) c')) w') : wpList P ops Q (o :: rest) a w := by
  subst hsize
  refine wpList_plain hgd fun K hK => ?_
  have hl : (Builtin.firstCells i.size sLen (.slice (some ad) sLen sCap)).run P w.drew = .ok olds.toArray w.drew := by
    have := run_loadCells_list (P := P) w.drew ad olds (fun j v hj => by simpa using hold j v hj)
    rw [hlo] at this
    simpa [Builtin.firstCells] using this
  have h63' : ((sLen + k : Nat) : Int) ≤ 9223372036854775807 := by unfold maxLen at h63; omega
  have h48 : k * i.bytes ≤ 281474976710656 := Nat.le_trans (Nat.mul_le_mul_right _ (by omega : k ≤ sLen + k)) (by omega)
  have hrun := Lib.run_append_grow_zeros (P := P) w t tn o.type e i z kq kn ht htn hi hz (some ad) sLen sCap olds hl k h0 hsz hg h63' h48 (growslice_fits hg hb)
  have hge := grownCap_ge w (sLen + k) sCap e
  have := h (grownCap w (sLen + k) sCap e) _ _ hge (grownCap_le_maxLen w (sLen + k) sCap e h63)
    (by simp only [Array.size_append, List.size_toArray, size_zeroCells, hzs, hlo, ← Nat.add_mul]; congr 1; omega)
    (by simp only [Array.toList_append, List.append_assoc]; rw [← hlo]; exact List.take_left)
    (heap_alloc_new w.drew (.cells (olds.toArray ++ Builtin.zeroCells z.cells k ++ Builtin.zeroCells z.cells (grownCap w (sLen + k) sCap e - (sLen + k))) e))
    (((Below.refl w.heap.size w).drew).alloc (Nat.le_refl _) _)
  unfold Oper.wp
  simp [execOp, ho, resolve, invoke, builtin, hs, hx, hrun, Result.andThen]
  exact hK _ _ (by simpa using this)
/-- append where there is room, whatever the source: as one step of a region that draws -/
theorem step_app_room {ops : Array Oper} {o : Oper} {a : Act} {w : World} {K : Act → World → Prop} {Q : Exit → Act → World → Prop} {E : Prop} (hgd : o.guard = none) (s x : Operand) (t : TypeId)
    (ho : o.op = .call { callee := .builtin .append, args := #[s, x], argTypes := #[t, t] }) (e : TypeId) (i : TypeInfo) (size : Nat) (ht : P.underlying t = some (.slice e)) (hi : P.info? e = some i) (hsize : i.size = size)
    (g sLen sCap : Nat) (ad : Addr) (m c : Nat) (hs : a.eval s = .slice (some ⟨g, 0, none⟩) sLen sCap) (hx : a.eval x = .slice (some ad) m c)
    (cur : Array Value) (hg : w.heap[g]? = some (.cells cur e (0, 0))) (news : List Value) (hl : news.length = m * size) (hnews : ∀ j u, news[j]? = some u → w.cell? (ad.add j) = some u) (h1 : ∀ u ∈ news, u.oneCell' = true)
    (hroom : sLen + m ≤ sCap) (hfit : sLen * size + news.length ≤ cur.size)
    (h : ∀ w', w' = w.setRow g (splice cur.toList (sLen * size) news).toArray → K (a.put o.dst (.slice (some ⟨g, 0, none⟩) (sLen + m) sCap)) w') :
    if Region.wanted o (yielded ops a.tmps) = true then Oper.wp P o a w K Q else E := by
  subst hsize
  have hw : Region.wanted o (yielded ops a.tmps) = true := by simp [Region.wanted, hgd]
  rw [if_pos hw]
  have hrun := run_append_room (P := P) w t o.type e i ht hi g sLen sCap cur hg ad m c news hl hnews h1 hroom hfit
  unfold Oper.wp
  simp [execOp, ho, resolve, invoke, builtin, hs, hx, hrun, Result.andThen]
  exact h _ (by simp [splice])
/-- clear of a piece of a known row -/
theorem wpList_clear_row {w : World} {ops : Array Oper} {rest : List Oper} {o : Oper} {a : Act} {Q : Exit → Act → World → Prop} (hgd : o.guard = none) (s : Operand) (t : TypeId)
    (ho : o.op = .call { callee := .builtin .clear, args := #[s], argTypes := #[t] }) (e : TypeId) (i : TypeInfo) (z : Value) (size : Nat) (ht : P.underlying t = some (.slice e)) (hi : P.info? e = some i) (hz : i.zero = some z) (hzs : z.cells.size = size) (h1 : z.cells.all (·.oneCell') = true)
    (g off n c : Nat) (hs : a.eval s = .slice (some ⟨g, off, none⟩) n c) (h0 : 0 < n) (cur : Array Value) (tt : TypeId) (hg : w.heap[g]? = some (.cells cur tt (0, 0))) (hfit : off + n * size ≤ cur.size)
    (h : ∀ w' zs, zs.length = n * size → w' = w.setRow g (splice cur.toList off zs).toArray → wpList P ops Q rest (a.put o.dst (.tuple #[])) w') : wpList P ops Q (o :: rest) a w := by
  refine wpList_plain hgd fun K hK => ?_
  have hzl : (Builtin.zeroCells z.cells n).toList.length = n * size := by rw [Array.length_toList, size_zeroCells, hzs]
  have hst := run_storeCells_at P g off tt (Builtin.zeroCells z.cells n).toList 0 cur w hg (by rw [hzl]; omega) (fun v hv => by
    have hv' : v ∈ Builtin.zeroCells z.cells n := by simpa using hv
    unfold Builtin.zeroCells at hv'
    obtain ⟨j, hj, rfl⟩ := Array.mem_map.1 hv'
    have hj' : j < n * z.cells.size := by simpa using hj
    have hpos : 0 < z.cells.size := by
      rcases Nat.eq_zero_or_pos z.cells.size with h2 | h2
      · rw [h2] at hj'; omega
      · exact h2
    have hm : j % z.cells.size < z.cells.size := Nat.mod_lt _ hpos
    rw [getElem!_pos z.cells _ hm]
    exact Array.all_eq_true_iff_forall_mem.1 h1 _ (Array.getElem_mem hm))
  have hrun : (Builtin.clear_ #[t] o.type #[.slice (some ⟨g, off, none⟩) n c]).run P w = .ok (.tuple #[]) (w.setRow g (splice cur.toList off (Builtin.zeroCells z.cells n).toList).toArray) := by
    obtain ⟨n', rfl⟩ : ∃ n', n = n' + 1 := ⟨n - 1, by omega⟩
    simp [Builtin.clear_, run_underlying ht, zeroValue, typeInfo, hi, hz, hst, splice]
  unfold Oper.wp
  simp [execOp, ho, resolve, invoke, builtin, hs, hrun, Result.andThen]
  exact hK _ _ (h _ _ hzl rfl)
end

theorem ins_place {α : Type} (cur xs ys : List α) (k s : Nat) (hx : cur.take xs.length = xs) (hk : k ≤ xs.length) (hy : ys.length = s) (hfit : xs.length + s ≤ cur.length) :
    (splice (splice cur (k + s) (xs.drop k)) k ys).take (xs.length + s) = xs.take k ++ ys ++ xs.drop k := by
  have hc : cur = xs ++ cur.drop xs.length := by
    conv => lhs; rw [← List.take_append_drop xs.length cur]
    rw [hx]
  generalize cur.drop xs.length = r at hc
  subst hc
  have hr : s ≤ r.length := by simp at hfit; omega
  unfold splice
  have e1 : ((xs ++ r).take (k + s) ++ (xs.drop k ++ (xs ++ r).drop (k + s + (xs.drop k).length))).take k = xs.take k := by
    rw [List.take_append_of_le_length (by simp; omega), List.take_take, Nat.min_eq_left (by omega), List.take_append_of_le_length hk]
  have e2 : ((xs ++ r).take (k + s) ++ (xs.drop k ++ (xs ++ r).drop (k + s + (xs.drop k).length))).drop (k + ys.length) = xs.drop k ++ (xs ++ r).drop (k + s + (xs.drop k).length) := by
    rw [hy]
    have : (List.take (k + s) (xs ++ r)).length = k + s := by simp; omega
    rw [List.drop_append_of_le_length (by omega), List.drop_of_length_le (by omega), List.nil_append]
  rw [e1, e2, ← List.append_assoc, ← List.append_assoc, List.take_append_of_le_length (by simp; omega)]
  exact List.take_of_length_le (by simp; omega)
theorem ins_new {α : Type} (cur xs ys : List α) (k s : Nat) (hx : cur.take k = xs.take k) (hk : k ≤ xs.length) (hy : ys.length = s) (hfit : xs.length + s ≤ cur.length) :
    (splice (splice cur k ys) (k + s) (xs.drop k)).take (xs.length + s) = xs.take k ++ ys ++ xs.drop k := by
  unfold splice
  rw [hx]
  have e1 : (xs.take k ++ (ys ++ cur.drop (k + ys.length))).take (k + s) = xs.take k ++ ys := by
    rw [← List.append_assoc, List.take_append_of_le_length (by simp; omega)]
    exact List.take_of_length_le (by simp; omega)
  rw [e1, ← List.append_assoc, List.take_append_of_le_length (by simp; omega)]
  exact List.take_of_length_le (by simp; omega)
theorem del_place {α : Type} (cur xs : List α) (k s : Nat) (hx : cur.take xs.length = xs) (hk : k + s ≤ xs.length) :
    (splice cur k (xs.drop (k + s))).take (xs.length - s) = xs.take k ++ xs.drop (k + s) := by
  have hc : cur = xs ++ cur.drop xs.length := by
    conv => lhs; rw [← List.take_append_drop xs.length cur]
    rw [hx]
  generalize cur.drop xs.length = r at hc
  subst hc
  unfold splice
  have e1 : (xs ++ r).take k = xs.take k := List.take_append_of_le_length (by omega)
  rw [e1, ← List.append_assoc, List.take_append_of_le_length (by simp; omega)]
  exact List.take_of_length_le (by simp; omega)
end Go.Proofs.YtmpemeemlhmaaaaGreat

namespace Go.Proofs.YtmpemeemlhmaaaaGreat
open Go.RowKit

section
variable {P : Program}
theorem wpList_run_nil {w : World} {ops : Array Oper} {rest : List Oper} {o : Oper} {a : Act} {Q : Exit → Act → World → Prop} (hgd : o.guard = none) (s x : Operand) (t tn : TypeId)
    (ho : o.op = .call { callee := .builtin .append, args := #[s, x], argTypes := #[t, tn] }) (u v r : Value) (hs : a.eval s = u) (hx : a.eval x = v) (w2 : World)
    (hrun : ∀ ty, (Builtin.append_ #[t, tn] ty #[u, v]).run P w = .ok r w2) (h : wpList P ops Q rest (a.put o.dst r) w2) : wpList P ops Q (o :: rest) a w := by
  refine wpList_plain hgd fun K hK => ?_
  unfold Oper.wp
  simp [execOp, ho, resolve, invoke, builtin, hs, hx, hrun, Result.andThen]
  exact hK _ _ h
end
set_option maxRecDepth 100000 in
theorem grow_any (k : Nat) (hk : k ≤ 1000000000) (w : World) :
    Calls Tryz.prog 125 #[.slice none 0 0, .int .i64 k] w fun e w' => ∃ v, e = .returned v ∧ w'.ownsRow w.heap.size 5 1 v 0 [] ∧ Below w.heap.size w w' := by
  obtain ⟨i0, hi0, hz0, hz1, hz2⟩ := info_parts infoU8
  rcases Nat.eq_zero_or_pos k with h0 | h0
  · subst h0
    go_enter Tryz.func125, Tryz.ntmps125
    go_wp2
    go_ret
    exact ⟨_, rfl, World.ownsRow_nil _ _ _ _, Below.refl _ _⟩
  · have hrun := fun ty => Lib.run_append_grow_zeros (P := Tryz.prog) w 32 3 ty 5 i0 (.int .u8 0) .i64 .i64 Tryz.underlying32 Tryz.underlying3 hi0 hz0 none 0 0 [] (by simp [Builtin.firstCells]) k h0 (by omega) (by omega) (by omega) (by rw [hz2]; omega) (growslice_fits (by omega) (by rw [hz2]; omega))
    have hge := grownCap_ge w (0 + k) 0 5
    have hle := grownCap_le_maxLen w (0 + k) 0 5 (by unfold maxLen; omega)
    rw [Nat.zero_add] at hrun hge hle
    obtain ⟨cap, hcap⟩ : ∃ cap, grownCap w k 0 5 = cap := ⟨_, rfl⟩
    rw [hcap] at hrun hge hle
    obtain ⟨cells, hcells⟩ : ∃ cells, cells = ([] : List Value).toArray ++ Builtin.zeroCells (Value.int .u8 0).cells k ++ Builtin.zeroCells (Value.int .u8 0).cells (cap - k) := ⟨_, rfl⟩
    have hsz : cells.size = cap * 1 := by
      rw [hcells]
      simp only [Array.size_append, List.size_toArray, List.length_nil, size_zeroCells, show (Value.int .u8 0).cells.size = 1 from rfl]
      omega
    rw [← hcells] at hrun
    have O1 := Lib.hid (World.ownsRow_made w.drew cells cap (base := w.heap.size) (e := 5) (size := 1) (Nat.le_refl _) hle hsz)
    have hc0 : (0 : Int) ≤ (cap : Int) := by omega
    have hcne : ¬ cap = 0 := by omega
    have hle2 : (cap : Int) ≤ 9223372036854775807 := by unfold maxLen at hle; omega
    have HRUN := Lib.hid hrun
    clear hcells hcap hsz hle hrun
    go_enter Tryz.func125, Tryz.ntmps125
    go_wp2_with (at_builtin; refine wpList_run_nil rfl (.tmp 20) (.tmp 21) _ _ rfl (.slice none 0 0) (.int .i64 k) _ rfl rfl _ HRUN.out ?_)
    go_ret
    exact ⟨_, rfl, O1.out, ((Below.refl w.heap.size w).drew).alloc (Nat.le_refl _) _⟩
/-! ### Concat -/
def slcA (x : Slc) : Array Value := #[.slice x.A x.n x.c]
theorem slcA_size (x : Slc) : (slcA x).size = 1 := rfl
abbrev RdS := RdR slcA 1
def sumS (l : List Slc) : Nat := (l.map (·.n)).sum
theorem sumS_take (l : List Slc) (i : Nat) (hi : i < l.length) : sumS (l.take (i + 1)) = sumS (l.take i) + (l.getD i noSlc).n := by
  rw [← take_snocR noSlc l i hi]; simp [sumS]
theorem sumS_le (l : List Slc) (i : Nat) : sumS (l.take i) ≤ sumS l := by
  unfold sumS
  conv => rhs; rw [← List.take_append_drop i l, List.map_append, List.sum_append]
  omega
/-- what each of some slices holds -/
def Held (W : World) (B : Nat) (l : List Slc) (bss : List (List UInt8)) : Prop := l.length = bss.length ∧ ∀ i, i < l.length → RdB W B (l.getD i noSlc).A (l.getD i noSlc).n (bss.getD i [])
theorem flat_take (l : List (List UInt8)) (i : Nat) (hi : i < l.length) : (l.take (i + 1)).flatten = (l.take i).flatten ++ l.getD i [] := by
  rw [← take_snocR [] l i hi]; simp
theorem flat_len {W : World} {B : Nat} {l : List Slc} {bss : List (List UInt8)} (h : Held W B l bss) (i : Nat) (hi : i ≤ l.length) : (bss.take i).flatten.length = sumS (l.take i) := by
  induction i with
  | zero => simp [sumS]
  | succ i ih =>
    have h1 := (h.2 i (by omega)).len
    rw [flat_take bss i (by have := h.1; omega), List.length_append, ih (by omega), sumS_take l i (by omega), h1]
/-- what Concat answers: one text behind the other, in new memory -/
def CatP (bss : List (List UInt8)) (w : World) (e : Ending) (w' : World) : Prop := ∃ v, e = .returned v ∧ w'.ownsRow w.heap.size 5 1 v bss.flatten.length (bss.flatten.map bv) ∧ Below w.heap.size w w'
theorem cat_end {w wr : World} {A' : Option Addr} {m c' j : Nat} {bss : List (List UInt8)} (ho : wr.ownsRow w.heap.size 5 1 (.slice A' m c') m ((bss.take j).flatten.map bv)) (hf : bss.take j = bss) (hb : Below w.heap.size w wr) : CatP bss w (.returned (.slice A' m c')) wr := by
  rw [hf] at ho
  have h2 := ho.1
  rw [List.length_map, Nat.mul_one] at h2
  refine ⟨_, rfl, ?_, hb⟩
  rw [h2]
  exact ho
set_option maxRecDepth 100000 in
set_option maxHeartbeats 4000000 in
theorem concat_any (l : List Slc) (bss : List (List UInt8)) (A : Option Addr) (n c : Nat) (w : World) (hR : RdS w w.heap.size A n l) (hH : Held w w.heap.size l bss) (hn : n ≤ 1000) (hs : sumS l ≤ 1000000000) :
    Calls Tryz.prog 85 #[.slice A n c] w (CatP bss w) := by
  obtain ⟨i0, hi0, hz0, hz1, hz2⟩ := info_parts infoU8
  have HR := Lib.hid hR
  have HH := Lib.hid hH
  have HN := Lib.hid hR.1
  have HS := Lib.hid hs
  clear hR hH
  go_enter Tryz.func85, Tryz.ntmps85
  go_wp2
  go_loop [3, 11] (fun s3 s11 => ∃ i : Nat, i ≤ n ∧ s11 = .int .i64 i ∧ s3 = .int .i64 (sumS (l.take i) : Nat)) (fun _ s11 => n - (intOf s11).toNat)
  case atStart => exact ⟨0, by omega, rfl, rfl⟩
  case round =>
    obtain ⟨i, hi, rfl, rfl⟩ := hrel
    by_cases hlt : i < n
    · have hlt2 : (i : Int) < n := by omega
      obtain ⟨b, o, rfl, hbb, hcell⟩ := RdR.cell slcA_size noSlc HR.out hlt
      have hc0 := hcell 0 (by omega)
      have hst := sumS_take l i (by rw [HN.out]; exact hlt)
      have hsl := sumS_le l (i + 1)
      obtain ⟨y, hy⟩ : ∃ y, l.getD i noSlc = y := ⟨_, rfl⟩
      rw [hy] at hc0 hst
      have hc1 : w.cell? ⟨b, o + i, none⟩ = some (.slice y.A y.n y.c) := by simpa [slcA] using hc0
      obtain ⟨z, hz⟩ : ∃ z, sumS (l.take i) = z := ⟨_, rfl⟩
      have hzb : z + y.n ≤ 1000000000 := by have := HS.out; omega
      rw [hz] at hst ⊢
      have HST := Lib.hid hst
      clear hcell hc0 hy hz hst hsl
      go_wp2
      go_round
      case rel => exact ⟨i + 1, by omega, by go_num, by rw [HST.out]; go_num⟩
      case measure => simp [intOf] <;> omega
    · have hge : ¬ (i : Int) < n := by omega
      have HT := Lib.hid (show sumS (l.take i) = sumS l by rw [List.take_of_length_le (by rw [HN.out]; omega)])
      obtain ⟨z, hz⟩ : ∃ z, sumS (l.take i) = z := ⟨_, rfl⟩
      rw [hz] at HT ⊢
      have hzb : z ≤ 1000000000 := by rw [HT.out]; exact HS.out
      clear hz
      go_wp2_with fail
      refine (grow_any z hzb w).mono ?_
      rintro e w1 ⟨v, rfl, ho, hb⟩
      obtain ⟨A0, c0, rfl, _, _⟩ := own_form ho
      have O0 := Lib.hid ho
      have B0 := Lib.hid hb
      clear ho hb
      go_wp2
      go_loopw [6, 27] (fun s6 s27 wr => ∃ (j m : Nat) (A' : Option Addr) (c' : Nat), j ≤ n ∧ s27 = .int .i64 j ∧ s6 = .slice A' m c' ∧ wr.ownsRow w.heap.size 5 1 (.slice A' m c') m ((bss.take j).flatten.map bv) ∧ Below w.heap.size w wr) (fun _ s27 _ => n - (intOf s27).toNat)
      case atStart => exact ⟨0, 0, A0, c0, by omega, rfl, rfl, O0.out, B0.out⟩
      case round =>
        obtain ⟨j, m, A', c', hj, rfl, rfl, ho, hb⟩ := hrel
        have HO := Lib.hid ho
        have HB := Lib.hid hb
        have HM := Lib.hid (show m ≤ 1000000000 by
          have h1 := ho.1
          rw [List.length_map, flat_len HH.out j (by rw [HN.out]; exact hj)] at h1
          have := sumS_le l j
          have := HS.out
          omega)
        clear ho hb
        by_cases hlt : j < n
        · have hlt2 : (j : Int) < n := by omega
          obtain ⟨b, o, rfl, hbb, hcell⟩ := RdR.cell slcA_size noSlc (HR.out.to HB.out (Nat.le_refl _)) hlt
          have hc0 := hcell 0 (by omega)
          have hrd := (HH.out.2 j (by rw [HN.out]; exact hlt)).to HB.out (Nat.le_refl _)
          have hst := sumS_take l j (by rw [HN.out]; exact hlt)
          have hsl := sumS_le l (j + 1)
          have HFL := Lib.hid (flat_take bss j (by have := HH.out.1; have := HN.out; omega))
          have HML := Lib.hid (show m = sumS (l.take j) by have h1 := HO.out.1; rw [List.length_map, flat_len HH.out j (by rw [HN.out]; exact hj)] at h1; omega)
          obtain ⟨y, hy⟩ : ∃ y, l.getD j noSlc = y := ⟨_, rfl⟩
          rw [hy] at hc0 hst hrd
          have hc1 : wr.cell? ⟨b, o + j, none⟩ = some (.slice y.A y.n y.c) := by simpa [slcA] using hc0
          have HRD := Lib.hid hrd
          have H63 := Lib.hid (show m + y.n ≤ maxLen by have := HS.out; have := HML.out; unfold maxLen; omega)
          have HBY := Lib.hid (show (m + y.n) * 1 ≤ 140737488355328 by have := HS.out; have := HML.out; omega)
          have BS := Lib.hid HB.out.size
          have ON := Lib.hid (bvs_one (bss.getD j []))
          have GR := Lib.hid (fun w5 (hg : wr.grownBy w5 (Value.slice A' m c').ownBlock) => show Below w.heap.size w w5 from HB.out.grown hg HB.out.size (fun x hx => (HO.out.lt x hx).1))
          clear hcell hc0 hy hst hsl hrd
          go_wp2_with (at_builtin; refine wpList_app_rd _ rfl (.tmp 31) (.tmp 32) _ rfl w.heap.size 5 i0 (.int .u8 0) 1 1 Tryz.underlying32 hi0 hz0 hz1 hz2 rfl (Nat.le_refl 1) (.slice A' m c') m ((bss.take j).flatten.map bv) rfl HO.out w.heap.size y.A y.n y.c ((bss.getD j []).map bv) rfl HRD.out ON.out H63.out HBY.out BS.out ?_; intro v1 w5 hown1 hg1 hat1; have O5 := Lib.hid hown1; have G5 := Lib.hid (GR.out _ hg1); clear hown1 hg1 hat1)
          obtain ⟨A5, c5, rfl, _, _⟩ := own_form O5.out
          go_roundw
          case rel => exact ⟨j + 1, m + y.n, A5, c5, by omega, by go_num, rfl, by rw [HFL.out, List.map_append]; exact O5.out, G5.out⟩
          case measure => simp [intOf] <;> omega
        · have hge2 : ¬ (j : Int) < n := by omega
          have HF := Lib.hid (show bss.take j = bss from List.take_of_length_le (by have := HH.out.1; have := HN.out; omega))
          go_wp2
          go_ret
          exact cat_end HO.out HF.out HB.out
end Go.Proofs.YtmpemeemlhmaaaaGreat

namespace Go.Proofs.YtmpemeemlhmaaaaGreat
open Go.RowKit

/-- v is a row of the call's own, made at B or behind, that holds bs; since w0 nothing turned but the row that it had then -/
structure Ow (B : Nat) (g0 : Option Nat) (w0 : World) (v : Value) (bs : List UInt8) (w : World) : Prop where
  own : w.ownsRow B 5 1 v bs.length (bs.map bv)
  gr : w0.grownBy w g0
  blk : v.ownBlock = g0 ∨ ∃ k, v.ownBlock = some k ∧ w0.heap.size ≤ k
  hB : B ≤ w0.heap.size
  gb : ∀ k, g0 = some k → B ≤ k ∧ k < w0.heap.size
theorem ow_set {a w : World} {g : Option Nat} (h : a.grownBy w g) {p : Addr} (hp : some p.block = g ∨ a.heap.size ≤ p.block) (u : Value) : a.grownBy (w.setCell p u) g :=
  ⟨h.os, h.tape, h.output, by simpa [World.setCell] using h.size, fun i hi hne => (Below.heap_setCell w p u i (by
    rintro rfl
    rcases hp with hp | hp
    · exact hne hp
    · omega)).trans (h.block i hi hne)⟩
section
variable {B : Nat} {g0 : Option Nat} {w0 W W' : World} {v v' : Value} {bs bs' : List UInt8}
theorem Ow.nil (w : World) : Ow w.heap.size none w (.slice none 0 0) [] w := ⟨World.ownsRow_nil _ _ _ _, World.grownBy.refl _ _, .inl rfl, Nat.le_refl _, fun k h => by cases h⟩
theorem Ow.nilB {w : World} (hB : B ≤ w.heap.size) : Ow B none w (.slice none 0 0) [] w := ⟨World.ownsRow_nil _ _ _ _, World.grownBy.refl _ _, .inl rfl, hB, fun k h => by cases h⟩
theorem Ow.base (h : Ow B g0 w0 v bs W) : Ow B v.ownBlock W v bs W := ⟨h.own, World.grownBy.refl _ _, .inl rfl, Nat.le_trans h.hB h.gr.size, fun k hk => h.own.lt k hk⟩
theorem Ow.of_own {w : World} {n : Nat} (h : w.ownsRow B 5 1 v n (bs.map bv)) (hB : B ≤ w.heap.size) : Ow B v.ownBlock w v bs w := by
  have h1 := h.1
  rw [List.length_map, Nat.mul_one] at h1
  subst h1
  exact ⟨h, World.grownBy.refl _ _, .inl rfl, hB, fun k hk => h.lt k hk⟩
theorem Ow.go (h : Ow B g0 w0 v bs W) (hb : Below W.heap.size W W') : Ow B g0 w0 v bs W' :=
  ⟨own_below h.own hb, ⟨hb.os.trans h.gr.os, hb.tape.trans h.gr.tape, hb.output.trans h.gr.output, Nat.le_trans h.gr.size hb.size, fun k hk hn => (hb.block k (Nat.lt_of_lt_of_le hk h.gr.size)).trans (h.gr.block k hk hn)⟩, h.blk, h.hB, h.gb⟩
theorem Ow.alloc (h : Ow B g0 w0 v bs W) (ob : Obj) : Ow B g0 w0 v bs (W.alloc ob) := h.go ((Below.refl _ _).alloc (Nat.le_refl _) ob)
theorem Ow.drew (h : Ow B g0 w0 v bs W) : Ow B g0 w0 v bs W.drew := ⟨h.own, ⟨h.gr.os, h.gr.tape, h.gr.output, h.gr.size, h.gr.block⟩, h.blk, h.hB, h.gb⟩
theorem Ow.drewN (h : Ow B g0 w0 v bs W) (k : Nat) : Ow B g0 w0 v bs (W.drewN k) := ⟨h.own, ⟨h.gr.os, h.gr.tape, h.gr.output, h.gr.size, h.gr.block⟩, h.blk, h.hB, h.gb⟩
theorem Ow.step (h : Ow B g0 w0 v bs W) (k : Ow B v.ownBlock W v' bs' W') : Ow B g0 w0 v' bs' W' := by
  refine ⟨k.own, ⟨k.gr.os.trans h.gr.os, k.gr.tape.trans h.gr.tape, k.gr.output.trans h.gr.output, Nat.le_trans h.gr.size k.gr.size, fun i hi hn => (k.gr.block i (Nat.lt_of_lt_of_le hi h.gr.size) (fun e => ?_)).trans (h.gr.block i hi hn)⟩, ?_, h.hB, h.gb⟩
  · rcases h.blk with h1 | ⟨j, h1, h2⟩
    · exact hn (e.trans h1)
    · rw [h1] at e; injection e with e; omega
  · rcases k.blk with h1 | ⟨j, h1, h2⟩
    · rw [h1]; exact h.blk
    · exact .inr ⟨j, h1, Nat.le_trans h.gr.size h2⟩
theorem Ow.box {q : Nat} {c : Array Value} (h : Ow B g0 w0 v bs W) (hb : Box w0 q c) (hq : some q ≠ g0) : Box W q c := hb.grown h.gr hq
theorem Ow.below (h : Ow B g0 w0 v bs W) : Below B w0 W := ⟨h.gr.os, h.gr.tape, h.gr.output, h.gr.size, fun k hk => h.gr.block k (Nat.lt_of_lt_of_le hk h.hB) (fun e => by have := (h.gb k e.symm).1; omega)⟩
theorem Ow.bel (h : Ow B none w0 v bs W) : Below w0.heap.size w0 W := ⟨h.gr.os, h.gr.tape, h.gr.output, h.gr.size, fun k hk => h.gr.block k hk (fun e => by cases e)⟩
theorem Ow.form (h : Ow B g0 w0 v bs W) : ∃ A c, v = .slice A bs.length c := by obtain ⟨A, c, e, _⟩ := own_form h.own; exact ⟨A, c, e⟩
theorem Ow.len {A : Option Addr} {n c k : Nat} (h : Ow B g0 w0 (.slice A n c) bs W) (hk : n = k) : Ow B g0 w0 (.slice A k c) bs W := hk ▸ h
theorem Ow.lt (h : Ow B g0 w0 v bs W) {k : Nat} (hk : v.ownBlock = some k) : k < W.heap.size := (h.own.lt k hk).2
theorem Ow.size (h : Ow B g0 w0 v bs W) : B ≤ W.heap.size := Nat.le_trans h.hB h.gr.size
theorem Ow.set (h : Ow B g0 w0 v bs W) {p : Addr} (u : Value) (hp : v.ownBlock ≠ some p.block) (hg : some p.block = g0 ∨ w0.heap.size ≤ p.block) : Ow B g0 w0 v bs (W.setCell p u) :=
  ⟨own_set_ne h.own hp u, ow_set h.gr hg u, h.blk, h.hB, h.gb⟩
end
/-- what is answered when something was laid behind bytes -/
def OwP (B : Nat) (v : Value) (bs : List UInt8) (w : World) (e : Ending) (w' : World) : Prop := ∃ A n c, e = .returned (.slice A n c) ∧ Ow B v.ownBlock w (.slice A n c) bs w'
theorem OwP.mk' {B : Nat} {v u : Value} {bs : List UInt8} {w w' : World} (h : Ow B v.ownBlock w u bs w') : OwP B v bs w (.returned u) w' := by
  obtain ⟨A, c, rfl⟩ := h.form
  exact ⟨A, _, c, rfl, h⟩
section
variable {P : Program} {w : World}
theorem infoU8s : ∃ i : TypeInfo, Tryz.prog.info? 5 = some i ∧ i.zero = some (.int .u8 0) ∧ i.size = 1 ∧ i.bytes = 1 := info_parts infoU8
theorem wpList_ow {ops : Array Oper} {rest : List Oper} {o : Oper} {a : Act} {Q : Exit → Act → World → Prop} (hgd : o.guard = none) (s x : Operand)
    (ho : o.op = .call { callee := .builtin .append, args := #[s, x], argTypes := #[32, 32] })
    {B : Nat} {g0 : Option Nat} {w0 : World} {v : Value} {bs ys : List UInt8} (hs : a.eval s = v) (H : Ow B g0 w0 v bs w) {C : Nat} {A : Option Addr} {m c : Nat} (hx : a.eval x = .slice A m c) (hr : RdB w C A m ys)
    (hlen : bs.length + m ≤ 1000000000)
    (h : ∀ A' n' c' w', Ow B g0 w0 (.slice A' n' c') (bs ++ ys) w' → Ow B v.ownBlock w (.slice A' n' c') (bs ++ ys) w' → wpList Tryz.prog ops Q rest (a.put o.dst (.slice A' n' c')) w') : wpList Tryz.prog ops Q (o :: rest) a w := by
  obtain ⟨i0, hi0, hz0, hz1, hz2⟩ := infoU8s
  have hm := hr.len
  refine wpList_app_rd w hgd s x _ ho B 5 i0 (.int .u8 0) 1 1 Tryz.underlying32 hi0 hz0 hz1 hz2 rfl (Nat.le_refl 1) v bs.length (bs.map bv) hs H.own C A m c (ys.map bv) hx hr (bvs_one ys) (by unfold maxLen; omega) (by omega) H.size ?_
  intro v1 w1 h1 h2 h3
  rw [← List.map_append, ← hm, ← List.length_append] at h1
  have hk : Ow B v.ownBlock w v1 (bs ++ ys) w1 := ⟨h1, h2, by rcases h3 with h | h; exact .inl h; exact .inr ⟨_, h, Nat.le_refl _⟩, H.size, fun k hk => H.own.lt k hk⟩
  obtain ⟨A', c', rfl⟩ := hk.form
  exact h A' _ c' w1 (H.step hk) hk
theorem wp_ow {o : Oper} {a : Act} {K : Act → World → Prop} {Q : Exit → Act → World → Prop} (s x : Operand)
    (ho : o.op = .call { callee := .builtin .append, args := #[s, x], argTypes := #[32, 32] })
    {B : Nat} {g0 : Option Nat} {w0 : World} {v : Value} {bs ys : List UInt8} (hs : a.eval s = v) (H : Ow B g0 w0 v bs w) {C : Nat} {A : Option Addr} {m c : Nat} (hx : a.eval x = .slice A m c) (hr : RdB w C A m ys)
    (hlen : bs.length + m ≤ 1000000000)
    (h : ∀ A' n' c' w', Ow B g0 w0 (.slice A' n' c') (bs ++ ys) w' → Ow B v.ownBlock w (.slice A' n' c') (bs ++ ys) w' → K (a.put o.dst (.slice A' n' c')) w') : o.wp Tryz.prog a w K Q := by
  obtain ⟨i0, hi0, hz0, hz1, hz2⟩ := infoU8s
  have hm := hr.len
  refine wp_app_rd w s x _ ho B 5 i0 (.int .u8 0) 1 1 Tryz.underlying32 hi0 hz0 hz1 hz2 rfl (Nat.le_refl 1) v bs.length (bs.map bv) hs H.own C A m c (ys.map bv) hx hr (bvs_one ys) (by unfold maxLen; omega) (by omega) H.size ?_
  intro v1 w1 h1 h2 h3
  rw [← List.map_append, ← hm, ← List.length_append] at h1
  have hk : Ow B v.ownBlock w v1 (bs ++ ys) w1 := ⟨h1, h2, by rcases h3 with h | h; exact .inl h; exact .inr ⟨_, h, Nat.le_refl _⟩, H.size, fun k hk => H.own.lt k hk⟩
  obtain ⟨A', c', rfl⟩ := hk.form
  exact h A' _ c' w1 (H.step hk) hk
theorem strCells_text (s : List UInt8) : Lib.strCells (textOf s) = s.map bv := by simp [Lib.strCells, textOf, bv]
theorem text_size (s : List UInt8) : (textOf s).size = s.length := by simp [textOf, ByteArray.size]
/-- whose row what is answered lies in -/
theorem append_text_blk (base : Nat) (t u ty e : TypeId) (i : TypeInfo) (ht : P.underlying t = some (.slice e)) (hu : P.underlying u = some .string) (hi : P.info? e = some i) (hz : i.zero = some (.int .u8 0))
    (hsize : i.size = 1) (hby : i.bytes = 1) (v : Value) (n : Nat) (xs : List Value) (hown : w.ownsRow base e 1 v n xs) (s : ByteArray) (h63 : n + s.size ≤ maxLen) (hbytes : n + s.size ≤ 140737488355328)
    (v' : Value) (w' : World) (hr : (Builtin.append_ #[t, u] ty #[v, .string s]).run P w = .ok v' w') : v'.ownBlock = v.ownBlock ∨ v'.ownBlock = some w.heap.size := by
  have hsmall : n + s.size ≤ 9223372036854775807 := by simp only [maxLen] at h63; omega
  have hxl : xs.length = n := by simpa using hown.1
  rcases hown.2 with ⟨rfl, rfl⟩ | ⟨g, cap, cur, rfl, hbg, hg, hnc, hcm, hcs, htake⟩
  · by_cases hm : s.size = 0
    · have hf := Lib.run_firstCells_string (P := P) w 1 s
      rw [hm] at hf
      simp [Builtin.append_, run_underlying ht, run_underlying hu, sizeOf, typeInfo, hi, hsize, Builtin.lenOf, hm, hf] at hr
      rw [← hr.1]
      exact .inl rfl
    · have hr2 := run_append_nil_string (P := P) w t u ty e i (.int .u8 0) ht hu hi hz s (by omega) (by omega) (by rw [hby]; omega)
      rw [hr2] at hr
      injection hr with h1 h2
      rw [← h1]
      exact .inr rfl
  · by_cases hroom : n + s.size ≤ cap
    · have hcs' : cur.size = cap := by simpa using hcs
      have hr2 := Lib.run_append_room_string (P := P) w t u ty e i ht hu hi hsize g n cap cur hg s hroom (by omega)
      rw [hr2] at hr
      injection hr with h1 h2
      rw [← h1]
      exact .inl rfl
    · have holds : ∀ j u, xs[j]? = some u → w.cell? ((⟨g, 0, none⟩ : Addr).add j) = some u := hown.cells (g := g) rfl
      have hr2 := Lib.run_append_grow_string (P := P) w t u ty e i (.int .u8 0) ht hu hi hz ⟨g, 0, none⟩ n cap xs (by rw [hsize]; simpa using hxl) holds s (by omega) (by omega) (by rw [hby]; exact growslice_fits (by omega) (by omega))
      rw [hr2] at hr
      injection hr with h1 h2
      rw [← h1]
      exact .inr rfl
theorem wpList_ow_text {ops : Array Oper} {rest : List Oper} {o : Oper} {a : Act} {Q : Exit → Act → World → Prop} (hgd : o.guard = none) (s x : Operand)
    (ho : o.op = .call { callee := .builtin .append, args := #[s, x], argTypes := #[32, 9] })
    {B : Nat} {g0 : Option Nat} {w0 : World} {v : Value} {bs ys : List UInt8} (hs : a.eval s = v) (H : Ow B g0 w0 v bs w) (hx : a.eval x = .string (textOf ys))
    (hlen : bs.length + ys.length ≤ 1000000000)
    (h : ∀ A' n' c' w', Ow B g0 w0 (.slice A' n' c') (bs ++ ys) w' → Ow B v.ownBlock w (.slice A' n' c') (bs ++ ys) w' → wpList Tryz.prog ops Q rest (a.put o.dst (.slice A' n' c')) w') : wpList Tryz.prog ops Q (o :: rest) a w := by
  obtain ⟨i0, hi0, hz0, hz1, hz2⟩ := infoU8s
  have hsz := text_size ys
  refine wpList_plain hgd fun K hK => ?_
  obtain ⟨v1, w1, hr, h1, h2, _⟩ := Lib.run_append_own_string (P := Tryz.prog) w B _ _ o.type 5 i0 Tryz.underlying32 Tryz.underlying9 hi0 hz0 hz1 hz2 v bs.length (bs.map bv) H.own (textOf ys) (by unfold maxLen; omega) (by omega) H.size
  have h3 := append_text_blk B _ _ o.type 5 i0 Tryz.underlying32 Tryz.underlying9 hi0 hz0 hz1 hz2 v bs.length (bs.map bv) H.own (textOf ys) (by unfold maxLen; omega) (by omega) v1 w1 hr
  rw [strCells_text, ← List.map_append, hsz, ← List.length_append] at h1
  have hk : Ow B v.ownBlock w v1 (bs ++ ys) w1 := ⟨h1, h2, by rcases h3 with h | h; exact .inl h; exact .inr ⟨_, h, Nat.le_refl _⟩, H.size, fun k hk => H.own.lt k hk⟩
  unfold Oper.wp execOp
  simp only [ho, resolve, invoke, builtin, Sem.run_bind, Sem.run_pure, Result.andThen_ok, List.map_toArray, List.map_cons, List.map_nil, hs, hx, hr]
  obtain ⟨A', c', rfl⟩ := hk.form
  exact hK _ _ (h A' _ c' w1 (H.step hk) hk)
end
/-! ### numbers -/
def intA (z : Int) : Array Value := #[.int .i64 z]
theorem intA_size (z : Int) : (intA z).size = 1 := rfl
abbrev RdI := RdR intA 1
def numsB (l : List Int) : List UInt8 := l.flatMap fun z => varB z.toNat
theorem numsB_snoc (l : List Int) (i : Nat) (hi : i < l.length) : numsB (l.take (i + 1)) = numsB (l.take i) ++ varB (l.getD i 0).toNat := by
  rw [← take_snocR 0 l i hi]; simp [numsB]
theorem numsB_len (l : List Int) : (numsB l).length ≤ 10 * l.length := by
  induction l with
  | nil => simp [numsB]
  | cons z l ih =>
    have := varB_len z.toNat
    simp only [numsB, List.flatMap_cons, List.length_append, List.length_cons] at ih ⊢
    omega
set_option maxRecDepth 100000 in
set_option maxHeartbeats 4000000 in
theorem numbers_any (B : Nat) (v : Value) (bs : List UInt8) (l : List Int) (A : Option Addr) (n c : Nat) (w : World) (H : Ow B v.ownBlock w v bs w) (hR : RdI w w.heap.size A n l) (hA : ∀ a, A = some a → some a.block ≠ v.ownBlock)
    (hl : ∀ z ∈ l, 0 ≤ z ∧ z ≤ 9223372036854775807) (hn : n ≤ 1000) (hb : bs.length ≤ 900000000) :
    Calls Tryz.prog 31 #[v, .slice A n c] w (OwP B v (bs ++ numsB l) w) := by
  have hnl := hR.1
  have HH := Lib.hid H
  have HR := Lib.hid hR
  have HA := Lib.hid hA
  have HL := Lib.hid hl
  obtain ⟨A0, c0, rfl⟩ := H.form
  clear H hR hA hl
  go_enter Tryz.func31, Tryz.ntmps31
  go_wp2
  go_loopw [0, 9] (fun s0 s9 wr => ∃ (i : Nat) (A' : Option Addr) (m' c' : Nat), i ≤ n ∧ s9 = .int .i64 i ∧ s0 = .slice A' m' c' ∧ Ow B (Value.slice A0 bs.length c0).ownBlock w (.slice A' m' c') (bs ++ numsB (l.take i)) wr) (fun _ s9 _ => n - (intOf s9).toNat)
  case atStart => exact ⟨0, A0, bs.length, c0, by omega, rfl, rfl, by simpa [numsB] using HH.out⟩
  case round =>
    obtain ⟨i, A', m', c', hi, rfl, rfl, h⟩ := hrel
    have HO := Lib.hid h
    by_cases hlt : i < n
    · have hlt2 : (i : Int) < n := by omega
      obtain ⟨b, o, rfl, hbb, hcell⟩ := RdR.cell intA_size 0 (HR.out.grownO h.gr HA.out) hlt
      have hc0 := hcell 0 (by omega)
      have hzz := HL.out _ (getD_mem 0 l i (by omega))
      have hs := numsB_snoc l i (by omega)
      have hbl : (bs ++ numsB (l.take i)).length ≤ 990000000 := by
        have := numsB_len (l.take i)
        rw [List.length_append]
        rw [List.length_take] at this
        omega
      obtain ⟨z, hz⟩ : ∃ z, l.getD i 0 = z := ⟨_, rfl⟩
      rw [hz] at hc0 hzz hs
      have hc1 : wr.cell? ⟨b, o + i, none⟩ = some (.int .i64 z) := by simpa [intA] using hc0
      have HS := Lib.hid hs
      obtain ⟨k, rfl⟩ : ∃ k : Nat, z = (k : Int) := ⟨z.toNat, by omega⟩
      have hk : k < 18446744073709551616 := by omega
      have hcv : IntKind.u64.wrap (k : Int) = (k : Int) := by rw [IntKind.wrap_u64]; omega
      have VP := Lib.hid (fun W => varPut_any k hk W)
      have HBL := Lib.hid hbl
      clear hcell hc0 hz hs hzz h hbl
      go_wp2_with fail
      refine (VP.out _).mono ?_
      rintro e w1 ⟨u, rfl, hu, hbu⟩
      obtain ⟨A1, c1, rfl, _, _⟩ := own_form hu
      have O1 := Lib.hid (HO.out.go hbu)
      have R1 := Lib.hid (RdB.of_own hu)
      have HV := Lib.hid (varB_len k)
      clear hu hbu
      go_wp2_with (at_builtin; refine wpList_ow rfl (.tmp 13) (.tmp 16) rfl rfl O1.out rfl R1.out (by have := HV.out; have := HBL.out; omega) ?_; intro A2 n2 c2 w2 h2 h3; have O2 := Lib.hid h2; clear h2 h3)
      go_roundw
      case rel => exact ⟨i + 1, A2, n2, c2, by omega, by go_num, rfl, by rw [HS.out, ← List.append_assoc]; exact O2.out⟩
      case measure => simp [intOf] <;> omega
    · have hge : ¬ (i : Int) < n := by omega
      have HF := Lib.hid (show l.take i = l from List.take_of_length_le (by omega))
      clear h
      go_wp2
      go_ret
      exact .mk' (by have := HO.out; rw [HF.out] at this; exact this)
/-! ### literals of numbers -/
theorem infoInt : ∃ i : TypeInfo, Tryz.prog.info? 3 = some i ∧ i.zero = some (.int .i64 0) ∧ i.size = 1 := by
  cases h : Tryz.prog.info? 3 with
  | none => exact absurd h (by have : (Tryz.prog.info? 3).isSome = true := by kernel_rfl
                               intro e; rw [e] at this; cases this)
  | some i =>
    have h1 : (Tryz.prog.info? 3).map (·.size) = some 1 := by kernel_rfl
    have h3 : (Tryz.prog.info? 3).map (·.zero) = some (some (.int .i64 0)) := by kernel_rfl
    rw [h] at h1 h3
    simp at h1 h3
    exact ⟨i, rfl, h3, h1⟩
theorem range1 : Array.range 1 = #[0] := by apply Array.ext'; rw [Array.toList_range]; rfl
theorem range2 : Array.range 2 = #[0, 1] := by apply Array.ext'; rw [Array.toList_range]; rfl
theorem range3 : Array.range 3 = #[0, 1, 2] := by apply Array.ext'; rw [Array.toList_range]; rfl
def mkInts (n : Nat) (ps : Array (Nat × Value)) : Sem Value := Instr.buildSlice 71 n ps
@[go_sem ↓] theorem mkInts_is (n : Nat) (ps : Array (Nat × Value)) : Instr.buildSlice 71 n ps = mkInts n ps := rfl
def intsC (l : List Int) : Array Value := (l.map (Value.int .i64)).toArray
@[go_sem] theorem run_mkInts1 (w : World) (a : Int) : (mkInts 1 #[(0, .int .i64 a)]).run Tryz.prog w = .ok (.slice (some ⟨w.heap.size, 0, none⟩) 1 1) (w.alloc (.cells (intsC [a]) 3)) := by
  obtain ⟨i0, hi0, hz0, hz1⟩ := infoInt
  simp [mkInts, Instr.buildSlice, run_underlying Tryz.underlying71, zeroValue, sizeOf, typeInfo, hi0, hz0, hz1, Instr.fill, newRow, intsC, Value.cells, range1, range2, range3]
@[go_sem] theorem run_mkInts2 (w : World) (a b : Int) : (mkInts 2 #[(0, .int .i64 a), (1, .int .i64 b)]).run Tryz.prog w = .ok (.slice (some ⟨w.heap.size, 0, none⟩) 2 2) (w.alloc (.cells (intsC [a, b]) 3)) := by
  obtain ⟨i0, hi0, hz0, hz1⟩ := infoInt
  simp [mkInts, Instr.buildSlice, run_underlying Tryz.underlying71, zeroValue, sizeOf, typeInfo, hi0, hz0, hz1, Instr.fill, newRow, intsC, Value.cells, range1, range2, range3]
@[go_sem] theorem run_mkInts3 (w : World) (a b c : Int) : (mkInts 3 #[(0, .int .i64 a), (1, .int .i64 b), (2, .int .i64 c)]).run Tryz.prog w = .ok (.slice (some ⟨w.heap.size, 0, none⟩) 3 3) (w.alloc (.cells (intsC [a, b, c]) 3)) := by
  obtain ⟨i0, hi0, hz0, hz1⟩ := infoInt
  simp [mkInts, Instr.buildSlice, run_underlying Tryz.underlying71, zeroValue, sizeOf, typeInfo, hi0, hz0, hz1, Instr.fill, newRow, intsC, Value.cells, range1, range2, range3]
/-- a literal's numbers -/
theorem RdI.lit (w : World) (l : List Int) (t : TypeId) : RdI (w.alloc (.cells (intsC l) t)) (w.alloc (.cells (intsC l) t)).heap.size (some ⟨w.heap.size, 0, none⟩) l.length l := by
  have hf : (l.flatMap fun x => (intA x).toList) = l.map (Value.int .i64) := by induction l with
    | nil => rfl
    | cons z l ih => simp only [List.flatMap_cons, ih]; rfl
  refine ⟨rfl, ⟨by rw [hf]; simp, fun _ => ⟨_, rfl, by simp, ?_⟩⟩, fun a h _ => by injection h with h; rw [← h]⟩
  intro j v hv
  rw [hf] at hv
  rw [Addr.add_mid, Nat.zero_add]
  have := cell_new w (intsC l) t j
  rw [this]
  simpa [intsC] using hv
/-- numbers of a literal that was just made -/
theorem numbers_lit (B : Nat) (v : Value) (bs : List UInt8) (l : List Int) (t : TypeId) (n : Nat) (w : World) (H : Ow B v.ownBlock w v bs w) (hl : ∀ z ∈ l, 0 ≤ z ∧ z ≤ 9223372036854775807) (hn : l.length = n) (h1 : n ≤ 1000) (hb : bs.length ≤ 900000000) :
    Calls Tryz.prog 31 #[v, .slice (some ⟨w.heap.size, 0, none⟩) n n] (w.alloc (.cells (intsC l) t)) (OwP B v (bs ++ numsB l) w) := by
  subst hn
  refine (numbers_any B v bs l _ _ _ _ (H.alloc (.cells (intsC l) t)).base (RdI.lit w l t) (fun a ha e => ?_) hl h1 hb).mono ?_
  · injection ha with ha
    subst ha
    have := H.lt e.symm
    exact absurd this (Nat.lt_irrefl _)
  · rintro e w1 ⟨A, m, c, rfl, h⟩
    exact ⟨A, m, c, rfl, (H.alloc (.cells (intsC l) t)).step h⟩
/-! ### a text -/
set_option maxRecDepth 100000 in
set_option maxHeartbeats 4000000 in
theorem snapText_any (B : Nat) (v : Value) (bs s : List UInt8) (w : World) (H : Ow B v.ownBlock w v bs w) (hs : s.length ≤ 1000000) (hb : bs.length ≤ 900000000) :
    Calls Tryz.prog 33 #[v, .string (textOf s)] w (OwP B v (bs ++ textB s) w) := by
  have HH := Lib.hid H
  have hz := text_size s
  have HE := Lib.hid (show bs ++ textB s = (bs ++ numsB [(s.length : Int)]) ++ s by simp [textB, numsB])
  have NL := Lib.hid (numbers_lit B v bs [(s.length : Int)] 3 1 w H (by intro z hz; simp at hz; omega) rfl (by omega) hb)
  have HLN := Lib.hid (numsB_len [(s.length : Int)])
  obtain ⟨A0, c0, rfl⟩ := H.form
  clear H
  go_enter Tryz.func33, Tryz.ntmps33
  go_wp2_with fail
  refine NL.out.mono ?_
  rintro e w1 ⟨A1, n1, c1, rfl, h1⟩
  have O1 := Lib.hid h1
  clear h1
  go_wp2_with (at_builtin; refine wpList_ow_text rfl (.tmp 9) (.tmp 10) rfl rfl O1.out rfl (by have := HLN.out; rw [List.length_append]; simp only [List.length_cons, List.length_nil] at this; omega) ?_; intro A2 n2 c2 w2 h2 h3; have O2 := Lib.hid h2; clear h2 h3)
  go_ret
  exact .mk' (by rw [HE.out]; exact O2.out)
end Go.Proofs.YtmpemeemlhmaaaaGreat
