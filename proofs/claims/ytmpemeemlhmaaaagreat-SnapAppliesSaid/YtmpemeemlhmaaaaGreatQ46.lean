/- The document's Apply answers as the program's (plain). -/
import Derived.Test.YtmpemeemlhmaaaaGreatQ42
import Derived.Test.YtmpemeemlhmaaaaGreatQ29
import Derived.Test.YtmpemeemlhmaaaaGreatQ40
import Derived.Test.YtmpemeemlhmaaaaGreatQ45
import Derived.Test.YtmpemeemlhmaaaaGreatQ30
import Derived.Deep.CutRange
import Derived.Deep.RegionHeldLaw
import Derived.Deep.RegionLaw
set_option linter.unusedSimpArgs false
set_option linter.unusedVariables false
set_option maxRecDepth 100000
namespace Go.Proofs.YtmpemeemlhmaaaaGreat

/-- a name is told in a list, sorted or not -/
def hasU (l : List Bk) (s : List UInt8) : Bool := l.any fun x => x.name == s
def isT (ls : List (List UInt8)) (s : List UInt8) : Bool := ls.any fun x => x == s
theorem isT_mem {ls : List (List UInt8)} {s : List UInt8} : isT ls s = true ↔ s ∈ ls := by simp [isT]
theorem hasU_iff {l : List Bk} {s : List UInt8} : hasU l s = true ↔ s ∈ l.map Bk.name := by
  simp [hasU, List.mem_map]
def keepL (la : List Bk) (gone : List (List UInt8)) (other : List Bk) : List Bk := la.filter fun x => !(isT gone x.name) && !(hasU other x.name)
/-- a delta as the document reads it -/
def readQ (d : List UInt8) : Nat × Nat × List (List UInt8) × List Bk × RS :=
  let a1 := numD M60 (some d)
  let a2 := numD M60 a1.2
  let a3 := rowsQ textR 1024 a2.2
  let a4 := rowsQ bkQ 1024 a3.2
  (a1.1, a2.1, a3.1, a4.1, a4.2)
theorem readQ_put {va vb : Int} {la lb : List Bk} (ha : pRight va la = true) (hb : pRight vb lb = true) :
    readQ (deltaB va vb la lb) = (va.toNat, vb.toNat, goneL la lb, otherL la lb, some []) := by
  have IA := pRight_iff.1 ha
  have IB := pRight_iff.1 hb
  have hg := goneL_len la lb
  have ho := otherL_len la lb
  have e3 := fun t => rowsQ_fwd (ok := fun x : List UInt8 => x.length ≤ 255) textR_fwd 1024 (by omega) t (goneL la lb) (goneL_small (fun x hx => (right_lay ha x hx).1)) (by have := IA.2.2.1; omega)
  have e4 := rowsQ_fwd bkQ_fwd 1024 (by omega) [] (otherL la lb) (fun x hx => right_lay hb x (otherL_mem hx)) (by have := IB.2.2.1; omega)
  have e0 : deltaB va vb la lb = varB va.toNat ++ (varB vb.toNat ++ (varB (goneL la lb).length ++ ((goneL la lb).flatMap textB ++ (varB (otherL la lb).length ++ ((otherL la lb).flatMap bkB ++ []))))) := by
    simp [deltaB, bksB, numsB, List.append_assoc]
  have n1 := numD_fwd M60 va.toNat (varB vb.toNat ++ (varB (goneL la lb).length ++ ((goneL la lb).flatMap textB ++ (varB (otherL la lb).length ++ ((otherL la lb).flatMap bkB ++ []))))) (by have := IA.2.1; rw [M60_is]; omega) (by rw [M60_is]; omega)
  have n2 := numD_fwd M60 vb.toNat (varB (goneL la lb).length ++ ((goneL la lb).flatMap textB ++ (varB (otherL la lb).length ++ ((otherL la lb).flatMap bkB ++ [])))) (by have := IB.2.1; rw [M60_is]; omega) (by rw [M60_is]; omega)
  unfold readQ
  rw [e0, n1]
  simp only [n2, e3, e4]
/-- sorted by their names, like ones beside each other -/
def Wk (l : List Bk) : Prop := l.Pairwise fun a b => ¬ cmpS b.name a.name < 0
theorem keep_perm {va vb : Int} {la lb : List Bk} (ha : pRight va la = true) (hb : pRight vb lb = true) : (keepL la (goneL la lb) (otherL la lb) ++ otherL la lb).Perm lb := by
  have IA := (pRight_iff.1 ha).2.2.2.2
  have IB := (pRight_iff.1 hb).2.2.2.2
  have hob : Srt (otherL la lb) := List.Pairwise.sublist List.filter_sublist IB
  have nd : ∀ l : List Bk, Srt l → l.Nodup := fun l h => (srt_ne h).imp fun hab e => hab (by rw [e])
  refine (List.perm_ext_iff_of_nodup ?_ (nd _ IB)).2 fun y => ?_
  · refine List.nodup_append.2 ⟨(nd _ IA).sublist List.filter_sublist, nd _ hob, ?_⟩
    intro a h1 b h2 e
    subst e
    have h3 := (List.mem_filter.1 h1).2
    simp only [Bool.and_eq_true, Bool.not_eq_true'] at h3
    have h4 : hasU (otherL la lb) a.name = true := hasU_iff.2 (List.mem_map.2 ⟨a, h2, rfl⟩)
    rw [h3.2] at h4; cases h4
  · have hm : y ∈ mergeL la (goneL la lb) (otherL la lb) ↔ y ∈ lb := by rw [merge_delta ha hb]
    rw [← hm]
    unfold mergeL
    rw [mem_insL (srt_delL (srt_insL srt_nil _) _) _ (srt_ne hob), mem_delL (srt_insL srt_nil _), mem_insL srt_nil _ (srt_ne IA)]
    unfold keepL
    rw [List.mem_append, List.mem_filter]
    simp only [Bool.and_eq_true, Bool.not_eq_true']
    have e1 : isT (goneL la lb) y.name = false ↔ y.name ∉ goneL la lb := by
      rw [← Bool.not_eq_true, isT_mem]
    have e2 : hasU (otherL la lb) y.name = false ↔ y.name ∉ (otherL la lb).map Bk.name := by
      rw [← Bool.not_eq_true, hasU_iff]
    rw [e1, e2]
    constructor
    · rintro (⟨h1, h2, h3⟩ | h)
      · exact .inr ⟨⟨.inl h1, h2⟩, h3⟩
      · exact .inl h
    · rintro (h | ⟨⟨h1 | h1, h2⟩, h3⟩)
      · exact .inr h
      · exact .inl ⟨h1, h2, h3⟩
      · exact absurd h1.1 (by simp)
theorem wk_srt {p m : List Bk} (hp : Wk p) (hm : Srt m) (h : p.Perm m) : p = m := by
  refine List.Perm.eq_of_pairwise (le := fun (a b : Bk) => ¬ cmpS b.name a.name < 0) (fun a b h1 h2 h3 h4 => ?_) hp (hm.imp fun {a b} hab => by
    have hab' : cmpS a.name b.name < 0 := hab
    rw [cmpS_swap]; omega) h
  have h5 : cmpS a.name b.name = 0 := by rw [cmpS_swap] at h3; omega
  have h6 : a ∈ m := h.mem_iff.1 h1
  rw [← gotN_mem hm h6, cmpS_zero.1 h5, gotN_mem hm h2]
/-- what the document answers of what it read -/
theorem applyQ_V {va : Int} {la : List Bk} (ha : pRight va la = true) {d : List UInt8} {n0 v : Nat} {gone : List (List UInt8)} {other p : List Bk} {t : List UInt8} (hr : readQ d = (n0, v, gone, other, some t)) (hp : p.Perm (keepL la gone other ++ other)) (hw : Wk p) :
    (if pRight (v : Int) p = true ∧ deltaB va v la p = d then some ((v : Int), p) else none) = applyV va la d := by
  cases hv : applyV va la d with
  | none =>
    apply if_neg
    intro h
    rw [(applyV_iff ha d v p).2 h] at hv
    cases hv
  | some x =>
    obtain ⟨v', m'⟩ := x
    obtain ⟨h1, h2⟩ := (applyV_iff ha d v' m').1 hv
    rw [← h2, readQ_put ha h1] at hr
    simp only [Prod.mk.injEq] at hr
    obtain ⟨_, rfl, rfl, rfl, _⟩ := hr
    have hpm := wk_srt hw (pRight_iff.1 h1).2.2.2.2 (hp.trans (keep_perm ha h1))
    have hvv : ((v'.toNat : Nat) : Int) = v' := by have := (pRight_iff.1 h1).1; omega
    rw [hvv, hpm]
    exact if_pos ⟨h1, h2⟩
theorem applyQ_bad {va : Int} {la : List Bk} (ha : pRight va la = true) {d : List UInt8} {n0 v : Nat} {gone : List (List UInt8)} {other : List Bk} (hr : readQ d = (n0, v, gone, other, none)) : applyV va la d = none := by
  cases hv : applyV va la d with
  | none => rfl
  | some x =>
    obtain ⟨v', m'⟩ := x
    obtain ⟨h1, h2⟩ := (applyV_iff ha d v' m').1 hv
    rw [← h2, readQ_put ha h1] at hr
    simp at hr
end Go.Proofs.YtmpemeemlhmaaaaGreat

namespace Go.Proofs.YtmpemeemlhmaaaaGreat
open Go.RowKit

theorem isT_at {ls : List (List UInt8)} {s : List UInt8} {i : Nat} (hi : i < ls.length) (h : ls.getD i [] = s) : isT ls s = true := by
  rw [isT_mem, ← h]; exact getD_mem _ _ _ hi
theorem isT_no {ls : List (List UInt8)} {s : List UInt8} (h : ∀ i, i < ls.length → ls.getD i [] ≠ s) : isT ls s = false := by
  rw [← Bool.not_eq_true, isT_mem]
  intro hm
  obtain ⟨i, hi, e⟩ := List.getElem_of_mem hm
  exact h i hi (by rw [List.getD_eq_getElem?_getD, List.getElem?_eq_getElem hi]; exact e)
theorem hasU_at {l : List Bk} {s : List UInt8} {i : Nat} (hi : i < l.length) (h : (l.getD i noBk).name = s) : hasU l s = true := by
  rw [hasU_iff, ← h]; exact List.mem_map.2 ⟨_, getD_mem _ _ _ hi, rfl⟩
theorem hasU_no {l : List Bk} {s : List UInt8} (h : ∀ i, i < l.length → (l.getD i noBk).name ≠ s) : hasU l s = false := by
  rw [← Bool.not_eq_true, hasU_iff]
  intro hm
  obtain ⟨x, hx, e⟩ := List.mem_map.1 hm
  obtain ⟨i, hi, e2⟩ := List.getElem_of_mem hx
  exact h i hi (by rw [List.getD_eq_getElem?_getD, List.getElem?_eq_getElem hi]; simp [e2, e])
set_option maxRecDepth 100000 in
theorem hasT_any (ls : List (List UInt8)) (s : List UInt8) (A : Option Addr) (n c : Nat) (w : World) (hR : RdR txC 1 w w.heap.size A n ls) (hn : n ≤ 1000000) :
    Calls Tryz.prog 72 #[.slice A n c, .string (textOf s)] w fun e w' => e = .returned (.bool (isT ls s)) ∧ w = w' := by
  have HR := Lib.hid hR
  have HN := Lib.hid hR.1
  clear hR
  obtain ⟨K, hK⟩ : ∃ K, isT ls s = K := ⟨_, rfl⟩
  rw [hK]
  have HK := Lib.hid hK
  clear hK
  go_enter Tryz.func72, Tryz.ntmps72
  go_wp2
  go_loop [5] (fun s5 => ∃ i : Nat, i ≤ n ∧ s5 = .int .i64 i ∧ ∀ k, k < i → ls.getD k [] ≠ s) (fun s5 => n - (intOf s5).toNat)
  case atStart => exact ⟨0, by omega, rfl, fun k hk => by omega⟩
  case round =>
    obtain ⟨i, hin, rfl, hno⟩ := hrel
    have HNO := Lib.hid hno
    clear hno
    by_cases hlt : i < n
    · have hi : (i : Int) < n := by omega
      obtain ⟨b, o, rfl, hbb, hc⟩ := RdR.cell txC_size [] HR.out hlt
      have hc0 := hc 0 (by omega)
      rw [Nat.mul_one, Nat.add_zero] at hc0
      clear hbb hc
      obtain ⟨pn, hp⟩ : ∃ pn, pn = ls.getD i [] := ⟨_, rfl⟩
      rw [← hp] at hc0
      have hc1 : w.cell? ⟨b, o + i, none⟩ = some (.string (textOf pn)) := hc0
      have HP := Lib.hid hp
      clear hp hc0
      by_cases hq : pn = s
      · have hbq : (pn == s) = true := by simpa using hq
        have HPOS := Lib.hid (show K = true by rw [← HK.out]; exact isT_at (i := i) (by have := HN.out; omega) (by rw [← HP.out, hq]))
        clear hq
        go_wp2
        go_ret
        exact ⟨by rw [HPOS.out]; rfl, rfl⟩
      · have hbq : (pn == s) = false := by simpa using hq
        have HQ := Lib.hid hq
        clear hq
        go_wp2
        go_round
        case rel => exact ⟨i + 1, by omega, by go_num, fun k hk => by
          by_cases hki : k = i
          · rw [hki, ← HP.out]; exact HQ.out
          · exact HNO.out k (by omega)⟩
        case measure => simp [intOf] <;> omega
    · obtain rfl : n = i := by omega
      have HPOS := Lib.hid (show K = false by rw [← HK.out]; exact isT_no (fun k hk => HNO.out k (by have := HN.out; omega)))
      have hd : decide ((n : Int) < n) = false := by simp
      go_wp2
      go_ret
      exact ⟨by rw [HPOS.out]; rfl, rfl⟩
set_option maxRecDepth 100000 in
theorem findU_any (l : List Bk) (s : List UInt8) (v : Int) (A : Option Addr) (n c : Nat) (w : World) (hR : RdR Bk.arr 27 w w.heap.size A n l) (hn : n ≤ 1000000) :
    Calls Tryz.prog 70 #[.agg #[.int .i64 v, .slice A n c], .string (textOf s)] w fun e w' => (∃ z : Int, e = .returned (.int .i64 z) ∧ decide (z < 0) = !hasU l s) ∧ Below w.heap.size w w' := by
  have hb0 : ∀ ob, Below w.heap.size w (w.alloc ob) := fun ob => (Below.refl _ _).alloc (Nat.le_refl _) _
  have HB0 := Lib.hid hb0
  clear hb0
  have HR := Lib.hid (fun ob => hR.up ob)
  have HN := Lib.hid hR.1
  clear hR
  obtain ⟨K, hK⟩ : ∃ K, hasU l s = K := ⟨_, rfl⟩
  rw [hK]
  have HK := Lib.hid hK
  clear hK
  go_enter Tryz.func70, Tryz.ntmps70
  go_wp2
  go_loop [5] (fun s5 => ∃ i : Nat, i ≤ n ∧ s5 = .int .i64 i ∧ ∀ k, k < i → (l.getD k noBk).name ≠ s) (fun s5 => n - (intOf s5).toNat)
  case atStart => exact ⟨0, by omega, rfl, fun k hk => by omega⟩
  case round =>
    obtain ⟨i, hin, rfl, hno⟩ := hrel
    have HNO := Lib.hid hno
    clear hno
    by_cases hlt : i < n
    · have hi : (i : Int) < n := by omega
      obtain ⟨b, o, rfl, hbb, hc⟩ := RdR.cell Bk.arr_size noBk (HR.out (.cells #[.int .i64 v, .slice A n c] 24)) hlt
      have hc0 := hc 0 (by omega)
      rw [Nat.add_zero, Bk.arr_0] at hc0
      clear hbb hc
      obtain ⟨pn, hp⟩ : ∃ pn, pn = (l.getD i noBk).name := ⟨_, rfl⟩
      rw [← hp] at hc0
      have HP := Lib.hid hp
      clear hp
      by_cases hq : pn = s
      · have hbq : (pn == s) = true := by simpa using hq
        have HPOS := Lib.hid (show K = true by rw [← HK.out]; exact hasU_at (i := i) (by have := HN.out; omega) (by rw [← HP.out, hq]))
        clear hq
        go_wp2
        go_ret
        exact ⟨⟨_, rfl, by rw [HPOS.out]; simp⟩, HB0.out _⟩
      · have hbq : (pn == s) = false := by simpa using hq
        have HQ := Lib.hid hq
        clear hq
        go_wp2
        go_round
        case rel => exact ⟨i + 1, by omega, by go_num, fun k hk => by
          by_cases hki : k = i
          · rw [hki, ← HP.out]; exact HQ.out
          · exact HNO.out k (by omega)⟩
        case measure => simp [intOf] <;> omega
    · obtain rfl : n = i := by omega
      have HPOS := Lib.hid (show K = false by rw [← HK.out]; exact hasU_no (fun k hk => HNO.out k (by have := HN.out; omega)))
      have hd : decide ((n : Int) < n) = false := by simp
      go_wp2
      go_ret
      exact ⟨⟨_, rfl, by rw [HPOS.out]; rfl⟩, HB0.out _⟩
end Go.Proofs.YtmpemeemlhmaaaaGreat

namespace Go.Proofs.YtmpemeemlhmaaaaGreat
open Go.RowKit Go.ChangeShapes Go.WideShapes Go.ChangeAt

/-- what the document answers: the pool, or that there is none -/
def DAppP (w : World) (r : Option (Int × List Bk)) (e : Ending) (w' : World) : Prop := Below w.heap.size w w' ∧ match r with
  | some (v, m) => ∃ A c, e = .returned (.tuple #[.agg #[.int .i64 v, .slice A m.length c], .bool true]) ∧ RdR Bk.arr 27 w' w'.heap.size A m.length m
  | none => e = .returned (.tuple #[.agg #[.int .i64 0, .slice none 0 0], .bool false])
theorem flatR_take {α : Type} (f : α → Array Value) (s : Nat) (hs : ∀ x, (f x).size = s) : ∀ (l : List α) (k : Nat), (l.flatMap fun x => (f x).toList).take (k * s) = (l.take k).flatMap fun x => (f x).toList
  | [], k => by simp
  | x :: l, 0 => by simp
  | x :: l, k + 1 => by
    have hx : (f x).toList.length = s := by rw [Array.length_toList, hs]
    rw [List.flatMap_cons, List.take_succ_cons, List.flatMap_cons, Nat.add_mul, Nat.one_mul, Nat.add_comm (k * s) s, List.take_append, hx, List.take_of_length_le (by omega), Nat.add_sub_cancel_left, flatR_take f s hs l k]
theorem flatR_drop {α : Type} (f : α → Array Value) (s : Nat) (hs : ∀ x, (f x).size = s) : ∀ (l : List α) (k : Nat), (l.flatMap fun x => (f x).toList).drop (k * s) = (l.drop k).flatMap fun x => (f x).toList
  | [], k => by simp
  | x :: l, 0 => by simp
  | x :: l, k + 1 => by
    have hx : (f x).toList.length = s := by rw [Array.length_toList, hs]
    rw [List.flatMap_cons, List.drop_succ_cons, Nat.add_mul, Nat.one_mul, Nat.add_comm (k * s) s, List.drop_append, hx, List.drop_eq_nil_of_le (by omega), Nat.add_sub_cancel_left, flatR_drop f s hs l k, List.nil_append]
theorem RdR.uptoK {α : Type} {f : α → Array Value} {s : Nat} (hs : ∀ x, (f x).size = s) {w : World} {B n k : Nat} {A : Option Addr} {l : List α} (h : RdR f s w B A n l) (hk : k ≤ n) : RdR f s w B A k (l.take k) :=
  ⟨by rw [List.length_take, h.1]; omega, by rw [← flatR_take f s hs]; exact Rd.upto h.2.1 hk, fun a ha h0 => h.2.2 a ha (by omega)⟩
theorem RdR.dropK {α : Type} {f : α → Array Value} {s : Nat} (hs : ∀ x, (f x).size = s) {w : World} {B n k c : Nat} {A : Option Addr} {l : List α} (h : RdR f s w B A n l) (hk : k ≤ n) (hc : n ≤ c) (hck : c ≠ k) : RdR f s w B (A.map (·.add (k * s))) (n - k) (l.drop k) := by
  have h1 := Rd.cut h.2.1 hk hc
  rw [if_neg hck, flatR_drop f s hs] at h1
  refine ⟨by rw [List.length_drop, h.1], h1, fun a ha h0 => ?_⟩
  cases A with
  | none => cases ha
  | some a0 =>
    have h2 := h.2.2 a0 rfl (by omega)
    injection ha with ha
    have h3 : a = ⟨a0.block, a0.off + k * s, none⟩ := by
      rw [← ha]
      show a0.add (k * s) = _
      conv => lhs; rw [h2, Addr.add_mid]
    rw [h3]
@[go_sem] theorem run_mkBks0q (w : World) : (mkBks 0 #[]).run Tryz.prog w = .ok (.slice (some ⟨w.heap.size, 0, none⟩) 0 0) (w.alloc (.cells #[] 60)) := by
  obtain ⟨i0, hi0, hz0, hz1, hzb⟩ := infoBk
  have hne : ¬ i0.size = 0 := by omega
  simp [mkBks, Instr.buildSlice, run_underlying Tryz.underlying22, sizeOf, typeInfo, zeroValue, hi0, hz0, hz1, Instr.fill, newRow, hne]
  rw [show (Array.range 0) = (#[] : Array Nat) from by simp [Array.range], Array.map_empty]
theorem RdR.zero {α : Type} {f : α → Array Value} {s : Nat} (w : World) (B : Nat) (A : Option Addr) : RdR f s w B A 0 ([] : List α) := ⟨rfl, ⟨by simp, fun h => absurd h (by omega)⟩, fun a _ h => absurd h (by omega)⟩
theorem Rz.lit {α : Type} {f : α → Array Value} {sz : Nat} {e : TypeId} (W : World) : Rz f sz e [] W (W.alloc (.cells #[] e)) (.slice (some ⟨W.heap.size, 0, none⟩) 0 0) ([] : List α) :=
  ⟨World.ownsRow_lit (size := sz) (e := e) W #[] 0 (Nat.le_refl _) (by unfold maxLen; omega) (by simp), (Below.refl _ _).alloc (Nat.le_refl _) _, fun p hp => by cases hp⟩
theorem step_rzx {α : Type} {f : α → Array Value} {sz : Nat} {e t : TypeId} {L : List (Nat × Array Value)} {w0 W : World} {l ys : List α} (T : RowT t e f sz) {ops : Array Oper} {o : Oper} {a : Act} {K : Act → World → Prop} {Q : Exit → Act → World → Prop} {E : Prop} (hgd : o.guard = none) (s x : Operand)
    (ho : o.op = .call { callee := .builtin .append, args := #[s, x], argTypes := #[t, t] }) (v : Value) (A : Option Addr) (m c : Nat) (hs : a.eval s = v) (H : Rz f sz e L w0 W v l) {C : Nat} (hx : a.eval x = .slice A m c) (hr : RdR f sz W C A m ys)
    (hlen : l.length + m ≤ 1000000)
    (h : ∀ A' n' c' w', Rz f sz e L w0 w' (.slice A' n' c') (l ++ ys) → W.grownBy w' v.ownBlock → K (a.put o.dst (.slice A' n' c')) w') : if Region.wanted o (yielded ops a.tmps) = true then Oper.wp Tryz.prog o a W K Q else E :=
  step_rz T hgd s x ho hs H hx hr hlen h
/-- none of the first ones is less than this one -/
def MinTo (l : List Bk) (i b : Nat) : Prop := ∀ j, j < i → ¬ cmpS (l.getD j noBk).name (l.getD b noBk).name < 0
/-- the sort's state: what is laid, what is left -/
structure Sel (L0 p l : List Bk) : Prop where
  perm : (p ++ l).Perm L0
  wk : Wk p
  le : ∀ a ∈ p, ∀ b ∈ l, ¬ cmpS b.name a.name < 0
theorem Sel.start (L0 : List Bk) : Sel L0 [] L0 := ⟨List.Perm.refl _, List.Pairwise.nil, fun a ha => by cases ha⟩
theorem Sel.next {L0 p l : List Bk} (h : Sel L0 p l) {b : Nat} (hb : b < l.length) (hmin : ∀ j, j < l.length → ¬ cmpS (l.getD j noBk).name (l.getD b noBk).name < 0) : Sel L0 (p ++ [l.getD b noBk]) (l.take b ++ l.drop (b + 1)) := by
  have hx : l.getD b noBk = l[b] := by rw [List.getD_eq_getElem?_getD, List.getElem?_eq_getElem hb]; rfl
  have hsub : ∀ y ∈ l.take b ++ l.drop (b + 1), y ∈ l := fun y hy => by
    rcases List.mem_append.1 hy with hy | hy
    · exact List.mem_of_mem_take hy
    · exact List.mem_of_mem_drop hy
  have hall : ∀ y ∈ l, ¬ cmpS y.name (l.getD b noBk).name < 0 := fun y hy => by
    obtain ⟨j, hj, e⟩ := List.getElem_of_mem hy
    have := hmin j hj
    rwa [List.getD_eq_getElem?_getD (l := l) (i := j), List.getElem?_eq_getElem hj, Option.getD_some, e] at this
  refine ⟨List.Perm.trans ?_ h.perm, ?_, fun a ha y hy => ?_⟩
  · rw [List.append_assoc]
    refine List.Perm.append_left p ?_
    have e1 : l = l.take b ++ l[b] :: l.drop (b + 1) := by rw [← List.drop_eq_getElem_cons hb, List.take_append_drop]
    have e2 : ([l.getD b noBk] ++ (l.take b ++ l.drop (b + 1))).Perm (l.take b ++ l[b] :: l.drop (b + 1)) := by
      rw [hx]
      exact (List.perm_middle (a := l[b]) (l₁ := l.take b) (l₂ := l.drop (b + 1))).symm
    rw [← e1] at e2
    exact e2
  · unfold Wk
    refine List.pairwise_append.2 ⟨h.wk, List.pairwise_singleton _ _, fun a ha y hy => ?_⟩
    rw [List.mem_singleton.1 hy]
    exact h.le a ha _ (getD_mem noBk l b hb)
  · rcases List.mem_append.1 ha with ha | ha
    · exact h.le a ha y (hsub y hy)
    · rw [List.mem_singleton.1 ha]; exact hall y (hsub y hy)
theorem keep_step (la : List Bk) (gone : List (List UInt8)) (other : List Bk) (i : Nat) (hi : i < la.length) : keepL (la.take (i + 1)) gone other = keepL (la.take i) gone other ++ (if !(isT gone (la.getD i noBk).name) && !(hasU other (la.getD i noBk).name) then [la.getD i noBk] else []) := by
  rw [← take_snocR noBk la i hi]
  unfold keepL
  rw [List.filter_append]
  congr 1
  simp only [List.filter_cons, List.filter_nil]
set_option maxRecDepth 100000 in
set_option maxHeartbeats 8000000 in
theorem refApply_any (va : Int) (la : List Bk) (d : List UInt8) (A D : Option Addr) (n m c cd : Nat) (w : World) (hA : RdR Bk.arr 27 w w.heap.size A n la) (hra : pRight va la = true) (hfa : ∀ x ∈ la, x.fine) (hn : n ≤ 1024) (hD : RdB w w.heap.size D m d) (hmc : m ≤ cd) (hcd : cd ≤ 9223372036854775807) (hm : m ≤ 1000000000) :
    Calls Tryz.prog 25 #[.agg #[.int .i64 va, .slice A n c], .slice D m cd] w (DAppP w (applyV va la d)) := by
  obtain ⟨W1, hW1⟩ : ∃ W1, W1 = ((w.alloc (.cells #[.int .i64 va, .slice A n c] 24)).alloc (.cells #[.int .i64 0, .slice none 0 0] 24)).alloc (.cells (rowC D m cd false) 102) := ⟨_, rfl⟩
  have hb1 : Below w.heap.size w W1 := by rw [hW1]; exact (((Below.refl w.heap.size w).alloc (Nat.le_refl _) _).alloc (by simp) _).alloc (by simp; omega) _
  have HB1 := Lib.hid hb1
  have P1 := Lib.hid (show Box W1 w.heap.size #[.int .i64 va, .slice A n c] by rw [hW1]; exact ((Box.new w _ _).alloc _).alloc _)
  have R1 := Lib.hid (show Box W1 (w.heap.size + 1) #[.int .i64 0, .slice none 0 0] by rw [hW1]; exact (Box.new1 w _ _ _).alloc _)
  have S1 := Lib.hid (show RowS W1 (w.heap.size + 2) w.heap.size (some d) from .mk' (bad := false) (by rw [hW1]; exact Box.new2 w _ _ _ _) (hD.to hb1 (Nat.le_refl _)) hmc hcd hm (by omega) rfl)
  obtain ⟨⟨n1, r1⟩, e1⟩ : ∃ z, numD 1152921504606846976 (some d) = z := ⟨_, rfl⟩
  obtain ⟨⟨n2, r2⟩, e2⟩ : ∃ z, numD 1152921504606846976 r1 = z := ⟨_, rfl⟩
  obtain ⟨⟨gone, r3⟩, e3⟩ : ∃ z, rowsQ textR 1024 r2 = z := ⟨_, rfl⟩
  obtain ⟨⟨other, r4⟩, e4⟩ : ∃ z, rowsQ bkQ 1024 r3 = z := ⟨_, rfl⟩
  have HRQ := Lib.hid (show readQ d = (n1, n2, gone, other, r4) by
    unfold readQ
    simp only [M60_is, e1, e2, e3, e4])
  have C1 := Lib.hid (fun W (k : RowS W (w.heap.size + 2) w.heap.size (some d)) => rowNum_any (w.heap.size + 2) w.heap.size (some d) W k)
  have C2 := Lib.hid (fun W (k : RowS W (w.heap.size + 2) w.heap.size r1) => rowNum_any (w.heap.size + 2) w.heap.size r1 W k)
  have C3 := Lib.hid (fun W (k : RowS W (w.heap.size + 2) w.heap.size r2) => rowMany1024 (w.heap.size + 2) w.heap.size r2 W k)
  have C4 := Lib.hid (fun W (k : RowS W (w.heap.size + 2) w.heap.size r3) => rowBks_any (w.heap.size + 2) w.heap.size r3 W k)
  rw [e1] at C1
  rw [e2] at C2
  rw [e4] at C4
  have A3 := Lib.hid (show gone.length ≤ 1024 from by have := (rowsQ_all (P := fun _ : List UInt8 => True) (one := textR) (fun _ => trivial) 1024 r2).2; rwa [e3] at this)
  have A4 := Lib.hid (show (∀ x ∈ other, x.fine) ∧ other.length ≤ 1024 from by have := rowsQ_all bkQ_fine 1024 r3; rwa [e4] at this)
  have hm3 := manyQ_le 1024 r2
  unfold rowsQ at e3
  obtain ⟨⟨n3, r20⟩, f3⟩ : ∃ z, manyQ 1024 r2 = z := ⟨_, rfl⟩
  rw [f3] at e3 hm3 C3
  have E3 := Lib.hid (show listQ textR n3 r20 = (gone, r3) from e3)
  have hn3 : n3 ≤ 1024 := hm3
  have HW1 := Lib.hid (show ((w.alloc (.cells #[.int .i64 va, .slice A n c] 24)).alloc (.cells #[.int .i64 0, .slice none 0 0] 24)).alloc (.cells (rowC D m cd false) 102) = W1 from hW1.symm)
  obtain ⟨V, hV⟩ : ∃ V, applyV va la d = V := ⟨_, rfl⟩
  rw [hV]
  have HV := Lib.hid hV
  have HA := Lib.hid hA
  have HD := Lib.hid hD
  have HFA := Lib.hid hfa
  have HRA := Lib.hid hra
  clear e1 e2 e3 e4 f3 hm3 hW1 hb1 hV hA hD hfa hra
  go_enter Tryz.func25, Tryz.ntmps25
  go_wp2_with fail
  rw [HW1.out, show w.heap.size + 1 + 1 = w.heap.size + 2 from rfl]
  (with_reducible refine (C1.out _ S1.out).mono ?_)
  rintro e w2 ⟨rfl, k1, k2⟩
  have S2 := Lib.hid k1
  have P2 := Lib.hid (P1.out.grown k2 (fun e => by injection e; omega))
  have R2 := Lib.hid (R1.out.grown k2 (fun e => by injection e; omega))
  have HB2 := Lib.hid (HB1.out.grown k2 HB1.out.size (fun j hj => by injection hj; omega))
  clear k1 k2
  go_wp2_with fail
  (with_reducible refine (C2.out _ S2.out).mono ?_)
  rintro e w3 ⟨rfl, k1, k2⟩
  obtain ⟨y, hy⟩ : ∃ y, y = w3.heap.size := ⟨_, rfl⟩
  obtain ⟨W4, hW4⟩ : ∃ W4, W4 = w3.alloc (.cells #[.int .i64 (n2 : Nat), .slice none 0 0] 24) := ⟨_, rfl⟩
  have HY := Lib.hid (show w3.heap.size = y from hy.symm)
  have HW4 := Lib.hid (show w3.alloc (.cells #[.int .i64 (n2 : Nat), .slice none 0 0] 24) = W4 from hW4.symm)
  have S4 := Lib.hid (show RowS W4 (w.heap.size + 2) w.heap.size r2 by rw [hW4]; exact k1.alloc _)
  have P4 := Lib.hid (show Box W4 w.heap.size #[.int .i64 va, .slice A n c] by rw [hW4]; exact (P2.out.grown k2 (fun e => by injection e; omega)).alloc _)
  have R4 := Lib.hid (show Box W4 (w.heap.size + 1) #[.int .i64 0, .slice none 0 0] by rw [hW4]; exact (R2.out.grown k2 (fun e => by injection e; omega)).alloc _)
  have Y4 := Lib.hid (show Box W4 y #[.int .i64 (n2 : Nat), .slice none 0 0] by rw [hW4, hy]; exact Box.new _ _ _)
  have hyp : w.heap.size + 2 < y := by rw [hy]; exact k1.lt
  have HB4 := Lib.hid (show Below w.heap.size w W4 by
    have hb3 := HB2.out.grown k2 HB2.out.size (fun j hj => by injection hj; omega)
    rw [hW4]; exact hb3.alloc hb3.size _)
  clear k1 k2 hy hW4 S1 S2 P1 P2 R1 R2 HB1 HB2 C1 C2 HW1
  go_upto_region 4 with fail
  rw [HW4.out, HY.out]
  clear HW4 HY
  go_wp2_with fail
  (with_reducible refine (C3.out _ S4.out).mono ?_)
  rintro e w5 ⟨rfl, k1, k2⟩
  have S5 := Lib.hid k1
  have P5 := Lib.hid (P4.out.grown k2 (fun e => by injection e; omega))
  have R5 := Lib.hid (R4.out.grown k2 (fun e => by injection e; omega))
  have Y5 := Lib.hid (Y4.out.grown k2 (fun e => by injection e; omega))
  have HB5 := Lib.hid (HB4.out.grown k2 HB4.out.size (fun j hj => by injection hj; omega))
  clear k1 k2 S4 P4 R4 Y4 HB4 C3
  go_wp2
  go_loopw [8, 10] (fun s8 s10 wr => ∃ (k : Nat) (acc : List (List UInt8)) (r : RS) (A : Option Addr) (c : Nat), k ≤ n3 ∧ s10 = .int .i64 k ∧ s8 = .slice A k c ∧ acc.length = k ∧ Rq txC 1 9 [w.heap.size + 2] w5 wr (w.heap.size + 2) w.heap.size r (.slice A k c) acc ∧ listQ textR n3 r20 = behindQ acc (listQ textR (n3 - k) r)) (fun _ s10 _ => n3 - (intOf s10).toNat)
  case atStart => exact ⟨0, [], r20, none, 0, by omega, rfl, rfl, rfl, Rq.nil _ S5.out, by simp [behindQ]⟩
  case round =>
    obtain ⟨k, acc, r, Ag, cg, hkn, rfl, rfl, hlen, hrq, hgo⟩ := hrel
    have HQ := Lib.hid hrq
    have HGO := Lib.hid hgo
    have HL := Lib.hid hlen
    obtain ⟨d1, d2⟩ := hrq.rd.spot
    have hplr := hrq.rd.lt
    clear hgo hlen hrq
    obtain ⟨go, hgo1⟩ : ∃ g : Bool, g = (decide (k < n3) && r.isSome) := ⟨_, rfl⟩
    have HGO1 := Lib.hid hgo1
    clear hgo1
    go_upto_region 7 with fail
    go_cut [37] from 28 to 44 (fun sg wx => sg = .bool go ∧ wx = wr)
    case first =>
      by_cases hlt : k < n3
      · have hlt2 : (k : Int) < (n3 : Int) := by omega
        cases r with
        | none =>
          have HZ := Lib.hid (show go = false by rw [HGO1.out]; simp)
          go_wp2
          go_meet
          case rel => exact ⟨by rw [HZ.out], rfl⟩
        | some l =>
          have HZ := Lib.hid (show go = true by rw [HGO1.out]; simp [hlt])
          go_wp2
          go_meet
          case rel => exact ⟨by rw [HZ.out], rfl⟩
      · have hd : decide ((k : Int) < (n3 : Int)) = false := decide_eq_false (by omega)
        have HZ := Lib.hid (show go = false by rw [HGO1.out]; simp [hlt])
        go_wp2
        go_meet
        case rel => exact ⟨by rw [HZ.out], rfl⟩
    case rest =>
      obtain ⟨rfl, hwc⟩ := hcut
      rw [hwc]
      clear hwc
      obtain ⟨vr, hvr⟩ : ∃ v, v = wr := ⟨_, rfl⟩
      rw [← hvr] at HQ d1 d2 hplr ⊢
      clear hvr
      cases go
      · have HB := Lib.hid (show acc = gone ∧ r = r3 by
          have h := HGO.out
          rw [E3.out] at h
          have h2 : listQ textR (n3 - k) r = ([], r) := by
            have h3 := HGO1.out
            by_cases hlt : k < n3
            · cases r with
              | none => exact listQ_bad _ _
              | some l => simp [hlt] at h3
            · rw [show n3 - k = 0 by omega]; rfl
          rw [h2] at h
          unfold behindQ at h
          rw [List.append_nil] at h
          injection h with h1 h2
          exact ⟨h1.symm, h2.symm⟩)
        obtain ⟨rfl, rfl⟩ := HB.out
        have P6 := Lib.hid (HQ.out.frm.box P5.out (by simp))
        have R6 := Lib.hid (HQ.out.frm.box R5.out (by simp))
        have Y6 := Lib.hid (HQ.out.frm.box Y5.out (by simp; omega))
        have HB6 := Lib.hid (HB5.out.trans (HQ.out.frm.to_below (fun g hg => by simp at hg; omega) HB5.out.size))
        have RG6 := Lib.hid (show RdR txC 1 vr vr.heap.size Ag k acc from RdR.of_own HL.out (by have h := HQ.out.own; rw [HL.out] at h; exact h))
        have RGN := Lib.hid (show ∀ a, Ag = some a → y < a.block from fun a ha => by
          have h1 := (HQ.out.lt (k := a.block) (by rw [ha]; rfl)).1
          have h2 := Y5.out.lt
          omega)
        have S6 := Lib.hid HQ.out.rd
        clear HB HGO HGO1 HQ HL d1 d2 hplr P5 R5 Y5 HB5 S5 E3
        go_wp2_with fail
        (with_reducible refine (C4.out _ S6.out).mono ?_)
        rintro e w7 ⟨Ao, no, co, rfl, hno, ho, k1, k2⟩
        have RO7 := Lib.hid (show RdR Bk.arr 27 w7 w7.heap.size Ao no other from RdR.of_own hno.symm ho)
        have HNO := Lib.hid (show other.length = no from hno.symm)
        have P7 := Lib.hid (P6.out.grown k2 (fun e => by injection e; omega))
        have R7 := Lib.hid (R6.out.grown k2 (fun e => by injection e; omega))
        have Y7 := Lib.hid (Y6.out.grown k2 (fun e => by injection e; omega))
        have HB7 := Lib.hid (HB6.out.grown k2 HB6.out.size (fun j hj => by injection hj; omega))
        have RG7 := Lib.hid ((RG6.out.grownO k2 (fun a ha e => by injection e with e; have := RGN.out a ha; omega)).more k2.size)
        have S7 := Lib.hid k1
        obtain ⟨d1, d2⟩ := k1.spot
        have hpl := k1.lt
        clear k1 k2 hno ho P6 R6 Y6 HB6 RG6 RGN S6 C4
        cases r4 with
        | none =>
          have HN := Lib.hid (show V = none by rw [← HV.out]; exact applyQ_bad HRA.out HRQ.out)
          have Q11 := Lib.hid ((R7.out.set_same 0 (.int .i64 0)).set_same 1 (.slice none 0 0))
          obtain ⟨r1, r2, r3, r4⟩ := R7.out.facts
          have lr := R7.out.lt
          go_wp2
          try simp only [Exit.inBlock, Exit.then]
          obtain ⟨v4, hv4⟩ : ∃ v, v = (w7.setCell ⟨w.heap.size + 1, 0, none⟩ (.int .i64 0)).setCell ⟨w.heap.size + 1, 1, none⟩ (.slice none 0 0) := ⟨_, rfl⟩
          rw [← hv4] at Q11 ⊢
          have HB11 := Lib.hid (show Below w.heap.size w v4 by rw [hv4]; exact (HB7.out.setCell (Nat.le_succ _) _).setCell (Nat.le_succ _) _)
          obtain ⟨r1, r2, r3, r4⟩ := Q11.out.facts
          refine bodyPost_ret (ret_pool rfl _ _ _ _ rfl (by rw [r3 0 2 (by simp [csize])]; trivial)) rfl ?_
          rw [r4 0 2 (by simp [csize]), HN.out]
          exact ⟨HB11.out, rfl⟩
        | some t4 =>
          obtain ⟨W8, hW8⟩ : ∃ W8, W8 = w7.alloc (.cells #[.int .i64 0, .slice Ao no co] 24) := ⟨_, rfl⟩
          have HW8 := Lib.hid (show w7.alloc (.cells #[.int .i64 0, .slice Ao no co] 24) = W8 from hW8.symm)
          have H78 := Lib.hid (show Below w7.heap.size w7 W8 by rw [hW8]; exact (Below.refl _ _).alloc (Nat.le_refl _) _)
          obtain ⟨ob, hob⟩ : ∃ q, q = w7.heap.size := ⟨_, rfl⟩
          have HOB := Lib.hid (show w7.heap.size = ob from hob.symm)
          have O8 := Lib.hid (show Box W8 ob #[.int .i64 0, .slice Ao no co] by rw [hW8, hob]; exact Box.new _ _ _)
          have P8 := Lib.hid (P7.out.go H78.out)
          have R8 := Lib.hid (R7.out.go H78.out)
          have Y8 := Lib.hid (Y7.out.go H78.out)
          have RG8 := Lib.hid (RG7.out.go H78.out)
          have RO8 := Lib.hid (RO7.out.go H78.out)
          have S8 := Lib.hid (S7.out.go H78.out)
          have HB8 := Lib.hid (below2 HB7.out H78.out)
          have HNA := Lib.hid HA.out.1
          have hno1 : no ≤ 1024 := by have := HNO.out; have := A4.out.2; omega
          have hk1 : k ≤ 1024 := by omega
          clear hW8 hob P7 R7 Y7 RG7 RO7 S7 HB7 H78
          go_upto_region 14 with fail
          rw [HW8.out, HOB.out]
          clear HW8 HOB d1 d2 hpl
          go_wp2
          go_loopw [13, 14] (fun s13 s14 wr => ∃ (i : Nat) (A' : Option Addr) (n' c' : Nat), i ≤ n ∧ s14 = .int .i64 i ∧ s13 = .slice A' n' c' ∧ Rz Bk.arr 27 60 [] W8 wr (.slice A' n' c') (keepL (la.take i) acc other)) (fun _ s14 _ => n - (intOf s14).toNat)
          case atStart => exact ⟨0, none, 0, 0, by omega, rfl, rfl, by simpa [keepL] using Rz.nil W8⟩
          case round =>
            obtain ⟨i, A', n', c', hin, rfl, rfl, hz⟩ := hrel
            have HZ := Lib.hid hz
            have BP := Lib.hid (P8.out.go hz.bel)
            have BO := Lib.hid (O8.out.go hz.bel)
            clear hz
            obtain ⟨p1, p2, p3, p4⟩ := BP.out.facts
            have lp := BP.out.lt
            by_cases hlt : i < n
            · have hi : (i : Int) < n := by omega
              obtain ⟨xb, xo, hAe, hxb, hxh, hxc⟩ := RdR.at_ Bk.arr_size noBk ((HA.out.to HB8.out (Nat.le_refl _)).to HZ.out.bel (by have := HB8.out.size; omega)) hlt
              obtain ⟨x, hx⟩ : ∃ x, x = la.getD i noBk := ⟨_, rfl⟩
              rw [← hx] at hxc
              have HX := Lib.hid (show la.getD i noBk = x from hx.symm)
              have HAE := Lib.hid hAe
              have hxf : x.fine := by rw [hx]; exact HFA.out _ (getD_mem _ _ _ (by have := HNA.out; omega))
              have HXF := Lib.hid hxf
              have KST := Lib.hid (keep_step la acc other i (by have := HNA.out; omega))
              rw [← hx] at KST
              clear hx hxf
              subst hAe
              obtain ⟨W9, hW9⟩ : ∃ W9, W9 = wr.alloc (.cells x.arr 60) := ⟨_, rfl⟩
              have HW9 := Lib.hid (show wr.alloc (.cells x.arr 60) = W9 from hW9.symm)
              have F9 := Lib.hid (show Below wr.heap.size wr W9 by rw [hW9]; exact (Below.refl _ _).alloc (Nat.le_refl _) _)
              obtain ⟨bb, hbb⟩ : ∃ q, q = wr.heap.size := ⟨_, rfl⟩
              have HBB := Lib.hid (show wr.heap.size = bb from hbb.symm)
              have X9 := Lib.hid (show Box W9 bb x.arr by rw [hW9, hbb]; exact Box.new _ _ _)
              have Z9 := Lib.hid (HZ.out.go F9.out)
              have BO9 := Lib.hid (BO.out.go F9.out)
              have HT := Lib.hid (hasT_any acc x.name Ag k cg W9 ((RG8.out.go HZ.out.bel).go F9.out) (by omega))
              have FU := Lib.hid (findU_any other x.name 0 Ao no co W9 ((RO8.out.go HZ.out.bel).go F9.out) (by omega))
              obtain ⟨K1, hK1⟩ : ∃ K, isT acc x.name = K := ⟨_, rfl⟩
              obtain ⟨K2, hK2⟩ : ∃ K, hasU other x.name = K := ⟨_, rfl⟩
              rw [hK1, hK2] at KST
              rw [hK1] at HT
              rw [hK2] at FU
              clear hK1 hK2 hW9 hbb
              go_upto_region 19 with fail
              rw [HW9.out, HBB.out]
              obtain ⟨q1, q2, q3, q4⟩ := X9.out.facts
              have lq := X9.out.lt
              obtain ⟨o1, o2, o3, o4⟩ := BO9.out.facts
              have lo := BO9.out.lt
              clear p1 p2 p3 p4 lp hxh hxc HW9 HBB
              go_wp2_with fail
              (with_reducible refine HT.out.mono ?_)
              rintro e wh ⟨rfl, rfl⟩
              cases K1
              · go_wp2_with fail
                (with_reducible refine FU.out.mono ?_)
                rintro e wf ⟨⟨z, rfl, hz⟩, hbf⟩
                have Zf := Lib.hid (Z9.out.go hbf)
                have Xf := Lib.hid (X9.out.go hbf)
                clear hbf q1 q2 q3 q4 lq o1 o2 o3 o4 lo
                obtain ⟨q1, q2, q3, q4⟩ := Xf.out.facts
                have lq := Xf.out.lt
                cases K2
                · have hz1 : decide (z < 0) = true := hz
                  have hz2 : z < 0 := of_decide_eq_true hz1
                  have Za := Lib.hid (Zf.out.alloc (.cells x.arr 60))
                  have RO := Lib.hid (RdR.one (f := Bk.arr) x Bk.arr_size wf 60)
                  have HGL := Lib.hid (show (keepL (la.take i) acc other).length + 1 ≤ 1000000 by
                    have h1 : (keepL (la.take i) acc other).length ≤ (la.take i).length := List.length_filter_le _ _
                    have h2 : (la.take i).length ≤ i := by rw [List.length_take]; omega
                    omega)
                  clear hz
                  go_wp2_with (at_builtin; refine wpList_rz rowT_bk rfl (.tmp 78) (.tmp 80) rfl rfl Za.out rfl RO.out HGL.out ?_; intro A5 n5 c5 w5 h5 h6; have Z5 := Lib.hid h5; clear h5 h6)
                  go_roundw
                  case rel => exact ⟨i + 1, A5, n5, c5, by omega, by go_num, rfl, by rw [KST.out]; exact Z5.out⟩
                  case measure => simp [intOf] <;> omega
                · have hz1 : decide (z < 0) = false := hz
                  have hz2 : ¬ z < 0 := of_decide_eq_false hz1
                  clear hz
                  go_wp2
                  go_roundw
                  case rel => exact ⟨i + 1, A', n', c', by omega, by go_num, rfl, by rw [KST.out]; simpa using Zf.out⟩
                  case measure => simp [intOf] <;> omega
              · clear q1 q2 q3 q4 lq o1 o2 o3 o4 lo
                go_wp2
                go_roundw
                case rel => exact ⟨i + 1, A', n', c', by omega, by go_num, rfl, by rw [KST.out]; simpa using Z9.out⟩
                case measure => simp [intOf] <;> omega
            · obtain rfl : n = i := by omega
              have hd : decide ((n : Int) < n) = false := by simp
              have HTK := Lib.hid (show la.take n = la from List.take_of_length_le (by have := HNA.out; omega))
              rw [HTK.out] at HZ
              obtain ⟨vs, hvs⟩ : ∃ v, v = wr := ⟨_, rfl⟩
              rw [← hvs] at HZ BP BO p1 p2 p3 p4 lp ⊢
              have RO9 := Lib.hid (RO8.out.go HZ.out.bel)
              have HGL := Lib.hid (show (keepL la acc other).length + no ≤ 1000000 by
                have h1 : (keepL la acc other).length ≤ la.length := List.length_filter_le _ _
                have := HNA.out
                omega)
              clear hvs HTK
              go_wp2_with (at_builtin; refine wpList_rz rowT_bk rfl (.tmp 82) (.tmp 83) rfl rfl HZ.out rfl RO9.out HGL.out ?_; intro A5 n5 c5 w5 h5 h6; have Z5 := Lib.hid h5; clear h5 h6)
              obtain ⟨L0, hL0⟩ : ∃ L, L = keepL la acc other ++ other := ⟨_, rfl⟩
              rw [← hL0] at Z5
              have HL0 := Lib.hid hL0
              have HB10 := Lib.hid (HB8.out.trans (Z5.out.bel.mono HB8.out.size))
              have P10 := Lib.hid (P8.out.go Z5.out.bel)
              have R10 := Lib.hid (R8.out.go Z5.out.bel)
              have Y10 := Lib.hid (Y8.out.go Z5.out.bel)
              have S10 := Lib.hid (S8.out.go Z5.out.bel)
              have RL := Lib.hid Z5.out.rd
              have HN5 := Lib.hid (show n5 = L0.length from Z5.out.len)
              have hlL : n5 ≤ 2048 := by
                rw [HN5.out, hL0, List.length_append]
                have h1 : (keepL la acc other).length ≤ la.length := List.length_filter_le _ _
                have := HNA.out
                have := HNO.out
                omega
              have RLB := Lib.hid (show ∀ a, A5 = some a → y < a.block from fun a ha => by
                have h1 := (Z5.out.lt (k := a.block) (by rw [ha]; rfl)).1
                have h2 := Y8.out.lt
                omega)
              have hcc5 : n5 ≤ c5 ∧ c5 ≤ 9223372036854775807 := by
                obtain ⟨_, _, e9, h1, h2⟩ := own_form Z5.out.own
                injection e9 with _ e91 e92
                unfold maxLen at h2
                omega
              have HFL := Lib.hid (show ∀ x ∈ L0, x.fine from fun x hx => by
                rw [hL0] at hx
                rcases List.mem_append.1 hx with hx | hx
                · exact HFA.out x (List.mem_filter.1 hx).1
                · exact A4.out.1 x hx)
              have hyl := Y10.out.lt
              clear hL0 HZ BP BO P8 R8 Y8 S8 O8 RG8 RO8 RO9 HB8 Z5 p1 p2 p3 p4 lp HGL
              obtain ⟨w10, hw10⟩ : ∃ v, v = w5 := ⟨_, rfl⟩
              rw [← hw10] at HB10 P10 R10 Y10 S10 RL hyl ⊢
              clear hw10
              go_wp2
              go_loopw [13] (fun s13 wr => ∃ (p l : List Bk) (Ap Al : Option Addr) (np cp nl cl : Nat), s13 = .slice Al nl cl ∧ Rq Bk.arr 27 60 [w.heap.size + 2, y] w10 wr (w.heap.size + 2) w.heap.size (some t4) (.slice Ap np cp) p ∧ Box wr y #[.int .i64 (n2 : Nat), .slice Ap np cp] ∧ RdR Bk.arr 27 wr wr.heap.size Al nl l ∧ (∀ a, Al = some a → y < a.block ∧ (Value.slice Ap np cp).ownBlock ≠ some a.block) ∧ (nl ≤ cl ∧ cl ≤ 9223372036854775807) ∧ Sel L0 p l) (fun s13 _ => lenOf s13)
              case atStart => exact ⟨[], L0, none, A5, 0, 0, n5, c5, rfl, ⟨World.ownsRow_nil _ _ _ _, S10.out, Frm.refl _ _, fun k hk => by simp at hk; omega, by simp⟩, Y10.out, RL.out, fun a ha => ⟨RLB.out a ha, by intro e; cases e⟩, hcc5, Sel.start L0⟩
              case round =>
                obtain ⟨p, l, Ap, Al, np, cp, nl, cl, rfl, hq, hyb, hl, hal, ⟨hnc, hcc⟩, hsel⟩ := hrel
                have HQ := Lib.hid hq
                have HYB := Lib.hid hyb
                have HL := Lib.hid hl
                have HAL := Lib.hid hal
                have HSEL := Lib.hid hsel
                have hnl : nl = l.length := hl.1.symm
                have hlenS : p.length + nl = L0.length := by have := hsel.perm.length_eq; rw [List.length_append] at this; omega
                have hnp : np = p.length := by
                  obtain ⟨_, _, e9⟩ := hq.form
                  injection e9
                have HNL := Lib.hid hnl
                have HLS := Lib.hid hlenS
                have HNP := Lib.hid hnp
                have hnl2 : nl ≤ 2048 := by have := HN5.out; omega
                have hnp2 : np ≤ 2048 := by have := HN5.out; omega
                obtain ⟨vr, hvr⟩ : ∃ v, v = wr := ⟨_, rfl⟩
                rw [← hvr] at HQ HYB HL ⊢
                clear hq hyb hl hal hsel hvr hnl hlenS hnp
                by_cases h0 : nl = 0
                · have hl0 : l = [] := List.eq_nil_of_length_eq_zero (by have := HNL.out; omega)
                  have SEL := Lib.hid (show p.Perm L0 ∧ Wk p by have h := HSEL.out.perm; rw [hl0, List.append_nil] at h; exact ⟨h, HSEL.out.wk⟩)
                  have HFP := Lib.hid (show ∀ x ∈ p, x.fine from fun x hx => HFL.out x (SEL.out.1.mem_iff.1 hx))
                  have RP := Lib.hid (show RdR Bk.arr 27 vr vr.heap.size Ap np p from RdR.of_own HNP.out.symm (by have h := HQ.out.own; rw [← HNP.out] at h; exact h))
                  have RPB := Lib.hid (show ∀ a, Ap = some a → y < a.block from fun a ha => by have h1 := (HQ.out.lt (k := a.block) (by rw [ha]; rfl)).1; omega)
                  have HBv := Lib.hid (HB10.out.trans (HQ.out.frm.to_below (fun g hg => by simp at hg; omega) HB10.out.size))
                  have Pv := Lib.hid (HQ.out.frm.box P10.out (by simp; omega))
                  have Rv := Lib.hid (HQ.out.frm.box R10.out (by simp; omega))
                  have EQV := Lib.hid (show (if pRight (n2 : Int) p = true ∧ deltaB va n2 la p = d then some ((n2 : Int), p) else none) = V by
                    rw [← HV.out]
                    exact applyQ_V HRA.out HRQ.out (by rw [← HL0.out]; exact SEL.out.1) SEL.out.2)
                  obtain ⟨K, hK⟩ : ∃ K, pRight (n2 : Int) p = K := ⟨_, rfl⟩
                  have HK := Lib.hid hK
                  have G1 := Lib.hid (fun W' (hb : Below vr.heap.size vr W') => rRightP_any p HFP.out n2 Ap np cp W' (RP.out.go hb) (by omega) K hK)
                  have KS := Lib.hid (show ∀ W', Below vr.heap.size vr W' → W'.cell? ⟨y, 0, none⟩ = some (.int .i64 (n2 : Nat)) ∧ W'.cell? ⟨y, 1, none⟩ = some (.slice Ap np cp) ∧ W'.cell? ⟨w.heap.size, 0, none⟩ = some (.int .i64 va) ∧ W'.cell? ⟨w.heap.size, 1, none⟩ = some (.slice A n c) ∧ (convert 32 9 (.slice D m cd)).run Tryz.prog W' = .ok (.string (textOf d)) W' from fun W' hW =>
                    ⟨by rw [(HYB.out.go hW).facts.1]; rfl, by rw [(HYB.out.go hW).facts.1]; rfl, by rw [(Pv.out.go hW).facts.1]; rfl, by rw [(Pv.out.go hW).facts.1]; rfl, (text_later (HD.out.go (below2 HBv.out hW)) cd).2⟩)
                  have BZ := Lib.hid (Below.refl vr.heap.size vr).drew
                  have hn0 : ¬ (0 : Int) < (nl : Int) := by omega
                  have hn0N : ¬ 0 < nl := by omega
                  clear hK hl0 HL HAL HSEL
                  cases K
                  · have HN := Lib.hid (show V = none by rw [← EQV.out]; exact if_neg (fun h => by have := HK.out; rw [h.1] at this; cases this))
                    have hS0 : (vr.drew).cell? ⟨y, 0, none⟩ = some (.int .i64 (n2 : Nat)) ∧ (vr.drew).cell? ⟨y, 1, none⟩ = some (.slice Ap np cp) := ⟨(KS.out _ BZ.out).1, (KS.out _ BZ.out).2.1⟩
                    obtain ⟨T, f, n0, e0, es, ew⟩ := class_of (fun W' => W'.cell? ⟨y, 0, none⟩ = some (.int .i64 (n2 : Nat)) ∧ W'.cell? ⟨y, 1, none⟩ = some (.slice Ap np cp) ∧ Below vr.heap.size vr W') vr ⟨hS0.1, hS0.2, BZ.out⟩
                    have hne : Nonempty T := ⟨n0⟩
                    have E0 := Lib.hid e0
                    have ES := Lib.hid (fun n => (es n).2.2)
                    have EW := Lib.hid ew
                    have r1 : ∀ n, (f n).cell? ⟨y, 0, none⟩ = some (.int .i64 (n2 : Nat)) := fun n => (es n).1
                    have r2 : ∀ n, (f n).cell? ⟨y, 1, none⟩ = some (.slice Ap np cp) := fun n => (es n).2.1
                    have G2 := Lib.hid (fun (m : T) W1 (hb : Below (f m).heap.size (f m) W1) => show ∃ m', W1 = f m' from ew _ ⟨(KS.out _ (below2 (es m).2.2 hb)).1, (KS.out _ (below2 (es m).2.2 hb)).2.1, below2 (es m).2.2 hb⟩)
                    clear es ew hS0 e0
                    go_upto_region 31 with fail
                    refine quiet_in f (by kernel_rfl) (by kernel_rfl) n0 E0.out ?_
                    repeat (go_big_quiet_step ((first | (go_at_call 21; (with_reducible refine (G1.out _ (ES.out _)).mono ?_); rintro e wa ⟨rfl, hb⟩; exact ⟨rfl, G2.out _ _ hb⟩))))
                    refine wpQuiet_nil ?_
                    rintro _ ⟨q, rfl⟩
                    obtain ⟨wa, hwa⟩ : ∃ v, v = f q := ⟨_, rfl⟩
                    have Ba := Lib.hid (show Below vr.heap.size vr wa by rw [hwa]; exact ES.out q)
                    rw [← hwa]
                    clear r1 r2 hwa
                    · have Rk := Lib.hid (Rv.out.go Ba.out)
                      have HBk := Lib.hid (below2 HBv.out Ba.out)
                      have Q11 := Lib.hid ((Rk.out.set_same 0 (.int .i64 0)).set_same 1 (.slice none 0 0))
                      obtain ⟨r1, r2, r3, r4⟩ := Rk.out.facts
                      have lr := Rk.out.lt
                      go_wp2
                      try simp only [Exit.inBlock, Exit.then]
                      obtain ⟨v4, hv4⟩ : ∃ v, v = (wa.setCell ⟨w.heap.size + 1, 0, none⟩ (.int .i64 0)).setCell ⟨w.heap.size + 1, 1, none⟩ (.slice none 0 0) := ⟨_, rfl⟩
                      rw [← hv4] at Q11 ⊢
                      have HB11 := Lib.hid (show Below w.heap.size w v4 by rw [hv4]; exact (HBk.out.setCell (Nat.le_succ _) _).setCell (Nat.le_succ _) _)
                      obtain ⟨r1, r2, r3, r4⟩ := Q11.out.facts
                      refine bodyPost_ret (ret_pool rfl _ _ _ _ rfl (by rw [r3 0 2 (by simp [csize])]; trivial)) rfl ?_
                      rw [r4 0 2 (by simp [csize]), HN.out]
                      exact ⟨HB11.out, rfl⟩
                  · obtain ⟨X, hX⟩ : ∃ X, X = deltaB va n2 la p := ⟨_, rfl⟩
                    have HX := Lib.hid hX
                    have DL := Lib.hid (fun W' (hb : Below vr.heap.size vr W') => show Calls Tryz.prog 23 #[.agg #[.int .i64 va, .slice A n c], .agg #[.int .i64 (n2 : Nat), .slice Ap np cp]] W' (NewP W' X) by rw [hX]; exact rDelta_any va n2 la p A Ap n np c cp W' (HA.out.go (below2 HBv.out hb)) (RP.out.go hb) HFA.out HFP.out HRA.out HK.out)
                    obtain ⟨E, hE⟩ : ∃ E, (X == d) = E := ⟨_, rfl⟩
                    have HE := Lib.hid hE
                    have hE2 : (X != d) = !E := by rw [← hE]; rfl
                    have hE3 := hE
                    clear hX hE
                    go_upto_region 31 with fail
                    go_region_held_law (fun W' => W'.cell? ⟨y, 0, none⟩ = some (.int .i64 (n2 : Nat)) ∧ W'.cell? ⟨y, 1, none⟩ = some (.slice Ap np cp) ∧ W'.cell? ⟨w.heap.size, 0, none⟩ = some (.int .i64 va) ∧ W'.cell? ⟨w.heap.size, 1, none⟩ = some (.slice A n c) ∧ (convert 32 9 (.slice D m cd)).run Tryz.prog W' = .ok (.string (textOf d)) W')
                      (first | exact KS.out _ BZ.out | exact KS.out _ Ba.out | exact KS.out _ Bb.out)
                      (first | (go_at_call 21; (with_reducible refine (G1.out _ BZ.out).mono ?_); rintro e wa ⟨rfl, hb⟩; have Ba := Lib.hid (below2 BZ.out hb); clear hb) | (go_at_call 23; (with_reducible refine (DL.out _ Ba.out).mono ?_); rintro e wb ⟨Ar, nr, cr, rfl, hnr, hor, hb⟩; have Bb := Lib.hid (below2 Ba.out hb); have t6 := (text_later (show RdB wb wb.heap.size Ar nr X by rw [hnr] at hor ⊢; exact RdB.of_own hor) cr).2; clear hnr hor hb))
                    all_goals
                      have Rk := Lib.hid (Rv.out.go Bb.out)
                      have HBk := Lib.hid (below2 HBv.out Bb.out)
                      have Yk := Lib.hid (HYB.out.go Bb.out)
                      cases E
                      · have HN := Lib.hid (show V = none by
                          rw [← EQV.out]
                          exact if_neg (fun h => by
                            have h1 := HE.out
                            rw [HX.out, h.2] at h1
                            simp at h1))
                        have Q11 := Lib.hid ((Rk.out.set_same 0 (.int .i64 0)).set_same 1 (.slice none 0 0))
                        obtain ⟨r1, r2, r3, r4⟩ := Rk.out.facts
                        have lr := Rk.out.lt
                        go_wp2
                        try simp only [Exit.inBlock, Exit.then]
                        obtain ⟨v4, hv4⟩ : ∃ v, v = (wb.setCell ⟨w.heap.size + 1, 0, none⟩ (.int .i64 0)).setCell ⟨w.heap.size + 1, 1, none⟩ (.slice none 0 0) := ⟨_, rfl⟩
                        rw [← hv4] at Q11 ⊢
                        have HB11 := Lib.hid (show Below w.heap.size w v4 by rw [hv4]; exact (HBk.out.setCell (Nat.le_succ _) _).setCell (Nat.le_succ _) _)
                        obtain ⟨r1, r2, r3, r4⟩ := Q11.out.facts
                        refine bodyPost_ret (ret_pool rfl _ _ _ _ rfl (by rw [r3 0 2 (by simp [csize])]; trivial)) rfl ?_
                        rw [r4 0 2 (by simp [csize]), HN.out]
                        exact ⟨HB11.out, rfl⟩
                      · have HN := Lib.hid (show V = some ((n2 : Int), p) by
                          rw [← EQV.out]
                          exact if_pos ⟨HK.out, by have h1 := HE.out; rw [← HX.out]; simpa using h1⟩)
                        obtain ⟨y1, y2, y3, y4⟩ := Yk.out.facts
                        have ly := Yk.out.lt
                        obtain ⟨r1, r2, r3, r4⟩ := Rk.out.facts
                        have lr := Rk.out.lt
                        have Q11 := Lib.hid ((Rk.out.set_same 0 (.int .i64 (n2 : Nat))).set_same 1 (.slice Ap np cp))
                        have RPk := Lib.hid (RP.out.go Bb.out)
                        go_wp2
                        try simp only [Exit.inBlock, Exit.then]
                        obtain ⟨v4, hv4⟩ : ∃ v, v = (wb.setCell ⟨w.heap.size + 1, 0, none⟩ (.int .i64 (n2 : Nat))).setCell ⟨w.heap.size + 1, 1, none⟩ (.slice Ap np cp) := ⟨_, rfl⟩
                        have RPv := Lib.hid (show RdR Bk.arr 27 v4 v4.heap.size Ap np p by
                          rw [hv4]
                          exact ((RPk.out.setO (p := ⟨w.heap.size + 1, 0, none⟩) _ (fun a ha e => by have := RPB.out a ha; have e2 : w.heap.size + 1 = a.block := e; omega)).setO (p := ⟨w.heap.size + 1, 1, none⟩) _ (fun a ha e => by have := RPB.out a ha; have e2 : w.heap.size + 1 = a.block := e; omega)).more (by simp [World.setCell]))
                        rw [← hv4] at Q11 ⊢
                        have HB11 := Lib.hid (show Below w.heap.size w v4 by rw [hv4]; exact (HBk.out.setCell (Nat.le_succ _) _).setCell (Nat.le_succ _) _)
                        obtain ⟨r1, r2, r3, r4⟩ := Q11.out.facts
                        refine bodyPost_ret (ret_pool rfl _ _ _ _ rfl (by rw [r3 0 2 (by simp [csize])]; trivial)) rfl ?_
                        rw [r4 0 2 (by simp [csize]), HN.out]
                        exact ⟨HB11.out, Ap, cp, by rw [← HNP.out]; rfl, by have h := RPv.out; rw [HNP.out] at h; exact h⟩
                · have hpos : (0 : Int) < (nl : Int) := by omega
                  have hposN : 0 < nl := by omega
                  obtain ⟨ab, ao, hae, _, _⟩ := RdR.cell Bk.arr_size noBk HL.out (k := 0) (by omega)
                  subst hae
                  go_wp2
                  go_loopw [16, 17] (fun s16 s17 wx => ∃ b i : Nat, b < nl ∧ i ≤ nl ∧ s16 = .int .i64 b ∧ s17 = .int .i64 i ∧ Below vr.heap.size vr wx ∧ MinTo l i b) (fun _ s17 _ => nl - (intOf s17).toNat)
                  case atStart => exact ⟨0, 0, by omega, by omega, rfl, rfl, Below.refl _ _, fun j hj => by omega⟩
                  case round =>
                    obtain ⟨b, i, hb, hi, rfl, rfl, hbel, hmin⟩ := hrel
                    have HBL := Lib.hid hbel
                    have HMIN := Lib.hid hmin
                    obtain ⟨vt, hvt⟩ : ∃ v, v = wr := ⟨_, rfl⟩
                    rw [← hvt] at HBL ⊢
                    clear hbel hmin hvt
                    have L4 := Lib.hid (HL.out.go HBL.out)
                    by_cases hlt : i < nl
                    · have hi2 : (i : Int) < (nl : Int) := by omega
                      have hb2 : (b : Int) < (nl : Int) := by omega
                      obtain ⟨b1, o1, e1, _, hc1⟩ := RdR.cell Bk.arr_size noBk L4.out hlt
                      obtain ⟨b2, o2, e2, _, hc2⟩ := RdR.cell Bk.arr_size noBk L4.out hb
                      injection e1 with e1
                      injection e1 with e11 e12 _
                      subst e11 e12
                      injection e2 with e2
                      injection e2 with e21 e22 _
                      subst e21 e22
                      have hci := hc1 0 (by omega)
                      have hcb := hc2 0 (by omega)
                      rw [Nat.add_zero, Bk.arr_0] at hci hcb
                      obtain ⟨pi, hpi⟩ : ∃ q, q = (l.getD i noBk).name := ⟨_, rfl⟩
                      obtain ⟨pb, hpb⟩ : ∃ q, q = (l.getD b noBk).name := ⟨_, rfl⟩
                      rw [← hpi] at hci
                      rw [← hpb] at hcb
                      have HPI := Lib.hid hpi
                      have HPB := Lib.hid hpb
                      have hbl := bytesLess_is pi pb
                      clear hc1 hc2 hpi hpb
                      cases hK : decide (cmpS pi pb < 0)
                      · have hbt : Op.bytesLess pi pb = false := by rw [hbl, hK]
                        have HKK := Lib.hid hK
                        clear hbl hK
                        go_wp2_with fail
                        go_quiet (fail)
                        go_wp2
                        go_roundw
                        case rel => exact ⟨b, i + 1, hb, by omega, rfl, by go_num, below_drewN HBL.out _, fun j hj => by
                          by_cases hji : j = i
                          · rw [hji, ← HPI.out, ← HPB.out]; exact of_decide_eq_false HKK.out
                          · exact HMIN.out j (by omega)⟩
                        case measure => simp [intOf] <;> omega
                      · have hbt : Op.bytesLess pi pb = true := by rw [hbl, hK]
                        have HKK := Lib.hid hK
                        clear hbl hK
                        go_wp2_with fail
                        go_quiet (fail)
                        go_wp2
                        go_roundw
                        case rel => exact ⟨i, i + 1, hlt, by omega, by go_num, by go_num, below_drewN HBL.out _, fun j hj => by
                          have h1 : cmpS pi pb < 0 := of_decide_eq_true HKK.out
                          by_cases hji : j = i
                          · rw [hji, cmpS_self]; omega
                          · intro h2
                            rw [← HPI.out] at h2
                            exact HMIN.out j (by omega) (by rw [← HPB.out]; exact cmpS_trans h2 h1)⟩
                        case measure => simp [intOf] <;> omega
                    · obtain rfl : nl = i := by omega
                      have Q4 := Lib.hid (HQ.out.go HBL.out)
                      have Y4 := Lib.hid (HYB.out.go HBL.out)
                      obtain ⟨b1, o1, e1, _, xh, xc⟩ := RdR.at_ Bk.arr_size noBk L4.out hb
                      injection e1 with e1
                      injection e1 with e11 e12 _
                      subst e11 e12
                      obtain ⟨x, hx⟩ : ∃ x, x = l.getD b noBk := ⟨_, rfl⟩
                      rw [← hx] at xc
                      have SELN := Lib.hid (show Sel L0 (p ++ [x]) (l.take b ++ l.drop (b + 1)) by
                        rw [hx]
                        exact HSEL.out.next (by have := HNL.out; omega) (fun j hj => HMIN.out j (by have := HNL.out; omega)))
                      have hbi : (b : Int) < (nl : Int) := by omega
                      have hay : y < ab := (HAL.out _ rfl).1
                      have hoa := (HAL.out _ rfl).2
                      have HOA := Lib.hid hoa
                      have hoy : (Value.slice Ap np cp).ownBlock ≠ some y := fun e => by have := HQ.out.lt e; omega
                      have Yd := Lib.hid Y4.out.drew
                      have Ya := Lib.hid ((Y4.out.alloc (.cells x.arr 60)).drew)
                      have Qa := Lib.hid ((Q4.out.alloc (.cells x.arr 60)).drew)
                      have RO := Lib.hid ((RdR.one (f := Bk.arr) x Bk.arr_size vt 60).drew)
                      have HGL := Lib.hid (show p.length + 1 ≤ 1000000 by have := HNP.out; omega)
                      have YC := Lib.hid (fun (w5 : World) (h6 : (vt.alloc (.cells x.arr 60)).drew.grownBy w5 (Value.slice Ap np cp).ownBlock) => show Box w5 y #[.int .i64 (n2 : Nat), .slice Ap np cp] from Ya.out.grown h6 (fun e => hoy e.symm))
                      have LC := Lib.hid (fun (w5 : World) (h6 : (vt.alloc (.cells x.arr 60)).drew.grownBy w5 (Value.slice Ap np cp).ownBlock) => show RdR Bk.arr 27 w5 w5.heap.size (some ⟨ab, ao, none⟩) nl l from (((L4.out.up (.cells x.arr 60)).drew).grownO h6 (fun a ha e => by injection ha with ha; rw [← ha] at e; exact HOA.out e.symm)).more h6.size)
                      obtain ⟨y1, y2, y3, y4⟩ := Yd.out.facts
                      have ly := Yd.out.lt
                      obtain ⟨z1, z2, z3, z4⟩ := Ya.out.facts
                      have lz := Ya.out.lt
                      clear hx hoa hoy
                      go_upto_region 29 with fail
                      go_region_law (refine step_rqx (o := ⟨some 113, _, _, _, _, _⟩) rowT_bk rfl (.tmp 107) (.tmp 112) rfl (.slice Ap np cp) (some ⟨vt.heap.size, 0, none⟩) 1 1 (by kernel_rfl) Qa.out (by kernel_rfl) RO.out HGL.out ?_; intro A9 n9 c9 w9 h5 h6; have Q9 := Lib.hid h5; have Y9 := Lib.hid (YC.out _ h6); have L9 := Lib.hid (LC.out _ h6); obtain ⟨x1, x2, x3, x4⟩ := Y9.out.facts; have lx := Y9.out.lt; clear h5 h6)
                      all_goals
                        have Q6 := Lib.hid (Q9.out.set (q := y) (by simp) (by omega) (by omega) 1 (.slice A9 n9 c9))
                        have Y6 := Lib.hid (show Box (w9.setCell ⟨y, 1, none⟩ (.slice A9 n9 c9)) y #[.int .i64 (n2 : Nat), .slice A9 n9 c9] from Y9.out.set_same 1 _)
                        have L6 := Lib.hid ((L9.out.setO (p := ⟨y, 1, none⟩) (.slice A9 n9 c9) (fun a ha e => by injection ha with ha; rw [← ha] at e; have e2 : y = ab := e; omega)).more (show w9.heap.size ≤ (w9.setCell ⟨y, 1, none⟩ (.slice A9 n9 c9)).heap.size by simp [World.setCell]))
                        go_upto_region 30 with fail
                        obtain ⟨w30, hw30⟩ : ∃ v, v = w9.setCell ⟨y, 1, none⟩ (.slice A9 n9 c9) := ⟨_, rfl⟩
                        rw [← hw30] at Q6 Y6 L6 ⊢
                        clear hw30 Q9 Y9 L9 x1 x2 x3 x4 lx y1 y2 y3 y4 ly z1 z2 z3 z4 lz xh xc Yd Ya Qa RO YC LC
                        have Z0 := Lib.hid ((Rz.lit (f := Bk.arr) (sz := 27) (e := 60) w30).drew)
                        have RA := Lib.hid (((L6.out.uptoK Bk.arr_size (k := b) (by omega)).up (.cells #[] 60)).drew)
                        have HG1 := Lib.hid (show ([] : List Bk).length + b ≤ 1000000 by simp; omega)
                        have HG3 := Lib.hid (show ([] ++ l.take b : List Bk).length + 0 ≤ 1000000 by simp; omega)
                        have HG2 := Lib.hid (show ([] ++ l.take b : List Bk).length + (nl - (b + 1)) ≤ 1000000 by simp; omega)
                        have hwb : IntKind.i64.wrap ((b : Int) + 1) = ((b + 1 : Nat) : Int) := by rw [IntWalk.i64_in _ (by omega)]; omega
                        have hbc : b ≤ cl := by omega
                        have hbcI : (b : Int) ≤ (cl : Int) := by omega
                        have hbn : b + 1 ≤ nl := by omega
                        have hbnI : (b : Int) + 1 ≤ (nl : Int) := by omega
                        have hncI : (nl : Int) ≤ (cl : Int) := by omega
                        have hbb1 : (b : Int) ≤ (b : Int) + 1 := by omega
                        have h0b : (0 : Int) ≤ (b : Int) + 1 := by omega
                        by_cases hck : cl = b + 1
                        · have HDR := Lib.hid (show l.drop (b + 1) = [] from List.drop_eq_nil_of_le (by have := HNL.out; omega))
                          have hz1 : nl - (b + 1) = 0 := by omega
                          have hz2 : cl - (b + 1) = 0 := by omega
                          have HZ1 := Lib.hid hz1
                          have RB := Lib.hid (fun (A6 : Option Addr) (n6 c6 : Nat) (w31 : World) (z : Rz Bk.arr 27 60 [] w30 w31 (.slice A6 n6 c6) ([] ++ l.take b)) => show RdR Bk.arr 27 w31 w31.heap.size (some ⟨ab, ao, none⟩) 0 (l.drop (b + 1)) from by rw [HDR.out]; exact RdR.zero _ _ _)
                          obtain rfl : nl = b + 1 := by omega
                          subst hck
                          clear hz1 hz2
                          go_region_law (first | (refine step_rzx (o := ⟨some 119, _, _, _, _, _⟩) rowT_bk rfl (.tmp 115) (.tmp 118) rfl (.slice (some ⟨w30.heap.size, 0, none⟩) 0 0) (some ⟨ab, ao, none⟩) b (b + 1) (by kernel_rfl) Z0.out (by kernel_rfl) RA.out HG1.out ?_; intro A6 n6 c6 w31 h2 h3; have Z1 := Lib.hid h2; have RB1 := Lib.hid (RB.out _ _ _ _ h2); clear h2 h3) | (refine step_rzx (o := ⟨some 124, _, _, _, _, _⟩) rowT_bk rfl (.tmp 119) (.tmp 123) rfl (.slice A6 n6 c6) (some ⟨ab, ao, none⟩) 0 0 (by kernel_rfl) Z1.out (by kernel_rfl) RB1.out HG3.out ?_; intro A7 n7 c7 w32 h4 h5; have Z2 := Lib.hid h4; clear h4 h5))
                          all_goals
                            rw [List.nil_append] at Z2
                            have hn7 : n7 + 1 = b + 1 := by
                              have h1 := Z2.out.len
                              have h2 := HNL.out
                              rw [List.length_append, List.length_take, List.length_drop] at h1
                              omega
                            have CC7 := Lib.hid (show n7 ≤ c7 ∧ c7 ≤ 9223372036854775807 by
                              obtain ⟨_, _, e9, h1, h2⟩ := own_form Z2.out.own
                              injection e9 with _ e91 e92
                              unfold maxLen at h2
                              omega)
                            go_wp2
                            go_roundw
                            case rel => exact ⟨p ++ [x], l.take b ++ l.drop (b + 1), A9, A7, n9, c9, n7, c7, ⟨rfl, rfl, rfl⟩, Q6.out.go Z2.out.bel, Y6.out.go Z2.out.bel, Z2.out.rd, fun a ha => by
                                have h1 := (Z2.out.lt (k := a.block) (by rw [ha]; rfl)).1
                                have h2 := Y6.out.lt
                                exact ⟨by omega, fun e => by have h3 := Q6.out.lt e; omega⟩, CC7.out, SELN.out⟩
                            case measure => simp [lenOf]; omega
                        · have RB := Lib.hid (fun (A6 : Option Addr) (n6 c6 : Nat) (w31 : World) (z : Rz Bk.arr 27 60 [] w30 w31 (.slice A6 n6 c6) ([] ++ l.take b)) => show RdR Bk.arr 27 w31 w30.heap.size (some ⟨ab, ao + (b + 1) * 27, none⟩) (nl - (b + 1)) (l.drop (b + 1)) from (L6.out.dropK Bk.arr_size (k := b + 1) (by omega) hnc hck).to z.bel (Nat.le_refl _))
                          go_region_law (first | (refine step_rzx (o := ⟨some 119, _, _, _, _, _⟩) rowT_bk rfl (.tmp 115) (.tmp 118) rfl (.slice (some ⟨w30.heap.size, 0, none⟩) 0 0) (some ⟨ab, ao, none⟩) b cl (by kernel_rfl) Z0.out (by kernel_rfl) RA.out HG1.out ?_; intro A6 n6 c6 w31 h2 h3; have Z1 := Lib.hid h2; have RB1 := Lib.hid (RB.out _ _ _ _ h2); clear h2 h3) | (refine step_rzx (o := ⟨some 124, _, _, _, _, _⟩) rowT_bk rfl (.tmp 119) (.tmp 123) rfl (.slice A6 n6 c6) (some ⟨ab, ao + (b + 1) * 27, none⟩) (nl - (b + 1)) (cl - (b + 1)) (by kernel_rfl) Z1.out (by kernel_rfl) RB1.out HG2.out ?_; intro A7 n7 c7 w32 h4 h5; have Z2 := Lib.hid h4; clear h4 h5))
                          all_goals
                            rw [List.nil_append] at Z2
                            have hn7 : n7 + 1 = nl := by
                              have h1 := Z2.out.len
                              have h2 := HNL.out
                              rw [List.length_append, List.length_take, List.length_drop] at h1
                              omega
                            have CC7 := Lib.hid (show n7 ≤ c7 ∧ c7 ≤ 9223372036854775807 by
                              obtain ⟨_, _, e9, h1, h2⟩ := own_form Z2.out.own
                              injection e9 with _ e91 e92
                              unfold maxLen at h2
                              omega)
                            go_wp2
                            go_roundw
                            case rel => exact ⟨p ++ [x], l.take b ++ l.drop (b + 1), A9, A7, n9, c9, n7, c7, ⟨rfl, rfl, rfl⟩, Q6.out.go Z2.out.bel, Y6.out.go Z2.out.bel, Z2.out.rd, fun a ha => by
                                have h1 := (Z2.out.lt (k := a.block) (by rw [ha]; rfl)).1
                                have h2 := Y6.out.lt
                                exact ⟨by omega, fun e => by have h3 := Q6.out.lt e; omega⟩, CC7.out, SELN.out⟩
                            case measure => simp [lenOf]; omega
      · cases r with
        | none => exact absurd HGO1.out (by simp)
        | some l =>
          have hlt : k < n3 := by have := HGO1.out; simp at this; exact this
          obtain ⟨⟨x, r'⟩, ex⟩ : ∃ z, textR (some l) = z := ⟨_, rfl⟩
          have HST := Lib.hid (HGO.out.trans (show behindQ acc (listQ textR (n3 - k) (some l)) = behindQ (acc ++ [x]) (listQ textR (n3 - (k + 1)) r') by
            rw [show n3 - k = (n3 - (k + 1)) + 1 by omega]; exact listQ_step acc ex))
          have C5 := Lib.hid (rowText_any (w.heap.size + 2) w.heap.size (some l) vr HQ.out.rd)
          rw [ex] at C5
          clear ex HGO HGO1 d1 d2 hplr
          go_wp2_with fail
          (with_reducible refine C5.out.mono ?_)
          rintro e w6 ⟨rfl, k1, k2⟩
          have Q6 := Lib.hid (HQ.out.read k1 k2)
          have Q7 := Lib.hid (Q6.out.alloc (.cells (txC x) 9))
          have RO := Lib.hid (RdR.one (f := txC) x txC_size w6 9)
          have HGL := Lib.hid (show acc.length + 1 ≤ 1000000 by rw [HL.out]; omega)
          clear k1 k2
          go_wp2_with (at_builtin; refine wpList_rq rowT_tx rfl (.tmp 40) (.tmp 43) rfl rfl Q7.out rfl RO.out HGL.out ?_; intro A5 n5 c5 w5 h5 h6; have Q5 := Lib.hid h5; clear h5 h6)
          have hn5 : n5 = k + 1 := by
            obtain ⟨_, _, e9⟩ := Q5.out.form
            injection e9 with _ e9 _
            rw [e9, List.length_append, HL.out]; rfl
          subst hn5
          go_roundw
          case rel => exact ⟨k + 1, acc ++ [x], r', A5, c5, by omega, by go_num, rfl, by simp [HL.out], Q5.out, HST.out⟩
          case measure => simp [intOf] <;> omega
end Go.Proofs.YtmpemeemlhmaaaaGreat
