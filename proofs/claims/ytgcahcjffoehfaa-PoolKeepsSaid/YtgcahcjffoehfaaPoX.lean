/- What is done to a pool: all ways together; shares as cells. -/
import Derived.Test.YtgcahcjffoehfaaPoW
import Derived.Test.YtgcahcjffoehfaaPoO2
set_option linter.unusedSimpArgs false
set_option linter.unusedVariables false
namespace Go.Proofs.Ytgcahcjffoehfaa
open Go.RowKit

def doV (v : Int) (l : List Bk) (o : Opr) : Int := if whyNot v l o = 0 then v + 1 else v
def doL (v : Int) (l : List Bk) (o : Opr) : List Bk := if whyNot v l o = 0 then doneTo l o else l
theorem do_any (l : List Bk) (hs : Srt l) (v : Int) (hv : -9223372036854775808 ≤ v ∧ v < 9223372036854775807) (o : Opr) (hf : o.bk.fine) (hw : o.w < 18446744073709551616) (A : Option Addr) (c : Nat) (w : World) (hR : RdK w w.heap.size A l.length l) (hn : l.length ≤ 100000) :
    Calls Try.prog 19 #[.agg #[.int .i64 v, .slice A l.length c], .agg o.arr] w (PoolP w (doV v l o) (doL v l o) (whyNot v l o)) := by
  by_cases h : whyNot v l o = 0
  · have hV : doV v l o = v + 1 := by simp [doV, h]
    have hL : doL v l o = doneTo l o := by simp [doL, h]
    rw [hV, hL, h]
    obtain ⟨k1, k2, k3, k4, k5, k6⟩ := why_ok h
    unfold doneTo
    by_cases h1 : o.kind = 1
    · rw [if_pos h1]
      exact do_add l hs v hv o hf hw h h1 A c w hR hn
    · rw [if_neg h1]
      by_cases h2 : o.kind = 2
      · rw [if_pos h2]
        exact do_del l hs v hv o hf hw h h2 (k6 h1) A c w hR hn
      · rw [if_neg h2]
        by_cases h3 : o.kind = 3
        · rw [if_pos h3]
          exact do_weight l hs v hv o hf hw h h3 (k6 h1) A c w hR hn
        · rw [if_neg h3]
          by_cases h4 : o.kind = 4
          · rw [show (o.kind == 4) = true by simpa using h4]
            exact do_drain l hs v hv o hf hw h h4 (k6 h1) A c w hR hn
          · rw [show (o.kind == 4) = false by simpa using h4]
            exact do_back l hs v hv o hf hw h (by omega) (k6 h1) A c w hR hn
  · have hV : doV v l o = v := by simp [doV, h]
    have hL : doL v l o = l := by simp [doL, h]
    rw [hV, hL]
    exact do_not l hs v o hf hw h A c w hR hn

/-! ### shares -/
structure Shr where
  name : List UInt8
  q : Int
deriving DecidableEq
def Shr.arr (x : Shr) : Array Value := #[.string (textOf x.name), .int .i64 x.q]
def cellsSh (l : List Shr) : List Value := l.flatMap (·.arr.toList)
theorem cellsSh_length (l : List Shr) : (cellsSh l).length = l.length * 2 := by
  induction l with
  | nil => rfl
  | cons x l ih => simp only [cellsSh, List.flatMap_cons, List.length_append, List.length_cons] at ih ⊢; rw [ih]; simp [Shr.arr]; omega
theorem cellsSh_snoc (l : List Shr) (x : Shr) : cellsSh (l ++ [x]) = cellsSh l ++ x.arr.toList := by simp [cellsSh]
theorem infoSh : ∃ i : TypeInfo, Try.prog.info? 56 = some i ∧ i.zero = some (.agg #[.string ⟨#[]⟩, .int .i64 0]) ∧ i.size = 2 ∧ i.bytes ≤ 200 := by
  cases h : Try.prog.info? 56 with
  | none => exact absurd h (by have : (Try.prog.info? 56).isSome = true := by kernel_rfl
                               intro e; rw [e] at this; cases this)
  | some i =>
    have h1 : (Try.prog.info? 56).map (·.size) = some 2 := by kernel_rfl
    have h2 : (Try.prog.info? 56).map (fun i => decide (i.bytes ≤ 200)) = some true := by kernel_rfl
    have h3 : (Try.prog.info? 56).map (·.zero) = some (some (.agg #[.string ⟨#[]⟩, .int .i64 0])) := by kernel_rfl
    rw [h] at h1 h2 h3
    simp at h1 h2 h3
    exact ⟨i, rfl, h3, h1, h2⟩
def mkShs (n : Nat) (ps : Array (Nat × Value)) : Sem Value := Instr.buildSlice 51 n ps
@[go_sem ↓] theorem mkShs_is (n : Nat) (ps : Array (Nat × Value)) : Instr.buildSlice 51 n ps = mkShs n ps := rfl
@[go_sem] theorem run_mkShs (w : World) (s : List UInt8) (q : Int) : (mkShs 1 #[(0, .agg #[.string (textOf s), .int .i64 q])]).run Try.prog w = .ok (.slice (some ⟨w.heap.size, 0, none⟩) 1 1) (w.alloc (.cells #[.string (textOf s), .int .i64 q] 56)) := by
  obtain ⟨i0, hi0, hz0, hz1, hzb⟩ := infoSh
  exact run_slice_lit w _ _ i0 _ 2 Try.underlying51 hi0 hz0 hz1 rfl (by omega) (by omega) _ rfl
/-- a backend's share -/
def shareOf (ls : List (List UInt8)) (x : Bk) : Shr := ⟨x.name, if x.drain || isOne ls x.name then 0 else wQ x.w⟩
def sharesOf (ls : List (List UInt8)) (l : List Bk) : List Shr := l.map (shareOf ls)
theorem sharesOf_snoc (ls : List (List UInt8)) (l : List Bk) (i : Nat) (hi : i < l.length) : sharesOf ls (l.take (i + 1)) = sharesOf ls (l.take i) ++ [shareOf ls (l.getD i noBk)] := by
  rw [List.take_succ_eq_append_getElem hi, sharesOf, sharesOf, List.map_append, List.getD_eq_getElem?_getD, List.getElem?_eq_getElem hi]
  rfl
end Go.Proofs.Ytgcahcjffoehfaa
