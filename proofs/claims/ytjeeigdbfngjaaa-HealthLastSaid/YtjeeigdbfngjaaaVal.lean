/- slices.Values, AppendSeq, Collect, Sorted on texts. -/
import Derived.Test.YtjeeigdbfngjaaaSrt
import Derived.RangeFuncBox
import Derived.RangeFuncLeaves
import Derived.Shelf.Abstract
import Derived.WalkKit
import Derived.OwnWalkIn
import Derived.TacticsInMore
import Derived.LoopNIn
import Derived.LoopIn
import Derived.Maps.AppendAt
set_option linter.unusedSimpArgs false
set_option linter.unusedVariables false
namespace Go.Proofs.Ytjeeigdbfngjaaa
open Go.RowKit Go.Shelf

attribute [local go_sem] Oper.semAt_some

set_option maxRecDepth 100000 in
set_option maxHeartbeats 2000000 in
/-- the iterator of slices.Values: for every loop body that keeps what lay below n₀ -/
theorem values1_in (F : Fence) (n : Nat) (hf : F.fn 38) (hro : F.round = none) (hn : 1 ≤ n) (l Bs n₀ : Nat) (A : Option Addr) (len cap : Nat) (zs : List (List UInt8)) (hlen : len ≤ 100000) (J Jx : List (List UInt8) → World → Prop)
    (hY : ∀ pre x W, J pre W → pre.length < len → YieldAt F (n - 1) Try.prog l #[.string (textOf x)] W fun e W' =>
      (e = .returned (.bool true) ∧ J (pre ++ [x]) W' ∧ Below n₀ W W') ∨ (e = .returned (.bool false) ∧ Jx (pre ++ [x]) W'))
    (W : World) (hBs : W.cell? ⟨Bs, 0, none⟩ = some (.slice A len cap)) (hR : RdT W n₀ A len zs) (h0 : J [] W) :
    CallsIn F n Try.prog 38 #[.func (.yield l) #[] #[], .pointer (some ⟨Bs, 0, none⟩)] W fun e W' => (∃ v, e = .returned v) ∧
      ((∃ ys, ys = zs ∧ J ys W') ∨ (∃ pre, pre <+: zs ∧ Jx pre W')) := by
  have hzl := hR.1
  refine callsIn_of_wp Try.func38 rfl hf ?_ hro
  simp only [Try.ntmps38, List.size_toArray, List.length_cons, List.length_nil, Nat.reduceAdd, Nat.reduceSub, Array.replicate_succ, Array.replicate_zero, List.push_toArray, List.append_toArray, List.nil_append, List.cons_append]
  gi_wp2
  gi_loopw [7] (fun i wr => ∃ k : Nat, k ≤ len ∧ i = .int .i64 k ∧ J (zs.take k) wr ∧ Below n₀ W wr)
    (fun i _ => len - (intOf i).toNat)
  case atStart => exact ⟨0, Nat.zero_le _, rfl, h0, Below.refl _ _⟩
  case round =>
    obtain ⟨k, hk, rfl, hJs, hnx⟩ := hrel
    by_cases hlt : k < len
    · have hki : (k : Int) < len := by omega
      obtain ⟨b, o, rfl, hbb, hc⟩ := (hR.below hnx).text hlt
      obtain ⟨x, hx⟩ : ∃ x, x = zs.getD k [] := ⟨_, rfl⟩
      rw [← hx] at hc
      have hsn : zs.take k ++ [x] = zs.take (k + 1) := by rw [hx]; exact take_snocR [] zs k (by omega)
      have HSN := Lib.hid hsn
      clear hx hsn hbb
      obtain ⟨fn, tmps, assign, body, hy, hRd⟩ := hY _ x wr hJs (by rw [List.length_take]; omega)
      gi_wp2
      refine hRd.mono ?_
      rintro e W3 (⟨rfl, hJ3, hk3⟩ | ⟨rfl, hJx3⟩)
      · gi_wp2
        go_roundw
        case rel => exact ⟨k + 1, by omega, by simp, by rw [← HSN.out]; exact hJ3, hnx.trans hk3⟩
        case measure => simp [intOf]; omega
      · gi_wp2
        refine bodyPost_ret (results_none rfl _ _ _) rfl ?_
        exact ⟨⟨_, rfl⟩, .inr ⟨_, by rw [HSN.out]; exact List.take_prefix _ _, hJx3⟩⟩
    · obtain rfl : k = len := by omega
      have hd : decide ((k : Int) < k) = false := by simp
      gi_wp2
      go_end0
      exact ⟨⟨_, rfl⟩, .inl ⟨_, List.take_of_length_le (by omega), hJs⟩⟩
set_option maxHeartbeats 1000000 in
theorem values_any (A : Option Addr) (len cap : Nat) (w : World) :
    Calls Try.prog 30 #[.slice A len cap] w fun e w' => e = .returned (.func (.func 38) #[] #[.pointer (some ⟨w.heap.size, 0, none⟩)]) ∧ w.alloc (.cells #[.slice A len cap] 35) = w' := by
  go_enter Try.func30, Try.ntmps30
  go_wp2
  go_ret
  exact ⟨rfl, rfl⟩
theorem values_stops (F : Fence) (n : Nat) (hf : F.fn 38) (hro : F.round = none) (hn : 1 ≤ n) (Bs n₀ : Nat) (A : Option Addr) (len cap : Nat) (zs : List (List UInt8)) (hlen : len ≤ 100000) (w : World) (hBs : Bs < w.heap.size) (hn₀ : n₀ ≤ w.heap.size)
    (hc : w.cell? ⟨Bs, 0, none⟩ = some (.slice A len cap)) (hR : RdT w n₀ A len zs) :
    SeqStopsK F n Try.prog 38 #[.pointer (some ⟨Bs, 0, none⟩)] (fun x : List UInt8 => #[Value.string (textOf x)]) (Below n₀) (fun ys => ys = zs) (fun pre => pre <+: zs) len w := fun l J Jx W hW _ _ hY h0 => by
  have hc' := (hW.cell (p := ⟨Bs, 0, none⟩) hBs).trans hc
  exact values1_in F n hf hro hn l Bs n₀ A len cap zs hlen J Jx hY W hc' (hR.to hW hn₀) h0
set_option maxRecDepth 100000 in
set_option maxHeartbeats 4000000 in
/-- all texts of a slice, collected -/
theorem appendSeq_in (F : Fence) (n : Nat) (h3 : F.fn 39) (h5 : F.fn 38) (hro : F.round = none) (hn : 3 ≤ n) (Bs : Nat) (A : Option Addr) (len cap : Nat) (zs : List (List UInt8)) (hlen : len ≤ 100000) (w : World) (hBs : Bs < w.heap.size)
    (hc : w.cell? ⟨Bs, 0, none⟩ = some (.slice A len cap)) (hR : RdT w w.heap.size A len zs) :
    CallsIn F n Try.prog 39 #[.slice none 0 0, .func (.func 38) #[] #[.pointer (some ⟨Bs, 0, none⟩)]] w fun e W' =>
      ∃ A' c', e = .returned (.slice A' len c') ∧ W'.ownsRow w.heap.size 9 1 (.slice A' len c') len (cellsT zs) ∧ Below w.heap.size w W' := by
  have h1 : 1 ≤ n := by omega
  have hzl := hR.1
  obtain ⟨i0, hi, hz0, hz1, hzb⟩ := infoTx
  refine callsIn_of_wp_marks Try.func39 rfl h3 ?_ hro
  simp only [Try.ntmps39, List.size_toArray, List.length_cons, List.length_nil, Nat.reduceAdd, Nat.reduceSub, Array.replicate_succ, Array.replicate_zero, List.push_toArray, List.append_toArray, List.nil_append, List.cons_append]
  gi_wp2
  have bO := Boxed.new w 35 (.slice none 0 0)
  have hB0 : Below w.heap.size w (w.alloc (.cells #[.slice none 0 0] 35)) := (Below.refl _ w).alloc (Nat.le_refl _) _
  refine wpIn_rangeFunc_ownG hro h1 (gf := 38) (lb := #[.pointer (some ⟨Bs, 0, none⟩)]) rfl h5 (enters_of Try.func38 (by kernel_rfl) rfl)
    (values_stops F (n - 1) h5 hro (by omega) Bs w.heap.size A len cap zs hlen _ (by simp; omega) (by simp) ((hB0.cell (p := ⟨Bs, 0, none⟩) hBs).trans hc) (hR.below hB0)) belowK_t (belowK_b (by simp)) (Below.refl _ _) (fun _ => rfl)
    (fun pre W => (∃ v, Boxed W w.heap.size 35 v ∧ W.ownsRow w.heap.size 9 1 v pre.length (cellsT pre) ∧ True) ∧ Below w.heap.size w W)
    (fun _ _ _ => False)
    (OwnFrom.and (Own.from (holdsRow_own w.heap.size w.heap.size 35 9 1 (fun pre => pre.length) (fun pre => cellsT pre) (fun _ _ => True)) _) (ownFrom_below (Nat.le_refl _) (by simp)))
    (fun _ _ _ _ _ hs _ _ => hs)
    ⟨⟨_, bO, World.ownsRow_nil _ _ _ _, trivial⟩, hB0⟩
    (fun x => { tmps := #[.slice none 0 0, .func (.func 38) #[] #[.pointer (some ⟨Bs, 0, none⟩)], .pointer (some ⟨w.heap.size, 0, none⟩), undef, .slice none 0 0, .string (textOf x), .func (.func 38) #[] #[.pointer (some ⟨Bs, 0, none⟩)], .string (textOf x), undef, undef, undef, undef, undef], defers := [] }) ?assign ?body ?done ?stop
  case assign =>
    intro l x W K hK
    gi_wp2
    exact hK
  case body =>
    rintro l pre x W ⟨⟨v, hv, hrow, _⟩, hB⟩ hlt
    have hcv := hv.cell
    have hby : (pre.length + 1) * i0.bytes ≤ 140737488355328 := Nat.le_trans (Nat.mul_le_mul (show pre.length + 1 ≤ 100002 by omega) hzb) (by omega)
    gi_wp2_with (gi_at_builtin; refine wpListIn_append_own _ rfl _ _ 35 rfl w.heap.size 9 i0 (.string ⟨#[]⟩) 1 i0.bytes Try.underlying35 hi hz0 hz1 rfl rfl (by decide) _ _ _ rfl (hrow.alloc _) ⟨W.heap.size, 0, none⟩ 1 1 [.string (textOf x)] rfl rfl (cell_one_new _ _ _) (by simp [Value.oneCell']) (by unfold maxLen; omega) hby (by have := hB.size; simp; omega) ?_; intro v' w1 hown' hgrow _; obtain ⟨g', cap', rfl⟩ := ownsRow_succ hown'; obtain ⟨hv1, hv2, hr2, hk2, hb2⟩ := hv.appended (by decide) hrow hB.size (Nat.le_refl _) hown' hgrow; have hc1 := hv1.cell; have hf1 := hv1.frozen)
    exact ⟨hk2.from _, hb2, ⟨_, hv2, by rw [List.length_append, ← cellsT_snoc]; exact hr2, trivial⟩, hB.trans hb2⟩
  case done =>
    rintro D ys W hD rfl ⟨⟨v, hv, hrow, _⟩, hB⟩ hK
    have hcv := hv.cell
    gi_wp2
    refine ⟨by simp, .inl ⟨_, _, rfl, run_takeDeferred hK, ?_⟩⟩
    rw [hzl] at hrow
    obtain ⟨A', c', hv', _, _⟩ := own_form hrow
    refine ⟨_, results_tmp rfl _ _ _, A', c', by rw [← hv']; rfl, ?_, hB.trans (belowK_b (w := w) (Nat.le_refl _) W D _ _ (by simp at hD; omega) hK rfl rfl)⟩
    rw [← hv']
    exact ownsRow_putObj hrow _ hK rfl
  case stop =>
    rintro D c pre W _ _ h _
    exact h.elim
/-- so many texts are answered, in memory of the call's own -/
def TxN (w : World) (n : Nat) (m : List (List UInt8)) (e : Ending) (w' : World) : Prop :=
  ∃ A c, e = .returned (.slice A n c) ∧ w'.ownsRow w.heap.size 9 1 (.slice A n c) n (cellsT m) ∧ Below w.heap.size w w'
theorem appendSeq_any (Bs : Nat) (A : Option Addr) (len cap : Nat) (zs : List (List UInt8)) (hlen : len ≤ 100000) (w : World) (hBs : Bs < w.heap.size)
    (hc : w.cell? ⟨Bs, 0, none⟩ = some (.slice A len cap)) (hR : RdT w w.heap.size A len zs) :
    Calls Try.prog 39 #[.slice none 0 0, .func (.func 38) #[] #[.pointer (some ⟨Bs, 0, none⟩)]] w (TxN w len zs) :=
  (callsIn_wide (n := 6)).1 (appendSeq_in Fence.wide 6 trivial trivial rfl (by omega) Bs A len cap zs hlen w hBs hc hR)
theorem collect_any (Bs : Nat) (A : Option Addr) (len cap : Nat) (zs : List (List UInt8)) (hlen : len ≤ 100000) (w : World) (hBs : Bs < w.heap.size)
    (hc : w.cell? ⟨Bs, 0, none⟩ = some (.slice A len cap)) (hR : RdT w w.heap.size A len zs) :
    Calls Try.prog 36 #[.func (.func 38) #[] #[.pointer (some ⟨Bs, 0, none⟩)]] w (TxN w len zs) := by
  have AP := Lib.hid (appendSeq_any Bs A len cap zs hlen w hBs hc hR)
  clear hc hR
  go_enter Try.func36, Try.ntmps36
  go_wp2_with fail
  refine AP.out.mono ?_
  rintro e w1 ⟨A1, c1, rfl, ho, hb⟩
  have HO := Lib.hid ho
  have HB := Lib.hid hb
  clear ho hb
  go_wp2
  go_ret
  exact ⟨A1, c1, rfl, HO.out, HB.out⟩
theorem sorted_any (Bs : Nat) (A : Option Addr) (len cap : Nat) (zs : List (List UInt8)) (hlen : len ≤ 100000) (w : World) (hBs : Bs < w.heap.size)
    (hc : w.cell? ⟨Bs, 0, none⟩ = some (.slice A len cap)) (hR : RdT w w.heap.size A len zs) :
    Calls Try.prog 29 #[.func (.func 38) #[] #[.pointer (some ⟨Bs, 0, none⟩)]] w (TxN w len (srtL zs)) := by
  have HZ := Lib.hid hR.1
  have AP := Lib.hid (collect_any Bs A len cap zs hlen w hBs hc hR)
  clear hc hR
  go_enter Try.func29, Try.ntmps29
  go_wp2_with fail
  refine AP.out.mono ?_
  rintro e w1 ⟨A1, c1, rfl, ho, hb⟩
  have HO := Lib.hid ho
  have HB := Lib.hid hb
  have ST := Lib.hid (sortT_any w.heap.size zs A1 len c1 w1 hlen HZ.out ho)
  clear ho hb
  go_wp2_with fail
  refine ST.out.mono ?_
  rintro e w2 ⟨rfl, ho2, hg⟩
  have HO2 := Lib.hid ho2
  have HB2 := Lib.hid (HB.out.grown hg HB.out.size (fun k hk => (HO.out.lt k hk).1))
  clear ho2 hg
  go_wp2
  go_ret
  exact ⟨A1, c1, rfl, HO2.out, HB2.out⟩
end Go.Proofs.Ytjeeigdbfngjaaa
