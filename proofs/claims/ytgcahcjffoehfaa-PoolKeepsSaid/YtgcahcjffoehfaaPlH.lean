/- PoolKeeps: what is handed in to a pool stays; what is answered is new memory. No condition. -/
import Derived.Test.YtgcahcjffoehfaaPlG
import Derived.Deep.CutRange
import Derived.Deep.RegionHeldLaw
set_option linter.unusedSimpArgs false
set_option linter.unusedVariables false
namespace Go.Proofs.Ytgcahcjffoehfaa
open Go.ChangeShapes Go.WideShapes Go.ChangeAt Go.RowKit

theorem own_readsN {w : World} {base n : Nat} {l : List Bk} {A : Option Addr} {c : Nat} (hn : l.length = n) (h : w.ownsRow base 36 27 (.slice A n c) n (cellsBk l)) : RdK w w.heap.size A n l := by
  subst hn; exact own_reads h
theorem own_set_ne {w : World} {base size n : Nat} {e : TypeId} {v : Value} {xs : List Value} (h : w.ownsRow base e size v n xs) {p : Addr} (hp : v.ownBlock ≠ some p.block) (u : Value) : (w.setCell p u).ownsRow base e size v n xs := by
  refine ⟨h.1, ?_⟩
  rcases h.2 with hn | ⟨g, cap, cur, rfl, h2, h3, h4⟩
  · exact .inl hn
  · exact .inr ⟨g, cap, cur, rfl, h2, (Below.heap_setCell w p u g (fun e => hp (by rw [← e]; rfl))).trans h3, h4⟩
theorem grown_setCells {w W : World} {g : Nat} (vs : List Value) : ∀ (o : Nat) (W : World), w.grownBy W (some g) → w.grownBy (W.setCells g o vs) (some g) := by
  induction vs with
  | nil => exact fun _ _ h => h
  | cons v vs ih =>
    intro o W h
    rw [World.setCells]
    refine ih (o + 1) _ ⟨h.os, h.tape, h.output, by simpa [World.setCell] using h.size, fun k hk hne => ?_⟩
    rw [Below.heap_setCell W _ v k (fun e => hne (by rw [e]))]
    exact h.block k hk hne
theorem grown_setBk {w W : World} {g : Nat} (h : w.grownBy W (some g)) (o : Nat) (x : Bk) : w.grownBy (setBk W g o x) (some g) := grown_setCells (W := W) _ o W h
theorem RdK.grownO {W W' : World} {B n : Nat} {A : Option Addr} {l : List Bk} {g : Option Nat} (h : RdK W B A n l) (hB : B ≤ W.heap.size) (hg : W.grownBy W' g) (hne : ∀ a, A = some a → some a.block ≠ g) : RdK W' B A n l := by
  obtain ⟨h1, h2, h3⟩ := h
  refine ⟨h1, ⟨h2.1, fun hn => ?_⟩, h3⟩
  obtain ⟨a, hA, hb, hc⟩ := h2.2 hn
  refine ⟨a, hA, hb, fun j u hu => ?_⟩
  have := hc j u hu
  refine hg.cell this ?_
  have := hne a hA
  rwa [add_block]
theorem nb {x : Option Nat} {a b c : Nat} (h : x = some a ∨ x = some b) (h1 : c ≠ a) (h2 : c ≠ b) : x ≠ some c := by
  rcases h with rfl | rfl <;> (intro e; injection e with e; omega)
/-- the row of the call's own, cleared so far -/
def Clr (W : World) (B n : Nat) (A : Option Addr) : Prop := n = 0 ∨ ∃ g cur, A = some ⟨g, 0, none⟩ ∧ B ≤ g ∧ W.heap[g]? = some (.cells cur 36 (0, 0)) ∧ n * 27 ≤ cur.size
theorem clr_of {W : World} {B n c : Nat} {A : Option Addr} {xs : List Value} (h : W.ownsRow B 36 27 (.slice A n c) n xs) : Clr W B n A := by
  rcases h.2 with ⟨h1, h2⟩ | ⟨g, cap, cur, h1, h2, h3, h4, h5, h6, _⟩
  · exact .inl h2
  · injection h1 with h1 _ h7
    exact .inr ⟨g, cur, h1, h2, h3, by rw [h6]; exact Nat.mul_le_mul_right _ h4⟩
theorem clr_step {W : World} {B n i : Nat} {A : Option Addr} (h : Clr W B n A) (hi : i < n) (x : Bk) : ∃ g, A = some ⟨g, 0, none⟩ ∧ B ≤ g ∧ W.there g (i * 27) 27 ∧ Clr (setBk W g (i * 27) x) B n A := by
  rcases h with h | ⟨g, cur, h1, h2, h3, h4⟩
  · omega
  · refine ⟨g, h1, h2, fun j hj => ?_, .inr ⟨g, _, h1, h2, setCells_heap g _ _ x.arr.toList (i * 27) cur W h3, ?_⟩⟩
    · have hj' : i * 27 + j < cur.size := by
        have : (i + 1) * 27 ≤ n * 27 := Nat.mul_le_mul_right _ hi
        omega
      exact ⟨by rw [cell_of_row W g _ cur _ _ h3, Array.getElem?_eq_getElem hj']; rfl, by simp [World.frozen?, h3]⟩
    · have : ∀ (vs : List Value) (k : Nat) (c : Array Value), (List.foldl (fun cs (x : Value × Nat) => cs.setIfInBounds x.2 x.1) c (vs.zipIdx k)).size = c.size := by
        intro vs
        induction vs with
        | nil => intros; rfl
        | cons v vs ih => intro k c; rw [List.zipIdx_cons, List.foldl_cons, ih]; simp
      rw [this]; exact h4
@[go_sem] theorem run_mkBks0 (w : World) : (mkBks 0 #[]).run Try.prog w = .ok (.slice (some ⟨w.heap.size, 0, none⟩) 0 0) (w.alloc (.cells #[] 36)) := by
  obtain ⟨i0, hi0, hz0, hz1, hzb⟩ := infoBk
  have hne : ¬ i0.size = 0 := by omega
  simp [mkBks, Instr.buildSlice, run_underlying Try.underlying22, sizeOf, typeInfo, zeroValue, hi0, hz0, hz1, Instr.fill, newRow, hne]
  rw [show (Array.range 0) = (#[] : Array Nat) from by simp [Array.range], Array.map_empty]
@[go_sem] theorem run_noBk (w : World) : (mkBk #[]).run Try.prog w = .ok (.agg noBk.arr) w := by
  obtain ⟨i0, hi0, hz0, _, _⟩ := infoBk
  exact run_build w _ _ i0 noBk.arr _ _ _ Try.underlying36 hi0 hz0 (places_bk w _ Try.underlying36) rfl

set_option maxHeartbeats 4000000 in
set_option maxRecDepth 100000 in
theorem poolKeeps_few (l : List Bk) (v : Int) (o : Opr) (ho : o.good) (A : Option Addr) (n c : Nat) (w : World) (hg : ∀ b ∈ l, b.good) (hR : RdK w w.heap.size A n l) (hn : n ≤ 9223372036854775807) (hK : few l = false) :
    Calls Try.prog 9 #[.agg #[.int .i64 v, .slice A n c], .agg o.arr] w fun e w' => e = .returned (.bool true) ∧ Below w.heap.size w w' := by
  have hof := ho.1.1
  have how := ho.2.1
  have hf := fine_of hg
  have HF := Lib.hid hf
  have R0 := Lib.hid (fun ob ob' => (hR.up ob).up ob')
  have HB0 := Lib.hid (fun ob ob' => (((Below.refl w.heap.size w).alloc (Nat.le_refl _) ob).alloc (by simp) ob' : Below w.heap.size w ((w.alloc ob).alloc ob')))
  have HNL := Lib.hid hR.1
  clear hR hf hg
  have C1 := Lib.hid (fun A n c W (h : RdK W W.heap.size A n l) (hn : n ≤ 9223372036854775807) => hK ▸ fewP_any l v A n c W h hn)
  clear hK
  go_enter Try.func9, Try.ntmps9
  go_wp2_with fail
  refine (awake_any _).mono ?_
  rintro e w1 ⟨rfl, hb1⟩
  have Bp := Lib.hid (((Box.new w _ _).alloc _).go hb1)
  have Bo := Lib.hid ((Box.new1 w _ _ _).go hb1)
  have Rp := Lib.hid ((R0.out _ _).go hb1)
  have HB0 := Lib.hid (call0 (HB0.out _ _) hb1)
  clear hb1
  obtain ⟨xp1, xp2, xp3, xp4⟩ := Bp.out.facts
  have lp := Bp.out.lt
  obtain ⟨xo1, xo2, xo3, xo4⟩ := Bo.out.facts
  have lo := Bo.out.lt
  go_wp2_with fail
  refine (C1.out A n c _ Rp.out hn).mono ?_
  rintro e w2 ⟨rfl, hb1⟩
  have Bp := Lib.hid ((Bp.out).go hb1)
  have Bo := Lib.hid ((Bo.out).go hb1)
  have Rp := Lib.hid ((Rp.out).go hb1)
  have HB0 := Lib.hid (call0 HB0.out hb1)
  clear hb1
  clear xp1 xp2 xp3 xp4 lp
  clear xo1 xo2 xo3 xo4 lo
  go_wp2_with fail
  refine (awake_any _).mono ?_
  rintro e w3 ⟨rfl, hb1⟩
  have Bp := Lib.hid ((Bp.out).go hb1)
  have Bo := Lib.hid ((Bo.out).go hb1)
  have Rp := Lib.hid ((Rp.out).go hb1)
  have HB0 := Lib.hid (call0 HB0.out hb1)
  clear hb1
  go_wp2_with fail
  go_ret
  exact ⟨rfl, HB0.out⟩

set_option maxHeartbeats 4000000 in
set_option maxRecDepth 100000 in
theorem poolKeeps_right (l : List Bk) (v : Int) (o : Opr) (ho : o.good) (A : Option Addr) (n c : Nat) (w : World) (hg : ∀ b ∈ l, b.good) (hR : RdK w w.heap.size A n l) (hn : n ≤ 9223372036854775807) (hK : few l = true) (hK2 : pRight v l = false) :
    Calls Try.prog 9 #[.agg #[.int .i64 v, .slice A n c], .agg o.arr] w fun e w' => e = .returned (.bool true) ∧ Below w.heap.size w w' := by
  have hof := ho.1.1
  have how := ho.2.1
  have hf := fine_of hg
  have HF := Lib.hid hf
  have R0 := Lib.hid (fun ob ob' => (hR.up ob).up ob')
  have HB0 := Lib.hid (fun ob ob' => (((Below.refl w.heap.size w).alloc (Nat.le_refl _) ob).alloc (by simp) ob' : Below w.heap.size w ((w.alloc ob).alloc ob')))
  have HNL := Lib.hid hR.1
  clear hR hf hg
  have C1 := Lib.hid (fun A n c W (h : RdK W W.heap.size A n l) (hn : n ≤ 9223372036854775807) => hK ▸ fewP_any l v A n c W h hn)
  have hlen := few_le hK
  have C2 := Lib.hid (fun A n c W (h : RdK W W.heap.size A n l) => hK2 ▸ refRightP_any l HF.out v A n c W h (by omega))
  clear hK hK2
  go_enter Try.func9, Try.ntmps9
  go_wp2_with fail
  refine (awake_any _).mono ?_
  rintro e w1 ⟨rfl, hb1⟩
  have Bp := Lib.hid (((Box.new w _ _).alloc _).go hb1)
  have Bo := Lib.hid ((Box.new1 w _ _ _).go hb1)
  have Rp := Lib.hid ((R0.out _ _).go hb1)
  have HB0 := Lib.hid (call0 (HB0.out _ _) hb1)
  clear hb1
  obtain ⟨xp1, xp2, xp3, xp4⟩ := Bp.out.facts
  have lp := Bp.out.lt
  obtain ⟨xo1, xo2, xo3, xo4⟩ := Bo.out.facts
  have lo := Bo.out.lt
  go_wp2_with fail
  refine (C1.out A n c _ Rp.out hn).mono ?_
  rintro e w2 ⟨rfl, hb1⟩
  have Bp := Lib.hid ((Bp.out).go hb1)
  have Bo := Lib.hid ((Bo.out).go hb1)
  have Rp := Lib.hid ((Rp.out).go hb1)
  have HB0 := Lib.hid (call0 HB0.out hb1)
  clear hb1
  clear xp1 xp2 xp3 xp4 lp
  clear xo1 xo2 xo3 xo4 lo
  obtain ⟨xp1, xp2, xp3, xp4⟩ := Bp.out.facts
  have lp := Bp.out.lt
  obtain ⟨xo1, xo2, xo3, xo4⟩ := Bo.out.facts
  have lo := Bo.out.lt
  go_wp2_with fail
  refine (C2.out A n c _ Rp.out).mono ?_
  rintro e w3 ⟨rfl, hb1⟩
  have Bp := Lib.hid ((Bp.out).go hb1)
  have Bo := Lib.hid ((Bo.out).go hb1)
  have Rp := Lib.hid ((Rp.out).go hb1)
  have HB0 := Lib.hid (call0 HB0.out hb1)
  clear hb1
  clear xp1 xp2 xp3 xp4 lp
  clear xo1 xo2 xo3 xo4 lo
  go_wp2_with fail
  refine (awake_any _).mono ?_
  rintro e w4 ⟨rfl, hb1⟩
  have Bp := Lib.hid ((Bp.out).go hb1)
  have Bo := Lib.hid ((Bo.out).go hb1)
  have Rp := Lib.hid ((Rp.out).go hb1)
  have HB0 := Lib.hid (call0 HB0.out hb1)
  clear hb1
  go_wp2_with fail
  go_ret
  exact ⟨rfl, HB0.out⟩

set_option maxHeartbeats 4000000 in
set_option maxRecDepth 100000 in
theorem poolKeeps_ops (l : List Bk) (v : Int) (o : Opr) (ho : o.good) (A : Option Addr) (n c : Nat) (w : World) (hg : ∀ b ∈ l, b.good) (hR : RdK w w.heap.size A n l) (hn : n ≤ 9223372036854775807) (hK : few l = true) (hK2 : pRight v l = true) (hK3 : fewOps [o] = false) :
    Calls Try.prog 9 #[.agg #[.int .i64 v, .slice A n c], .agg o.arr] w fun e w' => e = .returned (.bool true) ∧ Below w.heap.size w w' := by
  have hof := ho.1.1
  have how := ho.2.1
  have hf := fine_of hg
  have HF := Lib.hid hf
  have R0 := Lib.hid (fun ob ob' => (hR.up ob).up ob')
  have HB0 := Lib.hid (fun ob ob' => (((Below.refl w.heap.size w).alloc (Nat.le_refl _) ob).alloc (by simp) ob' : Below w.heap.size w ((w.alloc ob).alloc ob')))
  have HNL := Lib.hid hR.1
  clear hR hf hg
  have C1 := Lib.hid (fun A n c W (h : RdK W W.heap.size A n l) (hn : n ≤ 9223372036854775807) => hK ▸ fewP_any l v A n c W h hn)
  have hlen := few_le hK
  have C2 := Lib.hid (fun A n c W (h : RdK W W.heap.size A n l) => hK2 ▸ refRightP_any l HF.out v A n c W h (by omega))
  have HFO := Lib.hid hK3
  clear hK hK2 hK3
  go_enter Try.func9, Try.ntmps9
  go_wp2_with fail
  refine (awake_any _).mono ?_
  rintro e w1 ⟨rfl, hb1⟩
  have Bp := Lib.hid (((Box.new w _ _).alloc _).go hb1)
  have Bo := Lib.hid ((Box.new1 w _ _ _).go hb1)
  have Rp := Lib.hid ((R0.out _ _).go hb1)
  have HB0 := Lib.hid (call0 (HB0.out _ _) hb1)
  clear hb1
  obtain ⟨xp1, xp2, xp3, xp4⟩ := Bp.out.facts
  have lp := Bp.out.lt
  obtain ⟨xo1, xo2, xo3, xo4⟩ := Bo.out.facts
  have lo := Bo.out.lt
  go_wp2_with fail
  refine (C1.out A n c _ Rp.out hn).mono ?_
  rintro e w2 ⟨rfl, hb1⟩
  have Bp := Lib.hid ((Bp.out).go hb1)
  have Bo := Lib.hid ((Bo.out).go hb1)
  have Rp := Lib.hid ((Rp.out).go hb1)
  have HB0 := Lib.hid (call0 HB0.out hb1)
  clear hb1
  clear xp1 xp2 xp3 xp4 lp
  clear xo1 xo2 xo3 xo4 lo
  obtain ⟨xp1, xp2, xp3, xp4⟩ := Bp.out.facts
  have lp := Bp.out.lt
  obtain ⟨xo1, xo2, xo3, xo4⟩ := Bo.out.facts
  have lo := Bo.out.lt
  go_wp2_with fail
  refine (C2.out A n c _ Rp.out).mono ?_
  rintro e w3 ⟨rfl, hb1⟩
  have Bp := Lib.hid ((Bp.out).go hb1)
  have Bo := Lib.hid ((Bo.out).go hb1)
  have Rp := Lib.hid ((Rp.out).go hb1)
  have HB0 := Lib.hid (call0 HB0.out hb1)
  clear hb1
  clear xp1 xp2 xp3 xp4 lp
  clear xo1 xo2 xo3 xo4 lo
  obtain ⟨xp1, xp2, xp3, xp4⟩ := Bp.out.facts
  have lp := Bp.out.lt
  obtain ⟨xo1, xo2, xo3, xo4⟩ := Bo.out.facts
  have lo := Bo.out.lt
  go_wp2_with fail
  refine (fewOp_any o _ false HFO.out).mono ?_
  rintro e wz ⟨rfl, rfl⟩
  go_wp2_with fail
  refine (awake_any _).mono ?_
  rintro e w4 ⟨rfl, hb1⟩
  have Bp := Lib.hid (((Bp.out).alloc _).go hb1)
  have Bo := Lib.hid (((Bo.out).alloc _).go hb1)
  have Bz := Lib.hid (((Box.new w3 _ _)).go hb1)
  have Rp := Lib.hid (((Rp.out).up _).go hb1)
  have HB0 := Lib.hid (call1 HB0.out hb1)
  clear hb1
  clear xp1 xp2 xp3 xp4 lp
  clear xo1 xo2 xo3 xo4 lo
  go_wp2_with fail
  go_ret
  exact ⟨rfl, HB0.out⟩

set_option maxHeartbeats 4000000 in
set_option maxRecDepth 100000 in
theorem poolKeeps_main (l : List Bk) (v : Int) (o : Opr) (ho : o.good) (A : Option Addr) (n c : Nat) (w : World) (hg : ∀ b ∈ l, b.good) (hR : RdK w w.heap.size A n l) (hn : n ≤ 9223372036854775807) (hK : few l = true) (hK2 : pRight v l = true) (hK3 : fewOps [o] = true) :
    Calls Try.prog 9 #[.agg #[.int .i64 v, .slice A n c], .agg o.arr] w fun e w' => e = .returned (.bool true) ∧ Below w.heap.size w w' := by
  have hof := ho.1.1
  have how := ho.2.1
  have hf := fine_of hg
  have HF := Lib.hid hf
  have R0 := Lib.hid (fun ob ob' => (hR.up ob).up ob')
  have HB0 := Lib.hid (fun ob ob' => (((Below.refl w.heap.size w).alloc (Nat.le_refl _) ob).alloc (by simp) ob' : Below w.heap.size w ((w.alloc ob).alloc ob')))
  have HNL := Lib.hid hR.1
  clear hR hf hg
  have C1 := Lib.hid (fun A n c W (h : RdK W W.heap.size A n l) (hn : n ≤ 9223372036854775807) => hK ▸ fewP_any l v A n c W h hn)
  have hlen := few_le hK
  have C2 := Lib.hid (fun A n c W (h : RdK W W.heap.size A n l) => hK2 ▸ refRightP_any l HF.out v A n c W h (by omega))
  have HFO := Lib.hid hK3
  obtain ⟨hv0, hv1, _, _, hsr⟩ := pRight_iff.1 hK2
  have HS := Lib.hid hsr
  have hdl := done_len (v := v) (l := l) o
  have hdr := done_any_right hK2 HF.out hof how
  have DO := Lib.hid (fun A n c W (h : RdK W W.heap.size A n l) => doP_any l HS.out v (by omega) o hof how A n c W h (by omega))
  have RO := Lib.hid (fun A n c W (h : RdK W W.heap.size A n l) => refDo_any l HS.out v (by omega) o hof how A n c W h (by omega))
  obtain ⟨er, her⟩ : ∃ er, whyNot v l o = er := ⟨_, rfl⟩
  obtain ⟨v', hv'⟩ : ∃ v', doV v l o = v' := ⟨_, rfl⟩
  obtain ⟨l', hl'⟩ : ∃ l', doL v l o = l' := ⟨_, rfl⟩
  rw [her, hv', hl'] at DO RO
  rw [her, hl'] at hdl
  rw [hv', hl'] at hdr
  have hlq : l'.length ≤ 100000 := by
    rw [hdl]
    split
    · omega
    · split <;> omega
  obtain ⟨n', hn'⟩ : ∃ n', l'.length = n' := ⟨_, rfl⟩
  rw [hn'] at DO RO
  have HLQ := Lib.hid hlq
  have SA := Lib.hid (fun A B n n' c d W (h : RdK W W.heap.size A n l') (h2 : RdK W W.heap.size B n' l') => refSameP_any l' l' hdr.2 hdr.2 v' v' A B n n' c d W h h2 HLQ.out HLQ.out true (twins_self v' l'))
  have RI := Lib.hid (fun A n c W (h : RdK W W.heap.size A n l') => rightP_any l' hdr.2 v' A n c W h HLQ.out true hdr.1)
  have DD := Lib.hid (fun A n c W (h : RdK W W.heap.size A n l) => doD_any l HS.out v (by omega) o hof how A n c W h (by omega) v' l' n' er (by assumption) (by assumption) hn' (by assumption))
  have SL := Lib.hid (fun A B c d W (h : RdK W W.heap.size A n l) (h2 : RdK W W.heap.size B n l) => refSameP_any l l HF.out HF.out v v A B n n c d W h h2 (by omega) (by omega) true (twins_self v l))
  have hnn : n ≤ 40 := by have := HNL.out; omega
  clear hK hK2 hK3 her hv' hl' hdl hdr hsr hn' hlq
  obtain ⟨i0, hi0, hz0, hz1, hzb⟩ := infoBk
  have HI0 := Lib.hid hi0
  have HZ0 := Lib.hid hz0
  have HZ1 := Lib.hid hz1
  have HZ2 := Lib.hid (show (Value.agg noBk.arr).cells.size = 27 by simp [Value.cells, Bk.arr_size])
  have HBY := Lib.hid (show (0 + n) * i0.bytes ≤ 140737488355328 from Nat.le_trans (Nat.mul_le_mul (show 0 + n ≤ 100002 by omega) hzb) (by omega))
  have H63 := Lib.hid (show 0 + n ≤ maxLen by unfold maxLen; omega)
  clear hi0 hz0 hz1 hzb
  go_enter Try.func9, Try.ntmps9
  go_wp2_with fail
  refine (awake_any _).mono ?_
  rintro e w1 ⟨rfl, hb1⟩
  have Bp := Lib.hid (((Box.new w _ _).alloc _).go hb1)
  have Bo := Lib.hid ((Box.new1 w _ _ _).go hb1)
  have Rp := Lib.hid ((R0.out _ _).go hb1)
  have HB0 := Lib.hid (call0 (HB0.out _ _) hb1)
  clear hb1
  obtain ⟨xp1, xp2, xp3, xp4⟩ := Bp.out.facts
  have lp := Bp.out.lt
  obtain ⟨xo1, xo2, xo3, xo4⟩ := Bo.out.facts
  have lo := Bo.out.lt
  go_wp2_with fail
  refine (C1.out A n c _ Rp.out hn).mono ?_
  rintro e w2 ⟨rfl, hb1⟩
  have Bp := Lib.hid ((Bp.out).go hb1)
  have Bo := Lib.hid ((Bo.out).go hb1)
  have Rp := Lib.hid ((Rp.out).go hb1)
  have HB0 := Lib.hid (call0 HB0.out hb1)
  clear hb1
  clear xp1 xp2 xp3 xp4 lp
  clear xo1 xo2 xo3 xo4 lo
  obtain ⟨xp1, xp2, xp3, xp4⟩ := Bp.out.facts
  have lp := Bp.out.lt
  obtain ⟨xo1, xo2, xo3, xo4⟩ := Bo.out.facts
  have lo := Bo.out.lt
  go_wp2_with fail
  refine (C2.out A n c _ Rp.out).mono ?_
  rintro e w3 ⟨rfl, hb1⟩
  have Bp := Lib.hid ((Bp.out).go hb1)
  have Bo := Lib.hid ((Bo.out).go hb1)
  have Rp := Lib.hid ((Rp.out).go hb1)
  have HB0 := Lib.hid (call0 HB0.out hb1)
  clear hb1
  clear xp1 xp2 xp3 xp4 lp
  clear xo1 xo2 xo3 xo4 lo
  obtain ⟨xp1, xp2, xp3, xp4⟩ := Bp.out.facts
  have lp := Bp.out.lt
  obtain ⟨xo1, xo2, xo3, xo4⟩ := Bo.out.facts
  have lo := Bo.out.lt
  go_wp2_with fail
  refine (fewOp_any o _ true HFO.out).mono ?_
  rintro e wz ⟨rfl, rfl⟩
  go_wp2_with fail
  clear xp1 xp2 xp3 xp4 lp
  clear xo1 xo2 xo3 xo4 lo
  obtain ⟨w4, hw4⟩ : ∃ w4 : World, w4 = w3.alloc (.cells o.arr 38) := ⟨_, rfl⟩
  have Bp := Lib.hid (Bp.out.alloc (.cells o.arr 38))
  have Bo := Lib.hid (Bo.out.alloc (.cells o.arr 38))
  have Rp := Lib.hid (Rp.out.up (.cells o.arr 38))
  have HB0 := Lib.hid (HB0.out.alloc HB0.out.size (.cells o.arr 38))
  rw [← hw4] at Bp Bo Rp HB0 ⊢
  clear hw4
  go_cut [5] from 30 to 37 (fun s5 wx => ∃ bb A' c', s5 = .pointer (some ⟨bb, 0, none⟩) ∧ Box wx bb #[.int .i64 v, .slice A' n c'] ∧ w4.heap.size ≤ bb ∧ (Value.slice A' n c').ownBlock ≠ some bb ∧ wx.ownsRow w4.heap.size 36 27 (.slice A' n c') n (cellsBk l) ∧ Below w4.heap.size w4 wx)
  case first =>
    obtain ⟨xp1, xp2, xp3, xp4⟩ := Bp.out.facts
    have lp := Bp.out.lt
    have OA := Lib.hid (show (w4.alloc (.cells #[] 36)).drew.ownsRow w4.heap.size 36 27 (.slice (some ⟨w4.heap.size, 0, none⟩) 0 0) 0 [] from World.ownsRow_lit w4 #[] 0 (Nat.le_refl _) (by unfold maxLen; omega) rfl)
    have OB := Lib.hid (fun ob => show ((w4.alloc ob).alloc (.cells #[] 36)).drew.ownsRow w4.heap.size 36 27 (.slice (some ⟨w4.heap.size + 1, 0, none⟩) 0 0) 0 [] from by
      have h := World.ownsRow_lit (size := 27) (e := 36) (w4.alloc ob) #[] 0 (Nat.le_refl _) (by unfold maxLen; omega) rfl
      rw [show (w4.alloc ob).heap.size = w4.heap.size + 1 by simp] at h
      exact own_less h (by omega))
    have OC := Lib.hid (fun ob => show ((w4.alloc (.cells #[] 36)).alloc ob).drew.ownsRow w4.heap.size 36 27 (.slice (some ⟨w4.heap.size, 0, none⟩) 0 0) 0 [] from own_alloc OA.out ob)
    have RA := Lib.hid (show Rd (w4.alloc (.cells #[] 36)).drew w4.heap.size 27 A n (cellsBk l) from (Rp.out.alloc (Nat.le_refl _) (.cells #[] 36)).2.1)
    have RB := Lib.hid (fun ob ob' => show Rd ((w4.alloc ob).alloc ob').drew w4.heap.size 27 A n (cellsBk l) from ((Rp.out.alloc (Nat.le_refl _) ob).alloc (by simp) ob').2.1)
    have SA1 := Lib.hid (show w4.heap.size ≤ (w4.alloc (.cells #[] 36)).drew.heap.size by simp)
    have SB1 := Lib.hid (fun ob ob' => show w4.heap.size ≤ ((w4.alloc ob).alloc ob').drew.heap.size by simp; omega)
    have ON := Lib.hid (cellsBk_one l)
    have BB := Lib.hid (fun ob w1 (hg : ((w4.alloc (.cells #[.int .i64 0, .slice none 0 0] 24)).alloc ob).drew.grownBy w1 (Value.slice (some ⟨w4.heap.size + 1, 0, none⟩) 0 0).ownBlock) => ((Box.new w4 _ _).alloc ob).drew.grown hg (fun e => by have h2 : some w4.heap.size = some (w4.heap.size + 1) := e; injection h2 with h2; omega))
    have BC := Lib.hid (fun ob w1 (hg : ((w4.alloc ob).alloc (.cells #[.int .i64 0, .slice none 0 0] 24)).drew.grownBy w1 (Value.slice (some ⟨w4.heap.size, 0, none⟩) 0 0).ownBlock) => (Box.new1 w4 ob _ _).drew.grown hg (fun e => by have h2 : some (w4.heap.size + 1) = some w4.heap.size := e; injection h2 with h2; omega))
    have NBB := Lib.hid (fun ob ob' (v1 : Value) (h : v1.ownBlock = (Value.slice (some ⟨w4.heap.size + 1, 0, none⟩) 0 0).ownBlock ∨ v1.ownBlock = some ((w4.alloc ob).alloc ob').drew.heap.size) => (show v1.ownBlock ≠ some w4.heap.size from nb (a := w4.heap.size + 1) (b := ((w4.alloc ob).alloc ob').drew.heap.size) h (by omega) (by have : ((w4.alloc ob).alloc ob').drew.heap.size = w4.heap.size + 1 + 1 := (by simp); omega)))
    have NBC := Lib.hid (fun ob ob' (v1 : Value) (h : v1.ownBlock = (Value.slice (some ⟨w4.heap.size, 0, none⟩) 0 0).ownBlock ∨ v1.ownBlock = some ((w4.alloc ob).alloc ob').drew.heap.size) => (show v1.ownBlock ≠ some (w4.heap.size + 1) from nb (a := w4.heap.size) (b := ((w4.alloc ob).alloc ob').drew.heap.size) h (by omega) (by have : ((w4.alloc ob).alloc ob').drew.heap.size = w4.heap.size + 1 + 1 := (by simp); omega)))
    have KS := Lib.hid (show ∀ W', Below w4.heap.size w4 W' → W'.cell? ⟨w.heap.size, 0, none⟩ = some (.int .i64 v) ∧ W'.cell? ⟨w.heap.size, 1, none⟩ = some (.slice A n c) from fun W' h =>
      ⟨by rw [h.cell (p := ⟨w.heap.size, 0, none⟩) lp, xp1]; rfl, by rw [h.cell (p := ⟨w.heap.size, 1, none⟩) lp, xp1]; rfl⟩)
    have GA := Lib.hid (fun w1 (hg : (w4.alloc (.cells #[] 36)).drew.grownBy w1 (Value.slice (some ⟨w4.heap.size, 0, none⟩) 0 0).ownBlock) => (show Below w4.heap.size w4 w1 from Below.grown (((Below.refl _ _).alloc (Nat.le_refl _) _).drew) hg (by simp) (fun k hk => by have h2 : some w4.heap.size = some k := hk; injection h2 with h2; omega)))
    have GBB := Lib.hid (fun ob ob' w1 a (ha : w4.heap.size ≤ a) (hg : ((w4.alloc ob).alloc ob').drew.grownBy w1 (Value.slice (some ⟨a, 0, none⟩) 0 0).ownBlock) => (show Below w4.heap.size w4 w1 from Below.grown ((((Below.refl _ _).alloc (Nat.le_refl _) _).alloc (by simp) _).drew) hg (by simp; omega) (fun k hk => by have h2 : some a = some k := hk; injection h2 with h2; omega)))
    go_region_held_law (fun W' => W'.cell? ⟨w.heap.size, 0, none⟩ = some (.int .i64 v) ∧ W'.cell? ⟨w.heap.size, 1, none⟩ = some (.slice A n c))
      (first | exact KS.out _ (Below.refl _ _) | exact KS.out _ (Below.refl _ _).drew | exact KS.out _ ((Below.refl _ _).alloc (Nat.le_refl _) _).drew | exact KS.out _ (((Below.refl _ _).alloc (Nat.le_refl _) _).alloc (by simp) _).drew | exact KS.out _ GB.out | exact KS.out _ ((GB.out.setCell (Nat.le_succ _) _).setCell (Nat.le_succ _) _) | exact KS.out _ ((GB.out.setCell (Nat.le_refl _) _).setCell (Nat.le_refl _) _) | exact KS.out _ (GB.out.setCell (Nat.le_succ _) _) | exact KS.out _ (GB.out.setCell (Nat.le_refl _) _) | exact KS.out _ (GB.out.alloc GB.out.size _) | go_keep)
      (first
      | (refine step_app_rd _ rfl (.tmp 32) (.tmp 34) _ rfl w4.heap.size 36 i0 (.agg noBk.arr) 27 i0.bytes Try.underlying22 HI0.out HZ0.out HZ1.out rfl HZ2.out (Nat.succ_pos _) (.slice (some ⟨w4.heap.size, 0, none⟩) 0 0) 0 [] (by kernel_rfl) OA.out w4.heap.size A n c (cellsBk l) (by kernel_rfl) RA.out ON.out H63.out HBY.out SA1.out ?_; intro v1 w1 hown1 hg1 hat1; have GB := Lib.hid (GA.out _ hg1); have TA := Lib.hid hat1; have G1 := Lib.hid hg1; simp only [Nat.zero_add, List.nil_append] at hown1; obtain ⟨A', c', hv1, _, _⟩ := own_form hown1; subst hv1; have O1 := Lib.hid hown1; clear hown1 hg1 hat1)
      | (refine step_app_rd _ rfl (.tmp 32) (.tmp 34) _ rfl w4.heap.size 36 i0 (.agg noBk.arr) 27 i0.bytes Try.underlying22 HI0.out HZ0.out HZ1.out rfl HZ2.out (Nat.succ_pos _) (.slice (some ⟨w4.heap.size + 1, 0, none⟩) 0 0) 0 [] (by kernel_rfl) (OB.out _) w4.heap.size A n c (cellsBk l) (by kernel_rfl) (RB.out _ _) ON.out H63.out HBY.out (SB1.out _ _) ?_; intro v1 w1 hown1 hg1 hat1; have GB := Lib.hid (GBB.out _ _ _ _ (Nat.le_succ _) hg1); have TB := Lib.hid (NBB.out _ _ _ hat1); have BX := Lib.hid (BB.out _ _ hg1); obtain ⟨y1, y2, y3, y4⟩ := BX.out.facts; have ly := BX.out.lt; have G1 := Lib.hid hg1; simp only [Nat.zero_add, List.nil_append] at hown1; obtain ⟨A', c', hv1, _, _⟩ := own_form hown1; subst hv1; have O1 := Lib.hid hown1; clear hown1 hg1 hat1)
      | (refine step_app_rd _ rfl (.tmp 32) (.tmp 34) _ rfl w4.heap.size 36 i0 (.agg noBk.arr) 27 i0.bytes Try.underlying22 HI0.out HZ0.out HZ1.out rfl HZ2.out (Nat.succ_pos _) (.slice (some ⟨w4.heap.size, 0, none⟩) 0 0) 0 [] (by kernel_rfl) (OC.out _) w4.heap.size A n c (cellsBk l) (by kernel_rfl) (RB.out _ _) ON.out H63.out HBY.out (SB1.out _ _) ?_; intro v1 w1 hown1 hg1 hat1; have GB := Lib.hid (GBB.out _ _ _ _ (Nat.le_refl _) hg1); have TC := Lib.hid (NBC.out _ _ _ hat1); have BX := Lib.hid (BC.out _ _ hg1); obtain ⟨y1, y2, y3, y4⟩ := BX.out.facts; have ly := BX.out.lt; have G1 := Lib.hid hg1; simp only [Nat.zero_add, List.nil_append] at hown1; obtain ⟨A', c', hv1, _, _⟩ := own_form hown1; subst hv1; have O1 := Lib.hid hown1; clear hown1 hg1 hat1))
    all_goals
      go_wp2_with fail
      go_meet
      case rel =>
        first
        | exact ⟨_, _, _, rfl, Box.new _ _ _, GB.out.size, fun e => absurd (O1.out.lt _ e).2 (Nat.lt_irrefl _), own_alloc O1.out _, GB.out.alloc GB.out.size _⟩
        | exact ⟨_, _, _, rfl, (BX.out.set_same 0 _).set_same 1 _, Nat.le_refl _, TB.out, own_set_ne (own_set_ne O1.out TB.out _) TB.out _, (GB.out.setCell (Nat.le_refl _) _).setCell (Nat.le_refl _) _⟩
        | exact ⟨_, _, _, rfl, (BX.out.set_same 0 _).set_same 1 _, Nat.le_succ _, TC.out, own_set_ne (own_set_ne O1.out TC.out _) TC.out _, (GB.out.setCell (Nat.le_succ _) _).setCell (Nat.le_succ _) _⟩
  case rest =>
    have BP4 := Lib.hid Bp.out
    have BO4 := Lib.hid Bo.out
    obtain ⟨bb, A', c', rfl, hbx, hbb, hne, hown, hb⟩ := hcut
    have BW := Lib.hid hbx
    have HNE := Lib.hid hne
    have Bp := Lib.hid (Bp.out.go hb)
    have Bo := Lib.hid (Bo.out.go hb)
    have RW := Lib.hid (own_readsN HNL.out hown)
    have RP4 := Lib.hid Rp.out
    have Rp := Lib.hid (Rp.out.go hb)
    have HB4 := Lib.hid hb
    have HO := Lib.hid hown
    have HOS : ∀ g, (Value.slice A' n c').ownBlock = some g → w4.heap.size ≤ g ∧ g < wc.heap.size := fun g hg => hown.lt g hg
    have HOS := Lib.hid HOS
    have HBC := Lib.hid (call0 HB0.out hb)
    clear hbx hne hown hb
    obtain ⟨xo1, xo2, xo3, xo4⟩ := Bo.out.facts
    have lo := Bo.out.lt
    obtain ⟨xw1, xw2, xw3, xw4⟩ := BW.out.facts
    have lw := BW.out.lt
    go_wp2_with fail
    refine (DD.out A' n c' _ RW.out).mono ?_
    rintro e w5 ⟨Aq, cq, rfl, hRq, hab, hb1⟩
    have Bp := Lib.hid (Bp.out.go hb1)
    have Bo := Lib.hid (Bo.out.go hb1)
    have BW := Lib.hid (BW.out.go hb1)
    have RW := Lib.hid (RW.out.go hb1)
    have Rp := Lib.hid (Rp.out.go hb1)
    have HO := Lib.hid (own_below HO.out hb1)
    have Rq := Lib.hid hRq
    have HAB := Lib.hid hab
    have HB5 := Lib.hid (call0 HB4.out hb1)
    have HBC := Lib.hid (call0 HBC.out hb1)
    have hsz5 := hb1.size
    clear hRq hab hb1 xo1 xo2 xo3 xo4 lo xw1 xw2 xw3 xw4 lw
    obtain ⟨xp1, xp2, xp3, xp4⟩ := Bp.out.facts
    have lp := Bp.out.lt
    obtain ⟨xw1, xw2, xw3, xw4⟩ := BW.out.facts
    have lw := BW.out.lt
    go_wp2_with fail
    refine (SL.out A' A _ _ _ (RW.out.up _) (Rp.out.up _)).mono ?_
    rintro e w6 ⟨rfl, hb1⟩
    have BQ := Lib.hid ((Box.new w5 _ _).go hb1)
    have Bp := Lib.hid ((Bp.out.alloc _).go hb1)
    have Bo := Lib.hid ((Bo.out.alloc _).go hb1)
    have BW := Lib.hid ((BW.out.alloc _).go hb1)
    have Rq := Lib.hid ((Rq.out.up _).go hb1)
    have HO := Lib.hid (own_below (HO.out.alloc _) hb1)
    have HB6 := Lib.hid (call1 HB5.out hb1)
    have HBC := Lib.hid (call1 HBC.out hb1)
    have hsz6 := hb1.size
    clear hb1 xp1 xp2 xp3 xp4 lp xw1 xw2 xw3 xw4 lw
    have CL0 := Lib.hid (clr_of HO.out)
    go_wp2_with fail
    go_loopw [8] (fun s8 wr => ∃ i : Nat, i ≤ n ∧ s8 = .int .i64 i ∧ w6.grownBy wr (Value.slice A' n c').ownBlock ∧ Clr wr w4.heap.size n A') (fun s8 _ => n - (intOf s8).toNat)
    case atStart => exact ⟨0, by omega, rfl, World.grownBy.refl _ _, CL0.out⟩
    case round =>
      obtain ⟨i, hin, rfl, hgr, hclr⟩ := hrel
      have hbow : (Value.slice A' n c').ownBlock ≠ some bb := HNE.out
      have bw := BW.out.grown hgr (fun e => hbow e.symm)
      have hgsz := hgr.size
      have HGR := Lib.hid hgr
      by_cases hlt : i < n
      · have hi : (i : Int) < n := by omega
        obtain ⟨g, rfl, hg4, hth, hcl2⟩ := clr_step hclr hlt noBk
        have HTH := Lib.hid hth
        have HCL2 := Lib.hid hcl2
        obtain ⟨xw1, xw2, xw3, xw4⟩ := bw.facts
        have lw := bw.lt
        have GR := Lib.hid (grown_setBk (g := g) (w := w6) hgr (i * 27) noBk)
        clear bw hcl2 hclr hgr hbow
        go_wp2_with fail
        go_roundw
        case rel => exact ⟨i + 1, by omega, by go_num, GR.out, HCL2.out⟩
        case measure => simp [intOf] <;> omega
      · obtain rfl : i = n := by omega
        have hd : decide ((i : Int) < i) = false := by simp
        obtain ⟨xw1, xw2, xw3, xw4⟩ := bw.facts
        have lw := bw.lt
        have hb46 := Below.grown HB6.out hgr HB6.out.size (fun k hk => (HOS.out k hk).1)
        have l4p := (BP4.out).lt
        have bp := BP4.out.below hb46 l4p
        have bo := BO4.out.below hb46 BO4.out.lt
        have rp := (RP4.out.below hb46).more hb46.size
        have bq := BQ.out.grown hgr (fun e => by have := (HOS.out w5.heap.size e.symm).2; omega)
        have rq := (Rq.out.grownO (Nat.le_refl _) hgr (fun a ha e => by have h1 := HAB.out a ha; have h2 := (HOS.out _ e.symm).2; omega)).more hgr.size
        have HBE := Lib.hid (call0 HB0.out hb46)
        have BQ := Lib.hid bq
        have RQ := Lib.hid rq
        have RP := Lib.hid rp
        obtain ⟨xp1, xp2, xp3, xp4⟩ := bp.facts
        have lp := bp.lt
        obtain ⟨xo1, xo2, xo3, xo4⟩ := bo.facts
        have lo := bo.lt
        clear bw bp bo bq rp rq hgr hb46 l4p hclr hbow
        go_wp2_with fail
        refine (RO.out A i c _ RP.out).mono ?_
        rintro e w7 ⟨Ar, cr, rfl, hRr, hb1⟩
        have BQ := Lib.hid (BQ.out.go hb1)
        have RQ := Lib.hid (RQ.out.go hb1)
        have RR := Lib.hid hRr
        have HBE := Lib.hid (call0 HBE.out hb1)
        clear hRr hb1 xp1 xp2 xp3 xp4 lp xo1 xo2 xo3 xo4 lo xw1 xw2 xw3 xw4 lw
        obtain ⟨xq1, xq2, xq3, xq4⟩ := BQ.out.facts
        have lq := BQ.out.lt
        go_wp2_with fail
        refine (SA.out Aq Ar n' n' cq cr _ (RQ.out.up _) (RR.out.up _)).mono ?_
        rintro e w8 ⟨rfl, hb1⟩
        have HBE := Lib.hid (call1 HBE.out hb1)
        clear hb1
        go_wp2
        go_ret
        exact ⟨rfl, HBE.out⟩

theorem poolKeeps_walk (v : Int) (A : Option Addr) (n c : Nat) (l : List Bk) (o : Opr) (w : World) (ho : o.good) (hR : RdK w w.heap.size A n l) (hg : ∀ b ∈ l, b.good) (hn : n ≤ 9223372036854775807) :
    Calls Try.prog 9 #[.agg #[.int .i64 v, .slice A n c], .agg o.arr] w fun e w' => e = .returned (.bool true) ∧ Below w.heap.size w w' := by
  cases hK : few l
  · exact poolKeeps_few l v o ho A n c w hg hR hn hK
  cases hK2 : pRight v l
  · exact poolKeeps_right l v o ho A n c w hg hR hn hK hK2
  cases hK3 : fewOps [o]
  · exact poolKeeps_ops l v o ho A n c w hg hR hn hK hK2 hK3
  · exact poolKeeps_main l v o ho A n c w hg hR hn hK hK2 hK3
set_option maxRecDepth 100000 in
theorem poolKeeps_lifted (os : Os) (started : os.Started) (H : Type) (enc : TypeId × Value → H) :
    ReturnsInHanded {} Try.checked os 9 .any (Rows.poolKeepsSpec.pre6 enc Try.prog Try.f9 Rows.poolKeepsRow.domain false) (Rows.poolKeepsSpec.post enc Try.prog Try.f9 false true false false) := by
  refine returnsInHanded_of_change (C := Try.checked) own started (by kernel_rfl) Try.func9
    (ChangeSpec.witness6 (enc := enc) (C := Try.checked) false ⟨#[], #[.agg #[.int .i64 0, .slice none 0 0], .agg noOp.arr], []⟩ 8 (by kernel_rfl) (by kernel_rfl) (by kernel_rfl) (by kernel_rfl)) ?_
  intro W base args ds gs before hval0 hW hcnd _
  have hval : ∀ (j : Nat) t v, Try.f9.params[j]? = some t → args[j]? = some v → Value.okWide Try.prog W .any base t v := hval0
  have hW' := hW
  obtain ⟨p, q, hA0, hV, rfl, hfz, hnd⟩ := hW
  have hA : DataW.TrodAll enc Try.prog W 0 (fun _ => true) true Try.f9.params.toList args.toList ds p := hA0
  rw [Try.params9] at hA hval
  obtain ⟨v0, vs0, d0, ds0, p0, q0, hargs, rfl, rfl, h0, r0⟩ := trodAll_cons hA
  obtain ⟨v1, vs1, d1, ds1, p1, q1, rfl, rfl, rfl, h1, r1⟩ := trodAll_cons r0
  obtain ⟨rfl, rfl, rfl⟩ := trodAll_nil r1
  obtain rfl : args = #[v0, v1] := by cases args; simp_all
  obtain ⟨zp, Ap, np, cp, lp, rfl, hzp, hRp, hgp, hmp⟩ := open_pool (hval 0 24 v0 rfl rfl) h0
  obtain ⟨o, rfl, hgo⟩ := open_opr (hval 1 38 v1 rfl rfl) h1
  clear hA0 hval0
  refine (poolKeeps_walk zp Ap np cp lp o W hgo hRp hgp hmp).mono fun e W' ⟨he, hb⟩ => ?_
  subst he
  exact ⟨_, rfl, law_post laidOut rfl (by kernel_rfl) 4 Try.underlying4 rfl hW' rfl hb⟩
theorem poolKeeps_holds : Rows.PoolKeepsSaid :=
  OpenClaim.holds_of_wide 9 Try.f9 rfl rfl rfl rfl rfl rfl rfl ⟨rfl, rfl, rfl, rfl, rfl⟩ rfl rfl rfl rfl rfl (by kernel_rfl) Try.func9 (by kernel_rfl)
    (of_decide_eq_true (by kernel_rfl)) (by unfold Func.isWrapper; first | (rw [if_pos (by decide +kernel)]; kernel_rfl) | (rw [if_neg (by decide +kernel)]; exact ⟨rfl, rfl⟩))
    (fun os started H enc _ => poolKeeps_lifted os started H enc)
#print axioms poolKeeps_holds
end Go.Proofs.Ytgcahcjffoehfaa
