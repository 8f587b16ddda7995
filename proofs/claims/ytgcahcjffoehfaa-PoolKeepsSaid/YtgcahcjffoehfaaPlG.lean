/- PoolDoes: for every right pool, and whatever is done: the pool behind it is the document's, and right; or it isn't done for the document's reason. No condition. -/
import Derived.Test.YtgcahcjffoehfaaPoRz
import Derived.Test.YtgcahcjffoehfaaPlD
set_option linter.unusedSimpArgs false
set_option linter.unusedVariables false
namespace Go.Proofs.Ytgcahcjffoehfaa
open Go.ChangeShapes Go.WideShapes Go.ChangeAt Go.RowKit

theorem refSameP_any (l m : List Bk) (hf : ∀ x ∈ l, x.fine) (hg : ∀ x ∈ m, x.fine) (v v' : Int) (A B : Option Addr) (n n' c d : Nat) (w : World) (hR : RdK w w.heap.size A n l) (hT : RdK w w.heap.size B n' m) (hn : l.length ≤ 100000) (hm : m.length ≤ 100000) (K : Bool) (hK : twins v l v' m = K) :
    Calls Try.prog 17 #[.agg #[.int .i64 v, .slice A n c], .agg #[.int .i64 v', .slice B n' d]] w fun e w' => e = .returned (.bool K) ∧ Below w.heap.size w w' := by
  subst hK
  obtain rfl := hR.1
  obtain rfl := hT.1
  exact refSamePool_any l m hf hg v v' A B c d w hR hT (by omega) (by omega)
theorem done_any_right {v : Int} {l : List Bk} {o : Opr} (hr : pRight v l = true) (hf : ∀ x ∈ l, x.fine) (hof : o.bk.fine) (how : o.w < 18446744073709551616) :
    pRight (doV v l o) (doL v l o) = true ∧ ∀ x ∈ doL v l o, x.fine := by
  by_cases h : whyNot v l o = 0
  · have := done_right hr hf hof how h
    rwa [show doV v l o = v + 1 by simp [doV, h]]
  · rw [show doV v l o = v by simp [doV, h], show doL v l o = l by simp [doL, h]]
    exact ⟨hr, hf⟩

set_option maxHeartbeats 4000000 in
set_option maxRecDepth 100000 in
theorem poolDoes_few (l : List Bk) (v : Int) (o : Opr) (ho : o.good) (A : Option Addr) (n c : Nat) (w : World) (hg : ∀ b ∈ l, b.good) (hR : RdK w w.heap.size A n l) (hn : n ≤ 9223372036854775807) (hK : few l = false) :
    Calls Try.prog 4 #[.agg #[.int .i64 v, .slice A n c], .agg o.arr] w fun e w' => e = .returned (.bool true) ∧ Below w.heap.size w w' := by
  have hof := ho.1.1
  have how := ho.2.1
  have hf := fine_of hg
  have HF := Lib.hid hf
  have R0 := Lib.hid (fun ob ob' => (hR.up ob).up ob')
  have HB0 := Lib.hid (fun ob ob' => (((Below.refl w.heap.size w).alloc (Nat.le_refl _) ob).alloc (by simp) ob' : Below w.heap.size w ((w.alloc ob).alloc ob')))
  have HNL := Lib.hid hR.1
  clear hR hf hg
  have C1 := Lib.hid (fun A n c W (h : RdK W W.heap.size A n l) (hn : n ≤ 9223372036854775807) => hK ▸ fewP_any l v A n c W h hn)
  clear hK
  go_enter Try.func4, Try.ntmps4
  go_wp2_with fail
  refine (awake_any _).mono ?_
  rintro e w1 ⟨rfl, hb1⟩
  have Bp := Lib.hid (((Box.new w _ _).alloc _).go hb1)
  have Bo := Lib.hid ((Box.new1 w _ _ _).go hb1)
  have Rp := Lib.hid ((R0.out _ _).go hb1)
  have HB0 := Lib.hid (call0 (HB0.out _ _) hb1)
  clear hb1
  obtain ⟨xp1, xp2, xp3, xp4⟩ := Bp.out.facts
  have lp := Bp.out.lt
  obtain ⟨xo1, xo2, xo3, xo4⟩ := Bo.out.facts
  have lo := Bo.out.lt
  go_wp2_with fail
  refine (C1.out A n c _ Rp.out hn).mono ?_
  rintro e w2 ⟨rfl, hb1⟩
  have Bp := Lib.hid ((Bp.out).go hb1)
  have Bo := Lib.hid ((Bo.out).go hb1)
  have Rp := Lib.hid ((Rp.out).go hb1)
  have HB0 := Lib.hid (call0 HB0.out hb1)
  clear hb1
  clear xp1 xp2 xp3 xp4 lp
  clear xo1 xo2 xo3 xo4 lo
  go_wp2_with fail
  refine (awake_any _).mono ?_
  rintro e w3 ⟨rfl, hb1⟩
  have Bp := Lib.hid ((Bp.out).go hb1)
  have Bo := Lib.hid ((Bo.out).go hb1)
  have Rp := Lib.hid ((Rp.out).go hb1)
  have HB0 := Lib.hid (call0 HB0.out hb1)
  clear hb1
  go_wp2_with fail
  go_ret
  exact ⟨rfl, HB0.out⟩

set_option maxHeartbeats 4000000 in
set_option maxRecDepth 100000 in
theorem poolDoes_right (l : List Bk) (v : Int) (o : Opr) (ho : o.good) (A : Option Addr) (n c : Nat) (w : World) (hg : ∀ b ∈ l, b.good) (hR : RdK w w.heap.size A n l) (hn : n ≤ 9223372036854775807) (hK : few l = true) (hK2 : pRight v l = false) :
    Calls Try.prog 4 #[.agg #[.int .i64 v, .slice A n c], .agg o.arr] w fun e w' => e = .returned (.bool true) ∧ Below w.heap.size w w' := by
  have hof := ho.1.1
  have how := ho.2.1
  have hf := fine_of hg
  have HF := Lib.hid hf
  have R0 := Lib.hid (fun ob ob' => (hR.up ob).up ob')
  have HB0 := Lib.hid (fun ob ob' => (((Below.refl w.heap.size w).alloc (Nat.le_refl _) ob).alloc (by simp) ob' : Below w.heap.size w ((w.alloc ob).alloc ob')))
  have HNL := Lib.hid hR.1
  clear hR hf hg
  have C1 := Lib.hid (fun A n c W (h : RdK W W.heap.size A n l) (hn : n ≤ 9223372036854775807) => hK ▸ fewP_any l v A n c W h hn)
  have hlen := few_le hK
  have C2 := Lib.hid (fun A n c W (h : RdK W W.heap.size A n l) => hK2 ▸ refRightP_any l HF.out v A n c W h (by omega))
  clear hK hK2
  go_enter Try.func4, Try.ntmps4
  go_wp2_with fail
  refine (awake_any _).mono ?_
  rintro e w1 ⟨rfl, hb1⟩
  have Bp := Lib.hid (((Box.new w _ _).alloc _).go hb1)
  have Bo := Lib.hid ((Box.new1 w _ _ _).go hb1)
  have Rp := Lib.hid ((R0.out _ _).go hb1)
  have HB0 := Lib.hid (call0 (HB0.out _ _) hb1)
  clear hb1
  obtain ⟨xp1, xp2, xp3, xp4⟩ := Bp.out.facts
  have lp := Bp.out.lt
  obtain ⟨xo1, xo2, xo3, xo4⟩ := Bo.out.facts
  have lo := Bo.out.lt
  go_wp2_with fail
  refine (C1.out A n c _ Rp.out hn).mono ?_
  rintro e w2 ⟨rfl, hb1⟩
  have Bp := Lib.hid ((Bp.out).go hb1)
  have Bo := Lib.hid ((Bo.out).go hb1)
  have Rp := Lib.hid ((Rp.out).go hb1)
  have HB0 := Lib.hid (call0 HB0.out hb1)
  clear hb1
  clear xp1 xp2 xp3 xp4 lp
  clear xo1 xo2 xo3 xo4 lo
  obtain ⟨xp1, xp2, xp3, xp4⟩ := Bp.out.facts
  have lp := Bp.out.lt
  obtain ⟨xo1, xo2, xo3, xo4⟩ := Bo.out.facts
  have lo := Bo.out.lt
  go_wp2_with fail
  refine (C2.out A n c _ Rp.out).mono ?_
  rintro e w3 ⟨rfl, hb1⟩
  have Bp := Lib.hid ((Bp.out).go hb1)
  have Bo := Lib.hid ((Bo.out).go hb1)
  have Rp := Lib.hid ((Rp.out).go hb1)
  have HB0 := Lib.hid (call0 HB0.out hb1)
  clear hb1
  clear xp1 xp2 xp3 xp4 lp
  clear xo1 xo2 xo3 xo4 lo
  go_wp2_with fail
  refine (awake_any _).mono ?_
  rintro e w4 ⟨rfl, hb1⟩
  have Bp := Lib.hid ((Bp.out).go hb1)
  have Bo := Lib.hid ((Bo.out).go hb1)
  have Rp := Lib.hid ((Rp.out).go hb1)
  have HB0 := Lib.hid (call0 HB0.out hb1)
  clear hb1
  go_wp2_with fail
  go_ret
  exact ⟨rfl, HB0.out⟩

set_option maxHeartbeats 4000000 in
set_option maxRecDepth 100000 in
theorem poolDoes_ops (l : List Bk) (v : Int) (o : Opr) (ho : o.good) (A : Option Addr) (n c : Nat) (w : World) (hg : ∀ b ∈ l, b.good) (hR : RdK w w.heap.size A n l) (hn : n ≤ 9223372036854775807) (hK : few l = true) (hK2 : pRight v l = true) (hK3 : fewOps [o] = false) :
    Calls Try.prog 4 #[.agg #[.int .i64 v, .slice A n c], .agg o.arr] w fun e w' => e = .returned (.bool true) ∧ Below w.heap.size w w' := by
  have hof := ho.1.1
  have how := ho.2.1
  have hf := fine_of hg
  have HF := Lib.hid hf
  have R0 := Lib.hid (fun ob ob' => (hR.up ob).up ob')
  have HB0 := Lib.hid (fun ob ob' => (((Below.refl w.heap.size w).alloc (Nat.le_refl _) ob).alloc (by simp) ob' : Below w.heap.size w ((w.alloc ob).alloc ob')))
  have HNL := Lib.hid hR.1
  clear hR hf hg
  have C1 := Lib.hid (fun A n c W (h : RdK W W.heap.size A n l) (hn : n ≤ 9223372036854775807) => hK ▸ fewP_any l v A n c W h hn)
  have hlen := few_le hK
  have C2 := Lib.hid (fun A n c W (h : RdK W W.heap.size A n l) => hK2 ▸ refRightP_any l HF.out v A n c W h (by omega))
  have HFO := Lib.hid hK3
  clear hK hK2 hK3
  go_enter Try.func4, Try.ntmps4
  go_wp2_with fail
  refine (awake_any _).mono ?_
  rintro e w1 ⟨rfl, hb1⟩
  have Bp := Lib.hid (((Box.new w _ _).alloc _).go hb1)
  have Bo := Lib.hid ((Box.new1 w _ _ _).go hb1)
  have Rp := Lib.hid ((R0.out _ _).go hb1)
  have HB0 := Lib.hid (call0 (HB0.out _ _) hb1)
  clear hb1
  obtain ⟨xp1, xp2, xp3, xp4⟩ := Bp.out.facts
  have lp := Bp.out.lt
  obtain ⟨xo1, xo2, xo3, xo4⟩ := Bo.out.facts
  have lo := Bo.out.lt
  go_wp2_with fail
  refine (C1.out A n c _ Rp.out hn).mono ?_
  rintro e w2 ⟨rfl, hb1⟩
  have Bp := Lib.hid ((Bp.out).go hb1)
  have Bo := Lib.hid ((Bo.out).go hb1)
  have Rp := Lib.hid ((Rp.out).go hb1)
  have HB0 := Lib.hid (call0 HB0.out hb1)
  clear hb1
  clear xp1 xp2 xp3 xp4 lp
  clear xo1 xo2 xo3 xo4 lo
  obtain ⟨xp1, xp2, xp3, xp4⟩ := Bp.out.facts
  have lp := Bp.out.lt
  obtain ⟨xo1, xo2, xo3, xo4⟩ := Bo.out.facts
  have lo := Bo.out.lt
  go_wp2_with fail
  refine (C2.out A n c _ Rp.out).mono ?_
  rintro e w3 ⟨rfl, hb1⟩
  have Bp := Lib.hid ((Bp.out).go hb1)
  have Bo := Lib.hid ((Bo.out).go hb1)
  have Rp := Lib.hid ((Rp.out).go hb1)
  have HB0 := Lib.hid (call0 HB0.out hb1)
  clear hb1
  clear xp1 xp2 xp3 xp4 lp
  clear xo1 xo2 xo3 xo4 lo
  obtain ⟨xp1, xp2, xp3, xp4⟩ := Bp.out.facts
  have lp := Bp.out.lt
  obtain ⟨xo1, xo2, xo3, xo4⟩ := Bo.out.facts
  have lo := Bo.out.lt
  go_wp2_with fail
  refine (fewOp_any o _ false HFO.out).mono ?_
  rintro e wz ⟨rfl, rfl⟩
  go_wp2_with fail
  refine (awake_any _).mono ?_
  rintro e w4 ⟨rfl, hb1⟩
  have Bp := Lib.hid (((Bp.out).alloc _).go hb1)
  have Bo := Lib.hid (((Bo.out).alloc _).go hb1)
  have Bz := Lib.hid (((Box.new w3 _ _)).go hb1)
  have Rp := Lib.hid (((Rp.out).up _).go hb1)
  have HB0 := Lib.hid (call1 HB0.out hb1)
  clear hb1
  clear xp1 xp2 xp3 xp4 lp
  clear xo1 xo2 xo3 xo4 lo
  go_wp2_with fail
  go_ret
  exact ⟨rfl, HB0.out⟩

set_option maxHeartbeats 4000000 in
set_option maxRecDepth 100000 in
theorem poolDoes_main (l : List Bk) (v : Int) (o : Opr) (ho : o.good) (A : Option Addr) (n c : Nat) (w : World) (hg : ∀ b ∈ l, b.good) (hR : RdK w w.heap.size A n l) (hn : n ≤ 9223372036854775807) (hK : few l = true) (hK2 : pRight v l = true) (hK3 : fewOps [o] = true) :
    Calls Try.prog 4 #[.agg #[.int .i64 v, .slice A n c], .agg o.arr] w fun e w' => e = .returned (.bool true) ∧ Below w.heap.size w w' := by
  have hof := ho.1.1
  have how := ho.2.1
  have hf := fine_of hg
  have HF := Lib.hid hf
  have R0 := Lib.hid (fun ob ob' => (hR.up ob).up ob')
  have HB0 := Lib.hid (fun ob ob' => (((Below.refl w.heap.size w).alloc (Nat.le_refl _) ob).alloc (by simp) ob' : Below w.heap.size w ((w.alloc ob).alloc ob')))
  have HNL := Lib.hid hR.1
  clear hR hf hg
  have C1 := Lib.hid (fun A n c W (h : RdK W W.heap.size A n l) (hn : n ≤ 9223372036854775807) => hK ▸ fewP_any l v A n c W h hn)
  have hlen := few_le hK
  have C2 := Lib.hid (fun A n c W (h : RdK W W.heap.size A n l) => hK2 ▸ refRightP_any l HF.out v A n c W h (by omega))
  have HFO := Lib.hid hK3
  obtain ⟨hv0, hv1, _, _, hsr⟩ := pRight_iff.1 hK2
  have HS := Lib.hid hsr
  have hdl := done_len (v := v) (l := l) o
  have hdr := done_any_right hK2 HF.out hof how
  have DO := Lib.hid (fun A n c W (h : RdK W W.heap.size A n l) => doP_any l HS.out v (by omega) o hof how A n c W h (by omega))
  have RO := Lib.hid (fun A n c W (h : RdK W W.heap.size A n l) => refDo_any l HS.out v (by omega) o hof how A n c W h (by omega))
  obtain ⟨er, her⟩ : ∃ er, whyNot v l o = er := ⟨_, rfl⟩
  obtain ⟨v', hv'⟩ : ∃ v', doV v l o = v' := ⟨_, rfl⟩
  obtain ⟨l', hl'⟩ : ∃ l', doL v l o = l' := ⟨_, rfl⟩
  rw [her, hv', hl'] at DO RO
  rw [her, hl'] at hdl
  rw [hv', hl'] at hdr
  have hlq : l'.length ≤ 100000 := by
    rw [hdl]
    split
    · omega
    · split <;> omega
  obtain ⟨n', hn'⟩ : ∃ n', l'.length = n' := ⟨_, rfl⟩
  rw [hn'] at DO RO
  have HLQ := Lib.hid hlq
  have SA := Lib.hid (fun A B n n' c d W (h : RdK W W.heap.size A n l') (h2 : RdK W W.heap.size B n' l') => refSameP_any l' l' hdr.2 hdr.2 v' v' A B n n' c d W h h2 HLQ.out HLQ.out true (twins_self v' l'))
  have RI := Lib.hid (fun A n c W (h : RdK W W.heap.size A n l') => rightP_any l' hdr.2 v' A n c W h HLQ.out true hdr.1)
  clear hK hK2 hK3 her hv' hl' hdl hdr hsr hn' hlq
  go_enter Try.func4, Try.ntmps4
  go_wp2_with fail
  refine (awake_any _).mono ?_
  rintro e w1 ⟨rfl, hb1⟩
  have Bp := Lib.hid (((Box.new w _ _).alloc _).go hb1)
  have Bo := Lib.hid ((Box.new1 w _ _ _).go hb1)
  have Rp := Lib.hid ((R0.out _ _).go hb1)
  have HB0 := Lib.hid (call0 (HB0.out _ _) hb1)
  clear hb1
  obtain ⟨xp1, xp2, xp3, xp4⟩ := Bp.out.facts
  have lp := Bp.out.lt
  obtain ⟨xo1, xo2, xo3, xo4⟩ := Bo.out.facts
  have lo := Bo.out.lt
  go_wp2_with fail
  refine (C1.out A n c _ Rp.out hn).mono ?_
  rintro e w2 ⟨rfl, hb1⟩
  have Bp := Lib.hid ((Bp.out).go hb1)
  have Bo := Lib.hid ((Bo.out).go hb1)
  have Rp := Lib.hid ((Rp.out).go hb1)
  have HB0 := Lib.hid (call0 HB0.out hb1)
  clear hb1
  clear xp1 xp2 xp3 xp4 lp
  clear xo1 xo2 xo3 xo4 lo
  obtain ⟨xp1, xp2, xp3, xp4⟩ := Bp.out.facts
  have lp := Bp.out.lt
  obtain ⟨xo1, xo2, xo3, xo4⟩ := Bo.out.facts
  have lo := Bo.out.lt
  go_wp2_with fail
  refine (C2.out A n c _ Rp.out).mono ?_
  rintro e w3 ⟨rfl, hb1⟩
  have Bp := Lib.hid ((Bp.out).go hb1)
  have Bo := Lib.hid ((Bo.out).go hb1)
  have Rp := Lib.hid ((Rp.out).go hb1)
  have HB0 := Lib.hid (call0 HB0.out hb1)
  clear hb1
  clear xp1 xp2 xp3 xp4 lp
  clear xo1 xo2 xo3 xo4 lo
  obtain ⟨xp1, xp2, xp3, xp4⟩ := Bp.out.facts
  have lp := Bp.out.lt
  obtain ⟨xo1, xo2, xo3, xo4⟩ := Bo.out.facts
  have lo := Bo.out.lt
  go_wp2_with fail
  refine (fewOp_any o _ true HFO.out).mono ?_
  rintro e wz ⟨rfl, rfl⟩
  go_wp2_with fail
  refine (DO.out A n c _ ((Rp.out).up _)).mono ?_
  rintro e w4 ⟨Aq, cq, rfl, hRq, hb1⟩
  have Bp := Lib.hid (((Bp.out).alloc _).go hb1)
  have Bo := Lib.hid (((Bo.out).alloc _).go hb1)
  have Bz := Lib.hid (((Box.new w3 _ _)).go hb1)
  have Rp := Lib.hid (((Rp.out).up _).go hb1)
  have HB0 := Lib.hid (call1 HB0.out hb1)
  have Rq := Lib.hid hRq
  clear hb1 hRq
  clear xp1 xp2 xp3 xp4 lp
  clear xo1 xo2 xo3 xo4 lo
  obtain ⟨xp1, xp2, xp3, xp4⟩ := Bp.out.facts
  have lp := Bp.out.lt
  obtain ⟨xo1, xo2, xo3, xo4⟩ := Bo.out.facts
  have lo := Bo.out.lt
  go_wp2_with fail
  refine (RO.out A n c _ ((Rp.out).up _)).mono ?_
  rintro e w5 ⟨Ar, cr, rfl, hRr, hb1⟩
  have Bp := Lib.hid (((Bp.out).alloc _).go hb1)
  have Bo := Lib.hid (((Bo.out).alloc _).go hb1)
  have Bz := Lib.hid (((Bz.out).alloc _).go hb1)
  have Bq := Lib.hid (((Box.new w4 _ _)).go hb1)
  have Rp := Lib.hid (((Rp.out).up _).go hb1)
  have Rq := Lib.hid (((Rq.out).up _).go hb1)
  have HB0 := Lib.hid (call1 HB0.out hb1)
  have Rr := Lib.hid hRr
  clear hb1 hRr
  clear xp1 xp2 xp3 xp4 lp
  clear xo1 xo2 xo3 xo4 lo
  obtain ⟨xq1, xq2, xq3, xq4⟩ := Bq.out.facts
  have lq := Bq.out.lt
  go_wp2_with fail
  refine (SA.out Aq Ar n' n' cq cr _ ((Rq.out).up _) ((Rr.out).up _)).mono ?_
  rintro e w6 ⟨rfl, hb1⟩
  have Bp := Lib.hid (((Bp.out).alloc _).go hb1)
  have Bo := Lib.hid (((Bo.out).alloc _).go hb1)
  have Bz := Lib.hid (((Bz.out).alloc _).go hb1)
  have Bq := Lib.hid (((Bq.out).alloc _).go hb1)
  have Br := Lib.hid (((Box.new w5 _ _)).go hb1)
  have Rp := Lib.hid (((Rp.out).up _).go hb1)
  have Rq := Lib.hid (((Rq.out).up _).go hb1)
  have Rr := Lib.hid (((Rr.out).up _).go hb1)
  have HB0 := Lib.hid (call1 HB0.out hb1)
  clear hb1
  clear xq1 xq2 xq3 xq4 lq
  obtain ⟨xq1, xq2, xq3, xq4⟩ := Bq.out.facts
  have lq := Bq.out.lt
  go_wp2_with fail
  refine (RI.out Aq n' cq _ (Rq.out)).mono ?_
  rintro e w7 ⟨rfl, hb1⟩
  have Bp := Lib.hid ((Bp.out).go hb1)
  have Bo := Lib.hid ((Bo.out).go hb1)
  have Bz := Lib.hid ((Bz.out).go hb1)
  have Bq := Lib.hid ((Bq.out).go hb1)
  have Br := Lib.hid ((Br.out).go hb1)
  have Rp := Lib.hid ((Rp.out).go hb1)
  have Rq := Lib.hid ((Rq.out).go hb1)
  have Rr := Lib.hid ((Rr.out).go hb1)
  have HB0 := Lib.hid (call0 HB0.out hb1)
  clear hb1
  clear xq1 xq2 xq3 xq4 lq
  go_wp2_with fail
  go_ret
  exact ⟨rfl, HB0.out⟩

theorem poolDoes_walk (v : Int) (A : Option Addr) (n c : Nat) (l : List Bk) (o : Opr) (w : World) (ho : o.good) (hR : RdK w w.heap.size A n l) (hg : ∀ b ∈ l, b.good) (hn : n ≤ 9223372036854775807) :
    Calls Try.prog 4 #[.agg #[.int .i64 v, .slice A n c], .agg o.arr] w fun e w' => e = .returned (.bool true) ∧ Below w.heap.size w w' := by
  cases hK : few l
  · exact poolDoes_few l v o ho A n c w hg hR hn hK
  cases hK2 : pRight v l
  · exact poolDoes_right l v o ho A n c w hg hR hn hK hK2
  cases hK3 : fewOps [o]
  · exact poolDoes_ops l v o ho A n c w hg hR hn hK hK2 hK3
  · exact poolDoes_main l v o ho A n c w hg hR hn hK hK2 hK3
set_option maxRecDepth 100000 in
theorem poolDoes_lifted (os : Os) (started : os.Started) (H : Type) (enc : TypeId × Value → H) :
    ReturnsInHanded {} Try.checked os 4 .any (Rows.poolDoesSpec.pre6 enc Try.prog Try.f4 Rows.poolDoesRow.domain false) (Rows.poolDoesSpec.post enc Try.prog Try.f4 false true false false) := by
  refine returnsInHanded_of_change (C := Try.checked) own started (by kernel_rfl) Try.func4
    (ChangeSpec.witness6 (enc := enc) (C := Try.checked) false ⟨#[], #[.agg #[.int .i64 0, .slice none 0 0], .agg noOp.arr], []⟩ 8 (by kernel_rfl) (by kernel_rfl) (by kernel_rfl) (by kernel_rfl)) ?_
  intro W base args ds gs before hval0 hW hcnd _
  have hval : ∀ (j : Nat) t v, Try.f4.params[j]? = some t → args[j]? = some v → Value.okWide Try.prog W .any base t v := hval0
  have hW' := hW
  obtain ⟨p, q, hA0, hV, rfl, hfz, hnd⟩ := hW
  have hA : DataW.TrodAll enc Try.prog W 0 (fun _ => true) true Try.f4.params.toList args.toList ds p := hA0
  rw [Try.params4] at hA hval
  obtain ⟨v0, vs0, d0, ds0, p0, q0, hargs, rfl, rfl, h0, r0⟩ := trodAll_cons hA
  obtain ⟨v1, vs1, d1, ds1, p1, q1, rfl, rfl, rfl, h1, r1⟩ := trodAll_cons r0
  obtain ⟨rfl, rfl, rfl⟩ := trodAll_nil r1
  obtain rfl : args = #[v0, v1] := by cases args; simp_all
  obtain ⟨zp, Ap, np, cp, lp, rfl, hzp, hRp, hgp, hmp⟩ := open_pool (hval 0 24 v0 rfl rfl) h0
  obtain ⟨o, rfl, hgo⟩ := open_opr (hval 1 38 v1 rfl rfl) h1
  clear hA0 hval0
  refine (poolDoes_walk zp Ap np cp lp o W hgo hRp hgp hmp).mono fun e W' ⟨he, hb⟩ => ?_
  subst he
  exact ⟨_, rfl, law_post laidOut rfl (by kernel_rfl) 4 Try.underlying4 rfl hW' rfl hb⟩
theorem poolDoes_holds : Rows.PoolDoesSaid :=
  OpenClaim.holds_of_wide 4 Try.f4 rfl rfl rfl rfl rfl rfl rfl ⟨rfl, rfl, rfl, rfl, rfl⟩ rfl rfl rfl rfl rfl (by kernel_rfl) Try.func4 (by kernel_rfl)
    (of_decide_eq_true (by kernel_rfl)) (by unfold Func.isWrapper; first | (rw [if_pos (by decide +kernel)]; kernel_rfl) | (rw [if_neg (by decide +kernel)]; exact ⟨rfl, rfl⟩))
    (fun os started H enc _ => poolDoes_lifted os started H enc)
#print axioms poolDoes_holds
end Go.Proofs.Ytgcahcjffoehfaa
