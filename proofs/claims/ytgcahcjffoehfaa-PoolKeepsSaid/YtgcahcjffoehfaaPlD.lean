/- PoolOthers: for every right pool, and whatever is done to one backend: all others stay as they were; there are as many as there should be. No condition. -/
import Derived.Test.YtgcahcjffoehfaaPlC
import Derived.Deep.CutRange
import Derived.Deep.RegionHeld3
set_option linter.unusedSimpArgs false
set_option linter.unusedVariables false
namespace Go.Proofs.Ytgcahcjffoehfaa
open Go.ChangeShapes Go.WideShapes Go.ChangeAt Go.RowKit

theorem setCells_heap (b : Nat) (t : TypeId) (fr : Nat × Nat) : ∀ (vs : List Value) (o : Nat) (c : Array Value) (W : World), W.heap[b]? = some (.cells c t fr) →
    (W.setCells b o vs).heap[b]? = some (.cells ((vs.zipIdx o).foldl (fun cs (x : Value × Nat) => cs.setIfInBounds x.2 x.1) c) t fr)
  | [], _, _, _, h => h
  | v :: r, o, c, W, h => by
    rw [World.setCells, List.zipIdx_cons, List.foldl_cons]
    exact setCells_heap b t fr r (o + 1) _ _ (by rw [setCell_eq_setRow W b o c t fr v h]; exact setRow_heap W b c _ t fr h)
theorem Box.setBk {W : World} {b : Nat} {c : Array Value} (h : Box W b c) (hc : c.size = 27) (x : Bk) : Box (setBk W b 0 x) b x.arr := by
  obtain ⟨t, h⟩ := h
  refine ⟨t, ?_⟩
  have h1 := setCells_heap b t (0, 0) x.arr.toList 0 c W h
  have h2 := fill_whole x.arr c (by rw [Bk.arr_size, hc])
  rw [← Array.foldl_toList, Array.toList_zipIdx] at h2
  simp only [Nat.zero_add] at h2
  rw [h2] at h1
  exact h1
theorem findP_any (l : List Bk) (hs : Srt l) (s : List UInt8) (v : Int) (A : Option Addr) (n c : Nat) (w : World) (hR : RdK w w.heap.size A n l) (hn : l.length ≤ 100000) (K : Bool) (g : Bk) (h1 : hasN l s = K) (h2 : gotN l s = g) :
    Calls Try.prog 21 #[.agg #[.int .i64 v, .slice A n c], .string (textOf s)] w fun e w' => e = .returned (.tuple #[.agg g.arr, .bool K]) ∧ Below w.heap.size w w' := by
  obtain rfl := hR.1
  subst h1 h2
  exact find_any l hs s v A c w hR (by omega)
theorem fewOp_any (o : Opr) (w : World) (K : Bool) (h : fewOps [o] = K) :
    Calls Try.prog 18 #[.slice (some ⟨w.heap.size, 0, none⟩) 1 1] (w.alloc (.cells o.arr 38)) fun e w' => e = .returned (.bool K) ∧ w.alloc (.cells o.arr 38) = w' := by
  subst h
  exact fewOps_any [o] _ 1 _ (RdO.one w o _) (show (1 : Nat) ≤ 9223372036854775807 by decide)

theorem RdK.drewz {w : World} {A : Option Addr} {n : Nat} {l : List Bk} (h : RdK w w.heap.size A n l) : RdK w.drew w.drew.heap.size A n l := h
/-! ### the plain law -/
theorem done_srt {v : Int} {l : List Bk} (hs : Srt l) (o : Opr) : Srt (doL v l o) := by
  unfold doL
  split
  · rename_i h
    obtain ⟨_, _, _, h1, _, h6⟩ := why_ok h
    unfold doneTo
    split
    · rename_i hk
      exact srt_ins (x := o.bk.toW (wPlain o.bk.w)) hs (h1 hk).2.1
    · rename_i hk
      have hh := h6 hk
      split
      · exact srt_del hs _
      · split
        · exact srt_set hs (lowN_lt hh) (by rw [nm_low hh]; exact (gotN_in hh).2)
        · exact srt_set hs (lowN_lt hh) (by rw [nm_low hh]; exact (gotN_in hh).2)
  · exact hs
theorem done_len {v : Int} {l : List Bk} (o : Opr) : (doL v l o).length = if whyNot v l o = 0 ∧ o.kind = 1 then l.length + 1 else if whyNot v l o = 0 ∧ o.kind = 2 then l.length - 1 else l.length := by
  unfold doL
  by_cases h : whyNot v l o = 0
  · obtain ⟨_, _, _, h1, _, h6⟩ := why_ok h
    simp only [h, true_and, if_true]
    unfold doneTo
    by_cases h1 : o.kind = 1
    · simp only [h1, if_true]; exact insAt_length _ _ _
    · simp only [h1, if_false]
      by_cases h2 : o.kind = 2
      · simp only [h2, if_true]; exact delAt_length _ _ (lowN_lt (h6 h1))
      · simp only [h2, if_false]
        split <;> exact List.length_set
  · simp [h]
theorem done_other {v : Int} {l : List Bk} (hs : Srt l) (o : Opr) {x : Bk} (hx : x ∈ l) (hn : x.name ≠ o.who) : x ∈ doL v l o := by
  unfold doL
  split
  · rename_i h
    obtain ⟨_, _, _, h1, _, h6⟩ := why_ok h
    unfold doneTo
    split
    · exact mem_ins.2 (.inr hx)
    · rename_i hk
      have hh := h6 hk
      have hw : o.who = o.name := by simp [Opr.who, hk]
      rw [hw] at hn
      split
      · exact (mem_del hs (lowN_lt hh)).2 ⟨hx, by rw [nm_low hh]; exact hn⟩
      · split
        · exact (mem_set hs (lowN_lt hh) (by rw [nm_low hh]; exact (gotN_in hh).2)).2 (.inr ⟨hx, by rw [nm_low hh]; exact hn⟩)
        · exact (mem_set hs (lowN_lt hh) (by rw [nm_low hh]; exact (gotN_in hh).2)).2 (.inr ⟨hx, by rw [nm_low hh]; exact hn⟩)
  · exact hx
theorem sameOne_self (x : Bk) : sameOne x x = true := by simp [sameOne]

set_option maxHeartbeats 4000000 in
set_option maxRecDepth 100000 in
theorem poolOthers_few (l : List Bk) (v : Int) (o : Opr) (ho : o.good) (A : Option Addr) (n c : Nat) (w : World) (hg : ∀ b ∈ l, b.good) (hR : RdK w w.heap.size A n l) (hn : n ≤ 9223372036854775807) (hK : few l = false) :
    Calls Try.prog 6 #[.agg #[.int .i64 v, .slice A n c], .agg o.arr] w fun e w' => e = .returned (.bool true) ∧ Below w.heap.size w w' := by
  have hof := ho.1.1
  have how := ho.2.1
  have hf := fine_of hg
  have HF := Lib.hid hf
  have R0 := Lib.hid (fun ob ob' => (hR.up ob).up ob')
  have HB0 := Lib.hid (fun ob ob' => (((Below.refl w.heap.size w).alloc (Nat.le_refl _) ob).alloc (by simp) ob' : Below w.heap.size w ((w.alloc ob).alloc ob')))
  have HNL := Lib.hid hR.1
  clear hR hf hg
  have C1 := Lib.hid (fun A n c W (h : RdK W W.heap.size A n l) (hn : n ≤ 9223372036854775807) => hK ▸ fewP_any l v A n c W h hn)
  clear hK
  go_enter Try.func6, Try.ntmps6
  go_wp2_with fail
  refine (awake_any _).mono ?_
  rintro e w1 ⟨rfl, hb1⟩
  have Bp := Lib.hid (((Box.new w _ _).alloc _).go hb1)
  have Bo := Lib.hid ((Box.new1 w _ _ _).go hb1)
  have Rp := Lib.hid ((R0.out _ _).go hb1)
  have HB0 := Lib.hid (call0 (HB0.out _ _) hb1)
  clear hb1
  obtain ⟨xp1, xp2, xp3, xp4⟩ := Bp.out.facts
  have lp := Bp.out.lt
  obtain ⟨xo1, xo2, xo3, xo4⟩ := Bo.out.facts
  have lo := Bo.out.lt
  go_wp2_with fail
  refine (C1.out A n c _ Rp.out hn).mono ?_
  rintro e w2 ⟨rfl, hb1⟩
  have Bp := Lib.hid ((Bp.out).go hb1)
  have Bo := Lib.hid ((Bo.out).go hb1)
  have Rp := Lib.hid ((Rp.out).go hb1)
  have HB0 := Lib.hid (call0 HB0.out hb1)
  clear hb1
  clear xp1 xp2 xp3 xp4 lp
  clear xo1 xo2 xo3 xo4 lo
  go_wp2_with fail
  refine (awake_any _).mono ?_
  rintro e w3 ⟨rfl, hb1⟩
  have Bp := Lib.hid ((Bp.out).go hb1)
  have Bo := Lib.hid ((Bo.out).go hb1)
  have Rp := Lib.hid ((Rp.out).go hb1)
  have HB0 := Lib.hid (call0 HB0.out hb1)
  clear hb1
  go_wp2_with fail
  go_ret
  exact ⟨rfl, HB0.out⟩

set_option maxHeartbeats 4000000 in
set_option maxRecDepth 100000 in
theorem poolOthers_right (l : List Bk) (v : Int) (o : Opr) (ho : o.good) (A : Option Addr) (n c : Nat) (w : World) (hg : ∀ b ∈ l, b.good) (hR : RdK w w.heap.size A n l) (hn : n ≤ 9223372036854775807) (hK : few l = true) (hK2 : pRight v l = false) :
    Calls Try.prog 6 #[.agg #[.int .i64 v, .slice A n c], .agg o.arr] w fun e w' => e = .returned (.bool true) ∧ Below w.heap.size w w' := by
  have hof := ho.1.1
  have how := ho.2.1
  have hf := fine_of hg
  have HF := Lib.hid hf
  have R0 := Lib.hid (fun ob ob' => (hR.up ob).up ob')
  have HB0 := Lib.hid (fun ob ob' => (((Below.refl w.heap.size w).alloc (Nat.le_refl _) ob).alloc (by simp) ob' : Below w.heap.size w ((w.alloc ob).alloc ob')))
  have HNL := Lib.hid hR.1
  clear hR hf hg
  have C1 := Lib.hid (fun A n c W (h : RdK W W.heap.size A n l) (hn : n ≤ 9223372036854775807) => hK ▸ fewP_any l v A n c W h hn)
  have hlen := few_le hK
  have C2 := Lib.hid (fun A n c W (h : RdK W W.heap.size A n l) => hK2 ▸ refRightP_any l HF.out v A n c W h (by omega))
  clear hK hK2
  go_enter Try.func6, Try.ntmps6
  go_wp2_with fail
  refine (awake_any _).mono ?_
  rintro e w1 ⟨rfl, hb1⟩
  have Bp := Lib.hid (((Box.new w _ _).alloc _).go hb1)
  have Bo := Lib.hid ((Box.new1 w _ _ _).go hb1)
  have Rp := Lib.hid ((R0.out _ _).go hb1)
  have HB0 := Lib.hid (call0 (HB0.out _ _) hb1)
  clear hb1
  obtain ⟨xp1, xp2, xp3, xp4⟩ := Bp.out.facts
  have lp := Bp.out.lt
  obtain ⟨xo1, xo2, xo3, xo4⟩ := Bo.out.facts
  have lo := Bo.out.lt
  go_wp2_with fail
  refine (C1.out A n c _ Rp.out hn).mono ?_
  rintro e w2 ⟨rfl, hb1⟩
  have Bp := Lib.hid ((Bp.out).go hb1)
  have Bo := Lib.hid ((Bo.out).go hb1)
  have Rp := Lib.hid ((Rp.out).go hb1)
  have HB0 := Lib.hid (call0 HB0.out hb1)
  clear hb1
  clear xp1 xp2 xp3 xp4 lp
  clear xo1 xo2 xo3 xo4 lo
  obtain ⟨xp1, xp2, xp3, xp4⟩ := Bp.out.facts
  have lp := Bp.out.lt
  obtain ⟨xo1, xo2, xo3, xo4⟩ := Bo.out.facts
  have lo := Bo.out.lt
  go_wp2_with fail
  refine (C2.out A n c _ Rp.out).mono ?_
  rintro e w3 ⟨rfl, hb1⟩
  have Bp := Lib.hid ((Bp.out).go hb1)
  have Bo := Lib.hid ((Bo.out).go hb1)
  have Rp := Lib.hid ((Rp.out).go hb1)
  have HB0 := Lib.hid (call0 HB0.out hb1)
  clear hb1
  clear xp1 xp2 xp3 xp4 lp
  clear xo1 xo2 xo3 xo4 lo
  go_wp2_with fail
  refine (awake_any _).mono ?_
  rintro e w4 ⟨rfl, hb1⟩
  have Bp := Lib.hid ((Bp.out).go hb1)
  have Bo := Lib.hid ((Bo.out).go hb1)
  have Rp := Lib.hid ((Rp.out).go hb1)
  have HB0 := Lib.hid (call0 HB0.out hb1)
  clear hb1
  go_wp2_with fail
  go_ret
  exact ⟨rfl, HB0.out⟩

set_option maxHeartbeats 4000000 in
set_option maxRecDepth 100000 in
theorem poolOthers_ops (l : List Bk) (v : Int) (o : Opr) (ho : o.good) (A : Option Addr) (n c : Nat) (w : World) (hg : ∀ b ∈ l, b.good) (hR : RdK w w.heap.size A n l) (hn : n ≤ 9223372036854775807) (hK : few l = true) (hK2 : pRight v l = true) (hK3 : fewOps [o] = false) :
    Calls Try.prog 6 #[.agg #[.int .i64 v, .slice A n c], .agg o.arr] w fun e w' => e = .returned (.bool true) ∧ Below w.heap.size w w' := by
  have hof := ho.1.1
  have how := ho.2.1
  have hf := fine_of hg
  have HF := Lib.hid hf
  have R0 := Lib.hid (fun ob ob' => (hR.up ob).up ob')
  have HB0 := Lib.hid (fun ob ob' => (((Below.refl w.heap.size w).alloc (Nat.le_refl _) ob).alloc (by simp) ob' : Below w.heap.size w ((w.alloc ob).alloc ob')))
  have HNL := Lib.hid hR.1
  clear hR hf hg
  have C1 := Lib.hid (fun A n c W (h : RdK W W.heap.size A n l) (hn : n ≤ 9223372036854775807) => hK ▸ fewP_any l v A n c W h hn)
  have hlen := few_le hK
  have C2 := Lib.hid (fun A n c W (h : RdK W W.heap.size A n l) => hK2 ▸ refRightP_any l HF.out v A n c W h (by omega))
  have HFO := Lib.hid hK3
  clear hK hK2 hK3
  go_enter Try.func6, Try.ntmps6
  go_wp2_with fail
  refine (awake_any _).mono ?_
  rintro e w1 ⟨rfl, hb1⟩
  have Bp := Lib.hid (((Box.new w _ _).alloc _).go hb1)
  have Bo := Lib.hid ((Box.new1 w _ _ _).go hb1)
  have Rp := Lib.hid ((R0.out _ _).go hb1)
  have HB0 := Lib.hid (call0 (HB0.out _ _) hb1)
  clear hb1
  obtain ⟨xp1, xp2, xp3, xp4⟩ := Bp.out.facts
  have lp := Bp.out.lt
  obtain ⟨xo1, xo2, xo3, xo4⟩ := Bo.out.facts
  have lo := Bo.out.lt
  go_wp2_with fail
  refine (C1.out A n c _ Rp.out hn).mono ?_
  rintro e w2 ⟨rfl, hb1⟩
  have Bp := Lib.hid ((Bp.out).go hb1)
  have Bo := Lib.hid ((Bo.out).go hb1)
  have Rp := Lib.hid ((Rp.out).go hb1)
  have HB0 := Lib.hid (call0 HB0.out hb1)
  clear hb1
  clear xp1 xp2 xp3 xp4 lp
  clear xo1 xo2 xo3 xo4 lo
  obtain ⟨xp1, xp2, xp3, xp4⟩ := Bp.out.facts
  have lp := Bp.out.lt
  obtain ⟨xo1, xo2, xo3, xo4⟩ := Bo.out.facts
  have lo := Bo.out.lt
  go_wp2_with fail
  refine (C2.out A n c _ Rp.out).mono ?_
  rintro e w3 ⟨rfl, hb1⟩
  have Bp := Lib.hid ((Bp.out).go hb1)
  have Bo := Lib.hid ((Bo.out).go hb1)
  have Rp := Lib.hid ((Rp.out).go hb1)
  have HB0 := Lib.hid (call0 HB0.out hb1)
  clear hb1
  clear xp1 xp2 xp3 xp4 lp
  clear xo1 xo2 xo3 xo4 lo
  obtain ⟨xp1, xp2, xp3, xp4⟩ := Bp.out.facts
  have lp := Bp.out.lt
  obtain ⟨xo1, xo2, xo3, xo4⟩ := Bo.out.facts
  have lo := Bo.out.lt
  go_wp2_with fail
  refine (fewOp_any o _ false HFO.out).mono ?_
  rintro e wz ⟨rfl, rfl⟩
  go_wp2_with fail
  refine (awake_any _).mono ?_
  rintro e w4 ⟨rfl, hb1⟩
  have Bp := Lib.hid (((Bp.out).alloc _).go hb1)
  have Bo := Lib.hid (((Bo.out).alloc _).go hb1)
  have Bz := Lib.hid (((Box.new w3 _ _)).go hb1)
  have Rp := Lib.hid (((Rp.out).up _).go hb1)
  have HB0 := Lib.hid (call1 HB0.out hb1)
  clear hb1
  clear xp1 xp2 xp3 xp4 lp
  clear xo1 xo2 xo3 xo4 lo
  go_wp2_with fail
  go_ret
  exact ⟨rfl, HB0.out⟩

set_option maxHeartbeats 4000000 in
set_option maxRecDepth 100000 in
theorem poolOthers_main (l : List Bk) (v : Int) (o : Opr) (ho : o.good) (A : Option Addr) (n c : Nat) (w : World) (hg : ∀ b ∈ l, b.good) (hR : RdK w w.heap.size A n l) (hn : n ≤ 9223372036854775807) (hK : few l = true) (hK2 : pRight v l = true) (hK3 : fewOps [o] = true) :
    Calls Try.prog 6 #[.agg #[.int .i64 v, .slice A n c], .agg o.arr] w fun e w' => e = .returned (.bool true) ∧ Below w.heap.size w w' := by
  have hof := ho.1.1
  have how := ho.2.1
  have hf := fine_of hg
  have HF := Lib.hid hf
  have R0 := Lib.hid (fun ob ob' => (hR.up ob).up ob')
  have HB0 := Lib.hid (fun ob ob' => (((Below.refl w.heap.size w).alloc (Nat.le_refl _) ob).alloc (by simp) ob' : Below w.heap.size w ((w.alloc ob).alloc ob')))
  have HNL := Lib.hid hR.1
  clear hR hf hg
  have C1 := Lib.hid (fun A n c W (h : RdK W W.heap.size A n l) (hn : n ≤ 9223372036854775807) => hK ▸ fewP_any l v A n c W h hn)
  have hlen := few_le hK
  have C2 := Lib.hid (fun A n c W (h : RdK W W.heap.size A n l) => hK2 ▸ refRightP_any l HF.out v A n c W h (by omega))
  have HFO := Lib.hid hK3
  obtain ⟨hv0, hv1, _, _, hsr⟩ := pRight_iff.1 hK2
  have HS := Lib.hid hsr
  have HSQ := Lib.hid (done_srt (v := v) hsr o)
  have HOT := Lib.hid (fun (x : Bk) (hx : x ∈ l) (hn : x.name ≠ o.who) => done_other (v := v) hsr o hx hn)
  have hdl := done_len (v := v) (l := l) o
  have DO := Lib.hid (fun A n c W (h : RdK W W.heap.size A n l) => doP_any l HS.out v (by omega) o hof how A n c W h (by omega))
  have hge : whyNot v l o = 0 → o.kind = 2 → 0 < l.length := fun h h2 => Nat.lt_of_le_of_lt (Nat.zero_le _) (lowN_lt ((why_ok h).2.2.2.2.2 (by omega)))
  obtain ⟨er, her⟩ : ∃ er, whyNot v l o = er := ⟨_, rfl⟩
  obtain ⟨v', hv'⟩ : ∃ v', doV v l o = v' := ⟨_, rfl⟩
  obtain ⟨l', hl'⟩ : ∃ l', doL v l o = l' := ⟨_, rfl⟩
  rw [her, hv', hl'] at DO
  rw [her, hl'] at hdl
  rw [her] at hge
  have GE := Lib.hid (fun h h2 => HNL.out ▸ hge h h2)
  rw [hl'] at HSQ HOT
  have hlq : l'.length ≤ 100000 := by
    rw [hdl]
    split
    · omega
    · split <;> omega
  have HDL := Lib.hid hdl
  obtain ⟨n', hn'⟩ : ∃ n', l'.length = n' := ⟨_, rfl⟩
  rw [hn'] at DO HDL hlq
  have HN' := Lib.hid hn'
  obtain ⟨who, hwho⟩ : ∃ who, o.who = who := ⟨_, rfl⟩
  rw [hwho] at HOT
  have hwk : who = if o.kind = 1 then o.bk.name else o.name := by rw [← hwho]; rfl
  have HWK := Lib.hid hwk
  have hnn : n ≤ 40 := by have := HNL.out; omega
  clear hK hK2 hK3 her hv' hl' hdl hsr hn' hwho hwk hge
  go_enter Try.func6, Try.ntmps6
  go_wp2_with fail
  refine (awake_any _).mono ?_
  rintro e w1 ⟨rfl, hb1⟩
  have Bp := Lib.hid (((Box.new w _ _).alloc _).go hb1)
  have Bo := Lib.hid ((Box.new1 w _ _ _).go hb1)
  have Rp := Lib.hid ((R0.out _ _).go hb1)
  have HB0 := Lib.hid (call0 (HB0.out _ _) hb1)
  clear hb1
  obtain ⟨xp1, xp2, xp3, xp4⟩ := Bp.out.facts
  have lp := Bp.out.lt
  obtain ⟨xo1, xo2, xo3, xo4⟩ := Bo.out.facts
  have lo := Bo.out.lt
  go_wp2_with fail
  refine (C1.out A n c _ Rp.out hn).mono ?_
  rintro e w2 ⟨rfl, hb1⟩
  have Bp := Lib.hid ((Bp.out).go hb1)
  have Bo := Lib.hid ((Bo.out).go hb1)
  have Rp := Lib.hid ((Rp.out).go hb1)
  have HB0 := Lib.hid (call0 HB0.out hb1)
  clear hb1
  clear xp1 xp2 xp3 xp4 lp
  clear xo1 xo2 xo3 xo4 lo
  obtain ⟨xp1, xp2, xp3, xp4⟩ := Bp.out.facts
  have lp := Bp.out.lt
  obtain ⟨xo1, xo2, xo3, xo4⟩ := Bo.out.facts
  have lo := Bo.out.lt
  go_wp2_with fail
  refine (C2.out A n c _ Rp.out).mono ?_
  rintro e w3 ⟨rfl, hb1⟩
  have Bp := Lib.hid ((Bp.out).go hb1)
  have Bo := Lib.hid ((Bo.out).go hb1)
  have Rp := Lib.hid ((Rp.out).go hb1)
  have HB0 := Lib.hid (call0 HB0.out hb1)
  clear hb1
  clear xp1 xp2 xp3 xp4 lp
  clear xo1 xo2 xo3 xo4 lo
  obtain ⟨xp1, xp2, xp3, xp4⟩ := Bp.out.facts
  have lp := Bp.out.lt
  obtain ⟨xo1, xo2, xo3, xo4⟩ := Bo.out.facts
  have lo := Bo.out.lt
  go_wp2_with fail
  refine (fewOp_any o _ true HFO.out).mono ?_
  rintro e wz ⟨rfl, rfl⟩
  go_upto_if 35 with fail
  go_cut [5] from 31 (fun s5 wx => s5 = .string (textOf who) ∧ wx = w3.alloc (.cells o.arr 38))
  case first =>
    by_cases hk1 : o.kind = 1
    · have HWN := Lib.hid (show who = o.bk.name by rw [HWK.out]; simp [hk1])
      go_wp2_with fail
      go_meet
      case rel => exact ⟨by rw [HWN.out], rfl⟩
    · have HWN := Lib.hid (show who = o.name by rw [HWK.out]; simp [hk1])
      have hk1' : (o.kind == 1) = false := by simpa using hk1
      go_wp2_with fail
      go_meet
      case rel => exact ⟨by rw [HWN.out], rfl⟩
  obtain ⟨rfl, rfl⟩ := hcut
  go_wp2_with fail
  refine (DO.out A n c _ ((Rp.out).up _)).mono ?_
  rintro e w4 ⟨Aq, cq, rfl, hRq, hb1⟩
  have Bp := Lib.hid (((Bp.out).alloc _).go hb1)
  have Bo := Lib.hid (((Bo.out).alloc _).go hb1)
  have Bz := Lib.hid (((Box.new w3 _ _)).go hb1)
  have Rp := Lib.hid (((Rp.out).up _).go hb1)
  have HB0 := Lib.hid (call1 HB0.out hb1)
  have Rq := Lib.hid hRq
  clear hb1 hRq
  clear xp1 xp2 xp3 xp4 lp
  clear xo1 xo2 xo3 xo4 lo
  obtain ⟨xp1, xp2, xp3, xp4⟩ := Bp.out.facts
  have lp := Bp.out.lt
  obtain ⟨xo1, xo2, xo3, xo4⟩ := Bo.out.facts
  have lo := Bo.out.lt
  go_wp2_with fail
  have BQ := Lib.hid (Box.new w4 #[.int .i64 v', .slice Aq n' cq] 24)
  have Bp := Lib.hid (Bp.out.alloc (.cells #[.int .i64 v', .slice Aq n' cq] 24))
  have Bo := Lib.hid (Bo.out.alloc (.cells #[.int .i64 v', .slice Aq n' cq] 24))
  have Rp := Lib.hid (Rp.out.up (.cells #[.int .i64 v', .slice Aq n' cq] 24))
  have Rq := Lib.hid (Rq.out.up (.cells #[.int .i64 v', .slice Aq n' cq] 24))
  have HB0 := Lib.hid (HB0.out.alloc HB0.out.size (.cells #[.int .i64 v', .slice Aq n' cq] 24))
  clear xp1 xp2 xp3 xp4 lp
  clear xo1 xo2 xo3 xo4 lo
  obtain ⟨wL, hwL⟩ : ∃ wL : World, wL = w4.alloc (.cells #[.int .i64 v', .slice Aq n' cq] 24) := ⟨_, rfl⟩
  rw [← hwL] at BQ Bp Bo Rp Rq HB0 ⊢
  go_loopw [8] (fun s8 wr => ∃ i : Nat, i ≤ n ∧ s8 = .int .i64 i ∧ Below wL.heap.size wL wr) (fun s8 _ => n - (intOf s8).toNat)
  case atStart => exact ⟨0, by omega, rfl, Below.refl _ _⟩
  case round =>
    obtain ⟨i, hin, rfl, hb⟩ := hrel
    have bp := Bp.out.go hb
    have bo := Bo.out.go hb
    have bq := BQ.out.go hb
    have rp := Rp.out.go hb
    have RQ := Lib.hid (Rq.out.go hb)
    have HBr := Lib.hid (call0 HB0.out hb)
    have HBL := Lib.hid hb
    clear hb
    by_cases hlt : i < n
    · have hi : (i : Int) < n := by omega
      obtain ⟨b, oo, rfl, hbb, hh, hcl⟩ := rp.at_ hlt
      obtain ⟨b2, o2, hbo, _, hnm0⟩ := rp.name hlt
      injection hbo with hbo
      injection hbo with e1 e2
      subst e1 e2
      have hmem : l.getD i noBk ∈ l := by
        have := HNL.out
        rw [List.getD_eq_getElem?_getD, List.getElem?_eq_getElem (by omega)]; simp
      have hxf := HF.out _ hmem
      have hxo := HOT.out _ hmem
      rw [show nm l i = (l.getD i noBk).name from rfl] at hnm0
      obtain ⟨x, hx⟩ : ∃ x, x = l.getD i noBk := ⟨_, rfl⟩
      rw [← hx] at hcl hxf hxo hnm0
      obtain ⟨K, hK⟩ : ∃ K, hasN l' x.name = K := ⟨_, rfl⟩
      obtain ⟨gx, hgx⟩ : ∃ gx, gotN l' x.name = gx := ⟨_, rfl⟩
      have FI := Lib.hid (fun A n c W (h : RdK W W.heap.size A n l') => findP_any l' HSQ.out x.name v' A n c W h (by have := HN'.out; omega) K gx hK hgx)
      have HKS := Lib.hid (show x.name ≠ who → K = true ∧ gx = x from fun h => by
        have hm := hxo h
        exact ⟨by rw [← hK]; exact (hasN_iff HSQ.out).2 ⟨x, hm, rfl⟩, by rw [← hgx]; exact gotN_mem HSQ.out hm⟩)
      have BPR := Lib.hid bp
      have HH := Lib.hid hh
      have HCL := Lib.hid hcl
      have HNM := Lib.hid hnm0
      clear hx hmem hxo hK hgx hh hcl hnm0
      obtain ⟨xp1, xp2, xp3, xp4⟩ := bp.facts
      obtain ⟨xq1, xq2, xq3, xq4⟩ := bq.facts
      have lp := bp.lt
      have lq := bq.lt
      clear bp bo bq rp
      go_wp2_with fail
      go_cut [9, 10] from 45 to 84 (fun s9 s10 wx => ∃ bb, s9 = .pointer (some ⟨bb, 0, none⟩) ∧ s10 = .bool K ∧ Box wx bb gx.arr ∧ Below wr.heap.size wr wx)
      case first =>
        have KS := Lib.hid (show ∀ W', Below wr.heap.size wr W' → W'.cell? ⟨w.heap.size, 1, none⟩ = some (.slice (some ⟨b, oo, none⟩) n c) ∧ W'.cell? ⟨b, oo + i * 27, none⟩ = some (.string (textOf x.name)) ∧ W'.cell? ⟨w4.heap.size, 0, none⟩ = some (.int .i64 v') ∧ W'.cell? ⟨w4.heap.size, 1, none⟩ = some (.slice Aq n' cq) from fun W' h =>
          ⟨by rw [h.cell (p := ⟨w.heap.size, 1, none⟩) lp, xp1]; rfl, by rw [h.cell (p := ⟨b, oo + i * 27, none⟩) hbb]; exact HNM.out, by rw [h.cell (p := ⟨w4.heap.size, 0, none⟩) lq, xq1]; rfl, by rw [h.cell (p := ⟨w4.heap.size, 1, none⟩) lq, xq1]; rfl⟩)
        have hnm0 := HNM.out
        go_region_held3 (fun W' => W'.cell? ⟨w.heap.size, 1, none⟩ = some (.slice (some ⟨b, oo, none⟩) n c) ∧ W'.cell? ⟨b, oo + i * 27, none⟩ = some (.string (textOf x.name)) ∧ W'.cell? ⟨w4.heap.size, 0, none⟩ = some (.int .i64 v') ∧ W'.cell? ⟨w4.heap.size, 1, none⟩ = some (.slice Aq n' cq))
          (first | exact KS.out _ (Below.refl _ _) | exact KS.out _ (Below.refl _ _).drew | exact KS.out _ ((Below.refl _ _).alloc (Nat.le_refl _) _) | exact KS.out _ ((Below.refl _ _).alloc (Nat.le_refl _) _).drew | exact KS.out _ HB4.out | exact KS.out _ (HB4.out.alloc HB4.out.size _) | exact KS.out _ (setBk_below HB4.out _ _ _ (Nat.le_refl _)) | go_keep)
          (first
          | (go_at_call 21; (with_reducible refine (FI.out Aq n' cq _ RQ.out.drewz).mono ?_); rintro e w1 ⟨rfl, hb4⟩; have HB4 := Lib.hid (below1d hb4); clear hb4)
          | (go_at_call 21; (with_reducible refine (FI.out Aq n' cq _ (RQ.out.upd _)).mono ?_); rintro e w1 ⟨rfl, hb4⟩; have hb5 := below1d hb4; have hth := ((Box.new wr noBk.arr _).go hb5).there 0 27 (Nat.le_of_eq (Bk.arr_size noBk).symm); have BZ := Lib.hid ((Box.new wr noBk.arr _).go hb5); have HB4 := Lib.hid (((Below.refl wr.heap.size wr).alloc (Nat.le_refl _) _).trans (hb5.mono (by simp))); clear hb4 hb5))
        all_goals
          go_wp2_with fail
          go_meet
          case rel =>
            first
              | exact ⟨_, rfl, rfl, Box.new _ _ _, HB4.out.alloc HB4.out.size _⟩
              | exact ⟨_, rfl, rfl, BZ.out.setBk (Bk.arr_size noBk) _, setBk_below HB4.out _ _ _ (Nat.le_refl _)⟩
      case rest =>
        obtain ⟨bb, rfl, rfl, hbx, hbw⟩ := hcut
        clear xp1 xp2 xp3 xp4 xq1 xq2 xq3 xq4
        have hbs : b < wr.heap.size := hbb
        have hb2 : ∀ W, Below wc.heap.size wc W → Below wr.heap.size wr W := fun W h => call0 hbw h
        obtain ⟨T, f, n0, e0, eS, eT⟩ := class_of (fun W => Below wc.heap.size wc W) wc (Below.refl _ _).drew
        have es : ∀ q W1, Below (f q).heap.size (f q) W1 → ∃ q', W1 = f q' := fun q W1 hb => eT _ ((eS q).trans (hb.mono (eS q).size))
        have r1 : ∀ q, (loadBk (.pointer (some ⟨b, oo + i * 27, none⟩))).run Try.prog (f q) = .ok (.agg x.arr) (f q) := fun q => by
          rw [load_bk _ _ _ (HH.out.below (hb2 _ (eS q)) hbs), cellsAt_below (hb2 _ (eS q)) hbs, HCL.out]
        have r2 : ∀ q, (loadBk (.pointer (some ⟨bb, 0, none⟩))).run Try.prog (f q) = .ok (.agg gx.arr) (f q) := fun q => by
          obtain ⟨_, _, h3, h4⟩ := (hbx.go (eS q)).facts
          rw [load_bk _ _ _ (by rw [h3 0 27 (by rw [Bk.csize]; omega)]; trivial), h4 0 27 (by rw [Bk.csize]; omega), Bk.extract_all]
        have r3 : ∀ q, (f q).cell? ⟨b, oo + i * 27, none⟩ = some (.string (textOf x.name)) := fun q => by
          rw [(hb2 _ (eS q)).cell (p := ⟨b, oo + i * 27, none⟩) hbs]; exact HNM.out
        have r4 : ∀ q j, (f q).cell? ⟨w.heap.size, j, none⟩ = _ := fun q j => ((BPR.out.below (hb2 _ (eS q)) BPR.out.lt).facts).1 j
        have hne : Nonempty T := ⟨n0⟩
        have E0 := Lib.hid e0
        have ES := Lib.hid es
        have EB := Lib.hid (fun q => (call0 (call0 HBL.out hbw) (eS q) : Below wL.heap.size wL (f q)))
        clear e0 es eS eT hbx hbw hb2
        by_cases hnm : x.name = who
        · have hn1 : (x.name != who) = false := by simpa using hnm
          have hn2 : (x.name == who) = true := by simpa using hnm
          have hn3 : decide (x.name = who) = true := by simpa using hnm
          have hn4 : decide (x.name ≠ who) = false := by simpa using hnm
          have hn5 : (!decide (x.name = who)) = false := by simpa using hnm
          clear hnm
          go_wp2_with fail
          refine quiet_in f (by kernel_rfl) (by kernel_rfl) n0 E0.out ?_
          repeat (go_big_quiet_step (fail))
          refine wpQuiet_nil ?_
          rintro _ ⟨q, rfl⟩
          go_wp2
          go_roundw
          case rel => exact ⟨i + 1, by omega, by go_num, EB.out _⟩
          case measure => simp [intOf] <;> omega
        · have hn1 : (x.name != who) = true := by simpa using hnm
          have hn2 : (x.name == who) = false := by simpa using hnm
          have hn3 : decide (x.name = who) = false := by simpa using hnm
          have hn4 : decide (x.name ≠ who) = true := by simpa using hnm
          have hn5 : (!decide (x.name = who)) = true := by simpa using hnm
          obtain ⟨hk, hgxx⟩ := HKS.out hnm
          subst hk
          subst hgxx
          have hsame := fun W => sameOne_self gx ▸ sameOne_any gx gx hxf.2 hxf.2 W
          have HSA := Lib.hid hsame
          clear hnm hsame
          go_wp2_with fail
          refine quiet_in f (by kernel_rfl) (by kernel_rfl) n0 E0.out ?_
          repeat (go_big_quiet_step ((first
            | (go_at_call 22; refine (HSA.out _).mono ?_; rintro e w1 ⟨rfl, hb1⟩; exact ⟨rfl, ES.out _ _ hb1⟩))))
          refine wpQuiet_nil ?_
          rintro _ ⟨q, rfl⟩
          go_wp2
          go_roundw
          case rel => exact ⟨i + 1, by omega, by go_num, EB.out _⟩
          case measure => simp [intOf] <;> omega
    · obtain rfl : i = n := by omega
      have hd : decide ((i : Int) < i) = false := by simp
      obtain ⟨xp1, xp2, xp3, xp4⟩ := bp.facts
      obtain ⟨xq1, xq2, xq3, xq4⟩ := bq.facts
      obtain ⟨xo1, xo2, xo3, xo4⟩ := bo.facts
      clear bp bo bq rp
      have hdl := HDL.out
      have hll := HNL.out
      rw [hll] at hdl
      by_cases hk1 : o.kind = 1
      · skip
        rw [hk1] at hdl
        by_cases he : er = 0
        · have hn'e : n' = i + 1 := by simpa [he] using hdl
          clear hdl hll
          subst he
          subst hn'e
          go_wp2
          go_ret
          exact ⟨by simp, HBr.out⟩
        · have hn'e : n' = i := by simpa [he] using hdl
          have he1 : (er == 0) = false := by simpa using he
          clear hdl hll he
          subst hn'e
          go_wp2
          go_ret
          exact ⟨by simp, HBr.out⟩
      · skip
        have hk1' : (o.kind == 1) = false := by simpa using hk1
        by_cases he : er = 0
        · by_cases h2 : o.kind = 2
          · have hn'e : n' = i - 1 := by simpa [he, hk1, h2] using hdl
            have h0 : 0 < i := GE.out he h2
            clear hdl hll
            subst he
            subst hn'e
            go_wp2
            go_ret
            exact ⟨by simp; omega, HBr.out⟩
          · have hn'e : n' = i := by simpa [he, hk1, h2] using hdl
            have h21 : (o.kind == 2) = false := by simpa using h2
            clear hdl hll h2
            subst he
            subst hn'e
            go_wp2
            go_ret
            exact ⟨by simp, HBr.out⟩
        · have hn'e : n' = i := by simpa [he] using hdl
          have he1 : (er == 0) = false := by simpa using he
          clear hdl hll he
          subst hn'e
          go_wp2
          go_ret
          exact ⟨by simp, HBr.out⟩
theorem poolOthers_walk (v : Int) (A : Option Addr) (n c : Nat) (l : List Bk) (o : Opr) (w : World) (ho : o.good) (hR : RdK w w.heap.size A n l) (hg : ∀ b ∈ l, b.good) (hn : n ≤ 9223372036854775807) :
    Calls Try.prog 6 #[.agg #[.int .i64 v, .slice A n c], .agg o.arr] w fun e w' => e = .returned (.bool true) ∧ Below w.heap.size w w' := by
  cases hK : few l
  · exact poolOthers_few l v o ho A n c w hg hR hn hK
  cases hK2 : pRight v l
  · exact poolOthers_right l v o ho A n c w hg hR hn hK hK2
  cases hK3 : fewOps [o]
  · exact poolOthers_ops l v o ho A n c w hg hR hn hK hK2 hK3
  · exact poolOthers_main l v o ho A n c w hg hR hn hK hK2 hK3
set_option maxRecDepth 100000 in
theorem poolOthers_lifted (os : Os) (started : os.Started) (H : Type) (enc : TypeId × Value → H) :
    ReturnsInHanded {} Try.checked os 6 .any (Rows.poolOthersSpec.pre6 enc Try.prog Try.f6 Rows.poolOthersRow.domain false) (Rows.poolOthersSpec.post enc Try.prog Try.f6 false true false false) := by
  refine returnsInHanded_of_change (C := Try.checked) own started (by kernel_rfl) Try.func6
    (ChangeSpec.witness6 (enc := enc) (C := Try.checked) false ⟨#[], #[.agg #[.int .i64 0, .slice none 0 0], .agg noOp.arr], []⟩ 8 (by kernel_rfl) (by kernel_rfl) (by kernel_rfl) (by kernel_rfl)) ?_
  intro W base args ds gs before hval0 hW hcnd _
  have hval : ∀ (j : Nat) t v, Try.f6.params[j]? = some t → args[j]? = some v → Value.okWide Try.prog W .any base t v := hval0
  have hW' := hW
  obtain ⟨p, q, hA0, hV, rfl, hfz, hnd⟩ := hW
  have hA : DataW.TrodAll enc Try.prog W 0 (fun _ => true) true Try.f6.params.toList args.toList ds p := hA0
  rw [Try.params6] at hA hval
  obtain ⟨v0, vs0, d0, ds0, p0, q0, hargs, rfl, rfl, h0, r0⟩ := trodAll_cons hA
  obtain ⟨v1, vs1, d1, ds1, p1, q1, rfl, rfl, rfl, h1, r1⟩ := trodAll_cons r0
  obtain ⟨rfl, rfl, rfl⟩ := trodAll_nil r1
  obtain rfl : args = #[v0, v1] := by cases args; simp_all
  obtain ⟨zp, Ap, np, cp, lp, rfl, hzp, hRp, hgp, hmp⟩ := open_pool (hval 0 24 v0 rfl rfl) h0
  obtain ⟨o, rfl, hgo⟩ := open_opr (hval 1 38 v1 rfl rfl) h1
  clear hA0 hval0
  refine (poolOthers_walk zp Ap np cp lp o W hgo hRp hgp hmp).mono fun e W' ⟨he, hb⟩ => ?_
  subst he
  exact ⟨_, rfl, law_post laidOut rfl (by kernel_rfl) 4 Try.underlying4 rfl hW' rfl hb⟩
theorem poolOthers_holds : Rows.PoolOthersSaid :=
  OpenClaim.holds_of_wide 6 Try.f6 rfl rfl rfl rfl rfl rfl rfl ⟨rfl, rfl, rfl, rfl, rfl⟩ rfl rfl rfl rfl rfl (by kernel_rfl) Try.func6 (by kernel_rfl)
    (of_decide_eq_true (by kernel_rfl)) (by unfold Func.isWrapper; first | (rw [if_pos (by decide +kernel)]; kernel_rfl) | (rw [if_neg (by decide +kernel)]; exact ⟨rfl, rfl⟩))
    (fun os started H enc _ => poolOthers_lifted os started H enc)
#print axioms poolOthers_holds
end Go.Proofs.Ytgcahcjffoehfaa

/-! PoolPlays: whatever is done, one behind the other, from an empty pool on: the pool is right, its version is how often something was done, a backend is there just if the last that was done of its name isn't that it was removed, and has what it was given last. No condition. -/
namespace Go.Proofs.Ytgcahcjffoehfaa
open Go.ChangeShapes Go.WideShapes Go.ChangeAt Go.RowKit

/-! ### words -/
theorem RdO.up {w : World} {A : Option Addr} {n : Nat} {l : List Opr} (h : RdO w w.heap.size A n l) (ob : Obj) : RdO (w.alloc ob) (w.alloc ob).heap.size A n l := (h.to ((Below.refl _ _).alloc (Nat.le_refl _) ob) (Nat.le_refl _)).more (by simp)
theorem RdO.go {W w1 : World} {A : Option Addr} {n : Nat} {l : List Opr} (h : RdO W W.heap.size A n l) (hb : Below W.heap.size W w1) : RdO w1 w1.heap.size A n l := (h.below hb).more hb.size
theorem below_more {w W w1 : World} (h : Below w.heap.size w W) (hb : Below W.heap.size W w1) : Below w.heap.size w w1 := below2 h hb
/-- an op lies at a place -/
def OpAt (W : World) (b oo : Nat) (o : Opr) : Prop := b < W.heap.size ∧ ∀ j, j < 30 → W.cell? ⟨b, oo + j, none⟩ = o.arr[j]?
theorem OpAt.go {W w1 : World} {b oo : Nat} {o : Opr} (h : OpAt W b oo o) (hb : Below W.heap.size W w1) : OpAt w1 b oo o :=
  ⟨Nat.lt_of_lt_of_le h.1 hb.size, fun j hj => (hb.cell (p := ⟨b, oo + j, none⟩) h.1).trans (h.2 j hj)⟩
theorem OpAt.facts {W : World} {b oo : Nat} {o : Opr} (h : OpAt W b oo o) :
    W.cell? ⟨b, oo, none⟩ = some (.int .i64 o.kind) ∧ W.cell? ⟨b, oo + 1, none⟩ = some (.string (textOf o.bk.name)) ∧ W.cell? ⟨b, oo + 28, none⟩ = some (.string (textOf o.name)) ∧ W.cell? ⟨b, oo + 29, none⟩ = some (.float .f64 o.w) ∧
    Has W b oo 30 ∧ cellsAt W b oo 30 = o.arr ∧ Has W b (oo + 1) 27 ∧ cellsAt W b (oo + 1) 27 = o.bk.arr := by
  obtain ⟨hb, h⟩ := h
  have h0 := h 0 (by omega)
  have h1 := h 1 (by omega)
  have h2 := h 28 (by omega)
  have h3 := h 29 (by omega)
  rw [Opr.arr_0] at h0
  rw [Opr.arr_1] at h1
  rw [Opr.arr_28] at h2
  rw [Opr.arr_29] at h3
  obtain ⟨a1, a2⟩ := cellsAt_eq (c := o.arr) (Opr.arr_size o) h
  obtain ⟨b1, b2⟩ := cellsAt_eq (W := W) (b := b) (o := oo + 1) (n := 27) (c := o.bk.arr) (Bk.arr_size _) (fun j hj => by
    rw [← Opr.arr_bk o j hj, ← h (j + 1) (by omega)]; congr 2; omega)
  exact ⟨h0, h1, h2, h3, a1, a2, b1, b2⟩
theorem RdK.setOther {w : World} {A : Option Addr} {n : Nat} {l : List Bk} (h : RdK w w.heap.size A n l) {p : Addr} (u : Value) (hp : ∀ a, A = some a → p.block < a.block) : RdK (w.setCell p u) (w.setCell p u).heap.size A n l := by
  obtain ⟨h1, h2, h3⟩ := h
  refine ⟨h1, ⟨h2.1, fun hn => ?_⟩, h3⟩
  obtain ⟨a, e, hb, hc⟩ := h2.2 hn
  refine ⟨a, e, by simpa [World.setCell] using hb, fun j u' hu => ?_⟩
  rw [World.cell?_setCell_other _ _ _ _ (fun e2 => by have := hp a e; rw [e2, add_block] at this; omega)]
  exact hc j u' hu
/-- a pool is answered, in memory of the call's own -/
def PoolD (w : World) (v : Int) (n : Nat) (l : List Bk) (er : Int) (e : Ending) (w' : World) : Prop :=
  ∃ A c, e = .returned (.tuple #[.agg #[.int .i64 v, .slice A n c], .int .i64 er]) ∧ RdK w' w'.heap.size A n l ∧ (∀ a, A = some a → w.heap.size ≤ a.block) ∧ Below w.heap.size w w'
theorem doD_any (l : List Bk) (hs : Srt l) (v : Int) (hv : -9223372036854775808 ≤ v ∧ v < 9223372036854775807) (o : Opr) (hf : o.bk.fine) (hw : o.w < 18446744073709551616) (A : Option Addr) (n c : Nat) (w : World) (hR : RdK w w.heap.size A n l) (hn : l.length ≤ 100000) (v' : Int) (l' : List Bk) (n' : Nat) (er : Int)
    (h1 : doV v l o = v') (h2 : doL v l o = l') (h3 : l'.length = n') (h4 : whyNot v l o = er) :
    Calls Try.prog 19 #[.agg #[.int .i64 v, .slice A n c], .agg o.arr] w (PoolD w v' n' l' er) := by
  subst h1 h2 h3 h4
  obtain rfl := hR.1
  refine (do_any l hs v hv o hf hw A c w hR hn).mono fun e w' h => ?_
  obtain ⟨A', c', he, ho, hb⟩ := h
  refine ⟨A', c', he, own_reads ho, fun a ha => ?_, hb⟩
  have := (ho.lt a.block (by rw [ha]; rfl)).1
  exact this
theorem rightP_any (l : List Bk) (hf : ∀ x ∈ l, x.fine) (v : Int) (A : Option Addr) (n c : Nat) (w : World) (hR : RdK w w.heap.size A n l) (hn : l.length ≤ 100000) (K : Bool) (hK : pRight v l = K) :
    Calls Try.prog 14 #[.agg #[.int .i64 v, .slice A n c]] w fun e w' => e = .returned (.bool K) ∧ Below w.heap.size w w' := by
  subst hK
  obtain rfl := hR.1
  exact rightPool_any l hf v A c w hR (by omega)

/-! ### the plain law -/
theorem plain_or (x : Nat) : wPlain x = 0 ∨ wPlain x = x := by unfold wPlain; split <;> simp
theorem plain_ok {x : Nat} (h : wOk x = true) : wOk (wPlain x) = true := by
  rcases plain_or x with h1 | h1 <;> rw [h1]
  · decide +kernel
  · exact h
theorem plain_lt {x : Nat} (h : x < 18446744073709551616) : wPlain x < 18446744073709551616 := by
  rcases plain_or x with h1 | h1 <;> rw [h1]
  · decide
  · exact h
theorem plain_plain (x : Nat) : wPlain (wPlain x) = wPlain x := by
  unfold wPlain
  by_cases h : (ord x 0 == some .eq) = true
  · simp only [h, if_true]
    split <;> rfl
  · simp only [h]
    simp [h]
theorem plain_pos (x : Nat) : wPos (wPlain x) = true := by unfold wPos; rw [plain_plain]; exact same_refl _
theorem put_plain {x : Nat} (h : wPos x = true) : wPut x = wPut (wPlain x) := by
  unfold wPos wSame at h
  simp only [beq_iff_eq] at h
  simp only [wPut, h]
theorem fair_toW {x : Bk} {u : Nat} (h : x.fair = true) (hu : wOk u = true) : (x.toW u).fair = true := by
  unfold Bk.fair at h ⊢
  simp only [Bool.and_eq_true] at h ⊢
  exact ⟨⟨⟨⟨h.1.1.1.1, h.1.1.1.2⟩, h.1.1.2⟩, h.1.2⟩, hu⟩
theorem fair_w {x : Bk} (h : x.fair = true) : wOk x.w = true := by
  unfold Bk.fair at h
  simp only [Bool.and_eq_true] at h
  exact h.2
theorem done_right {v : Int} {l : List Bk} {o : Opr} (hr : pRight v l = true) (hf : ∀ x ∈ l, x.fine) (hof : o.bk.fine) (how : o.w < 18446744073709551616) (h : whyNot v l o = 0) :
    pRight (v + 1) (doL v l o) = true ∧ ∀ x ∈ doL v l o, x.fine := by
  obtain ⟨h1, h2, h3, h4, h5⟩ := pRight_iff.1 hr
  obtain ⟨w1, w2, w3, w4, w5, w6⟩ := why_ok h
  have hl := done_len (v := v) (l := l) o
  have hs := done_srt (v := v) h5 o
  have key : ∀ x ∈ doL v l o, (x.fair = true ∧ wPos x.w = true) ∧ x.fine := by
    unfold doL
    rw [if_pos h]
    unfold doneTo
    split
    · rename_i hk
      intro x hx
      rcases mem_ins.1 hx with rfl | hx
      · have hb := (w4 hk).1
        exact ⟨⟨fair_toW hb (plain_ok (fair_w hb)), plain_pos _⟩, hof.1, plain_lt hof.2⟩
      · exact ⟨h4 x hx, hf x hx⟩
    · rename_i hk
      have hh := w6 hk
      have hin := gotN_in hh
      have hnm := nm_low hh
      split
      · intro x hx
        have := ((mem_del h5 (lowN_lt hh)).1 hx).1
        exact ⟨h4 x this, hf x this⟩
      · split
        · rename_i hk3
          intro x hx
          rcases (mem_set h5 (lowN_lt hh) (z := (gotN l o.name).toW (wPlain o.w)) (by rw [hnm]; exact hin.2)).1 hx with rfl | ⟨hx, _⟩
          · exact ⟨⟨fair_toW (h4 _ hin.1).1 (plain_ok (w5 hk3)), plain_pos _⟩, (hf _ hin.1).1, plain_lt how⟩
          · exact ⟨h4 x hx, hf x hx⟩
        · intro x hx
          rcases (mem_set h5 (lowN_lt hh) (z := (gotN l o.name).toD (o.kind == 4)) (by rw [hnm]; exact hin.2)).1 hx with rfl | ⟨hx, _⟩
          · have e1 : ((gotN l o.name).toD (o.kind == 4)).fair = (gotN l o.name).fair := rfl
            have e2 : ((gotN l o.name).toD (o.kind == 4)).w = (gotN l o.name).w := rfl
            rw [e1, e2]
            exact ⟨h4 _ hin.1, (hf (gotN l o.name) hin.1 : (gotN l o.name).fine)⟩
          · exact ⟨h4 x hx, hf x hx⟩
  refine ⟨pRight_iff.2 ⟨by omega, by omega, ?_, fun x hx => (key x hx).1, hs⟩, fun x hx => (key x hx).2⟩
  rw [hl]
  split
  · rename_i hk
    have := (w4 hk.2).2.2
    omega
  · split <;> omega
/-- what one is to have behind what is done -/
def baseOf (l : List Bk) (o : Opr) : Bk :=
  if o.kind = 1 then o.bk else if o.kind = 3 then (gotN l o.who).toW o.w else if o.kind = 4 then (gotN l o.who).toD true else if o.kind = 5 then (gotN l o.who).toD false else gotN l o.who
theorem done_there {v : Int} {l : List Bk} {o : Opr} (hr : pRight v l = true) (hf : ∀ x ∈ l, x.fine) (hof : o.bk.fine) (how : o.w < 18446744073709551616) (h : whyNot v l o = 0) :
    (hasN l o.who == (o.kind == 1)) = false ∧ (hasN (doL v l o) o.who == (o.kind == 2)) = false ∧ (o.kind ≠ 2 → sameOne (gotN (doL v l o) o.who) ((baseOf l o).toW (wPlain (baseOf l o).w)) = true) ∧ (gotN (doL v l o) o.who).w < 18446744073709551616 ∧ (baseOf l o).w < 18446744073709551616 := by
  obtain ⟨h1, h2, h3, h4, h5⟩ := pRight_iff.1 hr
  obtain ⟨w1, w2, w3, w4, w5, w6⟩ := why_ok h
  have hs := done_srt (v := v) h5 o
  have hfd := (done_right hr hf hof how h).2
  have got : ∀ z : Bk, z ∈ doL v l o → z.name = o.who → hasN (doL v l o) o.who = true ∧ gotN (doL v l o) o.who = z := fun z hz hn =>
    ⟨(hasN_iff hs).2 ⟨z, hz, hn⟩, by rw [← hn]; exact gotN_mem hs hz⟩
  by_cases hk : o.kind = 1
  · have hw : o.who = o.bk.name := by simp [Opr.who, hk]
    have hd : doL v l o = insAt l (lowN l o.bk.name) (o.bk.toW (wPlain o.bk.w)) := by simp [doL, h, doneTo, hk]
    have hm : o.bk.toW (wPlain o.bk.w) ∈ doL v l o := by rw [hd]; exact mem_ins.2 (.inl rfl)
    obtain ⟨g1, g2⟩ := got _ hm (by rw [hw]; rfl)
    have hb : baseOf l o = o.bk := by simp [baseOf, hk]
    have hno : hasN l o.who = false := by rw [hw]; exact (w4 hk).2.1
    rw [hno, g1, g2, hb, hk]
    exact ⟨by decide, by decide, fun _ => sameOne_self _, plain_lt hof.2, hof.2⟩
  · have hw : o.who = o.name := by simp [Opr.who, hk]
    have hh : hasN l o.who = true := by rw [hw]; exact w6 hk
    have hin := gotN_in hh
    have hnm := nm_low hh
    have hk1 : (o.kind == 1) = false := by simpa using hk
    rw [hh, hk1]
    refine ⟨by decide, ?_⟩
    by_cases hk2 : o.kind = 2
    · have hd : doL v l o = delAt l (lowN l o.who) := by simp [doL, h, doneTo, hk2, hw]
      have hno : hasN (doL v l o) o.who = false := by
        cases hc : hasN (doL v l o) o.who
        · rfl
        · obtain ⟨x, hx, hn⟩ := (hasN_iff hs).1 hc
          rw [hd] at hx
          have := ((mem_del h5 (lowN_lt hh)).1 hx).2
          rw [hnm] at this
          exact absurd hn this
      have hb : baseOf l o = gotN l o.who := by simp [baseOf, hk2]
      rw [hno, gotN_no hno, hb, hk2]
      exact ⟨by decide, fun h => absurd rfl h, by decide, (hf _ hin.1).2⟩
    · have hk2' : (o.kind == 2) = false := by simpa using hk2
      rw [hk2']
      have zn : ∀ z : Bk, z.name = (gotN l o.who).name → z.name = nm l (lowN l o.who) := fun z hz => by rw [hz, hnm]; exact hin.2
      by_cases hk3 : o.kind = 3
      · have hd : doL v l o = l.set (lowN l o.who) ((gotN l o.who).toW (wPlain o.w)) := by simp [doL, h, doneTo, hk3, hw]
        have hm : (gotN l o.who).toW (wPlain o.w) ∈ doL v l o := by rw [hd]; exact (mem_set h5 (lowN_lt hh) (z := (gotN l o.who).toW (wPlain o.w)) (zn ((gotN l o.who).toW (wPlain o.w)) rfl)).2 (.inl rfl)
        obtain ⟨g1, g2⟩ := got _ hm hin.2
        have hb : baseOf l o = (gotN l o.who).toW o.w := by simp [baseOf, hk3]
        rw [g1, g2, hb]
        exact ⟨by decide, fun _ => sameOne_self _, plain_lt how, how⟩
      · have hd : doL v l o = l.set (lowN l o.who) ((gotN l o.who).toD (o.kind == 4)) := by simp [doL, h, doneTo, hk, hk2, hk3, hw]
        have hm : (gotN l o.who).toD (o.kind == 4) ∈ doL v l o := by rw [hd]; exact (mem_set h5 (lowN_lt hh) (z := (gotN l o.who).toD (o.kind == 4)) (zn ((gotN l o.who).toD (o.kind == 4)) rfl)).2 (.inl rfl)
        obtain ⟨g1, g2⟩ := got _ hm hin.2
        have hb : baseOf l o = (gotN l o.who).toD (o.kind == 4) := by
          rcases (show o.kind = 4 ∨ o.kind = 5 by omega) with h4 | h4 <;> simp [baseOf, h4]
        have hpos := (h4 _ hin.1).2
        rw [g1, g2, hb]
        refine ⟨by decide, fun _ => ?_, (hf _ hin.1).2, (hf _ hin.1).2⟩
        have hp := put_plain hpos
        unfold sameOne
        simp only [Bk.toW, Bk.toD, beq_self_eq_true, decide_true, Bool.true_and, Bool.and_true, decide_eq_true_eq]
        exact decide_eq_true hp
end Go.Proofs.Ytgcahcjffoehfaa
