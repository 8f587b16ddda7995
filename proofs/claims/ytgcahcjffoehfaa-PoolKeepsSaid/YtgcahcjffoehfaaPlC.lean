/- PoolBack: for every right pool: what is added and removed, drained and brought back, leaves the backends as they were; the version counts both. No condition. -/
import Derived.Test.YtgcahcjffoehfaaPlA
import Derived.Test.YtgcahcjffoehfaaPlB
set_option linter.unusedSimpArgs false
set_option linter.unusedVariables false
namespace Go.Proofs.Ytgcahcjffoehfaa
open Go.ChangeShapes Go.WideShapes Go.ChangeAt Go.RowKit

theorem doP_any (l : List Bk) (hs : Srt l) (v : Int) (hv : -9223372036854775808 ≤ v ∧ v < 9223372036854775807) (o : Opr) (hf : o.bk.fine) (hw : o.w < 18446744073709551616) (A : Option Addr) (n c : Nat) (w : World) (hR : RdK w w.heap.size A n l) (hn : l.length ≤ 100000) :
    Calls Try.prog 19 #[.agg #[.int .i64 v, .slice A n c], .agg o.arr] w (PoolC w (doV v l o) (doL v l o).length (doL v l o) (whyNot v l o)) :=
  doC_any l hs v hv o hf hw n hR.1 hn _ _ _ _ rfl rfl rfl rfl A c w hR
theorem sameP_any (l m : List Bk) (v v' : Int) (A B : Option Addr) (n n' c d : Nat) (w : World) (hR : RdK w w.heap.size A n l) (hT : RdK w w.heap.size B n' m) (hn : l.length ≤ 100000) (hm : m.length ≤ 100000) :
    Calls Try.prog 16 #[.agg #[.int .i64 v, .slice A n c], .agg #[.int .i64 v', .slice B n' d]] w fun e w' => e = .returned (.bool (eqPool v l v' m)) ∧ Below w.heap.size w w' := by
  obtain rfl := hR.1
  obtain rfl := hT.1
  exact poolSame_any l m v v' A B c d w hR hT (by omega) (by omega)
theorem fewP_any (l : List Bk) (v : Int) (A : Option Addr) (n c : Nat) (w : World) (hR : RdK w w.heap.size A n l) (hn : n ≤ 9223372036854775807) :
    Calls Try.prog 11 #[.agg #[.int .i64 v, .slice A n c]] w fun e w' => e = .returned (.bool (few l)) ∧ Below w.heap.size w w' := by
  obtain rfl := hR.1
  exact few_any l v A c w hR hn
theorem refRightP_any (l : List Bk) (hf : ∀ x ∈ l, x.fine) (v : Int) (A : Option Addr) (n c : Nat) (w : World) (hR : RdK w w.heap.size A n l) (hn : l.length ≤ 100000) :
    Calls Try.prog 15 #[.agg #[.int .i64 v, .slice A n c]] w fun e w' => e = .returned (.bool (pRight v l)) ∧ Below w.heap.size w w' := by
  obtain rfl := hR.1
  exact refRight_any l hf v A c w hR (by omega)
theorem same_self (v : Int) {l : List Bk} (h : ∀ b ∈ l, b.fine) : eqPool v l v l = true := (eqPool_is v v h h).trans (twins_self v l)

/-! ### the plain law -/
theorem low_ins {l : List Bk} (hs : Srt l) {x : Bk} (hno : hasN l x.name = false) : lowN (insAt l (lowN l x.name) x) x.name = lowN l x.name ∧ hasN (insAt l (lowN l x.name) x) x.name = true := by
  have hle := lowN_le l x.name
  have hi : lowN l x.name < (insAt l (lowN l x.name) x).length := by rw [insAt_length]; omega
  refine hasN_at (srt_ins hs hno) hi ?_
  unfold nm
  rw [List.getD_eq_getElem?_getD, insAt_get l _ x hle, if_neg (by omega), if_pos rfl]
  rfl
theorem del_ins (l : List Bk) (k : Nat) (x : Bk) (hk : k ≤ l.length) : delAt (insAt l k x) k = l := by
  unfold delAt insAt
  rw [List.take_append_of_le_length (by rw [List.length_take]; omega), List.take_take, Nat.min_self, List.drop_append, List.drop_of_length_le (by rw [List.length_take]; omega), List.length_take, Nat.min_eq_left hk, show k + 1 - k = 1 by omega]
  simp
theorem back_add {v : Int} {l : List Bk} (hs : Srt l) (hv : v ≤ 1000000) (b : Bk) (h : whyNot v l (Opr.mk 1 b [] 0) = 0) :
    whyNot (v + 1) (doL v l (Opr.mk 1 b [] 0)) (Opr.mk 2 noBk b.name 0) = 0 ∧ doL (v + 1) (doL v l (Opr.mk 1 b [] 0)) (Opr.mk 2 noBk b.name 0) = l ∧ Srt (doL v l (Opr.mk 1 b [] 0)) := by
  obtain ⟨_, _, _, h1, _, _⟩ := why_ok h
  obtain ⟨hf, hno, hlen⟩ := h1 rfl
  have hd : doL v l (Opr.mk 1 b [] 0) = insAt l (lowN l b.name) (b.toW (wPlain b.w)) := by simp [doL, h, doneTo]
  have hlow : lowN (insAt l (lowN l b.name) (b.toW (wPlain b.w))) b.name = lowN l b.name ∧ hasN (insAt l (lowN l b.name) (b.toW (wPlain b.w))) b.name = true := low_ins (x := b.toW (wPlain b.w)) hs hno
  rw [hd]
  have hw : whyNot (v + 1) (insAt l (lowN l b.name) (b.toW (wPlain b.w))) (Opr.mk 2 noBk b.name 0) = 0 := by
    unfold whyNot
    simp [Opr.who, hlow.2]
    omega
  refine ⟨hw, ?_, srt_ins (x := b.toW (wPlain b.w)) hs hno⟩
  have hdd : doneTo (insAt l (lowN l b.name) (b.toW (wPlain b.w))) (Opr.mk 2 noBk b.name 0) = delAt (insAt l (lowN l b.name) (b.toW (wPlain b.w))) (lowN (insAt l (lowN l b.name) (b.toW (wPlain b.w))) b.name) := by simp [doneTo]
  simp only [doL, hw, if_true]
  rw [hdd, hlow.1]
  exact del_ins l _ _ (lowN_le l _)
theorem back_drain {v : Int} {l : List Bk} (hs : Srt l) (hv : v ≤ 1000000) (s : List UInt8) (h : whyNot v l (Opr.mk 4 noBk s 0) = 0) :
    whyNot (v + 1) (doL v l (Opr.mk 4 noBk s 0)) (Opr.mk 5 noBk s 0) = 0 ∧ doL (v + 1) (doL v l (Opr.mk 4 noBk s 0)) (Opr.mk 5 noBk s 0) = l ∧ Srt (doL v l (Opr.mk 4 noBk s 0)) := by
  obtain ⟨_, _, _, _, _, h6⟩ := why_ok h
  have hhas : hasN l s = true := h6 (show (4 : Int) ≠ 1 by decide)
  have hlt := lowN_lt hhas
  have hd : doL v l (Opr.mk 4 noBk s 0) = l.set (lowN l s) ((gotN l s).toD true) := by simp [doL, h, doneTo]
  have hdr : (gotN l s).drain = false := by
    unfold whyNot at h
    simp [Opr.who, hhas] at h
    cases hc : (gotN l s).drain
    · rfl
    · rw [hc] at h; simp at h
  have hnm := nm_low hhas
  have hzn : ((gotN l s).toD true).name = nm l (lowN l s) := by rw [hnm]; exact (gotN_in hhas).2
  have hs2 := srt_set hs hlt hzn
  have hmem : (gotN l s).toD true ∈ l.set (lowN l s) ((gotN l s).toD true) := (mem_set hs hlt hzn).2 (.inl rfl)
  have hhas2 : hasN (l.set (lowN l s) ((gotN l s).toD true)) s = true := (hasN_iff hs2).2 ⟨_, hmem, (gotN_in hhas).2⟩
  have hgot2 : gotN (l.set (lowN l s) ((gotN l s).toD true)) s = (gotN l s).toD true := by
    have := gotN_mem hs2 hmem
    rwa [show ((gotN l s).toD true).name = s from (gotN_in hhas).2] at this
  have hlow2 : lowN (l.set (lowN l s) ((gotN l s).toD true)) s = lowN l s := by
    have hi : lowN l s < (l.set (lowN l s) ((gotN l s).toD true)).length := by rw [List.length_set]; exact hlt
    refine (hasN_at hs2 hi ?_).1
    rw [nm_get _ _ hi, List.getElem_set_self]
    exact (gotN_in hhas).2
  rw [hd]
  have hw : whyNot (v + 1) (l.set (lowN l s) ((gotN l s).toD true)) (Opr.mk 5 noBk s 0) = 0 := by
    unfold whyNot
    have hdr2 : (gotN (l.set (lowN l s) ((gotN l s).toD true)) s).drain = true := by rw [hgot2]; rfl
    have : ¬ (1099511627776 ≤ v + 1) := by omega
    simp [Opr.who, hhas2, hdr2, this]
  refine ⟨hw, ?_, hs2⟩
  simp only [doL, hw, if_true, doneTo]
  rw [if_neg (by decide), if_neg (by decide), if_neg (by decide), hlow2, hgot2, List.set_set]
  have : (((gotN l s).toD true).toD ((5 : Int) == 4)) = gotN l s := by
    have : ((5 : Int) == 4) = false := by decide
    rw [this]
    unfold Bk.toD
    rw [← hdr]
  rw [this, gotN_yes hhas, List.getD_eq_getElem?_getD, List.getElem?_eq_getElem hlt]
  simp

set_option maxHeartbeats 2000000 in
set_option maxRecDepth 100000 in
theorem poolBack_few (l : List Bk) (v : Int) (b : Bk) (s : List UInt8) (hb : b.good) (hs : s.length ≤ 9223372036854775807) (A : Option Addr) (n c : Nat) (w : World) (hv : -9223372036854775808 ≤ v ∧ v ≤ 9223372036854775807) (hg : ∀ b ∈ l, b.good) (hR : RdK w w.heap.size A n l) (hn : n ≤ 9223372036854775807) (hK : few l = false) :
    Calls Try.prog 8 #[.agg #[.int .i64 v, .slice A n c], .agg b.arr, .string (textOf s)] w fun e w' => e = .returned (.bool true) ∧ Below w.heap.size w w' := by
  have hbf := hb.1
  have hbn := hbf.1
  have hbw := hbf.2
  have hf := fine_of hg
  have HF := Lib.hid hf
  have R0 := Lib.hid (fun ob ob' => (hR.up ob).up ob')
  have HB0 := Lib.hid (fun ob ob' => (((Below.refl w.heap.size w).alloc (Nat.le_refl _) ob).alloc (by simp) ob' : Below w.heap.size w ((w.alloc ob).alloc ob')))
  clear hR hf hg
  have C1 := Lib.hid (fun A n c W (h : RdK W W.heap.size A n l) (hn : n ≤ 9223372036854775807) => hK ▸ fewP_any l v A n c W h hn)
  clear hK
  go_enter Try.func8, Try.ntmps8
  go_wp2_with fail
  refine (awake_any _).mono ?_
  rintro e w1 ⟨rfl, hb1⟩
  have Bp := Lib.hid (((Box.new w _ _).alloc _).go hb1)
  have Bb := Lib.hid ((Box.new1 w _ _ _).go hb1)
  have Rp := Lib.hid ((R0.out _ _).go hb1)
  have HB0 := Lib.hid (call0 (HB0.out _ _) hb1)
  clear hb1
  obtain ⟨xp1, xp2, xp3, xp4⟩ := Bp.out.facts
  have lp := Bp.out.lt
  obtain ⟨xb1, xb2, xb3, xb4⟩ := Bb.out.facts
  have lb := Bb.out.lt
  go_wp2_with fail
  refine (C1.out A n c _ Rp.out hn).mono ?_
  rintro e w2 ⟨rfl, hb1⟩
  have Bp := Lib.hid ((Bp.out).go hb1)
  have Bb := Lib.hid ((Bb.out).go hb1)
  have Rp := Lib.hid ((Rp.out).go hb1)
  have HB0 := Lib.hid (call0 HB0.out hb1)
  clear hb1
  clear xp1 xp2 xp3 xp4 lp
  clear xb1 xb2 xb3 xb4 lb
  go_wp2_with fail
  refine (awake_any _).mono ?_
  rintro e w3 ⟨rfl, hb1⟩
  have Bp := Lib.hid ((Bp.out).go hb1)
  have Bb := Lib.hid ((Bb.out).go hb1)
  have Rp := Lib.hid ((Rp.out).go hb1)
  have HB0 := Lib.hid (call0 HB0.out hb1)
  clear hb1
  go_wp2_with fail
  go_ret
  exact ⟨rfl, HB0.out⟩

set_option maxHeartbeats 2000000 in
set_option maxRecDepth 100000 in
theorem poolBack_right (l : List Bk) (v : Int) (b : Bk) (s : List UInt8) (hb : b.good) (hs : s.length ≤ 9223372036854775807) (A : Option Addr) (n c : Nat) (w : World) (hv : -9223372036854775808 ≤ v ∧ v ≤ 9223372036854775807) (hg : ∀ b ∈ l, b.good) (hR : RdK w w.heap.size A n l) (hn : n ≤ 9223372036854775807) (hK : few l = true) (hK2 : pRight v l = false) :
    Calls Try.prog 8 #[.agg #[.int .i64 v, .slice A n c], .agg b.arr, .string (textOf s)] w fun e w' => e = .returned (.bool true) ∧ Below w.heap.size w w' := by
  have hbf := hb.1
  have hbn := hbf.1
  have hbw := hbf.2
  have hf := fine_of hg
  have HF := Lib.hid hf
  have R0 := Lib.hid (fun ob ob' => (hR.up ob).up ob')
  have HB0 := Lib.hid (fun ob ob' => (((Below.refl w.heap.size w).alloc (Nat.le_refl _) ob).alloc (by simp) ob' : Below w.heap.size w ((w.alloc ob).alloc ob')))
  clear hR hf hg
  have hlen := few_le hK
  have C1 := Lib.hid (fun A n c W (h : RdK W W.heap.size A n l) (hn : n ≤ 9223372036854775807) => hK ▸ fewP_any l v A n c W h hn)
  have C2 := Lib.hid (fun A n c W (h : RdK W W.heap.size A n l) => hK2 ▸ refRightP_any l HF.out v A n c W h (by omega))
  clear hK hK2
  go_enter Try.func8, Try.ntmps8
  go_wp2_with fail
  refine (awake_any _).mono ?_
  rintro e w1 ⟨rfl, hb1⟩
  have Bp := Lib.hid (((Box.new w _ _).alloc _).go hb1)
  have Bb := Lib.hid ((Box.new1 w _ _ _).go hb1)
  have Rp := Lib.hid ((R0.out _ _).go hb1)
  have HB0 := Lib.hid (call0 (HB0.out _ _) hb1)
  clear hb1
  obtain ⟨xp1, xp2, xp3, xp4⟩ := Bp.out.facts
  have lp := Bp.out.lt
  obtain ⟨xb1, xb2, xb3, xb4⟩ := Bb.out.facts
  have lb := Bb.out.lt
  go_wp2_with fail
  refine (C1.out A n c _ Rp.out hn).mono ?_
  rintro e w2 ⟨rfl, hb1⟩
  have Bp := Lib.hid ((Bp.out).go hb1)
  have Bb := Lib.hid ((Bb.out).go hb1)
  have Rp := Lib.hid ((Rp.out).go hb1)
  have HB0 := Lib.hid (call0 HB0.out hb1)
  clear hb1
  clear xp1 xp2 xp3 xp4 lp
  clear xb1 xb2 xb3 xb4 lb
  obtain ⟨xp1, xp2, xp3, xp4⟩ := Bp.out.facts
  have lp := Bp.out.lt
  obtain ⟨xb1, xb2, xb3, xb4⟩ := Bb.out.facts
  have lb := Bb.out.lt
  go_wp2_with fail
  refine (C2.out A n c _ Rp.out).mono ?_
  rintro e w3 ⟨rfl, hb1⟩
  have Bp := Lib.hid ((Bp.out).go hb1)
  have Bb := Lib.hid ((Bb.out).go hb1)
  have Rp := Lib.hid ((Rp.out).go hb1)
  have HB0 := Lib.hid (call0 HB0.out hb1)
  clear hb1
  clear xp1 xp2 xp3 xp4 lp
  clear xb1 xb2 xb3 xb4 lb
  go_wp2_with fail
  refine (awake_any _).mono ?_
  rintro e w4 ⟨rfl, hb1⟩
  have Bp := Lib.hid ((Bp.out).go hb1)
  have Bb := Lib.hid ((Bb.out).go hb1)
  have Rp := Lib.hid ((Rp.out).go hb1)
  have HB0 := Lib.hid (call0 HB0.out hb1)
  clear hb1
  go_wp2_with fail
  go_ret
  exact ⟨rfl, HB0.out⟩

set_option maxHeartbeats 2000000 in
set_option maxRecDepth 100000 in
theorem poolBack_ver (l : List Bk) (v : Int) (b : Bk) (s : List UInt8) (hb : b.good) (hs : s.length ≤ 9223372036854775807) (A : Option Addr) (n c : Nat) (w : World) (hv : -9223372036854775808 ≤ v ∧ v ≤ 9223372036854775807) (hg : ∀ b ∈ l, b.good) (hR : RdK w w.heap.size A n l) (hn : n ≤ 9223372036854775807) (hK : few l = true) (hK2 : pRight v l = true) (h1 : 1000000 < v) :
    Calls Try.prog 8 #[.agg #[.int .i64 v, .slice A n c], .agg b.arr, .string (textOf s)] w fun e w' => e = .returned (.bool true) ∧ Below w.heap.size w w' := by
  have hbf := hb.1
  have hbn := hbf.1
  have hbw := hbf.2
  have hf := fine_of hg
  have HF := Lib.hid hf
  have R0 := Lib.hid (fun ob ob' => (hR.up ob).up ob')
  have HB0 := Lib.hid (fun ob ob' => (((Below.refl w.heap.size w).alloc (Nat.le_refl _) ob).alloc (by simp) ob' : Below w.heap.size w ((w.alloc ob).alloc ob')))
  clear hR hf hg
  have hlen := few_le hK
  have C1 := Lib.hid (fun A n c W (h : RdK W W.heap.size A n l) (hn : n ≤ 9223372036854775807) => hK ▸ fewP_any l v A n c W h hn)
  have C2 := Lib.hid (fun A n c W (h : RdK W W.heap.size A n l) => hK2 ▸ refRightP_any l HF.out v A n c W h (by omega))
  clear hK hK2
  go_enter Try.func8, Try.ntmps8
  go_wp2_with fail
  refine (awake_any _).mono ?_
  rintro e w1 ⟨rfl, hb1⟩
  have Bp := Lib.hid (((Box.new w _ _).alloc _).go hb1)
  have Bb := Lib.hid ((Box.new1 w _ _ _).go hb1)
  have Rp := Lib.hid ((R0.out _ _).go hb1)
  have HB0 := Lib.hid (call0 (HB0.out _ _) hb1)
  clear hb1
  obtain ⟨xp1, xp2, xp3, xp4⟩ := Bp.out.facts
  have lp := Bp.out.lt
  obtain ⟨xb1, xb2, xb3, xb4⟩ := Bb.out.facts
  have lb := Bb.out.lt
  go_wp2_with fail
  refine (C1.out A n c _ Rp.out hn).mono ?_
  rintro e w2 ⟨rfl, hb1⟩
  have Bp := Lib.hid ((Bp.out).go hb1)
  have Bb := Lib.hid ((Bb.out).go hb1)
  have Rp := Lib.hid ((Rp.out).go hb1)
  have HB0 := Lib.hid (call0 HB0.out hb1)
  clear hb1
  clear xp1 xp2 xp3 xp4 lp
  clear xb1 xb2 xb3 xb4 lb
  obtain ⟨xp1, xp2, xp3, xp4⟩ := Bp.out.facts
  have lp := Bp.out.lt
  obtain ⟨xb1, xb2, xb3, xb4⟩ := Bb.out.facts
  have lb := Bb.out.lt
  go_wp2_with fail
  refine (C2.out A n c _ Rp.out).mono ?_
  rintro e w3 ⟨rfl, hb1⟩
  have Bp := Lib.hid ((Bp.out).go hb1)
  have Bb := Lib.hid ((Bb.out).go hb1)
  have Rp := Lib.hid ((Rp.out).go hb1)
  have HB0 := Lib.hid (call0 HB0.out hb1)
  clear hb1
  clear xp1 xp2 xp3 xp4 lp
  clear xb1 xb2 xb3 xb4 lb
  obtain ⟨xp1, xp2, xp3, xp4⟩ := Bp.out.facts
  have lp := Bp.out.lt
  obtain ⟨xb1, xb2, xb3, xb4⟩ := Bb.out.facts
  have lb := Bb.out.lt
  go_wp2_with fail
  refine (awake_any _).mono ?_
  rintro e w4 ⟨rfl, hb1⟩
  have Bp := Lib.hid ((Bp.out).go hb1)
  have Bb := Lib.hid ((Bb.out).go hb1)
  have Rp := Lib.hid ((Rp.out).go hb1)
  have HB0 := Lib.hid (call0 HB0.out hb1)
  clear hb1
  clear xp1 xp2 xp3 xp4 lp
  clear xb1 xb2 xb3 xb4 lb
  go_wp2_with fail
  go_ret
  exact ⟨rfl, HB0.out⟩

set_option maxHeartbeats 2000000 in
set_option maxRecDepth 100000 in
theorem poolBack_bn (l : List Bk) (v : Int) (b : Bk) (s : List UInt8) (hb : b.good) (hs : s.length ≤ 9223372036854775807) (A : Option Addr) (n c : Nat) (w : World) (hv : -9223372036854775808 ≤ v ∧ v ≤ 9223372036854775807) (hg : ∀ b ∈ l, b.good) (hR : RdK w w.heap.size A n l) (hn : n ≤ 9223372036854775807) (hK : few l = true) (hK2 : pRight v l = true) (h1 : v ≤ 1000000) (h2 : 60 < b.name.length) :
    Calls Try.prog 8 #[.agg #[.int .i64 v, .slice A n c], .agg b.arr, .string (textOf s)] w fun e w' => e = .returned (.bool true) ∧ Below w.heap.size w w' := by
  have hbf := hb.1
  have hbn := hbf.1
  have hbw := hbf.2
  have hf := fine_of hg
  have HF := Lib.hid hf
  have R0 := Lib.hid (fun ob ob' => (hR.up ob).up ob')
  have HB0 := Lib.hid (fun ob ob' => (((Below.refl w.heap.size w).alloc (Nat.le_refl _) ob).alloc (by simp) ob' : Below w.heap.size w ((w.alloc ob).alloc ob')))
  clear hR hf hg
  have hlen := few_le hK
  have C1 := Lib.hid (fun A n c W (h : RdK W W.heap.size A n l) (hn : n ≤ 9223372036854775807) => hK ▸ fewP_any l v A n c W h hn)
  have C2 := Lib.hid (fun A n c W (h : RdK W W.heap.size A n l) => hK2 ▸ refRightP_any l HF.out v A n c W h (by omega))
  clear hK hK2
  have h1' : decide (1000000 < v) = false := by simp; omega
  have h2' : (60 : Int) < b.name.length := by omega
  go_enter Try.func8, Try.ntmps8
  go_wp2_with fail
  refine (awake_any _).mono ?_
  rintro e w1 ⟨rfl, hb1⟩
  have Bp := Lib.hid (((Box.new w _ _).alloc _).go hb1)
  have Bb := Lib.hid ((Box.new1 w _ _ _).go hb1)
  have Rp := Lib.hid ((R0.out _ _).go hb1)
  have HB0 := Lib.hid (call0 (HB0.out _ _) hb1)
  clear hb1
  obtain ⟨xp1, xp2, xp3, xp4⟩ := Bp.out.facts
  have lp := Bp.out.lt
  obtain ⟨xb1, xb2, xb3, xb4⟩ := Bb.out.facts
  have lb := Bb.out.lt
  go_wp2_with fail
  refine (C1.out A n c _ Rp.out hn).mono ?_
  rintro e w2 ⟨rfl, hb1⟩
  have Bp := Lib.hid ((Bp.out).go hb1)
  have Bb := Lib.hid ((Bb.out).go hb1)
  have Rp := Lib.hid ((Rp.out).go hb1)
  have HB0 := Lib.hid (call0 HB0.out hb1)
  clear hb1
  clear xp1 xp2 xp3 xp4 lp
  clear xb1 xb2 xb3 xb4 lb
  obtain ⟨xp1, xp2, xp3, xp4⟩ := Bp.out.facts
  have lp := Bp.out.lt
  obtain ⟨xb1, xb2, xb3, xb4⟩ := Bb.out.facts
  have lb := Bb.out.lt
  go_wp2_with fail
  refine (C2.out A n c _ Rp.out).mono ?_
  rintro e w3 ⟨rfl, hb1⟩
  have Bp := Lib.hid ((Bp.out).go hb1)
  have Bb := Lib.hid ((Bb.out).go hb1)
  have Rp := Lib.hid ((Rp.out).go hb1)
  have HB0 := Lib.hid (call0 HB0.out hb1)
  clear hb1
  clear xp1 xp2 xp3 xp4 lp
  clear xb1 xb2 xb3 xb4 lb
  obtain ⟨xp1, xp2, xp3, xp4⟩ := Bp.out.facts
  have lp := Bp.out.lt
  obtain ⟨xb1, xb2, xb3, xb4⟩ := Bb.out.facts
  have lb := Bb.out.lt
  go_wp2_with fail
  refine (awake_any _).mono ?_
  rintro e w4 ⟨rfl, hb1⟩
  have Bp := Lib.hid ((Bp.out).go hb1)
  have Bb := Lib.hid ((Bb.out).go hb1)
  have Rp := Lib.hid ((Rp.out).go hb1)
  have HB0 := Lib.hid (call0 HB0.out hb1)
  clear hb1
  clear xp1 xp2 xp3 xp4 lp
  clear xb1 xb2 xb3 xb4 lb
  go_wp2_with fail
  go_ret
  exact ⟨rfl, HB0.out⟩

set_option maxHeartbeats 2000000 in
set_option maxRecDepth 100000 in
theorem poolBack_sn (l : List Bk) (v : Int) (b : Bk) (s : List UInt8) (hb : b.good) (hs : s.length ≤ 9223372036854775807) (A : Option Addr) (n c : Nat) (w : World) (hv : -9223372036854775808 ≤ v ∧ v ≤ 9223372036854775807) (hg : ∀ b ∈ l, b.good) (hR : RdK w w.heap.size A n l) (hn : n ≤ 9223372036854775807) (hK : few l = true) (hK2 : pRight v l = true) (h1 : v ≤ 1000000) (h2 : b.name.length ≤ 60) (h3 : 60 < s.length) :
    Calls Try.prog 8 #[.agg #[.int .i64 v, .slice A n c], .agg b.arr, .string (textOf s)] w fun e w' => e = .returned (.bool true) ∧ Below w.heap.size w w' := by
  have hbf := hb.1
  have hbn := hbf.1
  have hbw := hbf.2
  have hf := fine_of hg
  have HF := Lib.hid hf
  have R0 := Lib.hid (fun ob ob' => (hR.up ob).up ob')
  have HB0 := Lib.hid (fun ob ob' => (((Below.refl w.heap.size w).alloc (Nat.le_refl _) ob).alloc (by simp) ob' : Below w.heap.size w ((w.alloc ob).alloc ob')))
  clear hR hf hg
  have hlen := few_le hK
  have C1 := Lib.hid (fun A n c W (h : RdK W W.heap.size A n l) (hn : n ≤ 9223372036854775807) => hK ▸ fewP_any l v A n c W h hn)
  have C2 := Lib.hid (fun A n c W (h : RdK W W.heap.size A n l) => hK2 ▸ refRightP_any l HF.out v A n c W h (by omega))
  clear hK hK2
  have h1' : decide (1000000 < v) = false := by simp; omega
  have h2' : decide ((60 : Int) < b.name.length) = false := by simp; omega
  have h3' : (60 : Int) < s.length := by omega
  go_enter Try.func8, Try.ntmps8
  go_wp2_with fail
  refine (awake_any _).mono ?_
  rintro e w1 ⟨rfl, hb1⟩
  have Bp := Lib.hid (((Box.new w _ _).alloc _).go hb1)
  have Bb := Lib.hid ((Box.new1 w _ _ _).go hb1)
  have Rp := Lib.hid ((R0.out _ _).go hb1)
  have HB0 := Lib.hid (call0 (HB0.out _ _) hb1)
  clear hb1
  obtain ⟨xp1, xp2, xp3, xp4⟩ := Bp.out.facts
  have lp := Bp.out.lt
  obtain ⟨xb1, xb2, xb3, xb4⟩ := Bb.out.facts
  have lb := Bb.out.lt
  go_wp2_with fail
  refine (C1.out A n c _ Rp.out hn).mono ?_
  rintro e w2 ⟨rfl, hb1⟩
  have Bp := Lib.hid ((Bp.out).go hb1)
  have Bb := Lib.hid ((Bb.out).go hb1)
  have Rp := Lib.hid ((Rp.out).go hb1)
  have HB0 := Lib.hid (call0 HB0.out hb1)
  clear hb1
  clear xp1 xp2 xp3 xp4 lp
  clear xb1 xb2 xb3 xb4 lb
  obtain ⟨xp1, xp2, xp3, xp4⟩ := Bp.out.facts
  have lp := Bp.out.lt
  obtain ⟨xb1, xb2, xb3, xb4⟩ := Bb.out.facts
  have lb := Bb.out.lt
  go_wp2_with fail
  refine (C2.out A n c _ Rp.out).mono ?_
  rintro e w3 ⟨rfl, hb1⟩
  have Bp := Lib.hid ((Bp.out).go hb1)
  have Bb := Lib.hid ((Bb.out).go hb1)
  have Rp := Lib.hid ((Rp.out).go hb1)
  have HB0 := Lib.hid (call0 HB0.out hb1)
  clear hb1
  clear xp1 xp2 xp3 xp4 lp
  clear xb1 xb2 xb3 xb4 lb
  obtain ⟨xp1, xp2, xp3, xp4⟩ := Bp.out.facts
  have lp := Bp.out.lt
  obtain ⟨xb1, xb2, xb3, xb4⟩ := Bb.out.facts
  have lb := Bb.out.lt
  go_wp2_with fail
  refine (awake_any _).mono ?_
  rintro e w4 ⟨rfl, hb1⟩
  have Bp := Lib.hid ((Bp.out).go hb1)
  have Bb := Lib.hid ((Bb.out).go hb1)
  have Rp := Lib.hid ((Rp.out).go hb1)
  have HB0 := Lib.hid (call0 HB0.out hb1)
  clear hb1
  clear xp1 xp2 xp3 xp4 lp
  clear xb1 xb2 xb3 xb4 lb
  go_wp2_with fail
  go_ret
  exact ⟨rfl, HB0.out⟩

set_option maxHeartbeats 2000000 in
set_option maxRecDepth 100000 in
theorem poolBack_main00 (l : List Bk) (v : Int) (b : Bk) (s : List UInt8) (hb : b.good) (hs : s.length ≤ 9223372036854775807) (A : Option Addr) (n c : Nat) (w : World) (hv : -9223372036854775808 ≤ v ∧ v ≤ 9223372036854775807) (hg : ∀ b ∈ l, b.good) (hR : RdK w w.heap.size A n l) (hn : n ≤ 9223372036854775807) (hK : few l = true) (hK2 : pRight v l = true) (h1 : v ≤ 1000000) (h2 : b.name.length ≤ 60) (h3 : s.length ≤ 60) (ha : whyNot v l (Opr.mk 1 b [] 0) ≠ 0) (hd : whyNot v l (Opr.mk 4 noBk s 0) ≠ 0) :
    Calls Try.prog 8 #[.agg #[.int .i64 v, .slice A n c], .agg b.arr, .string (textOf s)] w fun e w' => e = .returned (.bool true) ∧ Below w.heap.size w w' := by
  have hbf := hb.1
  have hbn := hbf.1
  have hbw := hbf.2
  have hf := fine_of hg
  have HF := Lib.hid hf
  have R0 := Lib.hid (fun ob ob' => (hR.up ob).up ob')
  have HB0 := Lib.hid (fun ob ob' => (((Below.refl w.heap.size w).alloc (Nat.le_refl _) ob).alloc (by simp) ob' : Below w.heap.size w ((w.alloc ob).alloc ob')))
  clear hR hf hg
  have hlen := few_le hK
  have C1 := Lib.hid (fun A n c W (h : RdK W W.heap.size A n l) (hn : n ≤ 9223372036854775807) => hK ▸ fewP_any l v A n c W h hn)
  have C2 := Lib.hid (fun A n c W (h : RdK W W.heap.size A n l) => hK2 ▸ refRightP_any l HF.out v A n c W h (by omega))
  obtain ⟨hv0, hv1, _, _, hsr⟩ := pRight_iff.1 hK2
  have HS := Lib.hid hsr
  have SAME := Lib.hid (fun A B n n' c d W (h : RdK W W.heap.size A n l) (h' : RdK W W.heap.size B n' l) => same_self v HF.out ▸ sameP_any l l v v A B n n' c d W h h' (by omega) (by omega))
  have hna : (whyNot v l (Opr.mk 1 b [] 0) == 0) = false := by simpa using ha
  obtain ⟨ea, hea⟩ : ∃ ea, whyNot v l (Opr.mk 1 b [] 0) = ea := ⟨_, rfl⟩
  rw [hea] at hna
  have DOA := Lib.hid (fun A n c W (h : RdK W W.heap.size A n l) => doC_any l HS.out v (by omega) (Opr.mk 1 b [] 0) hbf (show (0 : Nat) < 18446744073709551616 by decide) n h.1 (by omega) v l _ ea (by simp [doV, ha]) (by simp [doL, ha]) rfl hea A c W h)
  clear hea
  have hnd : (whyNot v l (Opr.mk 4 noBk s 0) != 0) = true := by simpa using hd
  obtain ⟨ed, hed⟩ : ∃ ed, whyNot v l (Opr.mk 4 noBk s 0) = ed := ⟨_, rfl⟩
  rw [hed] at hnd
  have DOD := Lib.hid (fun A n c W (h : RdK W W.heap.size A n l) => doC_any l HS.out v (by omega) (Opr.mk 4 noBk s 0) noBk_fine (show (0 : Nat) < 18446744073709551616 by decide) n h.1 (by omega) v l _ ed (by simp [doV, hd]) (by simp [doL, hd]) rfl hed A c W h)
  clear hed
  have hvv : v + 1 + 1 - 2 = v := by omega
  clear hK hK2 ha hd hsr
  have h1' : decide (1000000 < v) = false := by simp; omega
  have h2' : decide ((60 : Int) < b.name.length) = false := by simp; omega
  have h3' : decide ((60 : Int) < s.length) = false := by simp; omega
  go_enter Try.func8, Try.ntmps8
  go_wp2_with fail
  refine (awake_any _).mono ?_
  rintro e w1 ⟨rfl, hb1⟩
  have Bp := Lib.hid (((Box.new w _ _).alloc _).go hb1)
  have Bb := Lib.hid ((Box.new1 w _ _ _).go hb1)
  have Rp := Lib.hid ((R0.out _ _).go hb1)
  have HB0 := Lib.hid (call0 (HB0.out _ _) hb1)
  clear hb1
  obtain ⟨xp1, xp2, xp3, xp4⟩ := Bp.out.facts
  have lp := Bp.out.lt
  obtain ⟨xb1, xb2, xb3, xb4⟩ := Bb.out.facts
  have lb := Bb.out.lt
  go_wp2_with fail
  refine (C1.out A n c _ Rp.out hn).mono ?_
  rintro e w2 ⟨rfl, hb1⟩
  have Bp := Lib.hid ((Bp.out).go hb1)
  have Bb := Lib.hid ((Bb.out).go hb1)
  have Rp := Lib.hid ((Rp.out).go hb1)
  have HB0 := Lib.hid (call0 HB0.out hb1)
  clear hb1
  clear xp1 xp2 xp3 xp4 lp
  clear xb1 xb2 xb3 xb4 lb
  obtain ⟨xp1, xp2, xp3, xp4⟩ := Bp.out.facts
  have lp := Bp.out.lt
  obtain ⟨xb1, xb2, xb3, xb4⟩ := Bb.out.facts
  have lb := Bb.out.lt
  go_wp2_with fail
  refine (C2.out A n c _ Rp.out).mono ?_
  rintro e w3 ⟨rfl, hb1⟩
  have Bp := Lib.hid ((Bp.out).go hb1)
  have Bb := Lib.hid ((Bb.out).go hb1)
  have Rp := Lib.hid ((Rp.out).go hb1)
  have HB0 := Lib.hid (call0 HB0.out hb1)
  clear hb1
  clear xp1 xp2 xp3 xp4 lp
  clear xb1 xb2 xb3 xb4 lb
  obtain ⟨xp1, xp2, xp3, xp4⟩ := Bp.out.facts
  have lp := Bp.out.lt
  obtain ⟨xb1, xb2, xb3, xb4⟩ := Bb.out.facts
  have lb := Bb.out.lt
  go_wp2_with fail
  refine (DOA.out A n c _ Rp.out).mono ?_
  rintro e w4 ⟨Aq, cq, rfl, hRq, hb1⟩
  have Bp := Lib.hid ((Bp.out).go hb1)
  have Bb := Lib.hid ((Bb.out).go hb1)
  have Rp := Lib.hid ((Rp.out).go hb1)
  have HB0 := Lib.hid (call0 HB0.out hb1)
  have Rq := Lib.hid hRq
  clear hb1 hRq
  clear xp1 xp2 xp3 xp4 lp
  clear xb1 xb2 xb3 xb4 lb
  obtain ⟨xp1, xp2, xp3, xp4⟩ := Bp.out.facts
  have lp := Bp.out.lt
  obtain ⟨xb1, xb2, xb3, xb4⟩ := Bb.out.facts
  have lb := Bb.out.lt
  go_wp2_with fail
  refine (DOD.out A n c _ ((Rp.out).up _)).mono ?_
  rintro e w5 ⟨As, cs, rfl, hRs, hb1⟩
  have Bp := Lib.hid (((Bp.out).alloc _).go hb1)
  have Bb := Lib.hid (((Bb.out).alloc _).go hb1)
  have Bq := Lib.hid (((Box.new w4 _ _)).go hb1)
  have Rp := Lib.hid (((Rp.out).up _).go hb1)
  have Rq := Lib.hid (((Rq.out).up _).go hb1)
  have HB0 := Lib.hid (call1 HB0.out hb1)
  have Rs := Lib.hid hRs
  clear hb1 hRs
  clear xp1 xp2 xp3 xp4 lp
  clear xb1 xb2 xb3 xb4 lb
  obtain ⟨xp1, xp2, xp3, xp4⟩ := Bp.out.facts
  have lp := Bp.out.lt
  obtain ⟨xb1, xb2, xb3, xb4⟩ := Bb.out.facts
  have lb := Bb.out.lt
  go_wp2_with fail
  refine (SAME.out As A _ _ cs c _ ((Rs.out).up _) ((Rp.out).up _)).mono ?_
  rintro e w6 ⟨rfl, hb1⟩
  have Bp := Lib.hid (((Bp.out).alloc _).go hb1)
  have Bb := Lib.hid (((Bb.out).alloc _).go hb1)
  have Bq := Lib.hid (((Bq.out).alloc _).go hb1)
  have Bs := Lib.hid (((Box.new w5 _ _)).go hb1)
  have Rp := Lib.hid (((Rp.out).up _).go hb1)
  have Rq := Lib.hid (((Rq.out).up _).go hb1)
  have Rs := Lib.hid (((Rs.out).up _).go hb1)
  have HB0 := Lib.hid (call1 HB0.out hb1)
  clear hb1
  clear xp1 xp2 xp3 xp4 lp
  clear xb1 xb2 xb3 xb4 lb
  obtain ⟨xp1, xp2, xp3, xp4⟩ := Bp.out.facts
  have lp := Bp.out.lt
  obtain ⟨xb1, xb2, xb3, xb4⟩ := Bb.out.facts
  have lb := Bb.out.lt
  go_wp2_with fail
  go_ret
  exact ⟨rfl, HB0.out⟩

set_option maxHeartbeats 2000000 in
set_option maxRecDepth 100000 in
theorem poolBack_main01 (l : List Bk) (v : Int) (b : Bk) (s : List UInt8) (hb : b.good) (hs : s.length ≤ 9223372036854775807) (A : Option Addr) (n c : Nat) (w : World) (hv : -9223372036854775808 ≤ v ∧ v ≤ 9223372036854775807) (hg : ∀ b ∈ l, b.good) (hR : RdK w w.heap.size A n l) (hn : n ≤ 9223372036854775807) (hK : few l = true) (hK2 : pRight v l = true) (h1 : v ≤ 1000000) (h2 : b.name.length ≤ 60) (h3 : s.length ≤ 60) (ha : whyNot v l (Opr.mk 1 b [] 0) ≠ 0) (hd : whyNot v l (Opr.mk 4 noBk s 0) = 0) :
    Calls Try.prog 8 #[.agg #[.int .i64 v, .slice A n c], .agg b.arr, .string (textOf s)] w fun e w' => e = .returned (.bool true) ∧ Below w.heap.size w w' := by
  have hbf := hb.1
  have hbn := hbf.1
  have hbw := hbf.2
  have hf := fine_of hg
  have HF := Lib.hid hf
  have R0 := Lib.hid (fun ob ob' => (hR.up ob).up ob')
  have HB0 := Lib.hid (fun ob ob' => (((Below.refl w.heap.size w).alloc (Nat.le_refl _) ob).alloc (by simp) ob' : Below w.heap.size w ((w.alloc ob).alloc ob')))
  clear hR hf hg
  have hlen := few_le hK
  have C1 := Lib.hid (fun A n c W (h : RdK W W.heap.size A n l) (hn : n ≤ 9223372036854775807) => hK ▸ fewP_any l v A n c W h hn)
  have C2 := Lib.hid (fun A n c W (h : RdK W W.heap.size A n l) => hK2 ▸ refRightP_any l HF.out v A n c W h (by omega))
  obtain ⟨hv0, hv1, _, _, hsr⟩ := pRight_iff.1 hK2
  have HS := Lib.hid hsr
  have SAME := Lib.hid (fun A B n n' c d W (h : RdK W W.heap.size A n l) (h' : RdK W W.heap.size B n' l) => same_self v HF.out ▸ sameP_any l l v v A B n n' c d W h h' (by omega) (by omega))
  have hna : (whyNot v l (Opr.mk 1 b [] 0) == 0) = false := by simpa using ha
  obtain ⟨ea, hea⟩ : ∃ ea, whyNot v l (Opr.mk 1 b [] 0) = ea := ⟨_, rfl⟩
  rw [hea] at hna
  have DOA := Lib.hid (fun A n c W (h : RdK W W.heap.size A n l) => doC_any l HS.out v (by omega) (Opr.mk 1 b [] 0) hbf (show (0 : Nat) < 18446744073709551616 by decide) n h.1 (by omega) v l _ ea (by simp [doV, ha]) (by simp [doL, ha]) rfl hea A c W h)
  clear hea
  obtain ⟨rd1, rd2, rd3⟩ := back_drain hsr h1 s hd
  have hld : (doL v l (Opr.mk 4 noBk s 0)).length ≤ 100000 := by
    have : doL v l (Opr.mk 4 noBk s 0) = l.set (lowN l s) ((gotN l s).toD true) := by simp [doL, hd, doneTo]
    rw [this, List.length_set]; omega
  have DOD := Lib.hid (fun A n c W (h : RdK W W.heap.size A n l) => doC_any l HS.out v (by omega) (Opr.mk 4 noBk s 0) noBk_fine (show (0 : Nat) < 18446744073709551616 by decide) n h.1 (by omega) (v + 1) _ _ 0 (by simp [doV, hd]) rfl rfl hd A c W h)
  have DOB := Lib.hid (fun A n c W (h : RdK W W.heap.size A n (doL v l (Opr.mk 4 noBk s 0))) => doC_any _ rd3 (v + 1) (by omega) (Opr.mk 5 noBk s 0) noBk_fine (show (0 : Nat) < 18446744073709551616 by decide) n h.1 hld (v + 1 + 1) l _ 0 (by simp [doV, rd1]) rd2 rfl rd1 A c W h)
  have hvv : v + 1 + 1 - 2 = v := by omega
  clear hK hK2 ha hd rd1 rd2 rd3 hld hsr
  have h1' : decide (1000000 < v) = false := by simp; omega
  have h2' : decide ((60 : Int) < b.name.length) = false := by simp; omega
  have h3' : decide ((60 : Int) < s.length) = false := by simp; omega
  go_enter Try.func8, Try.ntmps8
  go_wp2_with fail
  refine (awake_any _).mono ?_
  rintro e w1 ⟨rfl, hb1⟩
  have Bp := Lib.hid (((Box.new w _ _).alloc _).go hb1)
  have Bb := Lib.hid ((Box.new1 w _ _ _).go hb1)
  have Rp := Lib.hid ((R0.out _ _).go hb1)
  have HB0 := Lib.hid (call0 (HB0.out _ _) hb1)
  clear hb1
  obtain ⟨xp1, xp2, xp3, xp4⟩ := Bp.out.facts
  have lp := Bp.out.lt
  obtain ⟨xb1, xb2, xb3, xb4⟩ := Bb.out.facts
  have lb := Bb.out.lt
  go_wp2_with fail
  refine (C1.out A n c _ Rp.out hn).mono ?_
  rintro e w2 ⟨rfl, hb1⟩
  have Bp := Lib.hid ((Bp.out).go hb1)
  have Bb := Lib.hid ((Bb.out).go hb1)
  have Rp := Lib.hid ((Rp.out).go hb1)
  have HB0 := Lib.hid (call0 HB0.out hb1)
  clear hb1
  clear xp1 xp2 xp3 xp4 lp
  clear xb1 xb2 xb3 xb4 lb
  obtain ⟨xp1, xp2, xp3, xp4⟩ := Bp.out.facts
  have lp := Bp.out.lt
  obtain ⟨xb1, xb2, xb3, xb4⟩ := Bb.out.facts
  have lb := Bb.out.lt
  go_wp2_with fail
  refine (C2.out A n c _ Rp.out).mono ?_
  rintro e w3 ⟨rfl, hb1⟩
  have Bp := Lib.hid ((Bp.out).go hb1)
  have Bb := Lib.hid ((Bb.out).go hb1)
  have Rp := Lib.hid ((Rp.out).go hb1)
  have HB0 := Lib.hid (call0 HB0.out hb1)
  clear hb1
  clear xp1 xp2 xp3 xp4 lp
  clear xb1 xb2 xb3 xb4 lb
  obtain ⟨xp1, xp2, xp3, xp4⟩ := Bp.out.facts
  have lp := Bp.out.lt
  obtain ⟨xb1, xb2, xb3, xb4⟩ := Bb.out.facts
  have lb := Bb.out.lt
  go_wp2_with fail
  refine (DOA.out A n c _ Rp.out).mono ?_
  rintro e w4 ⟨Aq, cq, rfl, hRq, hb1⟩
  have Bp := Lib.hid ((Bp.out).go hb1)
  have Bb := Lib.hid ((Bb.out).go hb1)
  have Rp := Lib.hid ((Rp.out).go hb1)
  have HB0 := Lib.hid (call0 HB0.out hb1)
  have Rq := Lib.hid hRq
  clear hb1 hRq
  clear xp1 xp2 xp3 xp4 lp
  clear xb1 xb2 xb3 xb4 lb
  obtain ⟨xp1, xp2, xp3, xp4⟩ := Bp.out.facts
  have lp := Bp.out.lt
  obtain ⟨xb1, xb2, xb3, xb4⟩ := Bb.out.facts
  have lb := Bb.out.lt
  go_wp2_with fail
  refine (DOD.out A n c _ ((Rp.out).up _)).mono ?_
  rintro e w5 ⟨As, cs, rfl, hRs, hb1⟩
  have Bp := Lib.hid (((Bp.out).alloc _).go hb1)
  have Bb := Lib.hid (((Bb.out).alloc _).go hb1)
  have Bq := Lib.hid (((Box.new w4 _ _)).go hb1)
  have Rp := Lib.hid (((Rp.out).up _).go hb1)
  have Rq := Lib.hid (((Rq.out).up _).go hb1)
  have HB0 := Lib.hid (call1 HB0.out hb1)
  have Rs := Lib.hid hRs
  clear hb1 hRs
  clear xp1 xp2 xp3 xp4 lp
  clear xb1 xb2 xb3 xb4 lb
  obtain ⟨xp1, xp2, xp3, xp4⟩ := Bp.out.facts
  have lp := Bp.out.lt
  obtain ⟨xb1, xb2, xb3, xb4⟩ := Bb.out.facts
  have lb := Bb.out.lt
  go_wp2_with fail
  refine (DOB.out As _ cs _ ((Rs.out).up _)).mono ?_
  rintro e w6 ⟨At, ct, rfl, hRt, hb1⟩
  have Bp := Lib.hid (((Bp.out).alloc _).go hb1)
  have Bb := Lib.hid (((Bb.out).alloc _).go hb1)
  have Bq := Lib.hid (((Bq.out).alloc _).go hb1)
  have Bs := Lib.hid (((Box.new w5 _ _)).go hb1)
  have Rp := Lib.hid (((Rp.out).up _).go hb1)
  have Rq := Lib.hid (((Rq.out).up _).go hb1)
  have Rs := Lib.hid (((Rs.out).up _).go hb1)
  have HB0 := Lib.hid (call1 HB0.out hb1)
  have Rt := Lib.hid hRt
  clear hb1 hRt
  clear xp1 xp2 xp3 xp4 lp
  clear xb1 xb2 xb3 xb4 lb
  obtain ⟨xp1, xp2, xp3, xp4⟩ := Bp.out.facts
  have lp := Bp.out.lt
  obtain ⟨xb1, xb2, xb3, xb4⟩ := Bb.out.facts
  have lb := Bb.out.lt
  go_wp2_with fail
  try rw [hvv]
  refine (SAME.out A At _ _ c ct _ ((Rp.out).up _) ((Rt.out).up _)).mono ?_
  rintro e w7 ⟨rfl, hb1⟩
  have Bp := Lib.hid (((Bp.out).alloc _).go hb1)
  have Bb := Lib.hid (((Bb.out).alloc _).go hb1)
  have Bq := Lib.hid (((Bq.out).alloc _).go hb1)
  have Bs := Lib.hid (((Bs.out).alloc _).go hb1)
  have Bt := Lib.hid (((Box.new w6 _ _)).go hb1)
  have Rp := Lib.hid (((Rp.out).up _).go hb1)
  have Rq := Lib.hid (((Rq.out).up _).go hb1)
  have Rs := Lib.hid (((Rs.out).up _).go hb1)
  have Rt := Lib.hid (((Rt.out).up _).go hb1)
  have HB0 := Lib.hid (call1 HB0.out hb1)
  clear hb1
  clear xp1 xp2 xp3 xp4 lp
  clear xb1 xb2 xb3 xb4 lb
  obtain ⟨xp1, xp2, xp3, xp4⟩ := Bp.out.facts
  have lp := Bp.out.lt
  obtain ⟨xb1, xb2, xb3, xb4⟩ := Bb.out.facts
  have lb := Bb.out.lt
  go_wp2_with fail
  go_ret
  exact ⟨rfl, HB0.out⟩

set_option maxHeartbeats 2000000 in
set_option maxRecDepth 100000 in
theorem poolBack_main10 (l : List Bk) (v : Int) (b : Bk) (s : List UInt8) (hb : b.good) (hs : s.length ≤ 9223372036854775807) (A : Option Addr) (n c : Nat) (w : World) (hv : -9223372036854775808 ≤ v ∧ v ≤ 9223372036854775807) (hg : ∀ b ∈ l, b.good) (hR : RdK w w.heap.size A n l) (hn : n ≤ 9223372036854775807) (hK : few l = true) (hK2 : pRight v l = true) (h1 : v ≤ 1000000) (h2 : b.name.length ≤ 60) (h3 : s.length ≤ 60) (ha : whyNot v l (Opr.mk 1 b [] 0) = 0) (hd : whyNot v l (Opr.mk 4 noBk s 0) ≠ 0) :
    Calls Try.prog 8 #[.agg #[.int .i64 v, .slice A n c], .agg b.arr, .string (textOf s)] w fun e w' => e = .returned (.bool true) ∧ Below w.heap.size w w' := by
  have hbf := hb.1
  have hbn := hbf.1
  have hbw := hbf.2
  have hf := fine_of hg
  have HF := Lib.hid hf
  have R0 := Lib.hid (fun ob ob' => (hR.up ob).up ob')
  have HB0 := Lib.hid (fun ob ob' => (((Below.refl w.heap.size w).alloc (Nat.le_refl _) ob).alloc (by simp) ob' : Below w.heap.size w ((w.alloc ob).alloc ob')))
  clear hR hf hg
  have hlen := few_le hK
  have C1 := Lib.hid (fun A n c W (h : RdK W W.heap.size A n l) (hn : n ≤ 9223372036854775807) => hK ▸ fewP_any l v A n c W h hn)
  have C2 := Lib.hid (fun A n c W (h : RdK W W.heap.size A n l) => hK2 ▸ refRightP_any l HF.out v A n c W h (by omega))
  obtain ⟨hv0, hv1, _, _, hsr⟩ := pRight_iff.1 hK2
  have HS := Lib.hid hsr
  have SAME := Lib.hid (fun A B n n' c d W (h : RdK W W.heap.size A n l) (h' : RdK W W.heap.size B n' l) => same_self v HF.out ▸ sameP_any l l v v A B n n' c d W h h' (by omega) (by omega))
  obtain ⟨ra1, ra2, ra3⟩ := back_add hsr h1 b ha
  have hla : (doL v l (Opr.mk 1 b [] 0)).length ≤ 100000 := by
    have : doL v l (Opr.mk 1 b [] 0) = insAt l (lowN l b.name) (b.toW (wPlain b.w)) := by simp [doL, ha, doneTo]
    rw [this, insAt_length]; omega
  have DOA := Lib.hid (fun A n c W (h : RdK W W.heap.size A n l) => doC_any l HS.out v (by omega) (Opr.mk 1 b [] 0) hbf (show (0 : Nat) < 18446744073709551616 by decide) n h.1 (by omega) (v + 1) _ _ 0 (by simp [doV, ha]) rfl rfl ha A c W h)
  have DOR := Lib.hid (fun A n c W (h : RdK W W.heap.size A n (doL v l (Opr.mk 1 b [] 0))) => doC_any _ ra3 (v + 1) (by omega) (Opr.mk 2 noBk b.name 0) noBk_fine (show (0 : Nat) < 18446744073709551616 by decide) n h.1 hla (v + 1 + 1) l _ 0 (by simp [doV, ra1]) ra2 rfl ra1 A c W h)
  have hnd : (whyNot v l (Opr.mk 4 noBk s 0) != 0) = true := by simpa using hd
  obtain ⟨ed, hed⟩ : ∃ ed, whyNot v l (Opr.mk 4 noBk s 0) = ed := ⟨_, rfl⟩
  rw [hed] at hnd
  have DOD := Lib.hid (fun A n c W (h : RdK W W.heap.size A n l) => doC_any l HS.out v (by omega) (Opr.mk 4 noBk s 0) noBk_fine (show (0 : Nat) < 18446744073709551616 by decide) n h.1 (by omega) v l _ ed (by simp [doV, hd]) (by simp [doL, hd]) rfl hed A c W h)
  clear hed
  have hvv : v + 1 + 1 - 2 = v := by omega
  clear hK hK2 ha hd ra1 ra2 ra3 hla hsr
  have h1' : decide (1000000 < v) = false := by simp; omega
  have h2' : decide ((60 : Int) < b.name.length) = false := by simp; omega
  have h3' : decide ((60 : Int) < s.length) = false := by simp; omega
  go_enter Try.func8, Try.ntmps8
  go_wp2_with fail
  refine (awake_any _).mono ?_
  rintro e w1 ⟨rfl, hb1⟩
  have Bp := Lib.hid (((Box.new w _ _).alloc _).go hb1)
  have Bb := Lib.hid ((Box.new1 w _ _ _).go hb1)
  have Rp := Lib.hid ((R0.out _ _).go hb1)
  have HB0 := Lib.hid (call0 (HB0.out _ _) hb1)
  clear hb1
  obtain ⟨xp1, xp2, xp3, xp4⟩ := Bp.out.facts
  have lp := Bp.out.lt
  obtain ⟨xb1, xb2, xb3, xb4⟩ := Bb.out.facts
  have lb := Bb.out.lt
  go_wp2_with fail
  refine (C1.out A n c _ Rp.out hn).mono ?_
  rintro e w2 ⟨rfl, hb1⟩
  have Bp := Lib.hid ((Bp.out).go hb1)
  have Bb := Lib.hid ((Bb.out).go hb1)
  have Rp := Lib.hid ((Rp.out).go hb1)
  have HB0 := Lib.hid (call0 HB0.out hb1)
  clear hb1
  clear xp1 xp2 xp3 xp4 lp
  clear xb1 xb2 xb3 xb4 lb
  obtain ⟨xp1, xp2, xp3, xp4⟩ := Bp.out.facts
  have lp := Bp.out.lt
  obtain ⟨xb1, xb2, xb3, xb4⟩ := Bb.out.facts
  have lb := Bb.out.lt
  go_wp2_with fail
  refine (C2.out A n c _ Rp.out).mono ?_
  rintro e w3 ⟨rfl, hb1⟩
  have Bp := Lib.hid ((Bp.out).go hb1)
  have Bb := Lib.hid ((Bb.out).go hb1)
  have Rp := Lib.hid ((Rp.out).go hb1)
  have HB0 := Lib.hid (call0 HB0.out hb1)
  clear hb1
  clear xp1 xp2 xp3 xp4 lp
  clear xb1 xb2 xb3 xb4 lb
  obtain ⟨xp1, xp2, xp3, xp4⟩ := Bp.out.facts
  have lp := Bp.out.lt
  obtain ⟨xb1, xb2, xb3, xb4⟩ := Bb.out.facts
  have lb := Bb.out.lt
  go_wp2_with fail
  refine (DOA.out A n c _ Rp.out).mono ?_
  rintro e w4 ⟨Aq, cq, rfl, hRq, hb1⟩
  have Bp := Lib.hid ((Bp.out).go hb1)
  have Bb := Lib.hid ((Bb.out).go hb1)
  have Rp := Lib.hid ((Rp.out).go hb1)
  have HB0 := Lib.hid (call0 HB0.out hb1)
  have Rq := Lib.hid hRq
  clear hb1 hRq
  clear xp1 xp2 xp3 xp4 lp
  clear xb1 xb2 xb3 xb4 lb
  obtain ⟨xp1, xp2, xp3, xp4⟩ := Bp.out.facts
  have lp := Bp.out.lt
  obtain ⟨xb1, xb2, xb3, xb4⟩ := Bb.out.facts
  have lb := Bb.out.lt
  go_wp2_with fail
  refine (DOR.out Aq _ cq _ ((Rq.out).up _)).mono ?_
  rintro e w5 ⟨Ar, cr, rfl, hRr, hb1⟩
  have Bp := Lib.hid (((Bp.out).alloc _).go hb1)
  have Bb := Lib.hid (((Bb.out).alloc _).go hb1)
  have Bq := Lib.hid (((Box.new w4 _ _)).go hb1)
  have Rp := Lib.hid (((Rp.out).up _).go hb1)
  have Rq := Lib.hid (((Rq.out).up _).go hb1)
  have HB0 := Lib.hid (call1 HB0.out hb1)
  have Rr := Lib.hid hRr
  clear hb1 hRr
  clear xp1 xp2 xp3 xp4 lp
  clear xb1 xb2 xb3 xb4 lb
  obtain ⟨xp1, xp2, xp3, xp4⟩ := Bp.out.facts
  have lp := Bp.out.lt
  obtain ⟨xb1, xb2, xb3, xb4⟩ := Bb.out.facts
  have lb := Bb.out.lt
  go_wp2_with fail
  try rw [hvv]
  refine (SAME.out A Ar _ _ c cr _ ((Rp.out).up _) ((Rr.out).up _)).mono ?_
  rintro e w6 ⟨rfl, hb1⟩
  have Bp := Lib.hid (((Bp.out).alloc _).go hb1)
  have Bb := Lib.hid (((Bb.out).alloc _).go hb1)
  have Bq := Lib.hid (((Bq.out).alloc _).go hb1)
  have Br := Lib.hid (((Box.new w5 _ _)).go hb1)
  have Rp := Lib.hid (((Rp.out).up _).go hb1)
  have Rq := Lib.hid (((Rq.out).up _).go hb1)
  have Rr := Lib.hid (((Rr.out).up _).go hb1)
  have HB0 := Lib.hid (call1 HB0.out hb1)
  clear hb1
  clear xp1 xp2 xp3 xp4 lp
  clear xb1 xb2 xb3 xb4 lb
  obtain ⟨xp1, xp2, xp3, xp4⟩ := Bp.out.facts
  have lp := Bp.out.lt
  obtain ⟨xb1, xb2, xb3, xb4⟩ := Bb.out.facts
  have lb := Bb.out.lt
  go_wp2_with fail
  refine (DOD.out A n c _ (Rp.out)).mono ?_
  rintro e w7 ⟨As, cs, rfl, hRs, hb1⟩
  have Bp := Lib.hid ((Bp.out).go hb1)
  have Bb := Lib.hid ((Bb.out).go hb1)
  have Bq := Lib.hid ((Bq.out).go hb1)
  have Br := Lib.hid ((Br.out).go hb1)
  have Rp := Lib.hid ((Rp.out).go hb1)
  have Rq := Lib.hid ((Rq.out).go hb1)
  have Rr := Lib.hid ((Rr.out).go hb1)
  have HB0 := Lib.hid (call0 HB0.out hb1)
  have Rs := Lib.hid hRs
  clear hb1 hRs
  clear xp1 xp2 xp3 xp4 lp
  clear xb1 xb2 xb3 xb4 lb
  obtain ⟨xp1, xp2, xp3, xp4⟩ := Bp.out.facts
  have lp := Bp.out.lt
  obtain ⟨xb1, xb2, xb3, xb4⟩ := Bb.out.facts
  have lb := Bb.out.lt
  go_wp2_with fail
  refine (SAME.out As A _ _ cs c _ ((Rs.out).up _) ((Rp.out).up _)).mono ?_
  rintro e w8 ⟨rfl, hb1⟩
  have Bp := Lib.hid (((Bp.out).alloc _).go hb1)
  have Bb := Lib.hid (((Bb.out).alloc _).go hb1)
  have Bq := Lib.hid (((Bq.out).alloc _).go hb1)
  have Br := Lib.hid (((Br.out).alloc _).go hb1)
  have Bs := Lib.hid (((Box.new w7 _ _)).go hb1)
  have Rp := Lib.hid (((Rp.out).up _).go hb1)
  have Rq := Lib.hid (((Rq.out).up _).go hb1)
  have Rr := Lib.hid (((Rr.out).up _).go hb1)
  have Rs := Lib.hid (((Rs.out).up _).go hb1)
  have HB0 := Lib.hid (call1 HB0.out hb1)
  clear hb1
  clear xp1 xp2 xp3 xp4 lp
  clear xb1 xb2 xb3 xb4 lb
  obtain ⟨xp1, xp2, xp3, xp4⟩ := Bp.out.facts
  have lp := Bp.out.lt
  obtain ⟨xb1, xb2, xb3, xb4⟩ := Bb.out.facts
  have lb := Bb.out.lt
  go_wp2_with fail
  go_ret
  exact ⟨rfl, HB0.out⟩

set_option maxHeartbeats 2000000 in
set_option maxRecDepth 100000 in
theorem poolBack_main11 (l : List Bk) (v : Int) (b : Bk) (s : List UInt8) (hb : b.good) (hs : s.length ≤ 9223372036854775807) (A : Option Addr) (n c : Nat) (w : World) (hv : -9223372036854775808 ≤ v ∧ v ≤ 9223372036854775807) (hg : ∀ b ∈ l, b.good) (hR : RdK w w.heap.size A n l) (hn : n ≤ 9223372036854775807) (hK : few l = true) (hK2 : pRight v l = true) (h1 : v ≤ 1000000) (h2 : b.name.length ≤ 60) (h3 : s.length ≤ 60) (ha : whyNot v l (Opr.mk 1 b [] 0) = 0) (hd : whyNot v l (Opr.mk 4 noBk s 0) = 0) :
    Calls Try.prog 8 #[.agg #[.int .i64 v, .slice A n c], .agg b.arr, .string (textOf s)] w fun e w' => e = .returned (.bool true) ∧ Below w.heap.size w w' := by
  have hbf := hb.1
  have hbn := hbf.1
  have hbw := hbf.2
  have hf := fine_of hg
  have HF := Lib.hid hf
  have R0 := Lib.hid (fun ob ob' => (hR.up ob).up ob')
  have HB0 := Lib.hid (fun ob ob' => (((Below.refl w.heap.size w).alloc (Nat.le_refl _) ob).alloc (by simp) ob' : Below w.heap.size w ((w.alloc ob).alloc ob')))
  clear hR hf hg
  have hlen := few_le hK
  have C1 := Lib.hid (fun A n c W (h : RdK W W.heap.size A n l) (hn : n ≤ 9223372036854775807) => hK ▸ fewP_any l v A n c W h hn)
  have C2 := Lib.hid (fun A n c W (h : RdK W W.heap.size A n l) => hK2 ▸ refRightP_any l HF.out v A n c W h (by omega))
  obtain ⟨hv0, hv1, _, _, hsr⟩ := pRight_iff.1 hK2
  have HS := Lib.hid hsr
  have SAME := Lib.hid (fun A B n n' c d W (h : RdK W W.heap.size A n l) (h' : RdK W W.heap.size B n' l) => same_self v HF.out ▸ sameP_any l l v v A B n n' c d W h h' (by omega) (by omega))
  obtain ⟨ra1, ra2, ra3⟩ := back_add hsr h1 b ha
  have hla : (doL v l (Opr.mk 1 b [] 0)).length ≤ 100000 := by
    have : doL v l (Opr.mk 1 b [] 0) = insAt l (lowN l b.name) (b.toW (wPlain b.w)) := by simp [doL, ha, doneTo]
    rw [this, insAt_length]; omega
  have DOA := Lib.hid (fun A n c W (h : RdK W W.heap.size A n l) => doC_any l HS.out v (by omega) (Opr.mk 1 b [] 0) hbf (show (0 : Nat) < 18446744073709551616 by decide) n h.1 (by omega) (v + 1) _ _ 0 (by simp [doV, ha]) rfl rfl ha A c W h)
  have DOR := Lib.hid (fun A n c W (h : RdK W W.heap.size A n (doL v l (Opr.mk 1 b [] 0))) => doC_any _ ra3 (v + 1) (by omega) (Opr.mk 2 noBk b.name 0) noBk_fine (show (0 : Nat) < 18446744073709551616 by decide) n h.1 hla (v + 1 + 1) l _ 0 (by simp [doV, ra1]) ra2 rfl ra1 A c W h)
  obtain ⟨rd1, rd2, rd3⟩ := back_drain hsr h1 s hd
  have hld : (doL v l (Opr.mk 4 noBk s 0)).length ≤ 100000 := by
    have : doL v l (Opr.mk 4 noBk s 0) = l.set (lowN l s) ((gotN l s).toD true) := by simp [doL, hd, doneTo]
    rw [this, List.length_set]; omega
  have DOD := Lib.hid (fun A n c W (h : RdK W W.heap.size A n l) => doC_any l HS.out v (by omega) (Opr.mk 4 noBk s 0) noBk_fine (show (0 : Nat) < 18446744073709551616 by decide) n h.1 (by omega) (v + 1) _ _ 0 (by simp [doV, hd]) rfl rfl hd A c W h)
  have DOB := Lib.hid (fun A n c W (h : RdK W W.heap.size A n (doL v l (Opr.mk 4 noBk s 0))) => doC_any _ rd3 (v + 1) (by omega) (Opr.mk 5 noBk s 0) noBk_fine (show (0 : Nat) < 18446744073709551616 by decide) n h.1 hld (v + 1 + 1) l _ 0 (by simp [doV, rd1]) rd2 rfl rd1 A c W h)
  have hvv : v + 1 + 1 - 2 = v := by omega
  clear hK hK2 ha hd ra1 ra2 ra3 hla rd1 rd2 rd3 hld hsr
  have h1' : decide (1000000 < v) = false := by simp; omega
  have h2' : decide ((60 : Int) < b.name.length) = false := by simp; omega
  have h3' : decide ((60 : Int) < s.length) = false := by simp; omega
  go_enter Try.func8, Try.ntmps8
  go_wp2_with fail
  refine (awake_any _).mono ?_
  rintro e w1 ⟨rfl, hb1⟩
  have Bp := Lib.hid (((Box.new w _ _).alloc _).go hb1)
  have Bb := Lib.hid ((Box.new1 w _ _ _).go hb1)
  have Rp := Lib.hid ((R0.out _ _).go hb1)
  have HB0 := Lib.hid (call0 (HB0.out _ _) hb1)
  clear hb1
  obtain ⟨xp1, xp2, xp3, xp4⟩ := Bp.out.facts
  have lp := Bp.out.lt
  obtain ⟨xb1, xb2, xb3, xb4⟩ := Bb.out.facts
  have lb := Bb.out.lt
  go_wp2_with fail
  refine (C1.out A n c _ Rp.out hn).mono ?_
  rintro e w2 ⟨rfl, hb1⟩
  have Bp := Lib.hid ((Bp.out).go hb1)
  have Bb := Lib.hid ((Bb.out).go hb1)
  have Rp := Lib.hid ((Rp.out).go hb1)
  have HB0 := Lib.hid (call0 HB0.out hb1)
  clear hb1
  clear xp1 xp2 xp3 xp4 lp
  clear xb1 xb2 xb3 xb4 lb
  obtain ⟨xp1, xp2, xp3, xp4⟩ := Bp.out.facts
  have lp := Bp.out.lt
  obtain ⟨xb1, xb2, xb3, xb4⟩ := Bb.out.facts
  have lb := Bb.out.lt
  go_wp2_with fail
  refine (C2.out A n c _ Rp.out).mono ?_
  rintro e w3 ⟨rfl, hb1⟩
  have Bp := Lib.hid ((Bp.out).go hb1)
  have Bb := Lib.hid ((Bb.out).go hb1)
  have Rp := Lib.hid ((Rp.out).go hb1)
  have HB0 := Lib.hid (call0 HB0.out hb1)
  clear hb1
  clear xp1 xp2 xp3 xp4 lp
  clear xb1 xb2 xb3 xb4 lb
  obtain ⟨xp1, xp2, xp3, xp4⟩ := Bp.out.facts
  have lp := Bp.out.lt
  obtain ⟨xb1, xb2, xb3, xb4⟩ := Bb.out.facts
  have lb := Bb.out.lt
  go_wp2_with fail
  refine (DOA.out A n c _ Rp.out).mono ?_
  rintro e w4 ⟨Aq, cq, rfl, hRq, hb1⟩
  have Bp := Lib.hid ((Bp.out).go hb1)
  have Bb := Lib.hid ((Bb.out).go hb1)
  have Rp := Lib.hid ((Rp.out).go hb1)
  have HB0 := Lib.hid (call0 HB0.out hb1)
  have Rq := Lib.hid hRq
  clear hb1 hRq
  clear xp1 xp2 xp3 xp4 lp
  clear xb1 xb2 xb3 xb4 lb
  obtain ⟨xp1, xp2, xp3, xp4⟩ := Bp.out.facts
  have lp := Bp.out.lt
  obtain ⟨xb1, xb2, xb3, xb4⟩ := Bb.out.facts
  have lb := Bb.out.lt
  go_wp2_with fail
  refine (DOR.out Aq _ cq _ ((Rq.out).up _)).mono ?_
  rintro e w5 ⟨Ar, cr, rfl, hRr, hb1⟩
  have Bp := Lib.hid (((Bp.out).alloc _).go hb1)
  have Bb := Lib.hid (((Bb.out).alloc _).go hb1)
  have Bq := Lib.hid (((Box.new w4 _ _)).go hb1)
  have Rp := Lib.hid (((Rp.out).up _).go hb1)
  have Rq := Lib.hid (((Rq.out).up _).go hb1)
  have HB0 := Lib.hid (call1 HB0.out hb1)
  have Rr := Lib.hid hRr
  clear hb1 hRr
  clear xp1 xp2 xp3 xp4 lp
  clear xb1 xb2 xb3 xb4 lb
  obtain ⟨xp1, xp2, xp3, xp4⟩ := Bp.out.facts
  have lp := Bp.out.lt
  obtain ⟨xb1, xb2, xb3, xb4⟩ := Bb.out.facts
  have lb := Bb.out.lt
  go_wp2_with fail
  try rw [hvv]
  refine (SAME.out A Ar _ _ c cr _ ((Rp.out).up _) ((Rr.out).up _)).mono ?_
  rintro e w6 ⟨rfl, hb1⟩
  have Bp := Lib.hid (((Bp.out).alloc _).go hb1)
  have Bb := Lib.hid (((Bb.out).alloc _).go hb1)
  have Bq := Lib.hid (((Bq.out).alloc _).go hb1)
  have Br := Lib.hid (((Box.new w5 _ _)).go hb1)
  have Rp := Lib.hid (((Rp.out).up _).go hb1)
  have Rq := Lib.hid (((Rq.out).up _).go hb1)
  have Rr := Lib.hid (((Rr.out).up _).go hb1)
  have HB0 := Lib.hid (call1 HB0.out hb1)
  clear hb1
  clear xp1 xp2 xp3 xp4 lp
  clear xb1 xb2 xb3 xb4 lb
  obtain ⟨xp1, xp2, xp3, xp4⟩ := Bp.out.facts
  have lp := Bp.out.lt
  obtain ⟨xb1, xb2, xb3, xb4⟩ := Bb.out.facts
  have lb := Bb.out.lt
  go_wp2_with fail
  refine (DOD.out A n c _ (Rp.out)).mono ?_
  rintro e w7 ⟨As, cs, rfl, hRs, hb1⟩
  have Bp := Lib.hid ((Bp.out).go hb1)
  have Bb := Lib.hid ((Bb.out).go hb1)
  have Bq := Lib.hid ((Bq.out).go hb1)
  have Br := Lib.hid ((Br.out).go hb1)
  have Rp := Lib.hid ((Rp.out).go hb1)
  have Rq := Lib.hid ((Rq.out).go hb1)
  have Rr := Lib.hid ((Rr.out).go hb1)
  have HB0 := Lib.hid (call0 HB0.out hb1)
  have Rs := Lib.hid hRs
  clear hb1 hRs
  clear xp1 xp2 xp3 xp4 lp
  clear xb1 xb2 xb3 xb4 lb
  obtain ⟨xp1, xp2, xp3, xp4⟩ := Bp.out.facts
  have lp := Bp.out.lt
  obtain ⟨xb1, xb2, xb3, xb4⟩ := Bb.out.facts
  have lb := Bb.out.lt
  go_wp2_with fail
  refine (DOB.out As _ cs _ ((Rs.out).up _)).mono ?_
  rintro e w8 ⟨At, ct, rfl, hRt, hb1⟩
  have Bp := Lib.hid (((Bp.out).alloc _).go hb1)
  have Bb := Lib.hid (((Bb.out).alloc _).go hb1)
  have Bq := Lib.hid (((Bq.out).alloc _).go hb1)
  have Br := Lib.hid (((Br.out).alloc _).go hb1)
  have Bs := Lib.hid (((Box.new w7 _ _)).go hb1)
  have Rp := Lib.hid (((Rp.out).up _).go hb1)
  have Rq := Lib.hid (((Rq.out).up _).go hb1)
  have Rr := Lib.hid (((Rr.out).up _).go hb1)
  have Rs := Lib.hid (((Rs.out).up _).go hb1)
  have HB0 := Lib.hid (call1 HB0.out hb1)
  have Rt := Lib.hid hRt
  clear hb1 hRt
  clear xp1 xp2 xp3 xp4 lp
  clear xb1 xb2 xb3 xb4 lb
  obtain ⟨xp1, xp2, xp3, xp4⟩ := Bp.out.facts
  have lp := Bp.out.lt
  obtain ⟨xb1, xb2, xb3, xb4⟩ := Bb.out.facts
  have lb := Bb.out.lt
  go_wp2_with fail
  try rw [hvv]
  refine (SAME.out A At _ _ c ct _ ((Rp.out).up _) ((Rt.out).up _)).mono ?_
  rintro e w9 ⟨rfl, hb1⟩
  have Bp := Lib.hid (((Bp.out).alloc _).go hb1)
  have Bb := Lib.hid (((Bb.out).alloc _).go hb1)
  have Bq := Lib.hid (((Bq.out).alloc _).go hb1)
  have Br := Lib.hid (((Br.out).alloc _).go hb1)
  have Bs := Lib.hid (((Bs.out).alloc _).go hb1)
  have Bt := Lib.hid (((Box.new w8 _ _)).go hb1)
  have Rp := Lib.hid (((Rp.out).up _).go hb1)
  have Rq := Lib.hid (((Rq.out).up _).go hb1)
  have Rr := Lib.hid (((Rr.out).up _).go hb1)
  have Rs := Lib.hid (((Rs.out).up _).go hb1)
  have Rt := Lib.hid (((Rt.out).up _).go hb1)
  have HB0 := Lib.hid (call1 HB0.out hb1)
  clear hb1
  clear xp1 xp2 xp3 xp4 lp
  clear xb1 xb2 xb3 xb4 lb
  obtain ⟨xp1, xp2, xp3, xp4⟩ := Bp.out.facts
  have lp := Bp.out.lt
  obtain ⟨xb1, xb2, xb3, xb4⟩ := Bb.out.facts
  have lb := Bb.out.lt
  go_wp2_with fail
  go_ret
  exact ⟨rfl, HB0.out⟩

theorem poolBack_walk (v : Int) (A : Option Addr) (n c : Nat) (l : List Bk) (b : Bk) (s : ByteArray) (w : World) (hs : s.size ≤ maxLen) (hb : b.good) (hv : -9223372036854775808 ≤ v ∧ v ≤ 9223372036854775807) (hR : RdK w w.heap.size A n l) (hg : ∀ b ∈ l, b.good) (hn : n ≤ 9223372036854775807) :
    Calls Try.prog 8 #[.agg #[.int .i64 v, .slice A n c], .agg b.arr, .string s] w fun e w' => e = .returned (.bool true) ∧ Below w.heap.size w w' := by
  rw [textOf_of s]
  have h2 : s.size ≤ 9223372036854775807 := by unfold maxLen at hs; omega
  have hs : s.data.toList.length ≤ 9223372036854775807 := by rw [Array.length_toList]; exact h2
  cases hK : few l
  · exact poolBack_few l v b _ hb hs A n c w hv hg hR hn hK
  cases hK2 : pRight v l
  · exact poolBack_right l v b _ hb hs A n c w hv hg hR hn hK hK2
  rcases Int.lt_or_le 1000000 v with h1 | h1
  · exact poolBack_ver l v b _ hb hs A n c w hv hg hR hn hK hK2 h1
  rcases Nat.lt_or_ge 60 b.name.length with h3 | h3
  · exact poolBack_bn l v b _ hb hs A n c w hv hg hR hn hK hK2 h1 h3
  rcases Nat.lt_or_ge 60 s.data.toList.length with h4 | h4
  · exact poolBack_sn l v b _ hb hs A n c w hv hg hR hn hK hK2 h1 h3 h4
  by_cases ha : whyNot v l (Opr.mk 1 b [] 0) = 0
  · by_cases hd : whyNot v l (Opr.mk 4 noBk s.data.toList 0) = 0
    · exact poolBack_main11 l v b _ hb hs A n c w hv hg hR hn hK hK2 h1 h3 h4 ha hd
    · exact poolBack_main10 l v b _ hb hs A n c w hv hg hR hn hK hK2 h1 h3 h4 ha hd
  · by_cases hd : whyNot v l (Opr.mk 4 noBk s.data.toList 0) = 0
    · exact poolBack_main01 l v b _ hb hs A n c w hv hg hR hn hK hK2 h1 h3 h4 ha hd
    · exact poolBack_main00 l v b _ hb hs A n c w hv hg hR hn hK hK2 h1 h3 h4 ha hd
set_option maxRecDepth 100000 in
theorem poolBack_lifted (os : Os) (started : os.Started) (H : Type) (enc : TypeId × Value → H) :
    ReturnsInHanded {} Try.checked os 8 .any (Rows.poolBackSpec.pre6 enc Try.prog Try.f8 Rows.poolBackRow.domain false) (Rows.poolBackSpec.post enc Try.prog Try.f8 false true false false) := by
  refine returnsInHanded_of_change (C := Try.checked) own started (by kernel_rfl) Try.func8
    (ChangeSpec.witness6 (enc := enc) (C := Try.checked) false ⟨#[], #[.agg #[.int .i64 0, .slice none 0 0], .agg noBk.arr, .string ⟨#[]⟩], []⟩ 8 (by kernel_rfl) (by kernel_rfl) (by kernel_rfl) (by kernel_rfl)) ?_
  intro W base args ds gs before hval0 hW hcnd _
  have hval : ∀ (j : Nat) t v, Try.f8.params[j]? = some t → args[j]? = some v → Value.okWide Try.prog W .any base t v := hval0
  have hW' := hW
  obtain ⟨p, q, hA0, hV, rfl, hfz, hnd⟩ := hW
  have hA : DataW.TrodAll enc Try.prog W 0 (fun _ => true) true Try.f8.params.toList args.toList ds p := hA0
  rw [Try.params8] at hA hval
  obtain ⟨v0, vs0, d0, ds0, p0, q0, hargs, rfl, rfl, h0, r0⟩ := trodAll_cons hA
  obtain ⟨v1, vs1, d1, ds1, p1, q1, rfl, rfl, rfl, h1, r1⟩ := trodAll_cons r0
  obtain ⟨v2, vs2, d2, ds2, p2, q2, rfl, rfl, rfl, h2, r2⟩ := trodAll_cons r1
  obtain ⟨rfl, rfl, rfl⟩ := trodAll_nil r2
  obtain rfl : args = #[v0, v1, v2] := by cases args; simp_all
  obtain ⟨zp, Ap, np, cp, lp, rfl, hzp, hRp, hgp, hmp⟩ := open_pool (hval 0 24 v0 rfl rfl) h0
  obtain ⟨b, rfl, hgb⟩ := open_bk (hval 1 36 v1 rfl rfl) h1
  obtain ⟨s, rfl, hs⟩ := open_str Try.underlying9 (hval 2 9 v2 rfl rfl) h2
  clear hA0 hval0
  refine (poolBack_walk zp Ap np cp lp b s W hs hgb hzp hRp hgp hmp).mono fun e W' ⟨he, hb⟩ => ?_
  subst he
  exact ⟨_, rfl, law_post laidOut rfl (by kernel_rfl) 4 Try.underlying4 rfl hW' rfl hb⟩
theorem poolBack_holds : Rows.PoolBackSaid :=
  OpenClaim.holds_of_wide 8 Try.f8 rfl rfl rfl rfl rfl rfl rfl ⟨rfl, rfl, rfl, rfl, rfl⟩ rfl rfl rfl rfl rfl (by kernel_rfl) Try.func8 (by kernel_rfl)
    (of_decide_eq_true (by kernel_rfl)) (by unfold Func.isWrapper; first | (rw [if_pos (by decide +kernel)]; kernel_rfl) | (rw [if_neg (by decide +kernel)]; exact ⟨rfl, rfl⟩))
    (fun os started H enc _ => poolBack_lifted os started H enc)
#print axioms poolBack_holds
end Go.Proofs.Ytgcahcjffoehfaa
