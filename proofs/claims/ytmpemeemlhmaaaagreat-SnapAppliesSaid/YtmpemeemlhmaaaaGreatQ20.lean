/- A tuple's bytes: sip.Bytes. -/
import Derived.Test.YtmpemeemlhmaaaaGreatQ19
set_option linter.unusedSimpArgs false
set_option linter.unusedVariables false
set_option maxRecDepth 100000
namespace Go.Proofs.YtmpemeemlhmaaaaGreat
open Go.RowKit

theorem step_ow {w : World} {ops : Array Oper} {o : Oper} {a : Act} {K : Act → World → Prop} {Q : Exit → Act → World → Prop} {E : Prop} (hgd : o.guard = none) (s x : Operand)
    (ho : o.op = .call { callee := .builtin .append, args := #[s, x], argTypes := #[32, 32] })
    (v : Value) (A : Option Addr) (m c : Nat) {B : Nat} {g0 : Option Nat} {w0 : World} {bs ys : List UInt8} (hs : a.eval s = v) (H : Ow B g0 w0 v bs w) {C : Nat} (hx : a.eval x = .slice A m c) (hr : RdB w C A m ys)
    (hlen : bs.length + m ≤ 1000000000)
    (h : ∀ A' n' c' w', Ow B g0 w0 (.slice A' n' c') (bs ++ ys) w' → Ow B v.ownBlock w (.slice A' n' c') (bs ++ ys) w' → K (a.put o.dst (.slice A' n' c')) w') :
    if Region.wanted o (yielded ops a.tmps) = true then Oper.wp Tryz.prog o a w K Q else E := by
  have hw : Region.wanted o (yielded ops a.tmps) = true := by simp [Region.wanted, hgd]
  rw [if_pos hw]
  exact wp_ow s x ho hs H hx hr hlen h
/-- two bytes are answered, in memory of the call's own -/
def TwP (w : World) (bs : List UInt8) (e : Ending) (w' : World) : Prop := ∃ A, e = .returned (.slice A 2 2) ∧ Ow w.heap.size none w (.slice A 2 2) bs w' ∧ Below w.heap.size w w'
theorem own_of_rowIs {w : World} {g k B : Nat} {f : Nat → Value} {l : List UInt8} (h : w.rowIs g 5 k f) (hl : l.length = k) (hk : k ≤ 1000) (hB : B ≤ g) (hf : ∀ j, j < k → f j = bv (l.getD j 0)) : w.ownsRow B 5 1 (.slice (some ⟨g, 0, none⟩) k k) k (l.map bv) := by
  obtain ⟨c, hc, hs, hg⟩ := h
  refine ⟨by simp [hl], .inr ⟨g, k, c, rfl, hB, hc, Nat.le_refl _, by unfold maxLen; omega, by omega, ?_⟩⟩
  apply List.ext_getElem?
  intro j
  by_cases hj : j < k
  · rw [List.getElem?_take_of_lt (by omega), Array.getElem?_toList, hg j hj, hf j hj]
    simp [List.getD_eq_getElem?_getD, hl, hj]
  · rw [List.getElem?_eq_none (by simp; omega), List.getElem?_eq_none (by simp [hl]; omega)]
theorem port_any (n : Nat) (hn : n ≤ 65535) (w : World) : Calls Tryz.prog 84 #[.int .u64 n, .int .i64 2, .bool true] w (TwP w (numPut n 2 true)) := by
  refine (put_low n 2 (by omega) (by omega) true w).mono ?_
  rintro e w' ⟨rfl, hr, hb⟩
  have ho := own_of_rowIs (B := w.heap.size) (l := numPut n 2 true) hr (numPut_len _ _ _) (by omega) (Nat.le_refl _) (fun j hj => rfl)
  refine ⟨_, rfl, ⟨by rw [numPut_len]; exact ho, ⟨hb.os, hb.tape, hb.output, hb.size, fun k hk _ => hb.block k hk⟩, .inr ⟨_, rfl, Nat.le_refl _⟩, Nat.le_refl _, fun k hk => by cases hk⟩, hb⟩
theorem ow_up {B B' : Nat} {w1 w w' : World} {v : Value} {bs : List UInt8} (h : Ow B' none w v bs w') (h1 : B ≤ B') (hb : Below w'.heap.size w' w1) : Ow B v.ownBlock w1 v bs w1 := Ow.of_own (own_less (own_below h.own hb) h1) (Nat.le_trans (Nat.le_trans h1 h.size) hb.size)
theorem ow_rd {B n c : Nat} {w1 w w' : World} {A : Option Addr} {bs : List UInt8} (h : Ow B none w (.slice A n c) bs w') (hb : Below w'.heap.size w' w1) : RdB w1 w1.heap.size A n bs := by
  have h2 := own_below h.own hb
  obtain ⟨A', c', e⟩ := h.form
  injection e with e1 e2 e3
  subst e2
  exact RdB.of_own h2
theorem bel_drew {W W' : World} (h : Below W.drew.heap.size W.drew W') : Below W.heap.size W W' := ⟨h.os, h.tape, h.output, h.size, h.block⟩
theorem cut5 {w w1 w2 : World} {g0 : Option Nat} {v' : Value} {bs : List UInt8} {c0 : Array Value} (h : Ow (w.heap.size + 1) g0 w1 v' bs w2) (hB : Below w.heap.size w w1) (hT : Box w1 w.heap.size c0) :
    (∃ A n c, v' = .slice A n c ∧ w2.ownsRow w.heap.size 5 1 (.slice A n c) n (bs.map bv) ∧ Below w.heap.size w w2) ∧ Box w2 w.heap.size c0 := by
  obtain ⟨A, c, rfl⟩ := h.form
  have hb := h.below
  exact ⟨⟨A, _, c, rfl, own_less h.own (Nat.le_succ _), hB.trans (hb.mono (Nat.le_succ _))⟩, hT.below hb (Nat.lt_succ_self _)⟩
/-! ### literals of bytes -/
def mkU8s (n : Nat) (ps : Array (Nat × Value)) : Sem Value := Instr.buildSlice 32 n ps
@[go_sem ↓] theorem mkU8s_is (n : Nat) (ps : Array (Nat × Value)) : Instr.buildSlice 32 n ps = mkU8s n ps := rfl
@[go_sem] theorem run_mkU8s1 (w : World) (a : Int) : (mkU8s 1 #[(0, .int .u8 a)]).run Tryz.prog w = .ok (.slice (some ⟨w.heap.size, 0, none⟩) 1 1) (w.alloc (.cells #[.int .u8 a] 5)) := by
  obtain ⟨i0, hi0, hz0, hz1, hz2⟩ := infoU8s
  simp [mkU8s, Instr.buildSlice, run_underlying Tryz.underlying32, zeroValue, sizeOf, typeInfo, hi0, hz0, hz1, Instr.fill, newRow, Value.cells, range1]
theorem rd_u8 (w : World) (b : UInt8) (a : Int) (ha : a = (b.toNat : Int)) : RdB (w.alloc (.cells #[.int .u8 a] 5)) (w.heap.size + 1) (some ⟨w.heap.size, 0, none⟩) 1 [b] := by
  subst ha
  refine ⟨rfl, fun _ => ⟨_, rfl, by simp, fun j u hu => ?_⟩⟩
  rw [Addr.add_mid, Nat.zero_add]
  have := cell_new w #[.int .u8 (b.toNat : Int)] 5 j
  rw [this]
  simpa [bv] using hu
theorem Tu.rdS {W : World} {q : Nat} {t : Tu} (h : Box W q t.arr) : RdB W W.heap.size (some ⟨q, 1, none⟩) 16 t.src.b.toList := by
  refine ⟨by simp, fun _ => ⟨_, rfl, h.lt, fun j u hu => ?_⟩⟩
  have hj : j < 16 := by
    rcases Nat.lt_or_ge j 16 with hj | hj
    · exact hj
    · rw [List.getElem?_eq_none (by simp; omega)] at hu; cases hu
  rw [Addr.add_mid, h.facts.1, Nat.add_comm 1 j, Tu.arr_s t (j + 1) (by omega), Adr.arr_b _ j hj, ← hu]
  simp [List.getD_eq_getElem?_getD, hj]
theorem Tu.rdD {W : World} {q : Nat} {t : Tu} (h : Box W q t.arr) : RdB W W.heap.size (some ⟨q, 18, none⟩) 16 t.dst.b.toList := by
  refine ⟨by simp, fun _ => ⟨_, rfl, h.lt, fun j u hu => ?_⟩⟩
  have hj : j < 16 := by
    rcases Nat.lt_or_ge j 16 with hj | hj
    · exact hj
    · rw [List.getElem?_eq_none (by simp; omega)] at hu; cases hu
  rw [Addr.add_mid, h.facts.1, show 18 + j = (j + 1) + 17 by omega, Tu.arr_d t (j + 1) (by omega), Adr.arr_b _ j hj, ← hu]
  simp [List.getD_eq_getElem?_getD, hj]
/-- bytes are answered, in memory of the call's own -/
def NewP (w : World) (bs : List UInt8) (e : Ending) (w' : World) : Prop := ∃ A n c, e = .returned (.slice A n c) ∧ n = bs.length ∧ w'.ownsRow w.heap.size 5 1 (.slice A n c) n (bs.map bv) ∧ Below w.heap.size w w'
def NewQ (w : World) (q : Nat) (c : Array Value) (bs : List UInt8) (e : Ending) (w' : World) : Prop := ∃ A n c2, e = .returned (.slice A n c2) ∧ n = bs.length ∧ w'.ownsRow w.heap.size 5 1 (.slice A n c2) n (bs.map bv) ∧ Below w.heap.size w w' ∧ Box w' q c
theorem tuB_flat (t : Tu) (f p : UInt8) (hf : f = if t.src.six then 6 else 4) (hp : p = UInt8.ofNat t.proto.toNat) (l : List UInt8) (hl : l = numPut t.sport.toNat 2 true ++ numPut t.dport.toNat 2 true) : [[f], t.src.b.toList, t.dst.b.toList, [p], l].flatten = tuB t := by
  subst hf hp hl; simp [tuB]
theorem tuB_len (t : Tu) : (tuB t).length = 38 := by simp [tuB, numPut_len]
def okNums (t : Tu) : Prop := (0 ≤ t.proto ∧ t.proto ≤ 255) ∧ (0 ≤ t.sport ∧ t.sport ≤ 65535) ∧ (0 ≤ t.dport ∧ t.dport ≤ 65535)
/-- the call of Concat, whichever literal was made first -/
theorem cc_a (W w0 : World) (q : Nat) (t : Tu) (f p : UInt8) (fi pi : Int) (A : Option Addr) (n c : Nat) (l : List UInt8) (hf : f = if t.src.six then 6 else 4) (hp : p = UInt8.ofNat t.proto.toNat) (hl : l = numPut t.sport.toNat 2 true ++ numPut t.dport.toNat 2 true)
    (hfi : fi = (f.toNat : Int)) (hpi : pi = (p.toNat : Int)) (hB : Box W q t.arr) (hr : RdB W W.heap.size A n l) (hn : n = 4) (h0 : Below w0.heap.size w0 W) :
    Calls Tryz.prog 85 #[.slice (some ⟨W.heap.size + 1 + 1, 0, none⟩) 5 5] (((W.alloc (.cells #[.int .u8 fi] 5)).alloc (.cells #[.int .u8 pi] 5)).alloc (.cells (slcsC [⟨some ⟨W.heap.size, 0, none⟩, 1, 1⟩, ⟨some ⟨q, 1, none⟩, 16, 16⟩, ⟨some ⟨q, 18, none⟩, 16, 16⟩, ⟨some ⟨W.heap.size + 1, 0, none⟩, 1, 1⟩, ⟨A, n, c⟩]) 32)) (NewQ w0 q t.arr (tuB t)) := by
  have e1 : (W.alloc (.cells #[.int .u8 fi] 5)).heap.size = W.heap.size + 1 := by simp
  have e2 : ((W.alloc (.cells #[.int .u8 fi] 5)).alloc (.cells #[.int .u8 pi] 5)).heap.size = W.heap.size + 1 + 1 := by simp
  have up : ∀ {A : Option Addr} {n : Nat} {l : List UInt8}, RdB W W.heap.size A n l → RdB ((W.alloc (.cells #[.int .u8 fi] 5)).alloc (.cells #[.int .u8 pi] 5)) ((W.alloc (.cells #[.int .u8 fi] 5)).alloc (.cells #[.int .u8 pi] 5)).heap.size A n l := fun h =>
    ((h.alloc (Nat.le_refl _) _).alloc (by rw [e1]; omega) _).more (by rw [e2]; omega)
  have h1 := ((rd_u8 W f fi hfi).alloc (by rw [e1]; omega) (.cells #[.int .u8 pi] 5)).more (show W.heap.size + 1 ≤ ((W.alloc (.cells #[.int .u8 fi] 5)).alloc (.cells #[.int .u8 pi] 5)).heap.size by rw [e2]; omega)
  have h4 := (rd_u8 (W.alloc (.cells #[.int .u8 fi] 5)) p pi hpi).more (show _ ≤ ((W.alloc (.cells #[.int .u8 fi] 5)).alloc (.cells #[.int .u8 pi] 5)).heap.size by rw [e2, e1]; omega)
  rw [e1] at h4
  have := concat_lit [⟨some ⟨W.heap.size, 0, none⟩, 1, 1⟩, ⟨some ⟨q, 1, none⟩, 16, 16⟩, ⟨some ⟨q, 18, none⟩, 16, 16⟩, ⟨some ⟨W.heap.size + 1, 0, none⟩, 1, 1⟩, ⟨A, n, c⟩] [[f], t.src.b.toList, t.dst.b.toList, [p], l] 32 5 _ rfl (.cons h1 (.cons (up (Tu.rdS hB)) (.cons (up (Tu.rdD hB)) (.cons h4 (.cons (up hr) .nil))))) (by omega) (by simp [sumS, hn])
  rw [e2, tuB_flat t f p hf hp l hl] at this
  refine this.mono ?_
  rintro e w' ⟨A', m, c', rfl, hm, _, ho, hb⟩
  have hsz := h0.size
  have hWb := (((Below.refl W.heap.size W).alloc (Nat.le_refl _) _).alloc (by simp) _).trans (hb.mono (by omega))
  exact ⟨A', m, c', rfl, hm, own_less ho (by omega), below2 h0 hWb, hB.go hWb⟩
theorem cc_b (W w0 : World) (q : Nat) (t : Tu) (f p : UInt8) (fi pi : Int) (A : Option Addr) (n c : Nat) (l : List UInt8) (hf : f = if t.src.six then 6 else 4) (hp : p = UInt8.ofNat t.proto.toNat) (hl : l = numPut t.sport.toNat 2 true ++ numPut t.dport.toNat 2 true)
    (hfi : fi = (f.toNat : Int)) (hpi : pi = (p.toNat : Int)) (hB : Box W q t.arr) (hr : RdB W W.heap.size A n l) (hn : n = 4) (h0 : Below w0.heap.size w0 W) :
    Calls Tryz.prog 85 #[.slice (some ⟨W.heap.size + 1 + 1, 0, none⟩) 5 5] (((W.alloc (.cells #[.int .u8 pi] 5)).alloc (.cells #[.int .u8 fi] 5)).alloc (.cells (slcsC [⟨some ⟨W.heap.size + 1, 0, none⟩, 1, 1⟩, ⟨some ⟨q, 1, none⟩, 16, 16⟩, ⟨some ⟨q, 18, none⟩, 16, 16⟩, ⟨some ⟨W.heap.size, 0, none⟩, 1, 1⟩, ⟨A, n, c⟩]) 32)) (NewQ w0 q t.arr (tuB t)) := by
  have e1 : (W.alloc (.cells #[.int .u8 pi] 5)).heap.size = W.heap.size + 1 := by simp
  have e2 : ((W.alloc (.cells #[.int .u8 pi] 5)).alloc (.cells #[.int .u8 fi] 5)).heap.size = W.heap.size + 1 + 1 := by simp
  have up : ∀ {A : Option Addr} {n : Nat} {l : List UInt8}, RdB W W.heap.size A n l → RdB ((W.alloc (.cells #[.int .u8 pi] 5)).alloc (.cells #[.int .u8 fi] 5)) ((W.alloc (.cells #[.int .u8 pi] 5)).alloc (.cells #[.int .u8 fi] 5)).heap.size A n l := fun h =>
    ((h.alloc (Nat.le_refl _) _).alloc (by rw [e1]; omega) _).more (by rw [e2]; omega)
  have h4 := ((rd_u8 W p pi hpi).alloc (by rw [e1]; omega) (.cells #[.int .u8 fi] 5)).more (show W.heap.size + 1 ≤ ((W.alloc (.cells #[.int .u8 pi] 5)).alloc (.cells #[.int .u8 fi] 5)).heap.size by rw [e2]; omega)
  have h1 := (rd_u8 (W.alloc (.cells #[.int .u8 pi] 5)) f fi hfi).more (show _ ≤ ((W.alloc (.cells #[.int .u8 pi] 5)).alloc (.cells #[.int .u8 fi] 5)).heap.size by rw [e2, e1]; omega)
  rw [e1] at h1
  have := concat_lit [⟨some ⟨W.heap.size + 1, 0, none⟩, 1, 1⟩, ⟨some ⟨q, 1, none⟩, 16, 16⟩, ⟨some ⟨q, 18, none⟩, 16, 16⟩, ⟨some ⟨W.heap.size, 0, none⟩, 1, 1⟩, ⟨A, n, c⟩] [[f], t.src.b.toList, t.dst.b.toList, [p], l] 32 5 _ rfl (.cons h1 (.cons (up (Tu.rdS hB)) (.cons (up (Tu.rdD hB)) (.cons h4 (.cons (up hr) .nil))))) (by omega) (by simp [sumS, hn])
  rw [e2, tuB_flat t f p hf hp l hl] at this
  refine this.mono ?_
  rintro e w' ⟨A', m, c', rfl, hm, _, ho, hb⟩
  have hsz := h0.size
  have hWb := (((Below.refl W.heap.size W).alloc (Nat.le_refl _) _).alloc (by simp) _).trans (hb.mono (by omega))
  exact ⟨A', m, c', rfl, hm, own_less ho (by omega), below2 h0 hWb, hB.go hWb⟩
set_option maxRecDepth 100000 in
set_option maxHeartbeats 4000000 in
theorem sipBytes_any (t : Tu) (ht : okNums t) (w : World) : Calls Tryz.prog 34 #[.agg t.arr] w (NewP w (tuB t)) := by
  obtain ⟨⟨p1, p2⟩, ⟨s1, s2⟩, d1, d2⟩ := ht
  have T0 := Lib.hid (Box.new w t.arr 77)
  have B0 := Lib.hid ((Below.refl w.heap.size w).alloc (Nat.le_refl _) (.cells t.arr 77))
  obtain ⟨w1, hw1⟩ : ∃ w1, w1 = w.alloc (.cells t.arr 77) := ⟨_, rfl⟩
  obtain ⟨sn, hsn⟩ : ∃ sn : Nat, t.sport = (sn : Int) := ⟨t.sport.toNat, by omega⟩
  obtain ⟨dn, hdn⟩ : ∃ dn : Nat, t.dport = (dn : Int) := ⟨t.dport.toNat, by omega⟩
  have PS := Lib.hid (fun W => port_any sn (by omega) W)
  have PD := Lib.hid (fun W => port_any dn (by omega) W)
  have cs : IntKind.u64.wrap t.sport = (sn : Int) := by rw [IntKind.wrap_u64]; omega
  have cd : IntKind.u64.wrap t.dport = (dn : Int) := by rw [IntKind.wrap_u64]; omega
  have cp : IntKind.u8.wrap t.proto = t.proto := by rw [IntKind.wrap_u8]; omega
  obtain ⟨f, hf⟩ : ∃ f : UInt8, f = if t.src.six then 6 else 4 := ⟨_, rfl⟩
  have HL := Lib.hid (show numPut sn 2 true ++ numPut dn 2 true = numPut t.sport.toNat 2 true ++ numPut t.dport.toNat 2 true by rw [show sn = t.sport.toNat by omega, show dn = t.dport.toNat by omega])
  have HPI := Lib.hid (show t.proto = ((UInt8.ofNat t.proto.toNat).toNat : Int) by rw [dig _ (by omega)]; omega)
  obtain ⟨fi, hfi⟩ : ∃ fi : Int, fi = (f.toNat : Int) := ⟨_, rfl⟩
  have KS := Lib.hid (show ∀ W', Box W' w.heap.size t.arr → W'.cell? ⟨w.heap.size, 35, none⟩ = some (.int .i64 t.sport) ∧ W'.cell? ⟨w.heap.size, 36, none⟩ = some (.int .i64 t.dport) from fun W' h => ⟨by rw [h.facts.1]; exact Tu.arr_35 t, by rw [h.facts.1]; exact Tu.arr_36 t⟩)
  have KP := Lib.hid (show ∀ W', Box W' w.heap.size t.arr → W'.cell? ⟨w.heap.size, 34, none⟩ = some (.int .i64 t.proto) from fun W' h => by rw [h.facts.1]; exact Tu.arr_34 t)
  have CA := Lib.hid (fun W A n c (hB : Box W w.heap.size t.arr) (hr : RdB W W.heap.size A n (numPut sn 2 true ++ numPut dn 2 true)) (hn : n = 4) (h0 : Below w.heap.size w W) => cc_a W w w.heap.size t f _ fi t.proto A n c _ hf rfl HL.out hfi HPI.out hB hr hn h0)
  have CB := Lib.hid (fun W A n c (hB : Box W w.heap.size t.arr) (hr : RdB W W.heap.size A n (numPut sn 2 true ++ numPut dn 2 true)) (hn : n = 4) (h0 : Below w.heap.size w W) => cc_b W w w.heap.size t f _ fi t.proto A n c _ hf rfl HL.out hfi HPI.out hB hr hn h0)
  have HFI := Lib.hid (show fi = if t.src.six then 6 else 4 by rw [hfi, hf]; cases t.src.six <;> rfl)
  rw [← hw1] at T0 B0
  have hb1 : w.heap.size < w1.heap.size := by rw [hw1]; simp
  have LB0 := Lib.hid (show w.heap.size + 1 ≤ w1.drew.heap.size from hb1)
  have LB1 := Lib.hid (show ∀ W, Below w1.drew.heap.size w1.drew W → w.heap.size + 1 ≤ W.heap.size from fun W h => Nat.le_trans hb1 h.size)
  have H4 := Lib.hid (show (numPut sn 2 true).length + 2 ≤ 1000000000 by rw [numPut_len]; omega)
  clear hf hfi hsn hdn p1 p2 s1 s2 d1 d2
  obtain ⟨six, hsix⟩ : ∃ b, t.src.six = b := ⟨_, rfl⟩
  rw [hsix] at HFI
  subst hw1
  cases six
  all_goals
    have hfi4 := HFI.out
    simp only [Bool.false_eq_true, if_false, if_true] at hfi4
    subst hfi4
    clear HFI
    go_enter Tryz.func34, Tryz.ntmps34
    go_wp2_with fail
    go_cut [4] from 8 to 16 (fun s4 wx => ∃ A n c, s4 = .slice A n c ∧ wx.ownsRow w.heap.size 5 1 (.slice A n c) n ((numPut sn 2 true ++ numPut dn 2 true).map bv) ∧ Below w.heap.size w wx ∧ Box wx w.heap.size t.arr)
    case first =>
      go_region_held_law (fun W' => W'.cell? ⟨w.heap.size, 35, none⟩ = some (.int .i64 t.sport) ∧ W'.cell? ⟨w.heap.size, 36, none⟩ = some (.int .i64 t.dport))
        (first | exact KS.out _ T0.out.drew | exact KS.out _ Ta.out | exact KS.out _ Tb.out | exact KS.out _ Tc.out | exact KS.out _ Td.out | exact KS.out _ Tz.out | go_keep)
        (first | (go_at_call 84; (with_reducible refine (PS.out _).mono ?_); rintro e wa ⟨Awa, rfl, ho, hb⟩; have Oa := Lib.hid ho; have Ta := Lib.hid (T0.out.drew.go hb); have Ba := Lib.hid (below2 B0.out (bel_drew hb)); clear ho hb) | (go_at_call 84; (with_reducible refine (PD.out _).mono ?_); rintro e wb ⟨Awb, rfl, ho, hb⟩; have Ob := Lib.hid ho; have Tb := Lib.hid (T0.out.drew.go hb); have Bb := Lib.hid (below2 B0.out (bel_drew hb)); have Lb := Lib.hid (LB1.out _ hb); clear ho hb) | (go_at_call 84; (with_reducible refine (PD.out _).mono ?_); rintro e wc2 ⟨Awc2, rfl, ho, hb⟩; have Tc := Lib.hid (Ta.out.go hb); have Bc := Lib.hid (below2 Ba.out hb); have Q1 := Lib.hid (ow_up Oa.out LB0.out hb); have Q2 := Lib.hid (ow_rd ho (Below.refl _ _)); clear ho hb) | (go_at_call 84; (with_reducible refine (PS.out _).mono ?_); rintro e wd ⟨Awd, rfl, ho, hb⟩; have Td := Lib.hid (Tb.out.go hb); have Bd := Lib.hid (below2 Bb.out hb); have Q3 := Lib.hid (ow_up ho Lb.out (Below.refl _ _)); have Q4 := Lib.hid (ow_rd Ob.out hb); clear ho hb) | (refine step_ow (o := ⟨some 16, _, _, _, _, _⟩) rfl (.tmp 11) (.tmp 15) rfl (.slice Awd 2 2) Awb 2 2 rfl Q3.out rfl Q4.out H4.out ?_; intro A3 n3 c3 w3 h2 h3; have Tz := Lib.hid (cut5 h2 Bd.out Td.out).2; have Oz := Lib.hid (cut5 h2 Bd.out Td.out).1; clear h2 h3) | (refine step_ow (o := ⟨some 16, _, _, _, _, _⟩) rfl (.tmp 11) (.tmp 15) rfl (.slice Awa 2 2) Awc2 2 2 rfl Q1.out rfl Q2.out H4.out ?_; intro A3 n3 c3 w3 h2 h3; have Tz := Lib.hid (cut5 h2 Bc.out Tc.out).2; have Oz := Lib.hid (cut5 h2 Bc.out Tc.out).1; clear h2 h3))
      all_goals
        go_wp2_with fail
        go_meet
        case rel => obtain ⟨A9, n9, c9, e9, ho9, hb9⟩ := Oz.out; exact ⟨A9, n9, c9, e9, ho9, hb9, Tz.out⟩
    case rest =>
      obtain ⟨A, n, c, rfl, ho, hb, hT⟩ := hcut
      have hn4 : n = 4 := by have := ho.1; rw [List.length_map, List.length_append, numPut_len, numPut_len] at this; omega
      subst hn4
      have HT := Lib.hid hT
      have HB := Lib.hid hb
      have HR := Lib.hid (RdB.of_own ho)
      clear ho hb hT
      go_wp2_with fail
      have CA1 := CA.out wc.drew A 4 c HT.out.drew HR.out rfl HB.out.drew
      have CB1 := CB.out wc.drew A 4 c HT.out.drew HR.out rfl HB.out.drew
      simp only [show wc.drew.heap.size = wc.heap.size from rfl, show ∀ (w : World) ob, w.drew.alloc ob = (w.alloc ob).drew from fun _ _ => rfl] at CA1 CB1
      have CA2 := Lib.hid CA1
      have CB2 := Lib.hid CB1
      clear CA1 CB1
      go_region_held_law (fun W' => W'.cell? ⟨w.heap.size, 34, none⟩ = some (.int .i64 t.proto))
        (first | exact KP.out _ HT.out.drew | exact KP.out _ (HT.out.drew.alloc _) | exact KP.out _ ((HT.out.drew.alloc _).alloc _) | exact KP.out _ (((HT.out.drew.alloc _).alloc _).alloc _) | exact KP.out _ FX.out | go_keep)
        (first | (go_at_call 85; (with_reducible refine CA2.out.mono ?_); rintro e w2 ⟨A2, n2, c2, rfl, hn2, ho2, hb2, hx2⟩; have FX := Lib.hid hx2; have FN := Lib.hid hn2; have FO := Lib.hid ho2; have FB := Lib.hid hb2; clear hn2 ho2 hb2 hx2) | (go_at_call 85; (with_reducible refine CB2.out.mono ?_); rintro e w2 ⟨A2, n2, c2, rfl, hn2, ho2, hb2, hx2⟩; have FX := Lib.hid hx2; have FN := Lib.hid hn2; have FO := Lib.hid ho2; have FB := Lib.hid hb2; clear hn2 ho2 hb2 hx2))
      all_goals
        go_wp2_with fail
        go_ret
        exact ⟨_, _, _, rfl, FN.out, FO.out, FB.out⟩
end Go.Proofs.YtmpemeemlhmaaaaGreat
