/- PoolShares: for every right pool, and whichever are down: each backend's share, in order; what is drained, or down, has none. No condition. -/
import Derived.Test.YtgcahcjffoehfaaPoRg
import Derived.Test.YtgcahcjffoehfaaPlD
set_option linter.unusedSimpArgs false
set_option linter.unusedVariables false
namespace Go.Proofs.Ytgcahcjffoehfaa
open Go.ChangeShapes Go.WideShapes Go.ChangeAt Go.RowKit

/-! ### shares, read back -/
def noSh : Shr := ⟨[], 0⟩
theorem Shr.arr_size (x : Shr) : x.arr.size = 2 := rfl
@[go_sem] theorem Shr.arr_0 (x : Shr) : x.arr[0]? = some (.string (textOf x.name)) := rfl
@[go_sem] theorem Shr.arr_1 (x : Shr) : x.arr[1]? = some (.int .i64 x.q) := rfl
def loadSh (v : Value) : Sem Value := Instr.loadAt 56 v
@[go_sem ↓] theorem loadSh_is (v : Value) : Instr.loadAt 56 v = loadSh v := rfl
@[go_sem] theorem load_sh (W : World) (b o : Nat) (h : Has W b o 2) : (loadSh (.pointer (some ⟨b, o, none⟩))).run Try.prog W = .ok (.agg (cellsAt W b o 2)) W :=
  run_loadAt_has W b o 2 _ _ Try.underlying56 rfl (by kernel_rfl) h
def shEq (x y : Shr) : Bool := (x.name == y.name) && ((x.q == y.q) && true)
theorem shEq_self (x : Shr) : shEq x x = true := by simp [shEq]
theorem sh_fields : Try.prog.underlying 56 = some (.struct (Try.prog.fieldsOf 56)) := by
  simp only [Program.fieldsOf, Try.underlying56]
theorem sh_list : ∃ f1 f2 : Field, (Try.prog.fieldsOf 56).toList = [f1, f2] ∧ (f1.name ≠ "_" ∧ f2.name ≠ "_") ∧ (f1.type = 9 ∧ f1.offset = 0) ∧ (f2.type = 3 ∧ f2.offset = 1) := by
  refine ⟨_, _, by simp only [Program.fieldsOf, Try.underlying56]; rfl, ⟨?_, ?_⟩, ⟨rfl, rfl⟩, ⟨rfl, rfl⟩⟩ <;> decide
theorem run_eq_sh (x y : Shr) (d : Nat) (W : World) : (Op.equalIn (d + 2) 56 (.agg x.arr) (.agg y.arr)).run Try.prog W = .ok (shEq x y) W := by
  rw [run_equalIn_struct W (d + 1) _ _ _ sh_fields Try.stoodInHeld56]
  obtain ⟨f1, f2, hl, ⟨n1, n2⟩, ⟨t1, o1⟩, ⟨t2, o2⟩⟩ := sh_list
  rw [hl]
  have p1 : ∀ z : Shr, (part f1.type z.arr f1.offset).run Try.prog W = .ok (.string (textOf z.name)) W := fun z => by
    rw [t1, o1]; exact part_one (by simp only [Try.underlying9]) (Shr.arr_0 z) W
  have p2 : ∀ z : Shr, (part f2.type z.arr f2.offset).run Try.prog W = .ok (.int .i64 z.q) W := fun z => by
    rw [t2, o2]; exact part_one (by simp only [Try.underlying3]) (Shr.arr_1 z) W
  exact eqFields_cons _ _ _ _ _ n1 W _ _ _ _ (p1 x) (p1 y) (by rw [t1]; exact eq_string _ _ _ W)
    (eqFields_cons _ _ _ _ _ n2 W _ _ _ _ (p2 x) (p2 y) (by rw [t2]; exact eq_int _ _ _ W) (by simp [Op.eqFields]))
@[go_sem ↓] theorem eq_sh (x y : Shr) (W : World) : (Op.equalIn 10000 56 (.agg x.arr) (.agg y.arr)).run Try.prog W = .ok (shEq x y) W := run_eq_sh x y 9998 W
theorem cellsSh_get (m : List Shr) (k j : Nat) (hk : k < m.length) (hj : j < 2) : (cellsSh m)[k * 2 + j]? = (m[k]'hk).arr[j]? := flatMap_get Shr.arr 2 Shr.arr_size m k j hk hj
def RdSh (w : World) (B : Nat) (A : Option Addr) (n : Nat) (m : List Shr) : Prop := m.length = n ∧ Rd w B 2 A n (cellsSh m) ∧ ∀ a, A = some a → 0 < n → a = ⟨a.block, a.off, none⟩
theorem RdSh.go {W w1 : World} {A : Option Addr} {n : Nat} {m : List Shr} (h : RdSh W W.heap.size A n m) (hb : Below W.heap.size W w1) : RdSh w1 w1.heap.size A n m := ⟨h.1, Rd.more (Rd.below h.2.1 hb) hb.size, h.2.2⟩
theorem RdSh.up {W : World} {A : Option Addr} {n : Nat} {m : List Shr} (h : RdSh W W.heap.size A n m) (ob : Obj) : RdSh (W.alloc ob) (W.alloc ob).heap.size A n m := h.go ((Below.refl _ _).alloc (Nat.le_refl _) ob)
theorem RdSh.cell {W : World} {B n : Nat} {A : Option Addr} {m : List Shr} {k : Nat} (h : RdSh W B A n m) (hk : k < n) : ∃ b o, A = some ⟨b, o, none⟩ ∧ b < B ∧ ∀ j, j < 2 → W.cell? ⟨b, o + k * 2 + j, none⟩ = (m.getD k noSh).arr[j]? := by
  obtain ⟨h1, h2, h3⟩ := h
  obtain ⟨a, hA, hb, hc⟩ := h2.2 (by omega)
  have ha := h3 a hA (by omega)
  refine ⟨a.block, a.off, by rw [hA, ← ha], hb, fun j hj => ?_⟩
  have hk' : k < m.length := by omega
  have hg := cellsSh_get m k j hk' hj
  have hx : (m.getD k noSh) = m[k] := by rw [List.getD_eq_getElem?_getD, List.getElem?_eq_getElem hk']; rfl
  rw [hx, ← hg]
  have hlen := cellsSh_length m
  have := hc (k * 2 + j) _ (List.getElem?_eq_getElem (by omega))
  rw [ha, Addr.add_mid] at this
  rw [List.getElem?_eq_getElem (by omega), ← this, Nat.add_assoc]
theorem RdSh.at_ {W : World} {B n : Nat} {A : Option Addr} {m : List Shr} {k : Nat} (h : RdSh W B A n m) (hk : k < n) : ∃ b o, A = some ⟨b, o, none⟩ ∧ b < B ∧ Has W b (o + k * 2) 2 ∧ cellsAt W b (o + k * 2) 2 = (m.getD k noSh).arr ∧ W.cell? ⟨b, o + k * 2 + 1, none⟩ = some (.int .i64 (m.getD k noSh).q) := by
  obtain ⟨b, o, hA, hb, hc⟩ := h.cell hk
  obtain ⟨h1, h2⟩ := cellsAt_eq (c := (m.getD k noSh).arr) (Shr.arr_size _) hc
  exact ⟨b, o, hA, hb, h1, h2, by rw [hc 1 (by omega), Shr.arr_1]⟩
/-- shares are answered -/
def ShC (w : World) (n : Nat) (m : List Shr) (e : Ending) (w' : World) : Prop := ∃ A c, e = .returned (.slice A n c) ∧ RdSh w' w'.heap.size A n m ∧ Below w.heap.size w w'
theorem shC_of {w : World} {n : Nat} {m : List Shr} (hn : m.length = n) {e : Ending} {w' : World} (h : SharesP w m e w') : ShC w n m e w' := by
  subst hn
  obtain ⟨A, c, he, ho, hb⟩ := h
  refine ⟨A, c, he, ⟨rfl, (Rd.of_own ho), fun a ha _ => ?_⟩, hb⟩
  rcases ho.2 with ⟨h1, _⟩ | ⟨g, cap, cur, h1, _⟩
  · injection h1 with h1; rw [h1] at ha; cases ha
  · injection h1 with h1; rw [h1] at ha; injection ha with ha; rw [← ha]
theorem sharesC_any (l : List Bk) (hf : ∀ x ∈ l, x.fine) (v : Int) (A : Option Addr) (n c : Nat) (ls : List (List UInt8)) (D : Option Addr) (nd d : Nat) (w : World) (hR : RdK w w.heap.size A n l) (hD : RdS w w.heap.size D nd ls) (hn : l.length ≤ 100000) (hd : nd ≤ 1000) :
    Calls Try.prog 23 #[.agg #[.int .i64 v, .slice A n c], .slice D nd d] w (ShC w n (sharesOf ls l)) := by
  obtain rfl := hR.1
  obtain rfl := hD.len
  exact (shares_any l hf v A c ls D d w hR hD hn (by omega)).mono fun e w' h => shC_of (by simp [sharesOf]) h
theorem refSharesC_any (l : List Bk) (hf : ∀ x ∈ l, x.fine) (v : Int) (A : Option Addr) (n c : Nat) (ls : List (List UInt8)) (D : Option Addr) (nd d : Nat) (w : World) (hR : RdK w w.heap.size A n l) (hD : RdS w w.heap.size D nd ls) (hn : l.length ≤ 100000) (hd : nd ≤ 1000) :
    Calls Try.prog 24 #[.agg #[.int .i64 v, .slice A n c], .slice D nd d] w (ShC w n (sharesOf ls l)) := by
  obtain rfl := hR.1
  obtain rfl := hD.len
  exact (refShares_any l hf v A c ls D d w hR hD hn (by omega)).mono fun e w' h => shC_of (by simp [sharesOf]) h
theorem RdS.go {W w1 : World} {A : Option Addr} {n : Nat} {ls : List (List UInt8)} (h : RdS W W.heap.size A n ls) (hb : Below W.heap.size W w1) : RdS w1 w1.heap.size A n ls := Rd.more (Rd.below h hb) hb.size
theorem RdS.up {W : World} {A : Option Addr} {n : Nat} {ls : List (List UInt8)} (h : RdS W W.heap.size A n ls) (ob : Obj) : RdS (W.alloc ob) (W.alloc ob).heap.size A n ls := RdS.go h ((Below.refl _ _).alloc (Nat.le_refl _) ob)
theorem refHasK_any (ls : List (List UInt8)) (s : List UInt8) (A : Option Addr) (n c : Nat) (w : World) (hR : RdS w w.heap.size A n ls) (hn : n ≤ 1000) (K : Bool) (hK : isOne ls s = K) :
    Calls Try.prog 26 #[.slice A n c, .string (textOf s)] w fun e w' => e = .returned (.bool K) ∧ w = w' := by
  subst hK; obtain rfl := hR.len; exact refHas_any ls s A c w hR (by omega)
theorem sharesOf_get (ls : List (List UInt8)) (l : List Bk) (i : Nat) (hi : i < l.length) : (sharesOf ls l).getD i noSh = shareOf ls (l.getD i noBk) := by
  rw [List.getD_eq_getElem?_getD, List.getD_eq_getElem?_getD, List.getElem?_eq_getElem hi, sharesOf, List.getElem?_map, List.getElem?_eq_getElem hi]; rfl

set_option maxHeartbeats 4000000 in
set_option maxRecDepth 100000 in
theorem poolShares_few (l : List Bk) (v : Int) (A : Option Addr) (n c : Nat) (ls : List (List UInt8)) (D : Option Addr) (nd d : Nat) (w : World) (hg : ∀ b ∈ l, b.good) (hR : RdK w w.heap.size A n l) (hD : RdS w w.heap.size D nd ls) (hn : n ≤ 9223372036854775807) (hnd : nd ≤ 9223372036854775807) (hK : few l = false) :
    Calls Try.prog 7 #[.agg #[.int .i64 v, .slice A n c], .slice D nd d] w fun e w' => e = .returned (.bool true) ∧ Below w.heap.size w w' := by
  have hf := fine_of hg
  have HF := Lib.hid hf
  have R0 := Lib.hid (fun ob => hR.up ob)
  have D0 := Lib.hid (fun ob => RdS.up hD ob)
  have HB0 := Lib.hid (fun ob => ((Below.refl w.heap.size w).alloc (Nat.le_refl _) ob : Below w.heap.size w (w.alloc ob)))
  have HNL := Lib.hid hR.1
  clear hR hD hf hg
  have C1 := Lib.hid (fun A n c W (h : RdK W W.heap.size A n l) (hn : n ≤ 9223372036854775807) => hK ▸ fewP_any l v A n c W h hn)
  clear hK
  go_enter Try.func7, Try.ntmps7
  go_wp2_with fail
  refine (awake_any _).mono ?_
  rintro e w1 ⟨rfl, hb1⟩
  have Bp := Lib.hid ((Box.new w _ _).go hb1)
  have Rp := Lib.hid ((R0.out _).go hb1)
  have Rd0 := Lib.hid ((D0.out _).go hb1)
  have HB0 := Lib.hid (call0 (HB0.out _) hb1)
  clear hb1
  obtain ⟨xp1, xp2, xp3, xp4⟩ := Bp.out.facts
  have lp := Bp.out.lt
  go_wp2_with fail
  refine (C1.out A n c _ Rp.out hn).mono ?_
  rintro e w2 ⟨rfl, hb1⟩
  have Bp := Lib.hid ((Bp.out).go hb1)
  have Rp := Lib.hid ((Rp.out).go hb1)
  have Rd0 := Lib.hid ((Rd0.out).go hb1)
  have HB0 := Lib.hid (call0 HB0.out hb1)
  clear hb1
  clear xp1 xp2 xp3 xp4 lp
  go_wp2_with fail
  refine (awake_any _).mono ?_
  rintro e w3 ⟨rfl, hb1⟩
  have Bp := Lib.hid ((Bp.out).go hb1)
  have Rp := Lib.hid ((Rp.out).go hb1)
  have Rd0 := Lib.hid ((Rd0.out).go hb1)
  have HB0 := Lib.hid (call0 HB0.out hb1)
  clear hb1
  go_wp2_with fail
  go_ret
  exact ⟨rfl, HB0.out⟩

set_option maxHeartbeats 4000000 in
set_option maxRecDepth 100000 in
theorem poolShares_right (l : List Bk) (v : Int) (A : Option Addr) (n c : Nat) (ls : List (List UInt8)) (D : Option Addr) (nd d : Nat) (w : World) (hg : ∀ b ∈ l, b.good) (hR : RdK w w.heap.size A n l) (hD : RdS w w.heap.size D nd ls) (hn : n ≤ 9223372036854775807) (hnd : nd ≤ 9223372036854775807) (hK : few l = true) (hK2 : pRight v l = false) :
    Calls Try.prog 7 #[.agg #[.int .i64 v, .slice A n c], .slice D nd d] w fun e w' => e = .returned (.bool true) ∧ Below w.heap.size w w' := by
  have hf := fine_of hg
  have HF := Lib.hid hf
  have R0 := Lib.hid (fun ob => hR.up ob)
  have D0 := Lib.hid (fun ob => RdS.up hD ob)
  have HB0 := Lib.hid (fun ob => ((Below.refl w.heap.size w).alloc (Nat.le_refl _) ob : Below w.heap.size w (w.alloc ob)))
  have HNL := Lib.hid hR.1
  clear hR hD hf hg
  have C1 := Lib.hid (fun A n c W (h : RdK W W.heap.size A n l) (hn : n ≤ 9223372036854775807) => hK ▸ fewP_any l v A n c W h hn)
  have hlen := few_le hK
  have C2 := Lib.hid (fun A n c W (h : RdK W W.heap.size A n l) => hK2 ▸ refRightP_any l HF.out v A n c W h (by omega))
  clear hK hK2
  go_enter Try.func7, Try.ntmps7
  go_wp2_with fail
  refine (awake_any _).mono ?_
  rintro e w1 ⟨rfl, hb1⟩
  have Bp := Lib.hid ((Box.new w _ _).go hb1)
  have Rp := Lib.hid ((R0.out _).go hb1)
  have Rd0 := Lib.hid ((D0.out _).go hb1)
  have HB0 := Lib.hid (call0 (HB0.out _) hb1)
  clear hb1
  obtain ⟨xp1, xp2, xp3, xp4⟩ := Bp.out.facts
  have lp := Bp.out.lt
  go_wp2_with fail
  refine (C1.out A n c _ Rp.out hn).mono ?_
  rintro e w2 ⟨rfl, hb1⟩
  have Bp := Lib.hid ((Bp.out).go hb1)
  have Rp := Lib.hid ((Rp.out).go hb1)
  have Rd0 := Lib.hid ((Rd0.out).go hb1)
  have HB0 := Lib.hid (call0 HB0.out hb1)
  clear hb1
  clear xp1 xp2 xp3 xp4 lp
  obtain ⟨xp1, xp2, xp3, xp4⟩ := Bp.out.facts
  have lp := Bp.out.lt
  go_wp2_with fail
  refine (C2.out A n c _ Rp.out).mono ?_
  rintro e w3 ⟨rfl, hb1⟩
  have Bp := Lib.hid ((Bp.out).go hb1)
  have Rp := Lib.hid ((Rp.out).go hb1)
  have Rd0 := Lib.hid ((Rd0.out).go hb1)
  have HB0 := Lib.hid (call0 HB0.out hb1)
  clear hb1
  clear xp1 xp2 xp3 xp4 lp
  go_wp2_with fail
  refine (awake_any _).mono ?_
  rintro e w4 ⟨rfl, hb1⟩
  have Bp := Lib.hid ((Bp.out).go hb1)
  have Rp := Lib.hid ((Rp.out).go hb1)
  have Rd0 := Lib.hid ((Rd0.out).go hb1)
  have HB0 := Lib.hid (call0 HB0.out hb1)
  clear hb1
  go_wp2_with fail
  go_ret
  exact ⟨rfl, HB0.out⟩

set_option maxHeartbeats 4000000 in
set_option maxRecDepth 100000 in
theorem poolShares_many (l : List Bk) (v : Int) (A : Option Addr) (n c : Nat) (ls : List (List UInt8)) (D : Option Addr) (nd d : Nat) (w : World) (hg : ∀ b ∈ l, b.good) (hR : RdK w w.heap.size A n l) (hD : RdS w w.heap.size D nd ls) (hn : n ≤ 9223372036854775807) (hnd : nd ≤ 9223372036854775807) (hK : few l = true) (hK2 : pRight v l = true) (hK3 : 100 < nd) :
    Calls Try.prog 7 #[.agg #[.int .i64 v, .slice A n c], .slice D nd d] w fun e w' => e = .returned (.bool true) ∧ Below w.heap.size w w' := by
  have hf := fine_of hg
  have HF := Lib.hid hf
  have R0 := Lib.hid (fun ob => hR.up ob)
  have D0 := Lib.hid (fun ob => RdS.up hD ob)
  have HB0 := Lib.hid (fun ob => ((Below.refl w.heap.size w).alloc (Nat.le_refl _) ob : Below w.heap.size w (w.alloc ob)))
  have HNL := Lib.hid hR.1
  clear hR hD hf hg
  have C1 := Lib.hid (fun A n c W (h : RdK W W.heap.size A n l) (hn : n ≤ 9223372036854775807) => hK ▸ fewP_any l v A n c W h hn)
  have hlen := few_le hK
  have C2 := Lib.hid (fun A n c W (h : RdK W W.heap.size A n l) => hK2 ▸ refRightP_any l HF.out v A n c W h (by omega))
  clear hK hK2
  go_enter Try.func7, Try.ntmps7
  go_wp2_with fail
  refine (awake_any _).mono ?_
  rintro e w1 ⟨rfl, hb1⟩
  have Bp := Lib.hid ((Box.new w _ _).go hb1)
  have Rp := Lib.hid ((R0.out _).go hb1)
  have Rd0 := Lib.hid ((D0.out _).go hb1)
  have HB0 := Lib.hid (call0 (HB0.out _) hb1)
  clear hb1
  obtain ⟨xp1, xp2, xp3, xp4⟩ := Bp.out.facts
  have lp := Bp.out.lt
  go_wp2_with fail
  refine (C1.out A n c _ Rp.out hn).mono ?_
  rintro e w2 ⟨rfl, hb1⟩
  have Bp := Lib.hid ((Bp.out).go hb1)
  have Rp := Lib.hid ((Rp.out).go hb1)
  have Rd0 := Lib.hid ((Rd0.out).go hb1)
  have HB0 := Lib.hid (call0 HB0.out hb1)
  clear hb1
  clear xp1 xp2 xp3 xp4 lp
  obtain ⟨xp1, xp2, xp3, xp4⟩ := Bp.out.facts
  have lp := Bp.out.lt
  go_wp2_with fail
  refine (C2.out A n c _ Rp.out).mono ?_
  rintro e w3 ⟨rfl, hb1⟩
  have Bp := Lib.hid ((Bp.out).go hb1)
  have Rp := Lib.hid ((Rp.out).go hb1)
  have Rd0 := Lib.hid ((Rd0.out).go hb1)
  have HB0 := Lib.hid (call0 HB0.out hb1)
  clear hb1
  clear xp1 xp2 xp3 xp4 lp
  go_wp2_with fail
  refine (awake_any _).mono ?_
  rintro e w4 ⟨rfl, hb1⟩
  have Bp := Lib.hid ((Bp.out).go hb1)
  have Rp := Lib.hid ((Rp.out).go hb1)
  have Rd0 := Lib.hid ((Rd0.out).go hb1)
  have HB0 := Lib.hid (call0 HB0.out hb1)
  clear hb1
  go_wp2_with fail
  go_ret
  exact ⟨rfl, HB0.out⟩

set_option maxHeartbeats 4000000 in
set_option maxRecDepth 100000 in
theorem poolShares_main (l : List Bk) (v : Int) (A : Option Addr) (n c : Nat) (ls : List (List UInt8)) (D : Option Addr) (nd d : Nat) (w : World) (hg : ∀ b ∈ l, b.good) (hR : RdK w w.heap.size A n l) (hD : RdS w w.heap.size D nd ls) (hn : n ≤ 9223372036854775807) (hnd : nd ≤ 9223372036854775807) (hK : few l = true) (hK2 : pRight v l = true) (hK3 : nd ≤ 100) :
    Calls Try.prog 7 #[.agg #[.int .i64 v, .slice A n c], .slice D nd d] w fun e w' => e = .returned (.bool true) ∧ Below w.heap.size w w' := by
  have hf := fine_of hg
  have HF := Lib.hid hf
  have R0 := Lib.hid (fun ob => hR.up ob)
  have D0 := Lib.hid (fun ob => RdS.up hD ob)
  have HB0 := Lib.hid (fun ob => ((Below.refl w.heap.size w).alloc (Nat.le_refl _) ob : Below w.heap.size w (w.alloc ob)))
  have HNL := Lib.hid hR.1
  clear hR hD hf hg
  have C1 := Lib.hid (fun A n c W (h : RdK W W.heap.size A n l) (hn : n ≤ 9223372036854775807) => hK ▸ fewP_any l v A n c W h hn)
  have hlen := few_le hK
  have C2 := Lib.hid (fun A n c W (h : RdK W W.heap.size A n l) => hK2 ▸ refRightP_any l HF.out v A n c W h (by omega))
  obtain ⟨hv0, hv1, _, _, hsr⟩ := pRight_iff.1 hK2
  have HS := Lib.hid hsr
  have SH := Lib.hid (fun A n c D nd d W (h : RdK W W.heap.size A n l) (h2 : RdS W W.heap.size D nd ls) (h3 : nd ≤ 1000) => sharesC_any l HF.out v A n c ls D nd d W h h2 (by omega) h3)
  have RS := Lib.hid (fun A n c D nd d W (h : RdK W W.heap.size A n l) (h2 : RdS W W.heap.size D nd ls) (h3 : nd ≤ 1000) => refSharesC_any l HF.out v A n c ls D nd d W h h2 (by omega) h3)
  have HND := Lib.hid (show nd ≤ 1000 by omega)
  have hnn : n ≤ 40 := by have := HNL.out; omega
  have HL4 := Lib.hid (show l.length ≤ 100000 by omega)
  have hgt : decide (100 < (nd : Int)) = false := by simp; omega
  clear hK hK2 hsr
  go_enter Try.func7, Try.ntmps7
  go_wp2_with fail
  refine (awake_any _).mono ?_
  rintro e w1 ⟨rfl, hb1⟩
  have Bp := Lib.hid ((Box.new w _ _).go hb1)
  have Rp := Lib.hid ((R0.out _).go hb1)
  have Rd0 := Lib.hid ((D0.out _).go hb1)
  have HB0 := Lib.hid (call0 (HB0.out _) hb1)
  clear hb1
  obtain ⟨xp1, xp2, xp3, xp4⟩ := Bp.out.facts
  have lp := Bp.out.lt
  go_wp2_with fail
  refine (C1.out A n c _ Rp.out hn).mono ?_
  rintro e w2 ⟨rfl, hb1⟩
  have Bp := Lib.hid ((Bp.out).go hb1)
  have Rp := Lib.hid ((Rp.out).go hb1)
  have Rd0 := Lib.hid ((Rd0.out).go hb1)
  have HB0 := Lib.hid (call0 HB0.out hb1)
  clear hb1
  clear xp1 xp2 xp3 xp4 lp
  obtain ⟨xp1, xp2, xp3, xp4⟩ := Bp.out.facts
  have lp := Bp.out.lt
  go_wp2_with fail
  refine (C2.out A n c _ Rp.out).mono ?_
  rintro e w3 ⟨rfl, hb1⟩
  have Bp := Lib.hid ((Bp.out).go hb1)
  have Rp := Lib.hid ((Rp.out).go hb1)
  have Rd0 := Lib.hid ((Rd0.out).go hb1)
  have HB0 := Lib.hid (call0 HB0.out hb1)
  clear hb1
  clear xp1 xp2 xp3 xp4 lp
  obtain ⟨xp1, xp2, xp3, xp4⟩ := Bp.out.facts
  have lp := Bp.out.lt
  go_wp2_with fail
  refine (SH.out A n c D nd d _ Rp.out Rd0.out HND.out).mono ?_
  rintro e w4 ⟨Ax, cx, rfl, hRx, hb1⟩
  have Bp := Lib.hid ((Bp.out).go hb1)
  have Rp := Lib.hid ((Rp.out).go hb1)
  have Rd0 := Lib.hid ((Rd0.out).go hb1)
  have HB0 := Lib.hid (call0 HB0.out hb1)
  have Rx := Lib.hid hRx
  clear hb1 hRx
  clear xp1 xp2 xp3 xp4 lp
  obtain ⟨xp1, xp2, xp3, xp4⟩ := Bp.out.facts
  have lp := Bp.out.lt
  go_wp2_with fail
  refine (RS.out A n c D nd d _ Rp.out Rd0.out HND.out).mono ?_
  rintro e w5 ⟨Ay, cy, rfl, hRy, hb1⟩
  have Bp := Lib.hid ((Bp.out).go hb1)
  have Rp := Lib.hid ((Rp.out).go hb1)
  have Rd0 := Lib.hid ((Rd0.out).go hb1)
  have Rx := Lib.hid ((Rx.out).go hb1)
  have HB0 := Lib.hid (call0 HB0.out hb1)
  have Ry := Lib.hid hRy
  clear hb1 hRy
  clear xp1 xp2 xp3 xp4 lp
  obtain ⟨xp1, xp2, xp3, xp4⟩ := Bp.out.facts
  have lp := Bp.out.lt
  go_wp2_with fail
  clear xp1 xp2 xp3 xp4 lp
  obtain ⟨wL, hwL⟩ : ∃ wL : World, wL = w5 := ⟨_, rfl⟩
  rw [← hwL] at Bp Rp Rd0 Rx Ry HB0 ⊢
  go_loopw [7] (fun s7 wr => ∃ i : Nat, i ≤ n ∧ s7 = .int .i64 i ∧ Below wL.heap.size wL wr) (fun s7 _ => n - (intOf s7).toNat)
  case atStart => exact ⟨0, by omega, rfl, Below.refl _ _⟩
  case round =>
    obtain ⟨i, hin, rfl, hb⟩ := hrel
    have bp := Bp.out.go hb
    have rp := Rp.out.go hb
    have rx := Rx.out.go hb
    have ry := Ry.out.go hb
    have RD := Lib.hid (Rd0.out.go hb)
    have RPR := Lib.hid (Rp.out.go hb)
    have BPR := Lib.hid (Bp.out.go hb)
    have HBr := Lib.hid (call0 HB0.out hb)
    have HBL := Lib.hid hb
    clear hb
    by_cases hlt : i < n
    · have hi : (i : Int) < n := by omega
      obtain ⟨b, oo, rfl, hbb, hh, hcl⟩ := rp.at_ hlt
      obtain ⟨bx, ox, rfl, hbx, hhx, hcx, hqx⟩ := rx.at_ hlt
      obtain ⟨by', oy, rfl, hby, hhy, hcy, _⟩ := ry.at_ hlt
      have hll : i < l.length := by have := HNL.out; omega
      have hmem : l.getD i noBk ∈ l := by
        rw [List.getD_eq_getElem?_getD, List.getElem?_eq_getElem (by omega)]; simp
      have hxf := HF.out _ hmem
      rw [sharesOf_get ls l i hll] at hcx hqx hcy
      obtain ⟨x, hx⟩ : ∃ x, x = l.getD i noBk := ⟨_, rfl⟩
      rw [← hx] at hcl hxf hcx hqx hcy
      obtain ⟨K, hK⟩ : ∃ K, isOne ls x.name = K := ⟨_, rfl⟩
      obtain ⟨sq, hsq⟩ : ∃ sq, (shareOf ls x).q = sq := ⟨_, rfl⟩
      rw [hsq] at hqx
      have hsh : sq = 0 ∨ (x.drain = false ∧ K = false ∧ sq = (wQ x.w : Nat)) := by
        rw [← hsq, ← hK]
        unfold shareOf
        cases x.drain <;> cases isOne ls x.name <;> simp
      obtain ⟨sh, hshh⟩ : ∃ sh, shareOf ls x = sh := ⟨_, rfl⟩
      rw [hshh] at hcx hcy
      have hse := shEq_self sh
      have FI := Lib.hid (fun A n c W (h : RdK W W.heap.size A n l) => findP_any l HS.out x.name v A n c W h HL4.out true x (by rw [hx]; exact (hasN_iff HS.out).2 ⟨_, hmem, rfl⟩) (by rw [hx]; exact gotN_mem HS.out hmem))
      have QU := Lib.hid (fun W => refQ_any x.w hxf.2 W)
      have HA := Lib.hid (fun W (h : RdS W W.heap.size D nd ls) => refHasK_any ls x.name D nd d W h HND.out K hK)
      have SA := Lib.hid (fun W => sameOne_self x ▸ sameOne_any x x hxf.2 hxf.2 W)
      have HSH := Lib.hid hsh
      have HBB := Lib.hid hbb
      have HBX := Lib.hid hbx
      have HBY := Lib.hid hby
      have HH := Lib.hid hh
      have HCL := Lib.hid hcl
      have HHX := Lib.hid hhx
      have HCX := Lib.hid hcx
      have HHY := Lib.hid hhy
      have HCY := Lib.hid hcy
      have HQX := Lib.hid hqx
      clear hx hmem hxf hK hsq hsh hshh hll hhx hcx hqx hhy hcy
      obtain ⟨xp1, xp2, xp3, xp4⟩ := bp.facts
      have lp := bp.lt
      clear bp rp rx ry
      go_wp2_with fail
      refine (QU.out _).mono ?_
      rintro e wz ⟨rfl, rfl⟩
      clear xp1 xp2 xp3 xp4 lp hh hcl
      obtain ⟨w8, hw8⟩ : ∃ w8 : World, w8 = wr.alloc (.cells x.arr 36) := ⟨_, rfl⟩
      have BX := Lib.hid (Box.new wr x.arr 36)
      have B8 := Lib.hid ((Below.refl wr.heap.size wr).alloc (Nat.le_refl _) (.cells x.arr 36))
      rw [← hw8] at BX B8 ⊢
      clear hw8
      obtain ⟨T, f, n0, e0, eS, eT⟩ := class_of (fun W => Below w8.heap.size w8 W) w8 (Below.refl _ _).drew
      have es : ∀ q W1, Below (f q).heap.size (f q) W1 → ∃ q', W1 = f q' := fun q W1 hb => eT _ ((eS q).trans (hb.mono (eS q).size))
      have eb : ∀ q, Below wr.heap.size wr (f q) := fun q => call0 B8.out (eS q)
      have r1 : ∀ q, (loadSh (.pointer (some ⟨bx, ox + i * 2, none⟩))).run Try.prog (f q) = .ok (.agg sh.arr) (f q) := fun q => by
        rw [load_sh _ _ _ (HHX.out.below (eb q) HBX.out), cellsAt_below (eb q) HBX.out, HCX.out]
      have r2 : ∀ q, (loadSh (.pointer (some ⟨by', oy + i * 2, none⟩))).run Try.prog (f q) = .ok (.agg sh.arr) (f q) := fun q => by
        rw [load_sh _ _ _ (HHY.out.below (eb q) HBY.out), cellsAt_below (eb q) HBY.out, HCY.out]
      have r3 : ∀ q, (f q).cell? ⟨bx, ox + i * 2 + 1, none⟩ = some (.int .i64 sq) := fun q => by
        rw [(eb q).cell (p := ⟨bx, ox + i * 2 + 1, none⟩) HBX.out]; exact HQX.out
      have r4 : ∀ q j, (f q).cell? ⟨wr.heap.size, j, none⟩ = x.arr[j]? := fun q j => ((BX.out.go (eS q)).facts).1 j
      have RDQ := Lib.hid (fun q => (RdS.go RD.out (eb q) : RdS (f q) (f q).heap.size D nd ls))
      have hne : Nonempty T := ⟨n0⟩
      have E0 := Lib.hid e0
      have ES := Lib.hid eS
      have EB := Lib.hid eb
      have EE := Lib.hid es
      clear e0 es eS eT eb
      rcases HSH.out with rfl | ⟨hd0, rfl, rfl⟩
      · have hz1 : ((0 : Int) == 0) = true := rfl
        go_wp2_with fail
        refine quiet_in f (by kernel_rfl) (by kernel_rfl) n0 E0.out ?_
        repeat (go_big_quiet_step (fail))
        refine wpQuiet_nil ?_
        rintro _ ⟨q, rfl⟩
        have EQ := Lib.hid (ES.out q)
        have EQB := Lib.hid (EB.out q)
        clear r1 r2 r3 r4
        generalize f q = wq at EQ EQB ⊢
        have bp := BPR.out.go EQB.out
        have bx8 := BX.out.go EQ.out
        have RPQ := Lib.hid (RPR.out.go EQB.out)
        have BPQ := Lib.hid bp
        have BXQ := Lib.hid bx8
        obtain ⟨xp1, xp2, xp3, xp4⟩ := bp.facts
        obtain ⟨xx1, xx2, xx3, xx4⟩ := bx8.facts
        clear bp bx8
        go_wp2_with fail
        refine (FI.out _ n c _ RPQ.out).mono ?_
        rintro e w9 ⟨rfl, hb9⟩
        clear xp1 xp2 xp3 xp4 xx1 xx2 xx3 xx4
        have bx9 := BXQ.out.go hb9
        obtain ⟨xx1, xx2, xx3, xx4⟩ := bx9.facts
        have lx := bx9.lt
        have B9 := Lib.hid hb9
        clear bx9 hb9
        go_wp2_with fail
        refine (SA.out _).mono ?_
        rintro e wA ⟨rfl, hbA⟩
        have BA := Lib.hid (call0 HBL.out (call0 EQB.out (call0 B9.out (call1 (Below.refl _ _) hbA))))
        clear hbA
        go_wp2
        go_roundw
        case rel => exact ⟨i + 1, by omega, by go_num, BA.out⟩
        case measure => simp [intOf] <;> omega
      · by_cases hq0 : ((wQ x.w : Nat) : Int) = 0
        · have hz1 : (((wQ x.w : Nat) : Int) == 0) = true := by rw [hq0]; rfl
          have hz2 : (((wQ x.w : Nat) : Int) != 0) = false := by rw [hq0]; rfl
          clear hq0
          go_wp2_with fail
          refine quiet_in f (by kernel_rfl) (by kernel_rfl) n0 E0.out ?_
          repeat (go_big_quiet_step (fail))
          refine wpQuiet_nil ?_
          rintro _ ⟨q, rfl⟩
          have EQ := Lib.hid (ES.out q)
          have EQB := Lib.hid (EB.out q)
          clear r1 r2 r3 r4
          generalize f q = wq at EQ EQB ⊢
          have bp := BPR.out.go EQB.out
          have bx8 := BX.out.go EQ.out
          have RPQ := Lib.hid (RPR.out.go EQB.out)
          have BPQ := Lib.hid bp
          have BXQ := Lib.hid bx8
          obtain ⟨xp1, xp2, xp3, xp4⟩ := bp.facts
          obtain ⟨xx1, xx2, xx3, xx4⟩ := bx8.facts
          clear bp bx8
          go_wp2_with fail
          refine (FI.out _ n c _ RPQ.out).mono ?_
          rintro e w9 ⟨rfl, hb9⟩
          clear xp1 xp2 xp3 xp4 xx1 xx2 xx3 xx4
          have bx9 := BXQ.out.go hb9
          obtain ⟨xx1, xx2, xx3, xx4⟩ := bx9.facts
          have lx := bx9.lt
          have B9 := Lib.hid hb9
          clear bx9 hb9
          go_wp2_with fail
          refine (SA.out _).mono ?_
          rintro e wA ⟨rfl, hbA⟩
          have BA := Lib.hid (call0 HBL.out (call0 EQB.out (call0 B9.out (call1 (Below.refl _ _) hbA))))
          clear hbA
          go_wp2
          go_roundw
          case rel => exact ⟨i + 1, by omega, by go_num, BA.out⟩
          case measure => simp [intOf] <;> omega
        · have hz1 : (((wQ x.w : Nat) : Int) == 0) = false := by simpa using hq0
          have hz2 : (((wQ x.w : Nat) : Int) != 0) = true := by simpa using hq0
          have hz3 : decide (((wQ x.w : Nat) : Int) = 0) = false := by simpa using hq0
          have hz4 : decide (((wQ x.w : Nat) : Int) ≠ 0) = true := by simpa using hq0
          have hz5 : (!decide (((wQ x.w : Nat) : Int) = 0)) = true := by simpa using hq0
          clear hq0
          go_wp2_with fail
          refine quiet_in f (by kernel_rfl) (by kernel_rfl) n0 E0.out ?_
          repeat (go_big_quiet_step ((first
            | (go_at_call 26; refine (HA.out _ (RDQ.out _)).mono ?_; rintro e w1 ⟨rfl, rfl⟩; exact ⟨rfl, _, rfl⟩))))
          refine wpQuiet_nil ?_
          rintro _ ⟨q, rfl⟩
          have EQ := Lib.hid (ES.out q)
          have EQB := Lib.hid (EB.out q)
          clear r1 r2 r3 r4
          generalize f q = wq at EQ EQB ⊢
          have bp := BPR.out.go EQB.out
          have bx8 := BX.out.go EQ.out
          have RPQ := Lib.hid (RPR.out.go EQB.out)
          have BPQ := Lib.hid bp
          have BXQ := Lib.hid bx8
          obtain ⟨xp1, xp2, xp3, xp4⟩ := bp.facts
          obtain ⟨xx1, xx2, xx3, xx4⟩ := bx8.facts
          clear bp bx8
          go_wp2_with fail
          refine (FI.out _ n c _ RPQ.out).mono ?_
          rintro e w9 ⟨rfl, hb9⟩
          clear xp1 xp2 xp3 xp4 xx1 xx2 xx3 xx4
          have bx9 := BXQ.out.go hb9
          obtain ⟨xx1, xx2, xx3, xx4⟩ := bx9.facts
          have lx := bx9.lt
          have B9 := Lib.hid hb9
          clear bx9 hb9
          go_wp2_with fail
          refine (SA.out _).mono ?_
          rintro e wA ⟨rfl, hbA⟩
          have BA := Lib.hid (call0 HBL.out (call0 EQB.out (call0 B9.out (call1 (Below.refl _ _) hbA))))
          clear hbA
          go_wp2
          go_roundw
          case rel => exact ⟨i + 1, by omega, by go_num, BA.out⟩
          case measure => simp [intOf] <;> omega
    · obtain rfl : i = n := by omega
      have hd : decide ((i : Int) < i) = false := by simp
      clear bp rp rx ry
      go_wp2
      go_ret
      exact ⟨rfl, HBr.out⟩
theorem poolShares_walk (v : Int) (A : Option Addr) (n c : Nat) (l : List Bk) (ls : List (List UInt8)) (D : Option Addr) (nd d : Nat) (w : World) (hR : RdK w w.heap.size A n l) (hg : ∀ b ∈ l, b.good) (hn : n ≤ 9223372036854775807) (hD : RdS w w.heap.size D nd ls) (hnd : nd ≤ 9223372036854775807) :
    Calls Try.prog 7 #[.agg #[.int .i64 v, .slice A n c], .slice D nd d] w fun e w' => e = .returned (.bool true) ∧ Below w.heap.size w w' := by
  cases hK : few l
  · exact poolShares_few l v A n c ls D nd d w hg hR hD hn hnd hK
  cases hK2 : pRight v l
  · exact poolShares_right l v A n c ls D nd d w hg hR hD hn hnd hK hK2
  rcases Nat.lt_or_ge 100 nd with h3 | h3
  · exact poolShares_many l v A n c ls D nd d w hg hR hD hn hnd hK hK2 h3
  · exact poolShares_main l v A n c ls D nd d w hg hR hD hn hnd hK hK2 h3
set_option maxRecDepth 100000 in
theorem poolShares_lifted (os : Os) (started : os.Started) (H : Type) (enc : TypeId × Value → H) :
    ReturnsInHanded {} Try.checked os 7 .any (Rows.poolSharesSpec.pre6 enc Try.prog Try.f7 Rows.poolSharesRow.domain false) (Rows.poolSharesSpec.post enc Try.prog Try.f7 false true false false) := by
  refine returnsInHanded_of_change (C := Try.checked) own started (by kernel_rfl) Try.func7
    (ChangeSpec.witness6 (enc := enc) (C := Try.checked) false ⟨#[], #[.agg #[.int .i64 0, .slice none 0 0], .slice none 0 0], []⟩ 8 (by kernel_rfl) (by kernel_rfl) (by kernel_rfl) (by kernel_rfl)) ?_
  intro W base args ds gs before hval0 hW hcnd _
  have hval : ∀ (j : Nat) t v, Try.f7.params[j]? = some t → args[j]? = some v → Value.okWide Try.prog W .any base t v := hval0
  have hW' := hW
  obtain ⟨p, q, hA0, hV, rfl, hfz, hnd⟩ := hW
  have hA : DataW.TrodAll enc Try.prog W 0 (fun _ => true) true Try.f7.params.toList args.toList ds p := hA0
  rw [Try.params7] at hA hval
  obtain ⟨v0, vs0, d0, ds0, p0, q0, hargs, rfl, rfl, h0, r0⟩ := trodAll_cons hA
  obtain ⟨v1, vs1, d1, ds1, p1, q1, rfl, rfl, rfl, h1, r1⟩ := trodAll_cons r0
  obtain ⟨rfl, rfl, rfl⟩ := trodAll_nil r1
  obtain rfl : args = #[v0, v1] := by cases args; simp_all
  obtain ⟨zp, Ap, np, cp, lp, rfl, hzp, hRp, hgp, hmp⟩ := open_pool (hval 0 24 v0 rfl rfl) h0
  obtain ⟨Ad, nd, cd, ld, rfl, hRd, hgd, hmd⟩ := open_texts (hval 1 50 v1 rfl rfl) h1
  clear hA0 hval0
  refine (poolShares_walk zp Ap np cp lp ld Ad nd cd W hRp hgp hmp hRd hmd).mono fun e W' ⟨he, hb⟩ => ?_
  subst he
  exact ⟨_, rfl, law_post laidOut rfl (by kernel_rfl) 4 Try.underlying4 rfl hW' rfl hb⟩
theorem poolShares_holds : Rows.PoolSharesSaid :=
  OpenClaim.holds_of_wide 7 Try.f7 rfl rfl rfl rfl rfl rfl rfl ⟨rfl, rfl, rfl, rfl, rfl⟩ rfl rfl rfl rfl rfl (by kernel_rfl) Try.func7 (by kernel_rfl)
    (of_decide_eq_true (by kernel_rfl)) (by unfold Func.isWrapper; first | (rw [if_pos (by decide +kernel)]; kernel_rfl) | (rw [if_neg (by decide +kernel)]; exact ⟨rfl, rfl⟩))
    (fun os started H enc _ => poolShares_lifted os started H enc)
#print axioms poolShares_holds
end Go.Proofs.Ytgcahcjffoehfaa
