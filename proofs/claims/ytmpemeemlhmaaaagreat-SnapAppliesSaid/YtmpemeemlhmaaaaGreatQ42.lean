/- The document's reading, as lists (plain). -/
import Derived.Test.YtmpemeemlhmaaaaGreatQ21
import Derived.Test.YtmpemeemlhmaaaaGreatQ34
import Derived.Test.YtmpemeemlhmaaaaGreatQ5
import Derived.Deep.QuietTactic
import Derived.Deep.RegionHeldLaw
set_option linter.unusedSimpArgs false
set_option linter.unusedVariables false
set_option maxRecDepth 100000
namespace Go.Proofs.YtmpemeemlhmaaaaGreat

def M60 : Nat := 1152921504606846976
def numD (m : Nat) (s : RS) : Nat × RS := if (varO s).1 ≤ m then varO s else (0, none)
def takeD (k : Nat) (s : RS) : List UInt8 × RS := if (takeO k s).2.isSome then takeO k s else (List.replicate k 0, none)
def textR (s : RS) : List UInt8 × RS := if (numD M60 s).1 ≤ 255 then takeD (numD M60 s).1 (numD M60 s).2 else ([], none)
def textQ (m : Nat) (s : RS) : List UInt8 × RS := takeD (numD m s).1 (numD m s).2
def flagQ (s : RS) : Bool × RS := ((takeD 1 s).1.getD 0 0 == 1, if (takeD 1 s).1.getD 0 0 ≤ 1 then (takeD 1 s).2 else none)
def fltQ (s : RS) : Nat × RS := (wGet (takeD 8 s).1, if wGetOk (takeD 8 s).1 then (takeD 8 s).2 else none)
def bkQ (s : RS) : Bk × RS :=
  let a1 := textQ 255 s
  let a2 := flagQ a1.2
  let a3 := takeD 24 a2.2
  let a4 := fltQ a3.2
  let a5 := flagQ a4.2
  (if a5.2.isSome then ⟨a1.1, ⟨a2.1, vecO 16 a3.1⟩, ((256 * (a3.1.getD 16 0).toNat + (a3.1.getD 17 0).toNat : Nat) : Int), vecO 6 (a3.1.drop 18), a4.1, a5.1⟩ else noBk, a5.2)
def hlQ (s : RS) : Hl × RS :=
  let a1 := textR s
  let a2 := takeD 1 a1.2
  let a3 := numD M60 (if a2.1.getD 0 0 ≤ 1 then a2.2 else none)
  (⟨a1.1, a2.1.getD 0 0 == 1, a3.1⟩, a3.2)
def keyQ (x : List UInt8) : Tu := ⟨⟨x.getD 0 0 == 6, vecO 16 (x.drop 1)⟩, ⟨x.getD 0 0 == 6, vecO 16 (x.drop 17)⟩, ((x.getD 33 0).toNat : Int), ((256 * (x.getD 34 0).toNat + (x.getD 35 0).toNat : Nat) : Int), ((256 * (x.getD 36 0).toNat + (x.getD 37 0).toNat : Nat) : Int)⟩
def fwQ (s : RS) : Fw × RS :=
  let a1 := takeD 38 s
  let a2 := textR (if a1.1.getD 0 0 == 4 || a1.1.getD 0 0 == 6 then a1.2 else none)
  let a3 := numD M60 a2.2
  let a4 := numD M60 a3.2
  let a5 := numD M60 a4.2
  (⟨keyQ a1.1, a2.1, a3.1, a4.1, a5.1⟩, a5.2)
/-- so many, one behind the other, till something is wrong -/
def listQ {α : Type} (one : RS → α × RS) : Nat → RS → List α × RS
  | 0, s => ([], s)
  | k + 1, s => if s.isSome then ((one s).1 :: (listQ one k (one s).2).1, (listQ one k (one s).2).2) else ([], none)
def manyQ (m : Nat) (s : RS) : Nat × RS := if (numD M60 s).1 ≤ m then numD M60 s else (0, none)
def rowsQ {α : Type} (one : RS → α × RS) (m : Nat) (s : RS) : List α × RS := listQ one (manyQ m s).1 (manyQ m s).2
def cntQ : Nat → RS → List Nat × RS
  | 0, s => ([], s)
  | k + 1, s => ((numD M60 s).1 :: (cntQ k (numD M60 s).2).1, (cntQ k (numD M60 s).2).2)

theorem M60_is : M60 = 1152921504606846976 := rfl
theorem numD_none (m : Nat) : numD m none = (0, none) := by simp [numD, varO]
theorem takeD_none (k : Nat) : takeD k none = (List.replicate k 0, none) := by simp [takeD, takeO]
theorem takeD_len (k : Nat) (s : RS) : (takeD k s).1.length = k := by
  unfold takeD
  split
  · rename_i h
    obtain ⟨t, ht⟩ := Option.isSome_iff_exists.1 h
    exact (takeO_inv (Prod.ext rfl ht)).2
  · simp
theorem numD_le (m : Nat) (s : RS) : (numD m s).1 ≤ m := by
  unfold numD
  split
  · assumption
  · exact Nat.zero_le _
theorem numD_fwd (m n : Nat) (t : List UInt8) (h : n ≤ m) (hm : m < 18446744073709551616) : numD m (some (varB n ++ t)) = (n, some t) := by
  unfold numD
  rw [varO_fwd n t (by omega), if_pos h]
theorem numD_inv {m n : Nat} {s : RS} {t : List UInt8} (h : numD m s = (n, some t)) : s = some (varB n ++ t) ∧ n ≤ m := by
  unfold numD at h
  split at h
  · rename_i hc
    rw [h] at hc
    exact ⟨(varO_inv h).1, hc⟩
  · cases h
theorem takeD_fwd (l t : List UInt8) (k : Nat) (h : l.length = k) : takeD k (some (l ++ t)) = (l, some t) := by
  unfold takeD
  rw [takeO_fwd l t k h]; rfl
theorem takeD_inv {k : Nat} {s : RS} {l t : List UInt8} (h : takeD k s = (l, some t)) : s = some (l ++ t) ∧ l.length = k := by
  unfold takeD at h
  split at h
  · exact takeO_inv h
  · cases h
theorem textR_fwd (x t : List UInt8) (h : x.length ≤ 255) : textR (some (textB x ++ t)) = (x, some t) := by
  unfold textR textB
  rw [List.append_assoc, numD_fwd M60 x.length (x ++ t) (by rw [M60_is]; omega) (by rw [M60_is]; omega)]
  simp only
  rw [if_pos h]
  exact takeD_fwd x t _ rfl
theorem textR_inv {s : RS} {x t : List UInt8} (h : textR s = (x, some t)) : s = some (textB x ++ t) := by
  unfold textR at h
  split at h
  · obtain ⟨h1, h2⟩ := takeD_inv h
    obtain ⟨h3, _⟩ := numD_inv (pair_some h1)
    rw [h3, ← h2]
    unfold textB
    rw [List.append_assoc]
  · cases h
theorem textQ_fwd (m : Nat) (x t : List UInt8) (h : x.length ≤ m) (hm : m < 18446744073709551616) : textQ m (some (textB x ++ t)) = (x, some t) := by
  unfold textQ textB
  rw [List.append_assoc, numD_fwd m x.length (x ++ t) h hm]
  exact takeD_fwd x t _ rfl
theorem textQ_inv {m : Nat} {s : RS} {x t : List UInt8} (h : textQ m s = (x, some t)) : s = some (textB x ++ t) := by
  unfold textQ at h
  obtain ⟨h1, h2⟩ := takeD_inv h
  obtain ⟨h3, _⟩ := numD_inv (pair_some h1)
  rw [h3, ← h2]
  unfold textB
  rw [List.append_assoc]
theorem ite_some {p : Prop} [Decidable p] {a : RS} {t : List UInt8} (h : (if p then a else none) = some t) : p ∧ a = some t := by
  split at h
  · exact ⟨by assumption, h⟩
  · cases h
theorem one_flag {l : List UInt8} (h : l.length = 1) (h1 : l.getD 0 0 ≤ 1) : l = flagB (l.getD 0 0 == 1) := by
  match l, h with
  | [x], _ =>
    simp only [List.getD_cons_zero] at h1 ⊢
    have hx : x.toNat ≤ 1 := h1
    rcases (show x.toNat = 0 ∨ x.toNat = 1 by omega) with e | e
    · obtain rfl : x = 0 := UInt8.toNat_inj.1 e
      rfl
    · obtain rfl : x = 1 := UInt8.toNat_inj.1 e
      rfl
theorem flag_getD (b : Bool) : ((flagB b).getD 0 0 == 1) = b ∧ (flagB b).getD 0 0 ≤ 1 := by cases b <;> decide
theorem flagQ_fwd (b : Bool) (t : List UInt8) : flagQ (some (flagB b ++ t)) = (b, some t) := by
  unfold flagQ
  rw [takeD_fwd (flagB b) t 1 rfl]
  simp only [(flag_getD b).1, (flag_getD b).2, if_true]
theorem flagQ_inv {s : RS} {b : Bool} {t : List UInt8} (h : flagQ s = (b, some t)) : s = some (flagB b ++ t) := by
  unfold flagQ at h
  injection h with h1 h2
  obtain ⟨h3, h4⟩ := ite_some h2
  obtain ⟨h5, h6⟩ := takeD_inv (pair_some h4)
  rw [h5, ← h1, ← one_flag h6 h3]
theorem fltQ_fwd (x : Nat) (t : List UInt8) (h : x < 18446744073709551616) (hb : wBits x = x) : fltQ (some (wPut x ++ t)) = (x, some t) := by
  unfold fltQ
  rw [takeD_fwd (wPut x) t 8 (wPut_len x)]
  simp only [(wBig h hb).1, (wBig h hb).2, if_true]
theorem fltQ_inv {s : RS} {x : Nat} {t : List UInt8} (h : fltQ s = (x, some t)) : s = some (wPut x ++ t) := by
  unfold fltQ at h
  injection h with h1 h2
  obtain ⟨h3, h4⟩ := ite_some h2
  obtain ⟨h5, h6⟩ := takeD_inv (pair_some h4)
  rw [h5, ← h1, (wBig_inv h3).1]
theorem two_put (l : List UInt8) (i : Nat) (h : i + 1 < l.length) : numPut (256 * (l.getD i 0).toNat + (l.getD (i + 1) 0).toNat) 2 true = (l.drop i).take 2 := by
  rw [List.drop_eq_getElem_cons (by omega), List.drop_eq_getElem_cons h]
  have h1 := (l[i]'(by omega)).toNat_lt
  have h2 := (l[i + 1]).toNat_lt
  simp only [List.take_succ_cons, List.take_zero, List.getD_eq_getElem?_getD, List.getElem?_eq_getElem (show i < l.length by omega), List.getElem?_eq_getElem h, Option.getD_some]
  simp only [numPut, if_true, lowPut, lowB]
  have e1 : ∀ a b : UInt8, UInt8.ofNat ((256 * a.toNat + b.toNat) / 256) = a := fun a b => by
    have := b.toNat_lt
    rw [show (256 * a.toNat + b.toNat) / 256 = a.toNat by omega, UInt8.ofNat_toNat]
  have e2 : ∀ a b : UInt8, UInt8.ofNat (256 * a.toNat + b.toNat) = b := fun a b => by
    apply UInt8.toNat_inj.1
    have := b.toNat_lt
    rw [UInt8.toNat_ofNat']
    omega
  simp [List.range, List.range.loop, lowB, e1, e2]
theorem two_get {n : Nat} (h : n < 65536) : 256 * ((numPut n 2 true).getD 0 0).toNat + ((numPut n 2 true).getD 1 0).toNat = n := by
  simp only [numPut, if_true, lowPut, lowB]
  simp [List.range, List.range.loop, lowB, UInt8.toNat_ofNat]
  omega
theorem vec_part {n i : Nat} (l : List UInt8) (h : i + n ≤ l.length) : (vecO n (l.drop i)).toList = (l.drop i).take n := by
  apply List.ext_getElem
  · simp; omega
  · intro j h1 h2
    have h3 : j < n := by simpa using h1
    simp [vecO, List.getD_eq_getElem?_getD, List.getElem?_drop, List.getElem?_eq_getElem (show i + j < l.length by omega)]
theorem split24 (l : List UInt8) (h : l.length = 24) : l = (vecO 16 l).toList ++ (numPut (256 * (l.getD 16 0).toNat + (l.getD 17 0).toNat) 2 true ++ (vecO 6 (l.drop 18)).toList) := by
  have h0 := vec_part (n := 16) (i := 0) l (by omega)
  rw [List.drop_zero] at h0
  rw [h0, two_put l 16 (by omega), vec_part l (by omega), ← List.append_assoc]
  have e1 : List.take 16 l ++ List.take 2 (List.drop 16 l) = l.take 18 := by
    rw [← List.take_add]
  rw [e1, List.take_of_length_le (l := List.drop 18 l) (by simp; omega), List.take_append_drop]
theorem bkQ_inv {s : RS} {x : Bk} {t : List UInt8} (h : bkQ s = (x, some t)) : s = some (bkB x ++ t) := by
  unfold bkQ at h
  simp only [Prod.mk.injEq] at h
  obtain ⟨h1, h2⟩ := h
  rw [h2] at h1
  simp only [Option.isSome_some, if_true] at h1
  have i5 := flagQ_inv (pair_some h2)
  have i4 := fltQ_inv (pair_some i5)
  obtain ⟨i3, l3⟩ := takeD_inv (pair_some i4)
  have i2 := flagQ_inv (pair_some i3)
  have i1 := textQ_inv (pair_some i2)
  rw [i1, ← h1]
  congr 1
  unfold bkB
  rw [split24 _ l3]
  simp only [List.append_assoc, Int.toNat_natCast]
  rw [← split24 _ l3]
theorem bkQ_fwd (x : Bk) (t : List UInt8) (h : layBk x) : bkQ (some (bkB x ++ t)) = (x, some t) := by
  obtain ⟨h1, ⟨h2, h3⟩, h4, h5⟩ := h
  have e0 : bkB x ++ t = textB x.name ++ (flagB x.addr.six ++ ((x.addr.b.toList ++ (numPut x.port.toNat 2 true ++ x.mac.toList)) ++ (wPut x.w ++ (flagB x.drain ++ t)))) := by
    simp [bkB, List.append_assoc]
  have hl : (numPut x.port.toNat 2 true).length = 2 := numPut_len _ _ _
  have h24 : (x.addr.b.toList ++ (numPut x.port.toNat 2 true ++ x.mac.toList)).length = 24 := by simp [hl]
  rw [e0]
  unfold bkQ
  simp only [textQ_fwd 255 x.name _ h1 (by omega), flagQ_fwd, takeD_fwd _ _ 24 h24, fltQ_fwd x.w _ h4 h5, Option.isSome_some, if_true]
  congr 1
  have e1 : vecO 16 (x.addr.b.toList ++ (numPut x.port.toNat 2 true ++ x.mac.toList)) = x.addr.b := by
    apply Vector.ext
    intro i hi
    simp [vecO, List.getD_eq_getElem?_getD, List.getElem?_append_left (show i < x.addr.b.toList.length by simpa using hi), hi]
  have e2 : (x.addr.b.toList ++ (numPut x.port.toNat 2 true ++ x.mac.toList)).drop 18 = x.mac.toList := by
    rw [← List.append_assoc, List.drop_append_of_le_length (by simp [hl]), List.drop_of_length_le (by simp [hl]), List.nil_append]
  have e3 : ∀ i, i < 2 → (x.addr.b.toList ++ (numPut x.port.toNat 2 true ++ x.mac.toList)).getD (16 + i) 0 = (numPut x.port.toNat 2 true).getD i 0 := fun i hi => by
    simp only [List.getD_eq_getElem?_getD]
    rw [List.getElem?_append_right (by simp), List.getElem?_append_left (by simp [hl]; omega)]
    simp
  rw [e1, e2, e3 0 (by omega), e3 1 (by omega), two_get (by omega), vecO_fwd]
  obtain ⟨n, a, p, m, w, d⟩ := x
  simp only at h2 h3 ⊢
  congr
  omega
theorem hlQ_inv {s : RS} {x : Hl} {t : List UInt8} (h : hlQ s = (x, some t)) : s = some (hlB x ++ t) := by
  unfold hlQ at h
  simp only [Prod.mk.injEq] at h
  obtain ⟨h1, h2⟩ := h
  obtain ⟨i3, _⟩ := numD_inv (pair_some h2)
  obtain ⟨c, i3⟩ := ite_some i3
  obtain ⟨i2, l2⟩ := takeD_inv (pair_some i3)
  have i1 := textR_inv (pair_some i2)
  rw [i1, ← h1]
  congr 1
  unfold hlB
  have e : ∀ l : List UInt8, l.length = 1 → l.getD 0 0 ≤ 1 → varB (if (l.getD 0 0 == 1) = true then 1 else 0) = l := fun l hl hc => by
    have h9 := one_flag hl hc
    rw [varB_small _ (by split <;> omega), ← flag_put]
    exact h9.symm
  simp only [List.append_assoc, Int.toNat_natCast, e _ l2 c]
theorem hlQ_fwd (x : Hl) (t : List UInt8) (h : layHl x) : hlQ (some (hlB x ++ t)) = (x, some t) := by
  obtain ⟨h1, h2, h3⟩ := h
  have e0 : hlB x ++ t = textB x.name ++ (flagB x.down ++ (varB x.run.toNat ++ t)) := by
    unfold hlB
    rw [varB_small _ (by split <;> omega), ← flag_put]
    simp [List.append_assoc]
  rw [e0]
  unfold hlQ
  simp only [textR_fwd x.name _ h1, takeD_fwd (flagB x.down) _ 1 rfl, (flag_getD x.down).1, (flag_getD x.down).2, if_true, numD_fwd M60 x.run.toNat _ (by rw [M60_is]; omega) (by rw [M60_is]; omega)]
  congr 1
  obtain ⟨a, b, c⟩ := x
  simp only at h2 h3 ⊢
  congr
  omega
theorem split38 (l : List UInt8) (h : l.length = 38) (h0 : (l.getD 0 0 == 4 || l.getD 0 0 == 6) = true) : l = tuB (keyQ l) := by
  have a0 : [if (l.getD 0 0 == 6) = true then 6 else 4] = l.take 1 := by
    match l, h with
    | x :: m, _ =>
      simp only [List.getD_cons_zero] at h0 ⊢
      simp at h0
      rcases h0 with rfl | rfl <;> rfl
  have a1 : [UInt8.ofNat ((l.getD 33 0).toNat)] = (l.drop 33).take 1 := by
    rw [List.drop_eq_getElem_cons (show 33 < l.length by omega), List.take_succ_cons, List.take_zero]
    simp [List.getD_eq_getElem?_getD, List.getElem?_eq_getElem (show 33 < l.length by omega)]
  unfold tuB keyQ
  simp only [Int.toNat_natCast]
  rw [a0, a1, vec_part l (by omega), vec_part l (by omega), two_put l 34 (by omega), two_put l 36 (by omega)]
  have e : ∀ i n : Nat, List.take n (List.drop i l) ++ List.drop (i + n) l = List.drop i l := fun i n => by
    rw [← List.drop_drop, List.take_append_drop]
  rw [List.take_of_length_le (l := List.drop 36 l) (by simp; omega), e 34 2, e 33 1, e 17 16, e 1 16, List.take_append_drop]
theorem ffltQ_inv {s : RS} {x : Fw} {t : List UInt8} (h : fwQ s = (x, some t)) : s = some (fwB x ++ t) := by
  unfold fwQ at h
  simp only [Prod.mk.injEq] at h
  obtain ⟨h1, h2⟩ := h
  obtain ⟨i5, _⟩ := numD_inv (pair_some h2)
  obtain ⟨i4, _⟩ := numD_inv (pair_some i5)
  obtain ⟨i3, _⟩ := numD_inv (pair_some i4)
  have i2 := textR_inv (pair_some i3)
  obtain ⟨c, i2⟩ := ite_some i2
  obtain ⟨i1, l1⟩ := takeD_inv (pair_some i2)
  rw [i1, ← h1]
  congr 1
  unfold fwB
  simp only [Int.toNat_natCast]
  rw [← split38 _ l1 c]
  simp only [List.append_assoc]
theorem getD_at (a b : List UInt8) (i n : Nat) (h : a.length = n) : (a ++ b).getD (n + i) 0 = b.getD i 0 := by
  subst h
  simp only [List.getD_eq_getElem?_getD]
  rw [List.getElem?_append_right (by omega)]
  simp
theorem getD_left (a b : List UInt8) (i : Nat) (h : i < a.length) : (a ++ b).getD i 0 = a.getD i 0 := by
  simp only [List.getD_eq_getElem?_getD]
  rw [List.getElem?_append_left h]
theorem vec_left {n : Nat} (v : Vector UInt8 n) (b : List UInt8) : vecO n (v.toList ++ b) = v := by
  apply Vector.ext
  intro i hi
  simp [vecO, List.getD_eq_getElem?_getD, List.getElem?_append_left (show i < v.toList.length by simpa using hi), hi]
theorem drop_at (a b : List UInt8) (n : Nat) (h : a.length = n) : (a ++ b).drop n = b := by subst h; simp
theorem keyQ_fwd (x : Tu) (h : layTu x) : keyQ (tuB x) = x := by
  obtain ⟨h0, ⟨h1, h2⟩, ⟨h3, h4⟩, h5, h6⟩ := h
  have l2 : ∀ n : Nat, (numPut n 2 true).length = 2 := fun n => numPut_len _ _ _
  have e0 : (tuB x).getD 0 0 = if x.src.six then 6 else 4 := rfl
  have g0 : (((if x.src.six then 6 else 4 : UInt8)) == 6) = x.src.six := by cases x.src.six <;> decide
  have d1 : (tuB x).drop 1 = x.src.b.toList ++ (x.dst.b.toList ++ ([UInt8.ofNat x.proto.toNat] ++ (numPut x.sport.toNat 2 true ++ numPut x.dport.toNat 2 true))) := rfl
  have d17 : (tuB x).drop 17 = x.dst.b.toList ++ ([UInt8.ofNat x.proto.toNat] ++ (numPut x.sport.toNat 2 true ++ numPut x.dport.toNat 2 true)) := by
    rw [show 17 = 1 + 16 from rfl, ← List.drop_drop, d1, drop_at _ _ 16 (by simp)]
  have d33 : (tuB x).drop 33 = [UInt8.ofNat x.proto.toNat] ++ (numPut x.sport.toNat 2 true ++ numPut x.dport.toNat 2 true) := by
    rw [show 33 = 17 + 16 from rfl, ← List.drop_drop, d17, drop_at _ _ 16 (by simp)]
  have d34 : (tuB x).drop 34 = numPut x.sport.toNat 2 true ++ numPut x.dport.toNat 2 true := by
    rw [show 34 = 33 + 1 from rfl, ← List.drop_drop, d33]; rfl
  have d36 : (tuB x).drop 36 = numPut x.dport.toNat 2 true := by
    rw [show 36 = 34 + 2 from rfl, ← List.drop_drop, d34, drop_at _ _ 2 (l2 _)]
  have at_ : ∀ i k : Nat, (tuB x).getD (i + k) 0 = ((tuB x).drop i).getD k 0 := fun i k => by
    simp only [List.getD_eq_getElem?_getD, List.getElem?_drop]
  unfold keyQ
  rw [show (33 : Nat) = 33 + 0 from rfl, show (34 : Nat) = 34 + 0 from rfl, show (35 : Nat) = 34 + 1 from rfl, show (36 : Nat) = 36 + 0 from rfl, show (37 : Nat) = 36 + 1 from rfl]
  rw [at_ 33 0, at_ 34 0, at_ 34 1, at_ 36 0, at_ 36 1]
  rw [d1, d17, d33, d34, d36, e0, g0, vec_left, vec_left, getD_left (numPut x.sport.toNat 2 true) (numPut x.dport.toNat 2 true) 0 (by rw [l2]; omega), getD_left (numPut x.sport.toNat 2 true) (numPut x.dport.toNat 2 true) 1 (by rw [l2]; omega), two_get (by omega), two_get (by omega)]
  obtain ⟨⟨a, b⟩, ⟨c, d⟩, p, q, r⟩ := x
  simp only at h0 h1 h2 h3 h4 h5 h6 ⊢
  subst h0
  have : (([UInt8.ofNat p.toNat] ++ (numPut q.toNat 2 true ++ numPut r.toNat 2 true)).getD 0 0).toNat = p.toNat := by
    simp [UInt8.toNat_ofNat]; omega
  rw [this]
  congr <;> omega
theorem ffltQ_fwd (x : Fw) (t : List UInt8) (h : layFw x) : fwQ (some (fwB x ++ t)) = (x, some t) := by
  obtain ⟨h0, h1, ⟨h2, h3⟩, ⟨h4, h5⟩, h6, h7⟩ := h
  have e0 : fwB x ++ t = tuB x.key ++ (textB x.name ++ (varB x.state.toNat ++ (varB x.seen.toNat ++ (varB x.no.toNat ++ t)))) := by
    simp [fwB, List.append_assoc]
  have hl : (tuB x.key).length = 38 := by simp [tuB, numPut_len]
  have hc : (((tuB x.key).getD 0 0 == 4) || ((tuB x.key).getD 0 0 == 6)) = true := by
    have : (tuB x.key).getD 0 0 = if x.key.src.six then 6 else 4 := rfl
    rw [this]
    cases x.key.src.six <;> decide
  rw [e0]
  unfold fwQ
  simp only [takeD_fwd _ _ 38 hl, hc, if_true, textR_fwd x.name _ h1, numD_fwd M60 x.state.toNat _ (by rw [M60_is]; omega) (by rw [M60_is]; omega), numD_fwd M60 x.seen.toNat _ (by rw [M60_is]; omega) (by rw [M60_is]; omega), numD_fwd M60 x.no.toNat _ (by rw [M60_is]; omega) (by rw [M60_is]; omega), keyQ_fwd x.key h0]
  congr 1
  obtain ⟨k, n, a, b, c⟩ := x
  simp only at h2 h3 h4 h5 h6 h7 ⊢
  congr <;> omega
/-! ### lists -/
theorem listQ_fwd {α : Type} {one : RS → α × RS} {lay : α → List UInt8} {ok : α → Prop} (h : ∀ x t, ok x → one (some (lay x ++ t)) = (x, some t)) (t : List UInt8) : ∀ l : List α, (∀ x ∈ l, ok x) → listQ one l.length (some (l.flatMap lay ++ t)) = (l, some t)
  | [], _ => rfl
  | x :: l, hl => by
    have := listQ_fwd h t l (fun y hy => hl y (List.mem_cons_of_mem _ hy))
    simp only [List.length_cons, listQ, Option.isSome_some, if_true, List.flatMap_cons, List.append_assoc, h x _ (hl x (by simp)), this]
theorem listQ_inv {α : Type} {one : RS → α × RS} {lay : α → List UInt8} (h : ∀ s x t, one s = (x, some t) → s = some (lay x ++ t)) (t : List UInt8) : ∀ (k : Nat) (s : RS) (l : List α), listQ one k s = (l, some t) → s = some (l.flatMap lay ++ t) ∧ l.length = k
  | 0, s, l, e => by
    simp only [listQ, Prod.mk.injEq] at e
    obtain ⟨rfl, rfl⟩ := e
    exact ⟨by simp, rfl⟩
  | k + 1, s, l, e => by
    unfold listQ at e
    split at e
    · simp only [Prod.mk.injEq] at e
      obtain ⟨rfl, e2⟩ := e
      obtain ⟨i1, i2⟩ := listQ_inv h t k _ _ (pair_some e2)
      have i3 := h _ _ _ (pair_some i1)
      exact ⟨i3.trans (by simp), by simp [i2]⟩
    · cases e
theorem manyQ_inv {m n : Nat} {s : RS} {t : List UInt8} (h : manyQ m s = (n, some t)) : s = some (varB n ++ t) ∧ n ≤ m := by
  unfold manyQ at h
  split at h
  · rename_i hc
    rw [h] at hc
    exact ⟨(numD_inv h).1, hc⟩
  · cases h
theorem manyQ_fwd (m n : Nat) (t : List UInt8) (h : n ≤ m) (hm : m ≤ 4096) : manyQ m (some (varB n ++ t)) = (n, some t) := by
  unfold manyQ
  rw [numD_fwd M60 n t (by rw [M60_is]; omega) (by rw [M60_is]; omega)]
  exact if_pos h
theorem manyQ_le (m : Nat) (s : RS) : (manyQ m s).1 ≤ m := by
  unfold manyQ
  split
  · assumption
  · exact Nat.zero_le _
theorem rowsQ_fwd {α : Type} {one : RS → α × RS} {lay : α → List UInt8} {ok : α → Prop} (h : ∀ x t, ok x → one (some (lay x ++ t)) = (x, some t)) (m : Nat) (hm : m ≤ 4096) (t : List UInt8) (l : List α) (hl : ∀ x ∈ l, ok x) (hn : l.length ≤ m) : rowsQ one m (some (varB l.length ++ (l.flatMap lay ++ t))) = (l, some t) := by
  unfold rowsQ
  rw [manyQ_fwd m l.length _ hn hm]
  exact listQ_fwd h t l hl
theorem rowsQ_inv {α : Type} {one : RS → α × RS} {lay : α → List UInt8} (h : ∀ s x t, one s = (x, some t) → s = some (lay x ++ t)) (m : Nat) (t : List UInt8) (s : RS) (l : List α) (e : rowsQ one m s = (l, some t)) : s = some (varB l.length ++ (l.flatMap lay ++ t)) ∧ l.length ≤ m := by
  unfold rowsQ at e
  obtain ⟨i1, i2⟩ := listQ_inv h t _ _ _ e
  obtain ⟨i3, i4⟩ := manyQ_inv (pair_some i1)
  rw [← i2] at i3 i4
  exact ⟨i3, i4⟩
theorem cntQ_fwd (t : List UInt8) : ∀ l : List Nat, (∀ n ∈ l, n ≤ M60) → cntQ l.length (some (l.flatMap varB ++ t)) = (l, some t)
  | [], _ => rfl
  | n :: l, h => by
    have := cntQ_fwd t l (fun y hy => h y (List.mem_cons_of_mem _ hy))
    simp only [List.length_cons, cntQ, List.flatMap_cons, List.append_assoc, numD_fwd M60 n _ (h n (by simp)) (by rw [M60_is]; omega), this]
theorem cntQ_len : ∀ (k : Nat) (s : RS), (cntQ k s).1.length = k
  | 0, _ => rfl
  | k + 1, s => by simp [cntQ, cntQ_len k]
theorem cntQ_inv (t : List UInt8) : ∀ (k : Nat) (s : RS) (l : List Nat), cntQ k s = (l, some t) → s = some (l.flatMap varB ++ t)
  | 0, s, l, h => by
    simp only [cntQ, Prod.mk.injEq] at h
    obtain ⟨rfl, rfl⟩ := h
    simp
  | k + 1, s, l, h => by
    simp only [cntQ, Prod.mk.injEq] at h
    obtain ⟨rfl, h2⟩ := h
    have i1 := cntQ_inv t k _ _ (pair_some h2)
    obtain ⟨i2, _⟩ := numD_inv (pair_some i1)
    exact i2.trans (by simp)
/-- a state, and what is left behind it -/
def getQ (b : List UInt8) : Sta × RS :=
  let a1 := numD M60 (some b)
  let a2 := numD M60 a1.2
  let a3 := cntQ 11 a2.2
  let a4 := numD M60 a3.2
  let a5 := rowsQ bkQ 1024 a4.2
  let a6 := rowsQ hlQ 1024 a5.2
  let a7 := rowsQ fwQ 4096 a6.2
  (⟨a4.1, a5.1, a6.1, a7.1, a1.1, a2.1, cntV a3.1⟩, a7.2)
theorem getQ_fwd (s : Sta) (h : LaySt s) : getQ (staB s) = (s, some []) := by
  obtain ⟨⟨v1, v2⟩, nb, bk, nh, hl, nf, fw, ⟨t1, t2⟩, ⟨n1, n2⟩, c⟩ := h
  have hc : ∀ n ∈ s.cnt.toList.map Int.toNat, n ≤ M60 := by
    intro n hn
    obtain ⟨z, hz, rfl⟩ := List.mem_map.1 hn
    have := c z hz
    rw [M60_is]
    omega
  have e11 : (s.cnt.toList.map Int.toNat).length = 11 := by simp
  have hcf := fun t => cntQ_fwd t (s.cnt.toList.map Int.toNat) hc
  rw [e11] at hcf
  have e5 := fun t => rowsQ_fwd bkQ_fwd 1024 (by omega) t s.bks bk nb
  have e6 := fun t => rowsQ_fwd hlQ_fwd 1024 (by omega) t s.hls hl nh
  have e7 := rowsQ_fwd ffltQ_fwd 4096 (by omega) [] s.fws fw nf
  rw [List.append_nil] at e7
  unfold getQ staB bksB
  rw [cnt_flat]
  simp only [List.append_assoc]
  simp only [numD_fwd M60 s.tick.toNat _ (by rw [M60_is]; omega) (by rw [M60_is]; omega), numD_fwd M60 s.no.toNat _ (by rw [M60_is]; omega) (by rw [M60_is]; omega), hcf, numD_fwd M60 s.ver.toNat _ (by rw [M60_is]; omega) (by rw [M60_is]; omega), e5, e6, e7, cntV_back s.cnt c]
  congr 1
  obtain ⟨a, b, c, d, e, f, g⟩ := s
  simp only at v1 t1 n1 ⊢
  congr <;> omega
attribute [local irreducible] rowsQ cntQ numD M60
theorem getQ_inv {b : List UInt8} {s : Sta} (h : getQ b = (s, some [])) : b = staB s := by
  unfold getQ at h
  simp only [Prod.mk.injEq] at h
  obtain ⟨h1, h2⟩ := h
  subst h1
  obtain ⟨i7, _⟩ := rowsQ_inv (fun s x t h => ffltQ_inv h) 4096 [] _ _ (pair_some h2)
  obtain ⟨i6, _⟩ := rowsQ_inv (fun s x t h => hlQ_inv h) 1024 _ _ _ (pair_some i7)
  obtain ⟨i5, _⟩ := rowsQ_inv (fun s x t h => bkQ_inv h) 1024 _ _ _ (pair_some i6)
  obtain ⟨i4, _⟩ := numD_inv (pair_some i5)
  have hl3 : (cntQ 11 (numD M60 (numD M60 (some b)).2).2).1.length = 11 := cntQ_len _ _
  have i3 := cntQ_inv _ 11 _ _ (pair_some i4)
  obtain ⟨i2, _⟩ := numD_inv (pair_some i3)
  obtain ⟨i1, _⟩ := numD_inv (pair_some i2)
  injection i1 with i1
  refine i1.trans ?_
  have e3 : (cntV (cntQ 11 (numD M60 (numD M60 (some b)).2).2).1).toList.flatMap (fun n => varB n.toNat) = (cntQ 11 (numD M60 (numD M60 (some b)).2).2).1.flatMap varB := by
    rw [cnt_flat, cntV_flat _ hl3]
  unfold staB bksB
  simp only [e3, Int.toNat_natCast, List.append_assoc, List.append_nil]
/-- the document's answer -/
theorem getQ_V (b : List UInt8) : (if (getQ b).2 = some [] ∧ okSta (getQ b).1 = true then some (getQ b).1 else none) = getV b := by
  split
  · rename_i h
    exact ((getV_iff b _).2 ⟨h.2, getQ_inv (pair_some h.1)⟩).symm
  · rename_i h
    cases hv : getV b with
    | none => rfl
    | some s =>
      obtain ⟨h1, h2⟩ := getV_some hv
      exfalso
      apply h
      rw [h2, getQ_fwd s (okSta_lay h1)]
      exact ⟨rfl, h1⟩
end Go.Proofs.YtmpemeemlhmaaaaGreat

namespace Go.Proofs.YtmpemeemlhmaaaaGreat
open Go.RowKit Go.ChangeShapes Go.WideShapes Go.ChangeAt

/-- a reader of the document's -/
def rowC (A : Option Addr) (n c : Nat) (bad : Bool) : Array Value := #[.slice A n c, .bool bad]
@[go_sem] theorem rowC_0 (A : Option Addr) (n c : Nat) (bad : Bool) : (rowC A n c bad)[0]? = some (.slice A n c) := rfl
@[go_sem] theorem rowC_1 (A : Option Addr) (n c : Nat) (bad : Bool) : (rowC A n c bad)[1]? = some (.bool bad) := rfl
@[go_sem] theorem rowC_csize (A : Option Addr) (n c : Nat) (bad : Bool) : csize (rowC A n c bad) = 2 := rfl
/-- at p lies one that reads what lies below B; what is left is s -/
def RowS (W : World) (p B : Nat) (s : RS) : Prop := ∃ A n c l bad, Box W p (rowC A n c bad) ∧ RdB W B A n l ∧ n ≤ c ∧ c ≤ 9223372036854775807 ∧ n ≤ 1000000000 ∧ B ≤ p ∧ s = (if bad then none else some l)
section
variable {W W' : World} {p B : Nat} {s : RS}
theorem RowS.lt (h : RowS W p B s) : p < W.heap.size := by obtain ⟨A, n, c, l, bad, h1, _⟩ := h; exact h1.lt
theorem RowS.le (h : RowS W p B s) : B ≤ p := by obtain ⟨A, n, c, l, bad, _, _, _, _, _, h2, _⟩ := h; exact h2
theorem RowS.below (h : RowS W p B s) {C : Nat} (hb : Below C W W') (hp : p < C) : RowS W' p B s := by
  obtain ⟨A, n, c, l, bad, h1, h2, h3, h4, h5, h6, h7⟩ := h
  exact ⟨A, n, c, l, bad, h1.below hb hp, h2.to hb (by omega), h3, h4, h5, h6, h7⟩
theorem RowS.go (h : RowS W p B s) (hb : Below W.heap.size W W') : RowS W' p B s := h.below hb h.lt
theorem RowS.alloc (h : RowS W p B s) (ob : Obj) : RowS (W.alloc ob) p B s := h.go ((Below.refl _ _).alloc (Nat.le_refl _) ob)
theorem RowS.drewN (h : RowS W p B s) (k : Nat) : RowS (W.drewN k) p B s := by
  obtain ⟨A, n, c, l, bad, h1, h2, h3⟩ := h
  exact ⟨A, n, c, l, bad, h1.drewN k, h2.drewN k, h3⟩
theorem RowS.grown (h : RowS W p B s) {g : Option Nat} (hg : W.grownBy W' g) (h1 : g ≠ some p) (h2 : ∀ k, g = some k → B ≤ k) : RowS W' p B s := by
  obtain ⟨A, n, c, l, bad, q1, q2, q3⟩ := h
  have hl := q1.lt
  have hB : B ≤ W.heap.size := by have := q3.2.2.2.1; omega
  exact ⟨A, n, c, l, bad, q1.grown hg (fun e => h1 e.symm), q2.below (Below.grown (Below.refl B W) hg hB h2), q3⟩
end
theorem RowS.mk' {W : World} {p B : Nat} {A : Option Addr} {n c : Nat} {l : List UInt8} {bad : Bool} {s : RS} (h1 : Box W p (rowC A n c bad)) (h2 : RdB W B A n l) (h3 : n ≤ c) (h4 : c ≤ 9223372036854775807) (h5 : n ≤ 1000000000) (h6 : B ≤ p) (h7 : s = (if bad then none else some l)) : RowS W p B s := ⟨A, n, c, l, bad, h1, h2, h3, h4, h5, h6, h7⟩
theorem RdB.setO {W : World} {B n p : Nat} {A : Option Addr} {l : List UInt8} (h : RdB W B A n l) (hB : B ≤ p) (k : Nat) (u : Value) : RdB (W.setCell ⟨p, k, none⟩ u) B A n l :=
  h.below ((Below.refl B W).setCell hB u)
theorem set_gb (W : World) (p k : Nat) (u : Value) : W.grownBy (W.setCell ⟨p, k, none⟩ u) (some p) :=
  ⟨rfl, rfl, rfl, by simp [World.setCell], fun i hi hne => Below.heap_setCell W ⟨p, k, none⟩ u i (fun e => hne (by rw [e]))⟩
theorem Rd.dropTo {w : World} {B n : Nat} {A : Option Addr} {l : List UInt8} (h : RdB w B A n l) {z c : Nat} (hz : z ≤ n) (hc : n ≤ c) : RdB w B (if c = z then A else Option.map (fun x => x.add z) A) (n - z) (l.drop z) := by
  have h1 := RdB.piece h (z := z) (b := n) (c := c) hz (Nat.le_refl _) hc
  have := h.len
  rwa [List.take_of_length_le (by rw [List.length_drop]; omega)] at h1
theorem varO_some {l : List UInt8} {n k : Nat} (h : varG l = some (n, k)) : varO (some l) = (n, some (l.drop k)) := by simp [varO, h]
theorem varO_bad {l : List UInt8} (h : varG l = none) : varO (some l) = (0, none) := by simp [varO, h]
theorem numD_bad {m : Nat} {l : List UInt8} (h : varG l = none) : numD m (if false = true then none else some l) = (0, none) := by
  rw [if_neg Bool.false_ne_true]; unfold numD; rw [varO_bad h]; split <;> rfl
theorem numD_ok {m n k : Nat} {l : List UInt8} (h : varG l = some (n, k)) (hn : n ≤ m) : numD m (if false = true then none else some l) = (n, some (l.drop k)) := by
  rw [if_neg Bool.false_ne_true]; unfold numD; rw [varO_some h]; exact if_pos hn
theorem numD_big {m n k : Nat} {l : List UInt8} (h : varG l = some (n, k)) (hn : ¬ n ≤ m) : numD m (if false = true then none else some l) = (0, none) := by
  rw [if_neg Bool.false_ne_true]; unfold numD; rw [varO_some h]; exact if_neg hn
theorem numD_none' {m : Nat} {l : List UInt8} : numD m (if true = true then none else some l) = (0, none) := by rw [if_pos rfl, numD_none]
/-- what a reading of a number answers -/
def NumQP (W : World) (p B : Nat) (r : Nat × RS) (e : Ending) (W' : World) : Prop := e = .returned (.int .i64 (r.1 : Nat)) ∧ RowS W' p B r.2 ∧ W.grownBy W' (some p)
def BytsP (W : World) (p B : Nat) (r : List UInt8 × RS) (e : Ending) (W' : World) : Prop := ∃ A c, e = .returned (.slice A r.1.length c) ∧ W'.ownsRow W.heap.size 5 1 (.slice A r.1.length c) r.1.length (r.1.map bv) ∧ RowS W' p B r.2 ∧ W.grownBy W' (some p)
set_option maxRecDepth 100000 in
set_option maxHeartbeats 4000000 in
theorem rowNum_any (p B : Nat) (s : RS) (W : World) (h : RowS W p B s) :
    Calls Tryz.prog 54 #[.pointer (some ⟨p, 0, none⟩)] W (NumQP W p B (numD 1152921504606846976 s)) := by
  obtain ⟨A, n, c, l, bad, q1, q2, q3, q4, q5, q6, rfl⟩ := h
  obtain ⟨f1, f2, f3, f4⟩ := q1.facts
  have hl := q1.lt
  have HB := Lib.hid q1
  have HR := Lib.hid q2
  have HP := Lib.hid q6
  have hlen := q2.len
  have HL := Lib.hid hlen
  have G := Lib.hid (refVarGet_any A n c l W (q2.more (by omega)) q5)
  clear q1 q2 q6 hlen
  cases bad
  · obtain ⟨v, hv⟩ : ∃ v, varG l = v := ⟨_, rfl⟩
    have HV := Lib.hid hv
    clear hv
    cases v with
    | none =>
      have HD := Lib.hid (show numD 1152921504606846976 (if false = true then none else some l) = (0, none) from numD_bad HV.out)
      rw [HD.out]
      clear HD
      go_enter Tryz.func54, Tryz.ntmps54
      go_wp2_with fail
      refine G.out.mono ?_
      rintro e w' ⟨⟨er, her, rfl⟩, rfl⟩
      rw [varR_none HV.out]
      have hne : (er != 0) = true := by rcases her with rfl | rfl <;> rfl
      go_wp2
      go_ret
      exact ⟨rfl, .mk' (HB.out.set_same 1 _) (HR.out.setO HP.out _ _) q3 q4 q5 HP.out rfl, set_gb _ _ _ _⟩
    | some x =>
      obtain ⟨m, k⟩ := x
      obtain ⟨b1, b2, b3, b4⟩ := varG_bd HV.out
      have hkn : k ≤ n := by have := HL.out; omega
      by_cases hm : m ≤ 1152921504606846976
      · have HD := Lib.hid (show numD 1152921504606846976 (if false = true then none else some l) = (m, some (l.drop k)) from numD_ok HV.out hm)
        rw [HD.out]
        have hng : decide ((1152921504606846976 : Int) < (m : Int)) = false := decide_eq_false (by omega)
        clear HD
        by_cases hck : c = k
        · subst hck
          have PC := Lib.hid (show RdB W B A 0 (l.drop c) by have := Rd.dropTo HR.out (z := c) hkn q3; rwa [if_pos rfl, show n - c = 0 by omega] at this)
          go_enter Tryz.func54, Tryz.ntmps54
          go_wp2_with fail
          refine G.out.mono ?_
          rintro e w' ⟨⟨er, her, rfl⟩, rfl⟩
          rw [varR_some HV.out]
          clear her
          go_wp2
          go_ret
          exact ⟨rfl, .mk' (HB.out.set_same 0 _) (PC.out.setO HP.out _ _) (by omega) (by omega) (by omega) HP.out rfl, set_gb _ _ _ _⟩
        · have PC := Lib.hid (show RdB W B (Option.map (fun x => x.add k) A) (n - k) (l.drop k) by have := Rd.dropTo HR.out (z := k) hkn q3; rwa [if_neg hck] at this)
          go_enter Tryz.func54, Tryz.ntmps54
          go_wp2_with fail
          refine G.out.mono ?_
          rintro e w' ⟨⟨er, her, rfl⟩, rfl⟩
          rw [varR_some HV.out]
          clear her
          go_wp2
          go_ret
          exact ⟨rfl, .mk' (HB.out.set_same 0 _) (PC.out.setO HP.out _ _) (by omega) (by omega) (by omega) HP.out rfl, set_gb _ _ _ _⟩
      · have HD := Lib.hid (show numD 1152921504606846976 (if false = true then none else some l) = (0, none) from numD_big HV.out hm)
        rw [HD.out]
        have hng : decide ((1152921504606846976 : Int) < (m : Int)) = true := decide_eq_true (by omega)
        clear HD
        go_enter Tryz.func54, Tryz.ntmps54
        go_wp2_with fail
        refine G.out.mono ?_
        rintro e w' ⟨⟨er, her, rfl⟩, rfl⟩
        rw [varR_some HV.out]
        clear her
        go_wp2
        go_ret
        exact ⟨rfl, .mk' (HB.out.set_same 1 _) (HR.out.setO HP.out _ _) q3 q4 q5 HP.out rfl, set_gb _ _ _ _⟩
  · have HD := Lib.hid (show numD 1152921504606846976 (if true = true then none else some l) = (0, none) from numD_none')
    rw [HD.out]
    clear HD
    obtain ⟨v, hv⟩ : ∃ v, varG l = v := ⟨_, rfl⟩
    have HV := Lib.hid hv
    clear hv
    cases v with
    | none =>
      go_enter Tryz.func54, Tryz.ntmps54
      go_wp2_with fail
      refine G.out.mono ?_
      rintro e w' ⟨⟨er, her, rfl⟩, rfl⟩
      rw [varR_none HV.out]
      clear her
      go_wp2
      go_ret
      exact ⟨rfl, .mk' (HB.out.set_same 1 _) (HR.out.setO HP.out _ _) q3 q4 q5 HP.out rfl, set_gb _ _ _ _⟩
    | some x =>
      obtain ⟨m, k⟩ := x
      go_enter Tryz.func54, Tryz.ntmps54
      go_wp2_with fail
      refine G.out.mono ?_
      rintro e w' ⟨⟨er, her, rfl⟩, rfl⟩
      rw [varR_some HV.out]
      clear her
      go_wp2
      go_ret
      exact ⟨rfl, .mk' (HB.out.set_same 1 _) (HR.out.setO HP.out _ _) q3 q4 q5 HP.out rfl, set_gb _ _ _ _⟩
end Go.Proofs.YtmpemeemlhmaaaaGreat

namespace Go.Proofs.YtmpemeemlhmaaaaGreat
open Go.RowKit Go.ChangeShapes Go.WideShapes Go.ChangeAt

set_option maxRecDepth 100000 in
set_option maxHeartbeats 4000000 in
theorem partNum_any (p B m0 : Nat) (s : RS) (W : World) (h : RowS W p B s) (hm0 : m0 ≤ 1152921504606846976) :
    Calls Tryz.prog 160 #[.pointer (some ⟨p, 0, none⟩), .int .u64 (m0 : Nat)] W (NumQP W p B (numD m0 s)) := by
  obtain ⟨A, n, c, l, bad, q1, q2, q3, q4, q5, q6, rfl⟩ := h
  obtain ⟨f1, f2, f3, f4⟩ := q1.facts
  have hl := q1.lt
  have HB := Lib.hid q1
  have HR := Lib.hid q2
  have HP := Lib.hid q6
  have hlen := q2.len
  have HL := Lib.hid hlen
  have G := Lib.hid (refVarGet_any A n c l W (q2.more (by omega)) q5)
  clear q1 q2 q6 hlen
  cases bad
  · obtain ⟨v, hv⟩ : ∃ v, varG l = v := ⟨_, rfl⟩
    have HV := Lib.hid hv
    clear hv
    cases v with
    | none =>
      have HD := Lib.hid (show numD m0 (if false = true then none else some l) = (0, none) from numD_bad HV.out)
      rw [HD.out]
      clear HD
      go_enter Tryz.func160, Tryz.ntmps160
      go_wp2_with fail
      refine G.out.mono ?_
      rintro e w' ⟨⟨er, her, rfl⟩, rfl⟩
      rw [varR_none HV.out]
      have hne : (er != 0) = true := by rcases her with rfl | rfl <;> rfl
      go_wp2
      go_ret
      exact ⟨rfl, .mk' (HB.out.set_same 1 _) (HR.out.setO HP.out _ _) q3 q4 q5 HP.out rfl, set_gb _ _ _ _⟩
    | some x =>
      obtain ⟨m, k⟩ := x
      obtain ⟨b1, b2, b3, b4⟩ := varG_bd HV.out
      have hkn : k ≤ n := by have := HL.out; omega
      by_cases hm : m ≤ m0
      · have HD := Lib.hid (show numD m0 (if false = true then none else some l) = (m, some (l.drop k)) from numD_ok HV.out hm)
        rw [HD.out]
        have hng : decide ((m0 : Int) < (m : Int)) = false := decide_eq_false (by omega)
        clear HD
        by_cases hck : c = k
        · subst hck
          have PC := Lib.hid (show RdB W B A 0 (l.drop c) by have := Rd.dropTo HR.out (z := c) hkn q3; rwa [if_pos rfl, show n - c = 0 by omega] at this)
          go_enter Tryz.func160, Tryz.ntmps160
          go_wp2_with fail
          refine G.out.mono ?_
          rintro e w' ⟨⟨er, her, rfl⟩, rfl⟩
          rw [varR_some HV.out]
          clear her
          go_wp2
          go_ret
          exact ⟨rfl, .mk' (HB.out.set_same 0 _) (PC.out.setO HP.out _ _) (by omega) (by omega) (by omega) HP.out rfl, set_gb _ _ _ _⟩
        · have PC := Lib.hid (show RdB W B (Option.map (fun x => x.add k) A) (n - k) (l.drop k) by have := Rd.dropTo HR.out (z := k) hkn q3; rwa [if_neg hck] at this)
          go_enter Tryz.func160, Tryz.ntmps160
          go_wp2_with fail
          refine G.out.mono ?_
          rintro e w' ⟨⟨er, her, rfl⟩, rfl⟩
          rw [varR_some HV.out]
          clear her
          go_wp2
          go_ret
          exact ⟨rfl, .mk' (HB.out.set_same 0 _) (PC.out.setO HP.out _ _) (by omega) (by omega) (by omega) HP.out rfl, set_gb _ _ _ _⟩
      · have HD := Lib.hid (show numD m0 (if false = true then none else some l) = (0, none) from numD_big HV.out hm)
        rw [HD.out]
        have hng : decide ((m0 : Int) < (m : Int)) = true := decide_eq_true (by omega)
        clear HD
        go_enter Tryz.func160, Tryz.ntmps160
        go_wp2_with fail
        refine G.out.mono ?_
        rintro e w' ⟨⟨er, her, rfl⟩, rfl⟩
        rw [varR_some HV.out]
        clear her
        go_wp2
        go_ret
        exact ⟨rfl, .mk' (HB.out.set_same 1 _) (HR.out.setO HP.out _ _) q3 q4 q5 HP.out rfl, set_gb _ _ _ _⟩
  · have HD := Lib.hid (show numD m0 (if true = true then none else some l) = (0, none) from numD_none')
    rw [HD.out]
    clear HD
    obtain ⟨v, hv⟩ : ∃ v, varG l = v := ⟨_, rfl⟩
    have HV := Lib.hid hv
    clear hv
    cases v with
    | none =>
      go_enter Tryz.func160, Tryz.ntmps160
      go_wp2_with fail
      refine G.out.mono ?_
      rintro e w' ⟨⟨er, her, rfl⟩, rfl⟩
      rw [varR_none HV.out]
      clear her
      go_wp2
      go_ret
      exact ⟨rfl, .mk' (HB.out.set_same 1 _) (HR.out.setO HP.out _ _) q3 q4 q5 HP.out rfl, set_gb _ _ _ _⟩
    | some x =>
      obtain ⟨m, k⟩ := x
      go_enter Tryz.func160, Tryz.ntmps160
      go_wp2_with fail
      refine G.out.mono ?_
      rintro e w' ⟨⟨er, her, rfl⟩, rfl⟩
      rw [varR_some HV.out]
      clear her
      go_wp2
      go_ret
      exact ⟨rfl, .mk' (HB.out.set_same 1 _) (HR.out.setO HP.out _ _) q3 q4 q5 HP.out rfl, set_gb _ _ _ _⟩
/-- bytes that are answered are the call's own -/
def BytQ (W : World) (p B : Nat) (r : List UInt8 × RS) (e : Ending) (W' : World) : Prop := ∃ A n c, e = .returned (.slice A n c) ∧ n = r.1.length ∧ W'.ownsRow W.heap.size 5 1 (.slice A n c) n (r.1.map bv) ∧ RowS W' p B r.2 ∧ W.grownBy W' (some p)
theorem takeD_ok {k : Nat} {l : List UInt8} (h : k ≤ l.length) : takeD k (if false = true then none else some l) = (l.take k, some (l.drop k)) := by
  rw [if_neg Bool.false_ne_true]; unfold takeD; rw [takeO_ok h]; rfl
theorem takeD_no {k : Nat} {l : List UInt8} (h : ¬ k ≤ l.length) : takeD k (if false = true then none else some l) = (List.replicate k 0, none) := by
  rw [if_neg Bool.false_ne_true]; unfold takeD; rw [takeO_no h]; rfl
theorem takeD_bad {k : Nat} {l : List UInt8} : takeD k (if true = true then none else some l) = (List.replicate k 0, none) := by rw [if_pos rfl, takeD_none]
theorem zeros_own (n : Nat) (hn : n ≤ 16777216) (W : World) : (W.alloc (.cells (zerosC n) 5)).ownsRow W.heap.size 5 1 (.slice (some ⟨W.heap.size, 0, none⟩) n n) n ((List.replicate n (0 : UInt8)).map bv) := by
  have h : (List.replicate n (0 : UInt8)).map bv = (zerosC n).toList := rfl
  rw [h]
  exact World.ownsRow_lit W (zerosC n) n (Nat.le_refl _) (by unfold maxLen; omega) (by rw [zerosC_size, Nat.mul_one])
theorem zeros_own_set (n : Nat) (hn : n ≤ 16777216) (W : World) (q : Addr) (u : Value) : ((W.setCell q u).alloc (.cells (zerosC n) 5)).ownsRow W.heap.size 5 1 (.slice (some ⟨W.heap.size, 0, none⟩) n n) n ((List.replicate n (0 : UInt8)).map bv) := by
  have h := zeros_own n hn (W.setCell q u)
  rwa [show (W.setCell q u).heap.size = W.heap.size by simp [World.setCell]] at h
set_option maxRecDepth 100000 in
set_option maxHeartbeats 4000000 in
theorem rowTake_any (p B k : Nat) (s : RS) (W : World) (h : RowS W p B s) (hk : k ≤ 1000000) :
    Calls Tryz.prog 58 #[.pointer (some ⟨p, 0, none⟩), .int .i64 (k : Nat)] W (BytQ W p B (takeD k s)) := by
  obtain ⟨A, n, c, l, bad, q1, q2, q3, q4, q5, q6, rfl⟩ := h
  obtain ⟨f1, f2, f3, f4⟩ := q1.facts
  have hl := q1.lt
  have HB := Lib.hid q1
  have HR := Lib.hid q2
  have HP := Lib.hid q6
  have hlen := q2.len
  have HL := Lib.hid hlen
  have ZR := Lib.hid (run_zeros k (by omega))
  have ZO := Lib.hid (fun q u => zeros_own_set k (by omega) W q u)
  clear q1 q2 q6 hlen
  cases bad
  · by_cases hkn : k ≤ n
    · have HD := Lib.hid (takeD_ok (k := k) (l := l) (by have := HL.out; omega))
      have hlt : decide ((n : Int) < (k : Int)) = false := decide_eq_false (by omega)
      rw [HD.out]
      have PR := Lib.hid (show RdB W B A k (l.take k) from HR.out.upto hkn)
      have L0 := Lib.hid ((Ly.lit0 W).add (HB.out.alloc (.cells #[] 5)) (fun e => by have h2 : some W.heap.size = some p := e; injection h2 with h2; omega))
      have R7 := Lib.hid ((PR.out.more (show B ≤ W.heap.size by have := HP.out; omega)).go ((Below.refl W.heap.size W).alloc (Nat.le_refl _) (.cells #[] 5)))
      have HL1 := Lib.hid (show ([] : List UInt8).length + k ≤ 1000000000 by simp; omega)
      have hzb : B ≤ W.heap.size := by have := HP.out; omega
      have HTK := Lib.hid (show k = (l.take k).length by rw [List.length_take, HL.out]; omega)
      clear HD ZR ZO
      by_cases hck : c = k
      · subst hck
        have PC := Lib.hid (show RdB W B A 0 (l.drop c) by have := Rd.dropTo HR.out (z := c) hkn q3; rwa [if_pos rfl, show n - c = 0 by omega] at this)
        go_enter Tryz.func58, Tryz.ntmps58
        go_wp2_with (at_builtin; refine wpList_ow rfl (.tmp 24) (.tmp 30) rfl rfl L0.out.o rfl R7.out HL1.out ?_; intro A7 n7 c7 w7 h2 h3; have L7 := Lib.hid (L0.out.step (by exact h3)); have hs7 := L7.out.o.bel.size; obtain ⟨g1, g2, g3, g4⟩ := L7.out.b0.facts; have hl7 := L7.out.b0.lt; clear h2 h3)
        go_ret
        exact ⟨_, _, _, rfl, by have := L7.out.len; rw [List.nil_append] at this; exact this, by have h := own_set_ne L7.out.o.own (p := ⟨p, 0, none⟩) (L7.out.bx (p, rowC A n c false) (by simp)).2 (.slice A 0 0); rw [List.nil_append] at h; rw [HTK.out.symm] at h; have hn7 := L7.out.len; rw [List.nil_append, ← HTK.out] at hn7; subst hn7; exact h, .mk' (L7.out.b0.set_same 0 _) ((PC.out.to L7.out.o.bel hzb).setO HP.out _ _) (by omega) (by omega) (by omega) HP.out rfl, gb_trans (gb_of_below L7.out.o.bel _) (set_gb _ _ _ _)⟩
      · have PC := Lib.hid (show RdB W B (Option.map (fun x => x.add k) A) (n - k) (l.drop k) by have := Rd.dropTo HR.out (z := k) hkn q3; rwa [if_neg hck] at this)
        have HCK := Lib.hid hck
        go_enter Tryz.func58, Tryz.ntmps58
        go_wp2_with (at_builtin; refine wpList_ow rfl (.tmp 24) (.tmp 30) rfl rfl L0.out.o rfl R7.out HL1.out ?_; intro A7 n7 c7 w7 h2 h3; have L7 := Lib.hid (L0.out.step (by exact h3)); have hs7 := L7.out.o.bel.size; obtain ⟨g1, g2, g3, g4⟩ := L7.out.b0.facts; have hl7 := L7.out.b0.lt; clear h2 h3)
        go_ret
        exact ⟨_, _, _, rfl, by have := L7.out.len; rw [List.nil_append] at this; exact this, by have h := own_set_ne L7.out.o.own (p := ⟨p, 0, none⟩) (L7.out.bx (p, rowC A n c false) (by simp)).2 (.slice (Option.map (fun x => x.add k) A) (n - k) (c - k)); rw [List.nil_append] at h; rw [HTK.out.symm] at h; have hn7 := L7.out.len; rw [List.nil_append, ← HTK.out] at hn7; subst hn7; exact h, .mk' (L7.out.b0.set_same 0 _) ((PC.out.to L7.out.o.bel hzb).setO HP.out _ _) (by omega) (by omega) (by omega) HP.out rfl, gb_trans (gb_of_below L7.out.o.bel _) (set_gb _ _ _ _)⟩
    · have HD := Lib.hid (takeD_no (k := k) (l := l) (by have := HL.out; omega))
      have hlt : decide ((n : Int) < (k : Int)) = true := decide_eq_true (by omega)
      rw [HD.out]
      have zr := ZR.out
      clear HD ZR
      go_enter Tryz.func58, Tryz.ntmps58
      go_wp2
      go_ret
      exact ⟨_, _, _, rfl, by simp, ZO.out _ _, RowS.alloc (.mk' (HB.out.set_same 1 _) (HR.out.setO HP.out _ _) q3 q4 q5 HP.out rfl) _, gb_trans (set_gb _ _ _ _) (gb_of_below ((Below.refl _ _).alloc (Nat.le_refl _) _) _)⟩
  · have HD := Lib.hid (takeD_bad (k := k) (l := l))
    rw [HD.out]
    have zr := ZR.out
    clear HD ZR
    go_enter Tryz.func58, Tryz.ntmps58
    go_wp2
    go_ret
    exact ⟨_, _, _, rfl, by simp, ZO.out _ _, RowS.alloc (.mk' (HB.out.set_same 1 _) (HR.out.setO HP.out _ _) q3 q4 q5 HP.out rfl) _, gb_trans (set_gb _ _ _ _) (gb_of_below ((Below.refl _ _).alloc (Nat.le_refl _) _) _)⟩
set_option maxRecDepth 100000 in
set_option maxHeartbeats 4000000 in
theorem partTake_any (p B k : Nat) (s : RS) (W : World) (h : RowS W p B s) (hk : k ≤ 1000000) :
    Calls Tryz.prog 138 #[.pointer (some ⟨p, 0, none⟩), .int .i64 (k : Nat)] W (BytQ W p B (takeD k s)) := by
  obtain ⟨A, n, c, l, bad, q1, q2, q3, q4, q5, q6, rfl⟩ := h
  obtain ⟨f1, f2, f3, f4⟩ := q1.facts
  have hl := q1.lt
  have HB := Lib.hid q1
  have HR := Lib.hid q2
  have HP := Lib.hid q6
  have hlen := q2.len
  have HL := Lib.hid hlen
  have ZR := Lib.hid (run_zeros k (by omega))
  have ZO := Lib.hid (fun q u => zeros_own_set k (by omega) W q u)
  clear q1 q2 q6 hlen
  cases bad
  · by_cases hkn : k ≤ n
    · have HD := Lib.hid (takeD_ok (k := k) (l := l) (by have := HL.out; omega))
      have hlt : decide ((n : Int) < (k : Int)) = false := decide_eq_false (by omega)
      rw [HD.out]
      have PR := Lib.hid (show RdB W B A k (l.take k) from HR.out.upto hkn)
      have L0 := Lib.hid ((Ly.lit0 W).add (HB.out.alloc (.cells #[] 5)) (fun e => by have h2 : some W.heap.size = some p := e; injection h2 with h2; omega))
      have R7 := Lib.hid ((PR.out.more (show B ≤ W.heap.size by have := HP.out; omega)).go ((Below.refl W.heap.size W).alloc (Nat.le_refl _) (.cells #[] 5)))
      have HL1 := Lib.hid (show ([] : List UInt8).length + k ≤ 1000000000 by simp; omega)
      have hzb : B ≤ W.heap.size := by have := HP.out; omega
      have HTK := Lib.hid (show k = (l.take k).length by rw [List.length_take, HL.out]; omega)
      clear HD ZR ZO
      by_cases hck : c = k
      · subst hck
        have PC := Lib.hid (show RdB W B A 0 (l.drop c) by have := Rd.dropTo HR.out (z := c) hkn q3; rwa [if_pos rfl, show n - c = 0 by omega] at this)
        go_enter Tryz.func138, Tryz.ntmps138
        go_wp2_with (at_builtin; refine wpList_ow rfl (.tmp 24) (.tmp 30) rfl rfl L0.out.o rfl R7.out HL1.out ?_; intro A7 n7 c7 w7 h2 h3; have L7 := Lib.hid (L0.out.step (by exact h3)); have hs7 := L7.out.o.bel.size; obtain ⟨g1, g2, g3, g4⟩ := L7.out.b0.facts; have hl7 := L7.out.b0.lt; clear h2 h3)
        go_ret
        exact ⟨_, _, _, rfl, by have := L7.out.len; rw [List.nil_append] at this; exact this, by have h := own_set_ne L7.out.o.own (p := ⟨p, 0, none⟩) (L7.out.bx (p, rowC A n c false) (by simp)).2 (.slice A 0 0); rw [List.nil_append] at h; rw [HTK.out.symm] at h; have hn7 := L7.out.len; rw [List.nil_append, ← HTK.out] at hn7; subst hn7; exact h, .mk' (L7.out.b0.set_same 0 _) ((PC.out.to L7.out.o.bel hzb).setO HP.out _ _) (by omega) (by omega) (by omega) HP.out rfl, gb_trans (gb_of_below L7.out.o.bel _) (set_gb _ _ _ _)⟩
      · have PC := Lib.hid (show RdB W B (Option.map (fun x => x.add k) A) (n - k) (l.drop k) by have := Rd.dropTo HR.out (z := k) hkn q3; rwa [if_neg hck] at this)
        have HCK := Lib.hid hck
        go_enter Tryz.func138, Tryz.ntmps138
        go_wp2_with (at_builtin; refine wpList_ow rfl (.tmp 24) (.tmp 30) rfl rfl L0.out.o rfl R7.out HL1.out ?_; intro A7 n7 c7 w7 h2 h3; have L7 := Lib.hid (L0.out.step (by exact h3)); have hs7 := L7.out.o.bel.size; obtain ⟨g1, g2, g3, g4⟩ := L7.out.b0.facts; have hl7 := L7.out.b0.lt; clear h2 h3)
        go_ret
        exact ⟨_, _, _, rfl, by have := L7.out.len; rw [List.nil_append] at this; exact this, by have h := own_set_ne L7.out.o.own (p := ⟨p, 0, none⟩) (L7.out.bx (p, rowC A n c false) (by simp)).2 (.slice (Option.map (fun x => x.add k) A) (n - k) (c - k)); rw [List.nil_append] at h; rw [HTK.out.symm] at h; have hn7 := L7.out.len; rw [List.nil_append, ← HTK.out] at hn7; subst hn7; exact h, .mk' (L7.out.b0.set_same 0 _) ((PC.out.to L7.out.o.bel hzb).setO HP.out _ _) (by omega) (by omega) (by omega) HP.out rfl, gb_trans (gb_of_below L7.out.o.bel _) (set_gb _ _ _ _)⟩
    · have HD := Lib.hid (takeD_no (k := k) (l := l) (by have := HL.out; omega))
      have hlt : decide ((n : Int) < (k : Int)) = true := decide_eq_true (by omega)
      rw [HD.out]
      have zr := ZR.out
      clear HD ZR
      go_enter Tryz.func138, Tryz.ntmps138
      go_wp2
      go_ret
      exact ⟨_, _, _, rfl, by simp, ZO.out _ _, RowS.alloc (.mk' (HB.out.set_same 1 _) (HR.out.setO HP.out _ _) q3 q4 q5 HP.out rfl) _, gb_trans (set_gb _ _ _ _) (gb_of_below ((Below.refl _ _).alloc (Nat.le_refl _) _) _)⟩
  · have HD := Lib.hid (takeD_bad (k := k) (l := l))
    rw [HD.out]
    have zr := ZR.out
    clear HD ZR
    go_enter Tryz.func138, Tryz.ntmps138
    go_wp2
    go_ret
    exact ⟨_, _, _, rfl, by simp, ZO.out _ _, RowS.alloc (.mk' (HB.out.set_same 1 _) (HR.out.setO HP.out _ _) q3 q4 q5 HP.out rfl) _, gb_trans (set_gb _ _ _ _) (gb_of_below ((Below.refl _ _).alloc (Nat.le_refl _) _) _)⟩
end Go.Proofs.YtmpemeemlhmaaaaGreat
