/- What was laid is read as it was; what is read was laid just so (plain). -/
import Derived.Test.YtmpemeemlhmaaaaGreatQ17
import Derived.Test.YtmpemeemlhmaaaaGreatQ19
set_option linter.unusedSimpArgs false
set_option linter.unusedVariables false
set_option maxRecDepth 100000
namespace Go.Proofs.YtmpemeemlhmaaaaGreat

/-! ### numbers and bytes -/
theorem put_bigNum (l : List UInt8) : numPut (bigNum l) l.length true = l := by
  simp [numPut, lowPut_snoc_big]
theorem bigNum_len (l : List UInt8) (k : Nat) (h : l.length = k) : numPut (bigNum l) k true = l := by rw [← h]; exact put_bigNum l
theorem numPut_inj2 {n m k : Nat} (hn : n < 2 ^ (8 * k)) (hm : m < 2 ^ (8 * k)) (h : numPut n k true = numPut m k true) : n = m := by
  have h1 : lowPut n k = lowPut m k := by
    have := congrArg List.reverse h
    simpa [numPut] using this
  have h2 : ∀ i, i < k → lowB n i = lowB m i := fun i hi => by
    have := congrArg (fun l : List UInt8 => l[i]?) h1
    simpa [lowPut, hi] using this
  have h3 := lowB_ext k h2
  rw [Nat.mod_eq_of_lt hn, Nat.mod_eq_of_lt hm] at h3
  exact h3
theorem bigNum_lt2 (l : List UInt8) : bigNum l < 2 ^ (8 * l.length) := by
  have := bigNum_lt l
  rw [Nat.pow_mul]
  exact this
theorem bigNum_put {n k : Nat} (hn : n < 2 ^ (8 * k)) : bigNum (numPut n k true) = n := by
  have hl : (numPut n k true).length = k := numPut_len _ _ _
  have h := bigNum_len (numPut n k true) k hl
  have h2 := bigNum_lt2 (numPut n k true)
  rw [hl] at h2
  exact numPut_inj2 h2 hn h
/-! ### the parts of a reading -/
theorem takeO_fwd (l t : List UInt8) (k : Nat) (h : l.length = k) : takeO k (some (l ++ t)) = (l, some t) := by
  subst h; simp [takeO]
theorem takeO_inv {k : Nat} {s : RS} {l t : List UInt8} (h : takeO k s = (l, some t)) : s = some (l ++ t) ∧ l.length = k := by
  cases s with
  | none => simp [takeO] at h
  | some b =>
    unfold takeO at h
    simp only at h
    split at h
    · rename_i hk
      injection h with h1 h2
      injection h2 with h2
      subst h1 h2
      exact ⟨by rw [List.take_append_drop], by rw [List.length_take]; omega⟩
    · injection h with h1 h2; cases h2
theorem varO_fwd (n : Nat) (t : List UInt8) (hn : n < 18446744073709551616) : varO (some (varB n ++ t)) = (n, some t) := by
  simp [varO, varG_put n t hn]
theorem varO_inv {s : RS} {n : Nat} {t : List UInt8} (h : varO s = (n, some t)) : s = some (varB n ++ t) ∧ n < 18446744073709551616 := by
  cases s with
  | none => simp [varO] at h
  | some b =>
    unfold varO at h
    simp only at h
    split at h
    · rename_i m k hv
      injection h with h1 h2
      injection h2 with h2
      subst h1 h2
      exact ⟨by rw [← varG_inv hv, List.take_append_drop], (varG_bd hv).2.2.2⟩
    · injection h with h1 h2; cases h2
theorem numO_fwd (n : Nat) (t : List UInt8) (hn : n ≤ 1152921504606846976) : numO (some (varB n ++ t)) = (n, some t) := by
  unfold numO
  rw [varO_fwd n t (by omega)]
  simp only [Prod.mk.injEq, and_true]
  omega
theorem numO_inv {s : RS} {n : Nat} {t : List UInt8} (h : numO s = (n, some t)) (hn : n ≤ 1152921504606846976) : s = some (varB n ++ t) := by
  unfold numO at h
  injection h with h1 h2
  have h3 : varO s = ((varO s).1, some t) := by rw [← h2]
  have h4 := (varO_inv h3).1
  rw [show (varO s).1 = n by omega] at h4
  exact h4
theorem textO_fwd (m : Nat) (x t : List UInt8) (h : x.length ≤ m) (hm : m ≤ 1152921504606846976) : textO m (some (textB x ++ t)) = (x, some t) := by
  unfold textO textB
  rw [List.append_assoc]
  simp only [varG_put x.length (x ++ t) (by omega)]
  rw [if_pos h, show List.drop (varB x.length).length (varB x.length ++ (x ++ t)) = x ++ t by simp]
  exact takeO_fwd x t _ rfl
theorem textO_inv {m : Nat} {s : RS} {x t : List UInt8} (h : textO m s = (x, some t)) : s = some (textB x ++ t) ∧ x.length ≤ m := by
  cases s with
  | none => simp [textO] at h
  | some b =>
    unfold textO at h
    simp only at h
    split at h
    · rename_i n k hv
      split at h
      · rename_i hn
        obtain ⟨h1, h2⟩ := takeO_inv h
        injection h1 with h1
        refine ⟨?_, by omega⟩
        unfold textB
        rw [h2, ← varG_inv hv, List.append_assoc, ← h1, List.take_append_drop]
      · injection h with h1 h2; cases h2
    · injection h with h1 h2; cases h2
theorem numB_fwd (n k : Nat) (t : List UInt8) (hn : n < 2 ^ (8 * k)) : numB k (some (numPut n k true ++ t)) = (n, some t) := by
  unfold numB
  rw [takeO_fwd (numPut n k true) t k (numPut_len _ _ _)]
  simp only [bigNum_put hn]
theorem numB_inv {k n : Nat} {s : RS} {t : List UInt8} (h : numB k s = (n, some t)) : s = some (numPut n k true ++ t) ∧ n < 2 ^ (8 * k) := by
  unfold numB at h
  injection h with h1 h2
  have h3 : takeO k s = ((takeO k s).1, some t) := by rw [← h2]
  obtain ⟨h4, h5⟩ := takeO_inv h3
  refine ⟨?_, ?_⟩
  · rw [← h1, bigNum_len _ k h5]; exact h4
  · have := bigNum_lt2 (takeO k s).1
    rw [h5] at this
    rw [← h1]; exact this
theorem numPut1 (n : Nat) (hn : n < 256) : numPut n 1 true = [UInt8.ofNat n] := by
  simp [numPut, lowPut, lowB]
theorem flag_put (b : Bool) : flagB b = numPut (if b then 1 else 0) 1 true := by cases b <;> decide
theorem vecO_fwd {n : Nat} (v : Vector UInt8 n) : vecO n v.toList = v := by
  apply Vector.ext
  intro i hi
  simp [vecO, hi]
theorem vecO_inv {n : Nat} (l : List UInt8) (h : l.length = n) : (vecO n l).toList = l := by
  apply List.ext_getElem
  · simp [h]
  · intro i h1 h2
    simp [vecO, h2]
/-- a reading, and the laying that it undoes -/
structure Cdc {α : Type} (one : RS → (α × Bool) × RS) (lay : α → List UInt8) (ok : α → Prop) : Prop where
  fwd : ∀ x t, ok x → one (some (lay x ++ t)) = ((x, true), some t)
  inv : ∀ s x t, one s = ((x, true), some t) → ok x → s = some (lay x ++ t)
theorem listGo_fwd {α : Type} {one : RS → (α × Bool) × RS} {lay : α → List UInt8} {ok : α → Prop} (h : Cdc one lay ok) (t : List UInt8) : ∀ l : List α, (∀ x ∈ l, ok x) → listGo one l.length (some (l.flatMap lay ++ t)) = (some l, some t)
  | [], _ => rfl
  | x :: l, hl => by
    have h1 := h.fwd x (l.flatMap lay ++ t) (hl x (by simp))
    have h2 := listGo_fwd h t l (fun y hy => hl y (by simp [hy]))
    rw [List.flatMap_cons, List.append_assoc, List.length_cons]
    simp [listGo, h1, h2]
theorem listGo_inv {α : Type} {one : RS → (α × Bool) × RS} {lay : α → List UInt8} {ok : α → Prop} (h : Cdc one lay ok) (t : List UInt8) : ∀ (k : Nat) (s : RS) (l : List α), listGo one k s = (some l, some t) → (∀ x ∈ l, ok x) → s = some (l.flatMap lay ++ t) ∧ l.length = k
  | 0, s, l, e, _ => by
    simp only [listGo, Prod.mk.injEq, Option.some.injEq] at e
    obtain ⟨rfl, rfl⟩ := e
    simp
  | k + 1, s, l, e, hl => by
    unfold listGo at e
    simp only at e
    split at e
    · rename_i hc
      simp only [Bool.and_eq_true] at hc
      split at e
      · rename_i l2 t2 hg
        simp only [Prod.mk.injEq, Option.some.injEq] at e
        obtain ⟨rfl, rfl⟩ := e
        obtain ⟨h1, h2⟩ := listGo_inv h t k _ l2 hg (fun y hy => hl y (by simp [hy]))
        have h3 := h.inv s (one s).1.1 (l2.flatMap lay ++ t) (by
          rw [← h1, show (((one s).1.1, true) : α × Bool) = (one s).1 from Prod.ext rfl hc.1.symm]) (hl _ (by simp))
        exact ⟨h3.trans (by rw [List.flatMap_cons, List.append_assoc]), by simp [h2]⟩
      · injection e with e1 e2; cases e1
    · injection e with e1 e2; cases e1
theorem listO_fwd {α : Type} {one : RS → (α × Bool) × RS} {lay : α → List UInt8} {ok : α → Prop} (h : Cdc one lay ok) (most : Nat) (hm : most ≤ 1152921504606846976) (t : List UInt8) (l : List α) (hl : ∀ x ∈ l, ok x) (hn : l.length ≤ most) :
    listO one most (some (varB l.length ++ (l.flatMap lay ++ t))) = (some l, some t) := by
  unfold listO
  rw [numO_fwd l.length _ (by omega)]
  simp only [hn, if_pos]
  exact listGo_fwd h t l hl
theorem listGo_none {α : Type} {one : RS → (α × Bool) × RS} (hn : ∀ s, s = none → (one s).2 = none) : ∀ (k : Nat), (listGo one k none).2 = none
  | 0 => rfl
  | k + 1 => by
    unfold listGo
    simp [hn none rfl]
theorem listO_inv {α : Type} {one : RS → (α × Bool) × RS} {lay : α → List UInt8} {ok : α → Prop} (h : Cdc one lay ok) (most : Nat) (hm : most ≤ 1152921504606846976) (t : List UInt8) (s : RS) (l : List α) (e : listO one most s = (some l, some t)) (hl : ∀ x ∈ l, ok x) :
    s = some (varB l.length ++ (l.flatMap lay ++ t)) ∧ l.length ≤ most := by
  unfold listO at e
  split at e
  · rename_i hc
    obtain ⟨h1, h2⟩ := listGo_inv h t _ _ l e hl
    have h3 : numO s = (l.length, some (l.flatMap lay ++ t)) := by rw [← h1, h2]
    exact ⟨numO_inv h3 (by omega), by omega⟩
  · injection e with e1 e2; cases e1
end Go.Proofs.YtmpemeemlhmaaaaGreat

namespace Go.Proofs.YtmpemeemlhmaaaaGreat

theorem pair_some {α : Type} {p : α × RS} {t : List UInt8} (h : p.2 = some t) : p = (p.1, some t) := Prod.ext rfl h
def layBk (x : Bk) : Prop := x.name.length ≤ 255 ∧ (0 ≤ x.port ∧ x.port ≤ 65535) ∧ x.w < 18446744073709551616 ∧ wBits x.w = x.w
theorem flag_back (b : Bool) : ((if b then 1 else 0 : Nat) == 1) = b := by cases b <;> rfl
theorem flag_put2 (n : Nat) (hn : n ≤ 1) : numPut n 1 true = flagB (n == 1) := by
  rcases (show n = 0 ∨ n = 1 by omega) with rfl | rfl <;> decide
theorem wBig {x : Nat} (h : x < 18446744073709551616) (hb : wBits x = x) : wGet (wPut x) = x ∧ wGetOk (wPut x) = true := by
  have h1 : bigNum (numPut x 8 true) = x := bigNum_put (k := 8) (by simpa using h)
  have hl : (numPut x 8 true).length = 8 := numPut_len _ _ _
  have h2 : wGetOk (wPut x) = true := by
    unfold wGetOk wPut
    rw [hb, List.take_of_length_le (by omega), h1, hl, hb]
    simp
  refine ⟨?_, h2⟩
  unfold wGet
  rw [h2]
  unfold wPut
  rw [hb, List.take_of_length_le (by omega), h1]
  rfl
theorem wBig_inv {l : List UInt8} (h : wGetOk l = true) : wPut (wGet l) = l ∧ wBits (wGet l) = wGet l := by
  have h' := h
  unfold wGetOk at h'
  simp only [Bool.and_eq_true, decide_eq_true_eq, beq_iff_eq] at h'
  obtain ⟨h8, hb⟩ := h'
  have e : l.take 8 = l := List.take_of_length_le (by omega)
  rw [e] at hb
  unfold wGet
  rw [h, if_pos rfl, e]
  refine ⟨?_, hb⟩
  unfold wPut
  rw [hb]
  exact bigNum_len l 8 h8
theorem cdc_bk : Cdc bkO bkB layBk where
  fwd := by
    intro x t ⟨h1, ⟨h2, h3⟩, h4, h5⟩
    obtain ⟨hw1, hw2⟩ := wBig h4 h5
    have e0 : bkB x ++ t = textB x.name ++ (numPut (if x.addr.six then 1 else 0) 1 true ++ (x.addr.b.toList ++ (numPut x.port.toNat 2 true ++ (x.mac.toList ++ (wPut x.w ++ (numPut (if x.drain then 1 else 0) 1 true ++ t)))))) := by
      simp [bkB, flag_put, List.append_assoc]
    have hf : ∀ b : Bool, (if b then 1 else 0 : Nat) < 2 ^ (8 * 1) := by intro b; cases b <;> decide
    rw [e0]
    unfold bkO
    simp only [textO_fwd 255 x.name _ h1 (by omega), numB_fwd _ 1 _ (hf _), takeO_fwd x.addr.b.toList _ 16 (by simp), numB_fwd x.port.toNat 2 _ (by omega), takeO_fwd x.mac.toList _ 6 (by simp), takeO_fwd (wPut x.w) _ 8 (wPut_len _), hw1, hw2, flag_back, vecO_fwd]
    have g : ∀ b : Bool, decide ((if b then 1 else 0 : Nat) ≤ 1) = true := by intro b; cases b <;> rfl
    simp only [g, Option.isSome_some, Bool.and_self, if_true]
    congr 2
    obtain ⟨n, a, p, m, w, d⟩ := x
    simp only at h2 h3 ⊢
    congr
    omega
  inv := by
    intro s x t h _
    unfold bkO at h
    simp only [Prod.mk.injEq] at h
    obtain ⟨h1, h2⟩ := h
    split at h1
    · rename_i hc
      simp only [Bool.and_eq_true, decide_eq_true_eq] at hc
      obtain ⟨⟨⟨c1, c2⟩, c3⟩, c4⟩ := hc
      injection h1 with h1 _
      obtain ⟨i7, _⟩ := numB_inv (pair_some h2)
      obtain ⟨i6, l6⟩ := takeO_inv (pair_some i7)
      obtain ⟨i5, l5⟩ := takeO_inv (pair_some i6)
      obtain ⟨i4, l4⟩ := numB_inv (pair_some i5)
      obtain ⟨i3, l3⟩ := takeO_inv (pair_some i4)
      obtain ⟨i2, _⟩ := numB_inv (pair_some i3)
      obtain ⟨i1, _⟩ := textO_inv (pair_some i2)
      rw [i1, ← h1]
      congr 1
      unfold bkB
      simp only [List.append_assoc, vecO_inv _ l3, vecO_inv _ l5, (wBig_inv c2).1, ← flag_put2 _ c1, ← flag_put2 _ c3, Int.toNat_natCast]
    · injection h1 with h1 h3
      cases h3
def layHl (x : Hl) : Prop := x.name.length ≤ 255 ∧ 0 ≤ x.run ∧ x.run ≤ 99
theorem varB_small (n : Nat) (h : n < 128) : varB n = numPut n 1 true := by
  rw [numPut1 n (by omega)]; exact varF_small 9 n h
theorem cdc_hl : Cdc hlO hlB layHl where
  fwd := by
    intro x t ⟨h1, h2, h3⟩
    have hf : ∀ b : Bool, (if b then 1 else 0 : Nat) < 2 ^ (8 * 1) := by intro b; cases b <;> decide
    have hf2 : ∀ b : Bool, (if b then 1 else 0 : Nat) < 128 := by intro b; cases b <;> decide
    have e0 : hlB x ++ t = textB x.name ++ (numPut (if x.down then 1 else 0) 1 true ++ (varB x.run.toNat ++ t)) := by
      simp [hlB, varB_small _ (hf2 _), List.append_assoc]
    rw [e0]
    unfold hlO
    have g : ∀ b : Bool, decide ((if b then 1 else 0 : Nat) ≤ 1) = true := by intro b; cases b <;> rfl
    simp only [textO_fwd 255 x.name _ h1 (by omega), numB_fwd _ 1 _ (hf _), numO_fwd x.run.toNat t (by omega), flag_back, g]
    congr 2
    obtain ⟨n, d, r⟩ := x
    simp only at h2 h3 ⊢
    congr
    omega
  inv := by
    intro s x t h hx
    unfold hlO at h
    simp only [Prod.mk.injEq, decide_eq_true_eq] at h
    obtain ⟨⟨h1, c⟩, h2⟩ := h
    have hr : ((numO (numB 1 (textO 255 s).2).2).1 : Int) = x.run := by rw [← h1]
    obtain ⟨_, _, hr2⟩ := hx
    have i3 := numO_inv (pair_some h2) (by omega)
    obtain ⟨i2, _⟩ := numB_inv (pair_some i3)
    obtain ⟨i1, _⟩ := textO_inv (pair_some i2)
    rw [i1, ← h1]
    congr 1
    unfold hlB
    have : ∀ n : Nat, n ≤ 1 → varB (if (n == 1) = true then 1 else 0) = numPut n 1 true := by
      intro n hn
      rcases (show n = 0 ∨ n = 1 by omega) with rfl | rfl <;> decide
    simp only [List.append_assoc, this _ c, Int.toNat_natCast]
def layTu (t : Tu) : Prop := t.src.six = t.dst.six ∧ (0 ≤ t.proto ∧ t.proto ≤ 255) ∧ (0 ≤ t.sport ∧ t.sport ≤ 65535) ∧ 0 ≤ t.dport ∧ t.dport ≤ 65535
theorem cdc_tu : Cdc tuO tuB layTu where
  fwd := by
    intro x t ⟨h0, ⟨h1, h2⟩, ⟨h3, h4⟩, h5, h6⟩
    have hf : ∀ b : Bool, (if b then 6 else 4 : Nat) < 2 ^ (8 * 1) := by intro b; cases b <;> decide
    have e0 : tuB x ++ t = numPut (if x.src.six then 6 else 4) 1 true ++ (x.src.b.toList ++ (x.dst.b.toList ++ (numPut x.proto.toNat 1 true ++ (numPut x.sport.toNat 2 true ++ (numPut x.dport.toNat 2 true ++ t))))) := by
      have : ∀ b : Bool, numPut (if b then 6 else 4) 1 true = [if b then 6 else 4] := by intro b; cases b <;> decide
      rw [numPut1 x.proto.toNat (by omega), this]
      simp [tuB, List.append_assoc]
    rw [e0]
    unfold tuO
    simp only [numB_fwd _ 1 _ (hf _), takeO_fwd x.src.b.toList _ 16 (by simp), takeO_fwd x.dst.b.toList _ 16 (by simp), numB_fwd x.proto.toNat 1 _ (by omega), numB_fwd x.sport.toNat 2 _ (by omega), numB_fwd x.dport.toNat 2 _ (by omega), vecO_fwd]
    have g : ∀ b : Bool, (((if b then 6 else 4 : Nat) == 6) = b) ∧ (b || ((if b then 6 else 4 : Nat) == 4)) = true := by intro b; cases b <;> decide
    simp only [(g _).1, (g _).2]
    congr 2
    obtain ⟨⟨a, b⟩, ⟨c, d⟩, p, q, r⟩ := x
    simp only at h0 h1 h2 h3 h4 h5 h6 ⊢
    subst h0
    congr <;> omega
  inv := by
    intro s x t h _
    unfold tuO at h
    simp only [Prod.mk.injEq] at h
    obtain ⟨⟨h1, c⟩, h2⟩ := h
    obtain ⟨i6, _⟩ := numB_inv (pair_some h2)
    obtain ⟨i5, _⟩ := numB_inv (pair_some i6)
    obtain ⟨i4, l4⟩ := numB_inv (pair_some i5)
    obtain ⟨i3, l3⟩ := takeO_inv (pair_some i4)
    obtain ⟨i2, l2⟩ := takeO_inv (pair_some i3)
    obtain ⟨i1, _⟩ := numB_inv (pair_some i2)
    rw [i1, ← h1]
    congr 1
    unfold tuB
    have : ∀ n : Nat, ((n == 6) || (n == 4)) = true → numPut n 1 true = [if (n == 6) = true then 6 else 4] := by
      intro n hn
      simp at hn
      rcases hn with rfl | rfl <;> decide
    rw [this _ c]
    have e4 : ∀ n : Nat, n < 2 ^ (8 * 1) → [UInt8.ofNat n] = numPut n 1 true := fun n hn => (numPut1 n (by omega)).symm
    simp only [List.append_assoc, vecO_inv _ l2, vecO_inv _ l3, Int.toNat_natCast, e4 _ l4]
def layFw (x : Fw) : Prop := layTu x.key ∧ x.name.length ≤ 255 ∧ (0 ≤ x.state ∧ x.state ≤ 1152921504606846976) ∧ (0 ≤ x.seen ∧ x.seen ≤ 1152921504606846976) ∧ 0 ≤ x.no ∧ x.no ≤ 1152921504606846976
theorem cdc_fw : Cdc fwO fwB layFw where
  fwd := by
    intro x t ⟨h0, h1, ⟨h2, h3⟩, ⟨h4, h5⟩, h6, h7⟩
    have e0 : fwB x ++ t = tuB x.key ++ (textB x.name ++ (varB x.state.toNat ++ (varB x.seen.toNat ++ (varB x.no.toNat ++ t)))) := by
      simp [fwB, List.append_assoc]
    rw [e0]
    unfold fwO
    simp only [cdc_tu.fwd x.key _ h0, textO_fwd 255 x.name _ h1 (by omega), numO_fwd x.state.toNat _ (by omega), numO_fwd x.seen.toNat _ (by omega), numO_fwd x.no.toNat _ (by omega)]
    congr 2
    obtain ⟨k, n, a, b, c⟩ := x
    simp only at h2 h3 h4 h5 h6 h7 ⊢
    congr <;> omega
  inv := by
    intro s x t h hx
    unfold fwO at h
    simp only [Prod.mk.injEq] at h
    obtain ⟨⟨h1, c⟩, h2⟩ := h
    obtain ⟨g0, g1, ⟨g2, g3⟩, ⟨g4, g5⟩, g6, g7⟩ := hx
    have k0 : (tuO s).1.1 = x.key := by rw [← h1]
    have k1 : ((numO (textO 255 (tuO s).2).2).1 : Int) = x.state := by rw [← h1]
    have k2 : ((numO (numO (textO 255 (tuO s).2).2).2).1 : Int) = x.seen := by rw [← h1]
    have k3 : ((numO (numO (numO (textO 255 (tuO s).2).2).2).2).1 : Int) = x.no := by rw [← h1]
    have i5 := numO_inv (pair_some h2) (by omega)
    have i4 := numO_inv (pair_some i5) (by omega)
    have i3 := numO_inv (pair_some i4) (by omega)
    obtain ⟨i2, _⟩ := textO_inv (pair_some i3)
    have i1 := cdc_tu.inv s x.key _ (by rw [← i2, ← k0]; exact Prod.ext (Prod.ext rfl c) rfl) g0
    rw [i1]
    congr 1
    unfold fwB
    have k4 : (textO 255 (tuO s).2).1 = x.name := by rw [← h1]
    rw [k4]
    simp only [List.append_assoc, ← k1, ← k2, ← k3, Int.toNat_natCast]
theorem cdc_name : Cdc nameO textB (fun x => x.length ≤ 255) where
  fwd := by
    intro x t h
    unfold nameO
    rw [textO_fwd 255 x t h (by omega)]
  inv := by
    intro s x t h _
    unfold nameO at h
    simp only [Prod.mk.injEq, and_true] at h
    obtain ⟨h1, h2⟩ := h
    have := (textO_inv (pair_some h2)).1
    rw [this, h1]
end Go.Proofs.YtmpemeemlhmaaaaGreat

namespace Go.Proofs.YtmpemeemlhmaaaaGreat

theorem endO_inv {s : RS} (h : (endO s).isSome = true) : s = some [] := by
  cases s with
  | none => simp [endO] at h
  | some l =>
    cases l with
    | nil => rfl
    | cons c l => simp [endO] at h
theorem endO_nil : endO (some []) = some [] := by simp [endO]
/-! ### eleven numbers -/
theorem cntO_fwd (t : List UInt8) : ∀ l : List Nat, (∀ n ∈ l, n ≤ 1152921504606846976) → cntO l.length (some (l.flatMap varB ++ t)) = (l, some t)
  | [], _ => rfl
  | n :: l, h => by
    rw [List.flatMap_cons, List.append_assoc, List.length_cons]
    simp only [cntO, numO_fwd n _ (h n (by simp)), cntO_fwd t l (fun m hm => h m (by simp [hm]))]
theorem cntO_inv (t : List UInt8) : ∀ (k : Nat) (s : RS) (l : List Nat), cntO k s = (l, some t) → (∀ n ∈ l, n ≤ 1152921504606846976) → s = some (l.flatMap varB ++ t)
  | 0, s, l, e, _ => by
    simp only [cntO, Prod.mk.injEq] at e
    obtain ⟨rfl, rfl⟩ := e
    simp
  | k + 1, s, l, e, h => by
    simp only [cntO, Prod.mk.injEq] at e
    obtain ⟨rfl, e2⟩ := e
    have h1 := cntO_inv t k _ _ (pair_some e2) (fun m hm => h m (by simp [hm]))
    have h2 := numO_inv (pair_some h1) (h _ (by simp))
    exact h2.trans (by rw [List.flatMap_cons, List.append_assoc])
def layNums (v : Vector Int 11) : Prop := ∀ z ∈ v.toList, 0 ≤ z ∧ z ≤ 1152921504606846976
theorem cntV_back (v : Vector Int 11) (h : layNums v) : cntV (v.toList.map Int.toNat) = v := by
  apply Vector.ext
  intro i hi
  have := h v[i] (by simp)
  simp [cntV, hi]
  omega
theorem cnt_flat (v : Vector Int 11) : v.toList.flatMap (fun n => varB n.toNat) = (v.toList.map Int.toNat).flatMap varB := by
  rw [List.flatMap_map]
theorem cntV_flat (l : List Nat) (h : l.length = 11) : (cntV l).toList.map Int.toNat = l := by
  apply List.ext_getElem
  · simp [h]
  · intro i h1 h2
    simp [cntV, h2]
theorem cntV_list (l : List Nat) (h : l.length = 11) : (cntV l).toList = l.map (fun n : Nat => (n : Int)) := by
  apply List.ext_getElem
  · simp [h]
  · intro i h1 h2
    simp [cntV] at h1 h2 ⊢
    simp [h2]
/-! ### what is right may be laid -/
theorem inN_iff (n m : Int) : inN n m = true ↔ 0 ≤ n ∧ n ≤ m := by simp [inN]
theorem wOk_wBits {x : Nat} (h : wOk x = true) : wBits x = x ∧ x < 18446744073709551616 := by
  have hx : x < 18446744073709551616 := by simp [wOk] at h; omega
  have hn : isNan x = false := by
    rw [isNan_eq hx, Bool.and_eq_false_iff]
    simp [wOk] at h
    left
    simp only [beq_eq_false_iff_ne, ne_eq]
    omega
  unfold wBits
  rw [hn]
  exact ⟨rfl, hx⟩
theorem fair_lay {x : Bk} (h : x.fair = true) : layBk x := by
  unfold Bk.fair at h
  simp only [Bool.and_eq_true, decide_eq_true_eq] at h
  obtain ⟨⟨⟨⟨_, h1⟩, h2⟩, h3⟩, h4⟩ := h
  have h5 : x.name.length ≤ 24 := by unfold okName at h1; simp at h1; omega
  obtain ⟨h6, h7⟩ := wOk_wBits h4
  exact ⟨by omega, ⟨by omega, h3⟩, h7, h6⟩
theorem right_mem {v : Int} {l : List Bk} (h : pRight v l = true) : (0 ≤ v ∧ v ≤ 1099511627776) ∧ l.length ≤ 1024 ∧ ∀ x ∈ l, x.fair = true ∧ wPos x.w = true := by
  unfold pRight at h
  simp only [Bool.and_eq_true, decide_eq_true_eq, List.all_eq_true, List.mem_range] at h
  obtain ⟨⟨⟨h1, h2⟩, h3⟩, h4⟩ := h
  refine ⟨⟨h1, h2⟩, h3, fun x hx => ?_⟩
  obtain ⟨i, hi, rfl⟩ := List.getElem_of_mem hx
  have := h4 i hi
  unfold okAt at this
  simp only [Bool.and_eq_true] at this
  have e : l.getD i noBk = l[i] := by simp [List.getD_eq_getElem?_getD, hi]
  rw [e] at this
  exact this.1
theorem right_lay {v : Int} {l : List Bk} (h : pRight v l = true) : ∀ x ∈ l, layBk x := fun x hx => fair_lay ((right_mem h).2.2 x hx).1
theorem okHl_lay {x : Hl} (h : okHl x = true) : layHl x := by
  unfold okHl at h
  simp only [Bool.and_eq_true, decide_eq_true_eq, inN_iff] at h
  exact ⟨h.1, h.2.1, h.2.2⟩
theorem okTu_lay {x : Tu} (h : okTu x = true) : layTu x := by
  unfold okTu at h
  simp only [Bool.and_eq_true, decide_eq_true_eq, inN_iff] at h
  exact ⟨h.1.1.1.1.1, h.1.1.2, h.1.2, h.2⟩
theorem okFw_lay {x : Fw} (h : okFw x = true) : layFw x := by
  unfold okFw at h
  simp only [Bool.and_eq_true, decide_eq_true_eq, inN_iff] at h
  obtain ⟨⟨⟨⟨⟨h1, h2⟩, h3⟩, h4⟩, h5⟩, h6⟩ := h
  have h7 : x.name.length ≤ 24 := by unfold okName at h2; simp at h2; omega
  exact ⟨okTu_lay h1, by omega, by omega, by omega, h6⟩
structure LaySt (s : Sta) : Prop where
  ver : 0 ≤ s.ver ∧ s.ver ≤ 1152921504606846976
  nb : s.bks.length ≤ 1024
  bk : ∀ x ∈ s.bks, layBk x
  nh : s.hls.length ≤ 1024
  hl : ∀ x ∈ s.hls, layHl x
  nf : s.fws.length ≤ 4096
  fw : ∀ x ∈ s.fws, layFw x
  tick : 0 ≤ s.tick ∧ s.tick ≤ 1152921504606846976
  no : 0 ≤ s.no ∧ s.no ≤ 1152921504606846976
  cnt : layNums s.cnt
theorem okSta_lay {s : Sta} (h : okSta s = true) : LaySt s := by
  unfold okSta at h
  simp only [Bool.and_eq_true, decide_eq_true_eq, List.all_eq_true, inN_iff] at h
  obtain ⟨⟨⟨⟨⟨⟨⟨h1, h2⟩, h3⟩, h4⟩, h5⟩, h6⟩, h7⟩, h8⟩ := h
  have hp := right_mem h1
  exact ⟨⟨hp.1.1, by omega⟩, hp.2.1, right_lay h1, h2, fun x hx => okHl_lay (h7 x hx), h3, fun x hx => okFw_lay (h8 x hx), ⟨h4.1, by omega⟩, h5, h6⟩
/-- what is read, and what is left behind it -/
def getT (b : List UInt8) : Sta × Bool × RS :=
  let a1 := numO (some b)
  let a2 := numO a1.2
  let a3 := cntO 11 a2.2
  let a4 := numO a3.2
  let a5 := listO bkO 1024 a4.2
  let a6 := listO hlO 1024 a5.2
  let a7 := listO fwO 4096 a6.2
  (⟨a4.1, a5.1.getD [], a6.1.getD [], a7.1.getD [], a1.1, a2.1, cntV a3.1⟩, a5.1.isSome && a6.1.isSome && a7.1.isSome, a7.2)
theorem getS_T (b : List UInt8) : getS b = ((getT b).1, (getT b).2.1 && (endO (getT b).2.2).isSome) := by simp only [getS, getT]
theorem getT_fwd (s : Sta) (h : LaySt s) (t : List UInt8) : getT (staB s ++ t) = (s, true, some t) := by
  obtain ⟨⟨v1, v2⟩, nb, bk, nh, hl, nf, fw, ⟨t1, t2⟩, ⟨n1, n2⟩, c⟩ := h
  have hc : ∀ n ∈ s.cnt.toList.map Int.toNat, n ≤ 1152921504606846976 := by
    intro n hn
    obtain ⟨z, hz, rfl⟩ := List.mem_map.1 hn
    have := c z hz
    omega
  have e11 : (s.cnt.toList.map Int.toNat).length = 11 := by simp
  have hcf := fun t => cntO_fwd t (s.cnt.toList.map Int.toNat) hc
  rw [e11] at hcf
  have e5 := fun t => listO_fwd cdc_bk 1024 (by omega) t s.bks bk nb
  have e6 := fun t => listO_fwd cdc_hl 1024 (by omega) t s.hls hl nh
  have e7 := fun t => listO_fwd cdc_fw 4096 (by omega) t s.fws fw nf
  unfold getT staB bksB
  rw [cnt_flat]
  simp only [List.append_assoc]
  simp only [numO_fwd s.tick.toNat _ (by omega), numO_fwd s.no.toNat _ (by omega), hcf, numO_fwd s.ver.toNat _ (by omega), e5, e6, e7, endO_nil, Option.isSome_some, Bool.and_self, Option.getD_some, cntV_back s.cnt c]
  congr 1
  obtain ⟨a, b, c, d, e, f, g⟩ := s
  simp only at v1 t1 n1 ⊢
  congr <;> omega
theorem getS_fwd (s : Sta) (h : LaySt s) : getS (staB s) = (s, true) := by
  have := getT_fwd s h []
  rw [List.append_nil] at this
  rw [getS_T, this]
  rfl
theorem getS_inv {b : List UInt8} {s : Sta} (h : getS b = (s, true)) (hs : LaySt s) : b = staB s := by
  obtain ⟨⟨v1, v2⟩, nb, bk, nh, hl, nf, fw, ⟨t1, t2⟩, ⟨n1, n2⟩, c⟩ := hs
  unfold getS at h
  simp only [Prod.mk.injEq, Bool.and_eq_true] at h
  obtain ⟨h1, ⟨⟨c5, c6⟩, c7⟩, c8⟩ := h
  obtain ⟨l5, k5⟩ := Option.isSome_iff_exists.1 c5
  obtain ⟨l6, k6⟩ := Option.isSome_iff_exists.1 c6
  obtain ⟨l7, k7⟩ := Option.isSome_iff_exists.1 c7
  rw [k5, k6, k7] at h1
  simp only [Option.getD_some] at h1
  have x8 := endO_inv c8
  subst h1
  simp only at v1 v2 nb bk nh hl nf fw t1 t2 n1 n2 c
  obtain ⟨i7, _⟩ := listO_inv cdc_fw 4096 (by omega) [] _ l7 (by rw [← k7]; exact pair_some x8) fw
  obtain ⟨i6, _⟩ := listO_inv cdc_hl 1024 (by omega) _ _ l6 (by rw [← k6]; exact pair_some i7) hl
  obtain ⟨i5, _⟩ := listO_inv cdc_bk 1024 (by omega) _ _ l5 (by rw [← k5]; exact pair_some i6) bk
  have i4 := numO_inv (pair_some i5) (by omega)
  have hl3 : (cntO 11 (numO (numO (some b)).2).2).1.length = 11 := cntO_len _ _
  have i3 := cntO_inv _ 11 _ _ (pair_some i4) (fun n hn => by
    have := c (n : Int) (by rw [cntV_list _ hl3]; exact List.mem_map.2 ⟨n, hn, rfl⟩)
    omega)
  have i2 := numO_inv (pair_some i3) (by omega)
  have i1 := numO_inv (pair_some i2) (by omega)
  injection i1 with i1
  refine i1.trans ?_
  have e3 : (cntV (cntO 11 (numO (numO (some b)).2).2).1).toList.flatMap (fun n => varB n.toNat) = (cntO 11 (numO (numO (some b)).2).2).1.flatMap varB := by
    rw [cnt_flat, cntV_flat _ hl3]
  unfold staB bksB
  simp only [e3, Int.toNat_natCast, List.append_assoc, List.append_nil]
theorem getV_put {s : Sta} (h : okSta s = true) : getV (staB s) = some s := by
  unfold getV
  rw [getS_fwd s (okSta_lay h)]
  simp [h]
theorem getV_some {b : List UInt8} {s : Sta} (h : getV b = some s) : okSta s = true ∧ b = staB s := by
  unfold getV at h
  split at h
  · rename_i hc
    simp only [Bool.and_eq_true] at hc
    injection h with h
    rw [h] at hc
    exact ⟨hc.2, getS_inv (Prod.ext h hc.1) (okSta_lay hc.2)⟩
  · cases h
theorem getV_iff (b : List UInt8) (s : Sta) : getV b = some s ↔ okSta s = true ∧ b = staB s :=
  ⟨getV_some, fun ⟨h1, h2⟩ => by rw [h2]; exact getV_put h1⟩
/-- a part of a state's bytes, or what goes on behind them, is no state's -/
theorem getV_more {s s2 : Sta} (h : okSta s = true) (h2 : okSta s2 = true) {y : List UInt8} (e : staB s = staB s2 ++ y) : y = [] ∧ s = s2 := by
  have a := getT_fwd s (okSta_lay h) []
  have b := getT_fwd s2 (okSta_lay h2) y
  rw [List.append_nil, e, b] at a
  injection a with a1 a2
  injection a2 with a2 a3
  injection a3 with a3
  exact ⟨a3, a1.symm⟩
theorem getV_cut {s : Sta} (h : okSta s = true) {x y : List UInt8} (hx : staB s = x ++ y) (hy : y ≠ []) : getV x = none := by
  cases hg : getV x with
  | none => rfl
  | some s2 =>
    obtain ⟨h1, h2⟩ := getV_some hg
    rw [h2] at hx
    exact absurd (getV_more h h1 hx).1 hy
theorem getV_long {s : Sta} (h : okSta s = true) {y : List UInt8} (hy : y ≠ []) : getV (staB s ++ y) = none := by
  cases hg : getV (staB s ++ y) with
  | none => rfl
  | some s2 =>
    obtain ⟨h1, h2⟩ := getV_some hg
    exact absurd (getV_more h1 h h2.symm).1 hy
theorem staB_len (s : Sta) : 17 ≤ (staB s).length := by
  have h11 : 11 ≤ (s.cnt.toList.flatMap (fun n => varB n.toNat)).length := by
    have key : ∀ l : List Int, l.length ≤ (l.flatMap (fun n => varB n.toNat)).length := by
      intro l
      induction l with
      | nil => simp
      | cons a l ih => have := (varB_len a.toNat).1; simp only [List.flatMap_cons, List.length_append, List.length_cons]; omega
    have := key s.cnt.toList
    simpa using this
  have a1 := (varB_len s.tick.toNat).1
  have a2 := (varB_len s.no.toNat).1
  have a3 := (varB_len s.ver.toNat).1
  have a4 := (varB_len s.bks.length).1
  have a5 := (varB_len s.hls.length).1
  have a6 := (varB_len s.fws.length).1
  unfold staB bksB
  simp only [List.length_append]
  omega
end Go.Proofs.YtmpemeemlhmaaaaGreat
