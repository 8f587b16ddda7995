/- A row of bytes that is laid, beside boxes that stay. -/
import Derived.Test.YtmpemeemlhmaaaaGreatQ20
import Derived.Test.YtmpemeemlhmaaaaGreatQ21
set_option linter.unusedSimpArgs false
set_option linter.unusedVariables false
set_option maxRecDepth 100000
namespace Go.Proofs.YtmpemeemlhmaaaaGreat
open Go.RowKit

/-- v is a row of one's own that holds bs; the boxes of L stand beside it -/
structure Ly (B : Nat) (L : List (Nat × Array Value)) (w0 W : World) (v : Value) (bs : List UInt8) : Prop where
  o : Ow B none w0 v bs W
  bx : ∀ p ∈ L, Box W p.1 p.2 ∧ v.ownBlock ≠ some p.1
section
variable {B : Nat} {L : List (Nat × Array Value)} {w0 W W' : World} {v v' : Value} {bs bs' : List UInt8}
theorem Ly.go (h : Ly B L w0 W v bs) (hb : Below W.heap.size W W') : Ly B L w0 W' v bs := ⟨h.o.go hb, fun p hp => ⟨(h.bx p hp).1.go hb, (h.bx p hp).2⟩⟩
theorem Ly.alloc (h : Ly B L w0 W v bs) (ob : Obj) : Ly B L w0 (W.alloc ob) v bs := h.go ((Below.refl _ _).alloc (Nat.le_refl _) ob)
theorem Ly.drew (h : Ly B L w0 W v bs) : Ly B L w0 W.drew v bs := ⟨h.o.drew, fun p hp => ⟨(h.bx p hp).1.drew, (h.bx p hp).2⟩⟩
theorem Ly.new (h : Ly B L w0 W v bs) (c : Array Value) (t : TypeId) : Ly B ((W.heap.size, c) :: L) w0 (W.alloc (.cells c t)) v bs :=
  ⟨(h.alloc _).o, fun p hp => by
    rcases List.mem_cons.1 hp with rfl | hp
    · exact ⟨Box.new W c t, fun e => absurd (h.o.lt e) (Nat.lt_irrefl _)⟩
    · exact (h.alloc _).bx p hp⟩
theorem Ly.add (h : Ly B L w0 W v bs) {q : Nat} {c : Array Value} (hb : Box W q c) (hq : v.ownBlock ≠ some q) : Ly B ((q, c) :: L) w0 W v bs :=
  ⟨h.o, fun p hp => by
    rcases List.mem_cons.1 hp with rfl | hp
    · exact ⟨hb, hq⟩
    · exact h.bx p hp⟩
theorem Ly.step (h : Ly B L w0 W v bs) (k : Ow B v.ownBlock W v' bs' W') : Ly B L w0 W' v' bs' :=
  ⟨h.o.step k, fun p hp => ⟨k.box (h.bx p hp).1 (fun e => (h.bx p hp).2 e.symm), by
    rcases k.blk with e | ⟨j, e, e2⟩
    · rw [e]; exact (h.bx p hp).2
    · rw [e]; intro e3; injection e3 with e3; have := (h.bx p hp).1.lt; omega⟩⟩
theorem Ly.pop {p : Nat × Array Value} (h : Ly B (p :: L) w0 W v bs) : Ly B L w0 W v bs := ⟨h.o, fun q hq => h.bx q (List.mem_cons_of_mem _ hq)⟩
theorem Ly.b0 {q : Nat} {c : Array Value} (h : Ly B ((q, c) :: L) w0 W v bs) : Box W q c := (h.bx (q, c) (by simp)).1
theorem Ly.b1 {p : Nat × Array Value} {q : Nat} {c : Array Value} (h : Ly B (p :: (q, c) :: L) w0 W v bs) : Box W q c := h.pop.b0
theorem Ly.b2 {p p2 : Nat × Array Value} {q : Nat} {c : Array Value} (h : Ly B (p :: p2 :: (q, c) :: L) w0 W v bs) : Box W q c := h.pop.pop.b0
theorem Ly.swap {p p2 : Nat × Array Value} (h : Ly B (p :: p2 :: L) w0 W v bs) : Ly B (p2 :: p :: L) w0 W v bs := ⟨h.o, fun q hq => h.bx q (by simp at hq ⊢; rcases hq with e | e | e <;> simp [e])⟩
end
/-- the row that is answered holds bs; the boxes stay -/
def LyP (B : Nat) (L : List (Nat × Array Value)) (w0 : World) (bs : List UInt8) (e : Ending) (W : World) : Prop := ∃ A n c, e = .returned (.slice A n c) ∧ Ly B L w0 W (.slice A n c) bs
theorem LyP.of {B : Nat} {L : List (Nat × Array Value)} {w0 W W' : World} {v : Value} {bs bs' : List UInt8} {e : Ending} (h : Ly B L w0 W v bs) (k : OwP B v bs' W e W') : LyP B L w0 bs' e W' := by
  obtain ⟨A, n, c, rfl, k⟩ := k
  exact ⟨A, n, c, rfl, h.step k⟩
/-- numbers in a box -/
theorem RdI.box {W : World} {q o : Nat} {l : List Int} {c : Array Value} (h : Box W q c) (hc : ∀ j, j < l.length → c[o + j]? = some (.int .i64 (l.getD j 0))) : RdI W W.heap.size (some ⟨q, o, none⟩) l.length l := by
  have hf : (l.flatMap fun x => (intA x).toList) = l.map (Value.int .i64) := by
    clear hc
    induction l with
    | nil => rfl
    | cons z l ih => simp only [List.flatMap_cons, ih]; rfl
  refine ⟨rfl, ⟨by rw [hf]; simp, fun _ => ⟨_, rfl, h.lt, ?_⟩⟩, fun a h _ => by injection h with h; rw [← h]⟩
  intro j v hv
  rw [hf] at hv
  have hj : j < l.length := by
    rcases Nat.lt_or_ge j l.length with hj | hj
    · exact hj
    · rw [List.getElem?_eq_none (by simpa using hj)] at hv; cases hv
  rw [Addr.add_mid, h.facts.1, hc j hj, ← hv]
  simp [List.getD_eq_getElem?_getD, hj]
theorem intsC_get (l : List Int) (j : Nat) (hj : j < l.length) : (intsC l)[0 + j]? = some (.int .i64 (l.getD j 0)) := by
  simp [intsC, List.getD_eq_getElem?_getD, hj]
/-- numbers of a literal that lies in a box, behind bytes -/
theorem nums_ly {B q : Nat} {L : List (Nat × Array Value)} {w0 W : World} {v : Value} {bs : List UInt8} (l : List Int) (n : Nat) (h : Ly B ((q, intsC l) :: L) w0 W v bs) (hl : ∀ z ∈ l, 0 ≤ z ∧ z ≤ 9223372036854775807) (hn : l.length = n) (h1 : n ≤ 1000) (hb : bs.length ≤ 900000000) :
    Calls Tryz.prog 31 #[v, .slice (some ⟨q, 0, none⟩) n n] W (LyP B L w0 (bs ++ numsB l)) := by
  subst hn
  refine (numbers_any B v bs l _ _ _ W h.o.base (RdI.box h.b0 (fun j hj => intsC_get l j hj)) (fun a ha e => ?_) hl h1 hb).mono ?_
  · injection ha with ha
    subst ha
    exact (h.bx (q, intsC l) (by simp)).2 e.symm
  · intro e w1 hk
    exact LyP.of h.pop hk
theorem text_ly {B : Nat} {L : List (Nat × Array Value)} {w0 W : World} {v : Value} {bs : List UInt8} (s : List UInt8) (h : Ly B L w0 W v bs) (hs : s.length ≤ 1000000) (hb : bs.length ≤ 900000000) :
    Calls Tryz.prog 33 #[v, .string (textOf s)] W (LyP B L w0 (bs ++ textB s)) :=
  (snapText_any B v bs s W h.o.base hs hb).mono fun e w' hk => LyP.of h hk
theorem bks_ly {B : Nat} {L : List (Nat × Array Value)} {w0 W : World} {v : Value} {bs : List UInt8} (l : List Bk) (A : Option Addr) (n c : Nat) (h : Ly B L w0 W v bs) (hR : RdR Bk.arr 27 w0 w0.heap.size A n l) (hB : w0.heap.size ≤ B) (hf : ∀ x ∈ l, x.fine) (hl : ∀ x ∈ l, okTold x) (hn : n ≤ 10000) (hb : bs.length ≤ 100000000) :
    Calls Tryz.prog 32 #[v, .slice A n c] W (LyP B L w0 (bs ++ bksB l)) := by
  have hb1 := h.o.bel
  refine (snapBackends_any B v bs l A n c W h.o.base (hR.go hb1) (fun h0 a ha e => ?_) hf hl hn hb).mono fun e w' hk => LyP.of h hk
  obtain ⟨b, o, e1, hlt, _⟩ := RdR.at_ Bk.arr_size noBk hR h0
  rw [e1] at ha
  injection ha with ha
  subst ha
  have := (h.o.own.lt b e.symm).1
  omega
theorem Ly.nil {w : World} : Ly w.heap.size [] w w (.slice none 0 0) [] := ⟨Ow.nil w, fun p hp => by cases hp⟩
theorem numsB_nil : numsB [] = [] := rfl
theorem numsB_cons (z : Int) (l : List Int) : numsB (z :: l) = varB z.toNat ++ numsB l := by simp [numsB]
theorem hlsB_len (l : List Hl) (h : ∀ x ∈ l, layHl x) : (l.flatMap hlB).length ≤ 300 * l.length := by
  induction l with
  | nil => simp
  | cons x l ih =>
    have h1 := (h x (by simp)).1
    have h3 := ih (fun y hy => h y (by simp [hy]))
    have a1 := (varB_len x.name.length).2
    have a2 := (varB_len (if x.down = true then 1 else 0)).2
    have a3 := (varB_len x.run.toNat).2
    simp only [List.flatMap_cons, List.length_append, List.length_cons, hlB, textB]
    omega
theorem fwsB_len (l : List Fw) (h : ∀ x ∈ l, layFw x) : (l.flatMap fwB).length ≤ 400 * l.length := by
  induction l with
  | nil => simp
  | cons x l ih =>
    have h1 := (h x (by simp)).2.1
    have h3 := ih (fun y hy => h y (by simp [hy]))
    have a1 := (varB_len x.name.length).2
    have a2 := (varB_len x.state.toNat).2
    have a3 := (varB_len x.seen.toNat).2
    have a4 := (varB_len x.no.toNat).2
    have a5 := tuB_len x.key
    simp only [List.flatMap_cons, List.length_append, List.length_cons, fwB, textB]
    omega
theorem layBk_told {x : Bk} (h : layBk x) : okTold x := ⟨h.1, h.2.1.1, h.2.1.2⟩
end Go.Proofs.YtmpemeemlhmaaaaGreat

namespace Go.Proofs.YtmpemeemlhmaaaaGreat
open Go.RowKit

/-- what an append asks of an element's type -/
def RowT {α : Type} (t e : TypeId) (f : α → Array Value) (sz : Nat) : Prop := ∃ (i : TypeInfo) (z : Value), Tryz.prog.underlying t = some (.slice e) ∧ Tryz.prog.info? e = some i ∧ i.zero = some z ∧ i.size = sz ∧ z.cells.size = sz ∧ 0 < sz ∧ i.bytes ≤ 1000 ∧ (∀ x, (f x).size = sz) ∧ ∀ x, (f x).all (·.oneCell') = true
/-- v is a row of one's own, made since w0, that holds l; nothing of w0 turned; the boxes of L stand beside it -/
structure Rz {α : Type} (f : α → Array Value) (sz : Nat) (e : TypeId) (L : List (Nat × Array Value)) (w0 W : World) (v : Value) (l : List α) : Prop where
  own : W.ownsRow w0.heap.size e sz v l.length (l.flatMap fun x => (f x).toList)
  bel : Below w0.heap.size w0 W
  bx : ∀ p ∈ L, Box W p.1 p.2 ∧ v.ownBlock ≠ some p.1
section
variable {α : Type} {f : α → Array Value} {sz : Nat} {e t : TypeId} {L : List (Nat × Array Value)} {w0 W W' : World} {v v' : Value} {l ys : List α}
theorem Rz.nil (w : World) : Rz f sz e [] w w (.slice none 0 0) [] := ⟨World.ownsRow_nil _ _ _ _, Below.refl _ _, fun p hp => by cases hp⟩
theorem Rz.go (h : Rz f sz e L w0 W v l) (hb : Below W.heap.size W W') : Rz f sz e L w0 W' v l := ⟨own_below h.own hb, below2 h.bel hb, fun p hp => ⟨(h.bx p hp).1.go hb, (h.bx p hp).2⟩⟩
theorem Rz.alloc (h : Rz f sz e L w0 W v l) (ob : Obj) : Rz f sz e L w0 (W.alloc ob) v l := h.go ((Below.refl _ _).alloc (Nat.le_refl _) ob)
theorem Rz.drew (h : Rz f sz e L w0 W v l) : Rz f sz e L w0 W.drew v l := ⟨h.own, h.bel.drew, fun p hp => ⟨(h.bx p hp).1.drew, (h.bx p hp).2⟩⟩
theorem Rz.lt (h : Rz f sz e L w0 W v l) {k : Nat} (hk : v.ownBlock = some k) : w0.heap.size ≤ k ∧ k < W.heap.size := h.own.lt k hk
theorem Rz.new (h : Rz f sz e L w0 W v l) (c : Array Value) (t : TypeId) : Rz f sz e ((W.heap.size, c) :: L) w0 (W.alloc (.cells c t)) v l :=
  ⟨(h.alloc _).own, (h.alloc _).bel, fun p hp => by
    rcases List.mem_cons.1 hp with rfl | hp
    · exact ⟨Box.new W c t, fun e => absurd (h.lt e).2 (Nat.lt_irrefl _)⟩
    · exact (h.alloc _).bx p hp⟩
theorem Rz.add (h : Rz f sz e L w0 W v l) {q : Nat} {c : Array Value} (hb : Box W q c) (hq : v.ownBlock ≠ some q) : Rz f sz e ((q, c) :: L) w0 W v l :=
  ⟨h.own, h.bel, fun p hp => by
    rcases List.mem_cons.1 hp with rfl | hp
    · exact ⟨hb, hq⟩
    · exact h.bx p hp⟩
theorem Rz.pop {p : Nat × Array Value} (h : Rz f sz e (p :: L) w0 W v l) : Rz f sz e L w0 W v l := ⟨h.own, h.bel, fun q hq => h.bx q (List.mem_cons_of_mem _ hq)⟩
theorem Rz.b0 {q : Nat} {c : Array Value} (h : Rz f sz e ((q, c) :: L) w0 W v l) : Box W q c := (h.bx (q, c) (by simp)).1
theorem Rz.b1 {p : Nat × Array Value} {q : Nat} {c : Array Value} (h : Rz f sz e (p :: (q, c) :: L) w0 W v l) : Box W q c := h.pop.b0
theorem Rz.b2 {p p2 : Nat × Array Value} {q : Nat} {c : Array Value} (h : Rz f sz e (p :: p2 :: (q, c) :: L) w0 W v l) : Box W q c := h.pop.pop.b0
theorem Rz.form (h : Rz f sz e L w0 W v l) : ∃ A c, v = .slice A l.length c := by obtain ⟨A, c, e, _⟩ := own_form h.own; exact ⟨A, c, e⟩
theorem Rz.rd {A : Option Addr} {n c : Nat} (h : Rz f sz e L w0 W (.slice A n c) l) : RdR f sz W W.heap.size A n l := by
  obtain ⟨A2, c2, e2⟩ := h.form
  injection e2 with e3 e4 e5
  subst e3 e4 e5
  exact RdR.of_own rfl h.own
theorem Rz.len {A : Option Addr} {n c : Nat} (h : Rz f sz e L w0 W (.slice A n c) l) : n = l.length := h.rd.1.symm
theorem Rz.grown (h : Rz f sz e L w0 W v l) (hg : W.grownBy W' v.ownBlock) (h1 : W'.ownsRow w0.heap.size e sz v' ys.length (ys.flatMap fun x => (f x).toList)) (h2 : v'.ownBlock = v.ownBlock ∨ v'.ownBlock = some W.heap.size) : Rz f sz e L w0 W' v' ys := by
  refine ⟨h1, ⟨hg.os.trans h.bel.os, hg.tape.trans h.bel.tape, hg.output.trans h.bel.output, Nat.le_trans h.bel.size hg.size, fun k hk => (hg.block k (Nat.lt_of_lt_of_le hk h.bel.size) (fun e => by have := (h.lt e.symm).1; omega)).trans (h.bel.block k hk)⟩, fun p hp => ⟨(h.bx p hp).1.grown hg (fun e => (h.bx p hp).2 e.symm), ?_⟩⟩
  rcases h2 with e | e
  · rw [e]; exact (h.bx p hp).2
  · rw [e]; intro e3; injection e3 with e3; have := (h.bx p hp).1.lt; omega
/-- what else stays behind an append -/
theorem Rz.else_ (h : Rz f sz e L w0 W v l) (hg : W.grownBy W' v.ownBlock) : Below w0.heap.size W W' :=
  ⟨hg.os, hg.tape, hg.output, hg.size, fun k hk => hg.block k (Nat.lt_of_lt_of_le hk h.bel.size) (fun e => by have := (h.lt e.symm).1; omega)⟩
theorem wp_rz (T : RowT t e f sz) {o : Oper} {a : Act} {K : Act → World → Prop} {Q : Exit → Act → World → Prop} (s x : Operand)
    (ho : o.op = .call { callee := .builtin .append, args := #[s, x], argTypes := #[t, t] }) (hs : a.eval s = v) (H : Rz f sz e L w0 W v l) {C : Nat} {A : Option Addr} {m c : Nat} (hx : a.eval x = .slice A m c) (hr : RdR f sz W C A m ys)
    (hlen : l.length + m ≤ 1000000)
    (h : ∀ A' n' c' w', Rz f sz e L w0 w' (.slice A' n' c') (l ++ ys) → W.grownBy w' v.ownBlock → K (a.put o.dst (.slice A' n' c')) w') : o.wp Tryz.prog a W K Q := by
  obtain ⟨i, z, ht, hi, hz, h1, h2, h3, h4, h5, h6⟩ := T
  have hm := hr.1
  refine wp_app_rd W s x t ho w0.heap.size e i z sz i.bytes ht hi hz h1 rfl h2 h3 v l.length _ hs H.own C A m c _ hx hr.2.1 (rows_one f h6 ys) (by unfold maxLen; omega) (Nat.le_trans (Nat.mul_le_mul hlen h4) (by omega)) H.bel.size ?_
  intro v1 w1 k1 k2 k3
  rw [rows_app, ← hm, ← List.length_append] at k1
  have hk := H.grown k2 k1 k3
  obtain ⟨A', c', rfl⟩ := hk.form
  exact h A' _ c' w1 hk k2
theorem wpList_rz (T : RowT t e f sz) {ops : Array Oper} {rest : List Oper} {o : Oper} {a : Act} {Q : Exit → Act → World → Prop} (hgd : o.guard = none) (s x : Operand)
    (ho : o.op = .call { callee := .builtin .append, args := #[s, x], argTypes := #[t, t] }) (hs : a.eval s = v) (H : Rz f sz e L w0 W v l) {C : Nat} {A : Option Addr} {m c : Nat} (hx : a.eval x = .slice A m c) (hr : RdR f sz W C A m ys)
    (hlen : l.length + m ≤ 1000000)
    (h : ∀ A' n' c' w', Rz f sz e L w0 w' (.slice A' n' c') (l ++ ys) → W.grownBy w' v.ownBlock → wpList Tryz.prog ops Q rest (a.put o.dst (.slice A' n' c')) w') : wpList Tryz.prog ops Q (o :: rest) a W :=
  wpList_plain hgd fun _ hK => wp_rz T s x ho hs H hx hr hlen fun A' n' c' w' h2 h3 => hK _ _ (h A' n' c' w' h2 h3)
theorem step_rz (T : RowT t e f sz) {ops : Array Oper} {o : Oper} {a : Act} {K : Act → World → Prop} {Q : Exit → Act → World → Prop} {E : Prop} (hgd : o.guard = none) (s x : Operand)
    (ho : o.op = .call { callee := .builtin .append, args := #[s, x], argTypes := #[t, t] }) (hs : a.eval s = v) (H : Rz f sz e L w0 W v l) {C : Nat} {A : Option Addr} {m c : Nat} (hx : a.eval x = .slice A m c) (hr : RdR f sz W C A m ys)
    (hlen : l.length + m ≤ 1000000)
    (h : ∀ A' n' c' w', Rz f sz e L w0 w' (.slice A' n' c') (l ++ ys) → W.grownBy w' v.ownBlock → K (a.put o.dst (.slice A' n' c')) w') : if Region.wanted o (yielded ops a.tmps) = true then Oper.wp Tryz.prog o a W K Q else E := by
  have hw : Region.wanted o (yielded ops a.tmps) = true := by simp [Region.wanted, hgd]
  rw [if_pos hw]
  exact wp_rz T s x ho hs H hx hr hlen h
end
theorem rowT_bk : RowT 22 60 Bk.arr 27 := by
  obtain ⟨i0, hi0, hz0, hz1, hzb⟩ := infoBk
  exact ⟨i0, _, Tryz.underlying22, hi0, hz0, hz1, Bk.arr_size noBk, by omega, by omega, Bk.arr_size, Bk.arr_one⟩
end Go.Proofs.YtmpemeemlhmaaaaGreat
