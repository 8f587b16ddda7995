/- The program's store within a law: its blocks are the law's own. -/
import Derived.Test.YtejjobbgceoljaaStX
set_option linter.unusedSimpArgs false
set_option linter.unusedVariables false
namespace Go.Proofs.Ytejjobbgceoljaa
open Go.RowKit

/-- in world W a store lies at p, all of it made since world w; nothing that lay in w has turned -/
def Aw (w W : World) (p : Nat) (q : Int) (m : Mo) : Prop := ∃ F, PgM F W p q m ∧ (∀ b ∈ F, w.heap.size ≤ b) ∧ Below w.heap.size w W
section
variable {w W : World} {p : Nat} {q : Int} {m : Mo}
theorem Aw.below (h : Aw w W p q m) : Below w.heap.size w W := by obtain ⟨F, _, _, h⟩ := h; exact h
theorem Aw.good (h : Aw w W p q m) : GoodF q m.L := by obtain ⟨F, h, _⟩ := h; exact h.good
theorem Aw.fuse (h : Aw w W p q m) : -1 ≤ m.fu ∧ m.fu ≤ 9223372036854775807 := by obtain ⟨F, h, _⟩ := h; exact PgS.fuse h
theorem Aw.go {W' : World} (h : Aw w W p q m) (hb : Below W.heap.size W W') : Aw w W' p q m := by
  obtain ⟨F, h1, h2, h3⟩ := h
  exact ⟨F, PgS.go h1 hb, h2, below2 h3 hb⟩
theorem Aw.alloc (h : Aw w W p q m) (ob : Obj) : Aw w (W.alloc ob) p q m := h.go ((Below.refl W.heap.size W).alloc (Nat.le_refl _) ob)
theorem Aw.drewN (h : Aw w W p q m) (n : Nat) : Aw w (W.drewN n) p q m := by
  obtain ⟨F, h1, h2, h3⟩ := h
  exact ⟨F, PgS.agree h1 (fun _ _ => rfl), h2, below_drewN h3 n⟩
theorem Aw.of_pg {F : List Nat} {L : List Fi} {fu : Int} {dn : Bool} {v : Value} {e : Ending} {W' : World} (hF : ∀ b ∈ F, w.heap.size ≤ b) (hb : Below w.heap.size w W) (h : PgP F W p q L fu dn v e W') : e = .returned v ∧ Aw w W' p q ⟨L, fu, dn⟩ := by
  obtain ⟨h1, F', h2, h3, h4⟩ := h
  exact ⟨h1, F', h2, fun b hb' => by
    rcases h4 b hb' with h | h
    · exact hF b h
    · exact Nat.le_trans hb.size h, hb.trans (h3.to_below hF hb.size)⟩
theorem Aw.new (q : Int) (w W : World) (hb : Below w.heap.size w W) (hq : 1 ≤ q ∧ q ≤ 1073741824) : Calls Try.prog 11 #[.int .i64 q] W fun e W' => ∃ p, e = .returned (.tuple #[.pointer (some ⟨p, 0, none⟩), .int .i64 0]) ∧ Aw w W' p q ⟨[], -1, false⟩ := by
  refine (new_any q W hq).mono ?_
  rintro e W' ⟨p, F, rfl, h1, h2, h3⟩
  exact ⟨p, rfl, F, h1, fun b hb' => Nat.le_trans hb.size (h3 b hb'), below2 hb h2⟩
/-- what lies in w is not the store's -/
theorem Aw.off {n : Nat} {A : Option Addr} {F : List Nat} (hF : ∀ b ∈ F, w.heap.size ≤ b) (hA : 0 < n → ∀ a, A = some a → a.block < w.heap.size) : 0 < n → ∀ a, A = some a → a.block ∉ F := fun h0 a ha hm => by
  have h1 := hA h0 a ha
  have h2 := hF _ hm
  omega
theorem rdb_off {w : World} {B n : Nat} {A : Option Addr} {l : List UInt8} (h : RdB w B A n l) : 0 < n → ∀ a, A = some a → a.block < B := fun h0 a ha => by
  obtain ⟨a', e, hb, _⟩ := h.2 h0
  rw [ha] at e; injection e with e; rw [e]; exact hb
theorem rdr_off {α : Type} {f : α → Array Value} {s : Nat} {w : World} {B n : Nat} {A : Option Addr} {l : List α} (h : RdR f s w B A n l) : 0 < n → ∀ a, A = some a → a.block < B := fun h0 a ha => by
  obtain ⟨a', e, hb, _⟩ := h.2.1.2 h0
  rw [ha] at e; injection e with e; rw [e]; exact hb
/-- an act whose slices lay in w -/
def AcW (w : World) (x : Ac) (bs : List UInt8) (ks : List Int) : Prop := okAc x = true ∧ (-9223372036854775808 ≤ x.num ∧ x.num ≤ 9223372036854775807) ∧ RdB w w.heap.size x.b.A x.b.n bs ∧ RdZ w w.heap.size x.keep.A x.keep.n ks
theorem AcW.below {w W : World} {x : Ac} {bs : List UInt8} {ks : List Int} (h : AcW w x bs ks) (hb : Below w.heap.size w W) : AcW W x bs ks :=
  ⟨h.1, h.2.1, (h.2.2.1.to hb (Nat.le_refl _)).more hb.size, (h.2.2.2.to hb (Nat.le_refl _)).more hb.size⟩
theorem Aw.do (h : Aw w W p q m) (x : Ac) (bs : List UInt8) (ks : List Int) (hL : m.L.length ≤ 10000) (hx : AcW w x bs ks) :
    Calls Try.prog 13 #[.pointer (some ⟨p, 0, none⟩), .agg x.arr] W fun e W' => e = .returned (.int .i64 (stepM q m x bs ks).2) ∧ Aw w W' p q (stepM q m x bs ks).1 := by
  obtain ⟨F, h1, h2, h3⟩ := h
  have hx2 := hx.below h3
  refine (do_any F p q m x bs ks W h1 hL hx.1 hx.2.1 ⟨hx2.2.2.1, Aw.off h2 (rdb_off hx.2.2.1), hx2.2.2.2, Aw.off h2 (rdr_off hx.2.2.2)⟩).mono ?_
  intro e W' hP
  exact Aw.of_pg h2 h3 hP
theorem Aw.fuse_ (h : Aw w W p q m) (k : Int) (hk : -9223372036854775808 ≤ k ∧ k ≤ 9223372036854775807) : Calls Try.prog 24 #[.pointer (some ⟨p, 0, none⟩), .int .i64 k] W fun e W' => e = .returned (.tuple #[]) ∧ Aw w W' p q ⟨m.L, max k (-1), m.dn⟩ := by
  obtain ⟨F, h1, h2, h3⟩ := h
  exact (fuse_any F p q m.fu m.dn m.L k W h1 hk).mono fun e W' hP => Aw.of_pg h2 h3 hP
theorem Aw.down (h : Aw w W p q m) : Calls Try.prog 20 #[.pointer (some ⟨p, 0, none⟩)] W fun e W' => e = .returned (.bool m.dn) ∧ W = W' := by
  obtain ⟨F, h1, h2, h3⟩ := h
  exact down_any F p q m.fu m.dn m.L W h1
theorem Aw.size (h : Aw w W p q m) : Calls Try.prog 23 #[.pointer (some ⟨p, 0, none⟩)] W fun e W' => e = .returned (.int .i64 (sumF m.L : Nat)) ∧ W = W' := by
  obtain ⟨F, h1, h2, h3⟩ := h
  exact size_any F p q m.fu m.dn m.L W h1
theorem Aw.synced (h : Aw w W p q m) (s : List UInt8) (hs : s.length ≤ 100000) : Calls Try.prog 18 #[.pointer (some ⟨p, 0, none⟩), .string (textOf s)] W fun e W' => e = .returned (.tuple #[.int .i64 (synV m.L s).1, .bool (synV m.L s).2]) ∧ W = W' := by
  obtain ⟨F, h1, h2, h3⟩ := h
  exact synced_any F p q m.fu m.dn m.L s W h1 hs
theorem Aw.read (h : Aw w W p q m) (s : List UInt8) (hs : s.length ≤ 100000) : Calls Try.prog 16 #[.pointer (some ⟨p, 0, none⟩), .string (textOf s)] W fun e W' => ∃ A c, e = .returned (.tuple #[.slice A (readV m.L s m.dn).1.length c, .int .i64 (readV m.L s m.dn).2]) ∧
    W'.ownsRow W.heap.size 5 1 (.slice A (readV m.L s m.dn).1.length c) (readV m.L s m.dn).1.length ((readV m.L s m.dn).1.map bv) ∧ Below W.heap.size W W' ∧ Aw w W' p q m := by
  have h0 := h
  obtain ⟨F, h1, h2, h3⟩ := h
  refine (read_any F p q m.fu m.dn m.L s W h1 hs).mono ?_
  rintro e W' ⟨A, c, rfl, ho, hb⟩
  exact ⟨A, c, rfl, ho, hb, h0.go hb⟩
theorem Aw.list (h : Aw w W p q m) (hL : m.L.length ≤ 10000) : Calls Try.prog 22 #[.pointer (some ⟨p, 0, none⟩)] W fun e W' => ∃ A c, e = .returned (.slice A (namesF m.L).length c) ∧
    W'.ownsRow W.heap.size 9 1 (.slice A (namesF m.L).length c) (namesF m.L).length (cellsT (namesF m.L)) ∧ Below W.heap.size W W' ∧ Aw w W' p q m := by
  have h0 := h
  obtain ⟨F, h1, h2, h3⟩ := h
  refine (list_any F p q m.fu m.dn m.L W h1 hL).mono ?_
  rintro e W' ⟨A, c, rfl, ho, hb⟩
  exact ⟨A, c, rfl, ho, hb, h0.go hb⟩
theorem Aw.crash (h : Aw w W p q m) (hL : m.L.length ≤ 10000) (ks : List Int) (A : Option Addr) (n c : Nat) (hR : RdZ w w.heap.size A n ks) (hn : n ≤ 9223372036854775807) : Calls Try.prog 21 #[.pointer (some ⟨p, 0, none⟩), .slice A n c] W fun e W' => e = .returned (.tuple #[]) ∧ Aw w W' p q ⟨crL m.L ks, -1, false⟩ := by
  obtain ⟨F, h1, h2, h3⟩ := h
  exact (crash_any F p q m.fu m.dn m.L ks A n c W h1 hL ((hR.to h3 (Nat.le_refl _)).more h3.size) (Aw.off h2 (rdr_off hR)) hn).mono fun e W' hP => Aw.of_pg h2 h3 hP
/-- rows in a fresh block -/
theorem RdB.fresh (W : World) (bs : List UInt8) (n : Nat) (cs : Array Value) (t : TypeId) (fr : Nat × Nat) (hn : bs.length = n) (hc : cs = (bs.map bv).toArray) : RdB (W.alloc (.cells cs t fr)) (W.alloc (.cells cs t fr)).heap.size (some ⟨W.heap.size, 0, none⟩) n bs := by
  subst hc
  refine ⟨by simpa using hn, fun _ => ⟨_, rfl, by simp, fun j u hu => ?_⟩⟩
  have e : (⟨W.heap.size, 0, none⟩ : Addr).add j = ⟨W.heap.size, j, none⟩ := by unfold Addr.add; split <;> simp_all
  rw [e, World.cell?_alloc_mark]
  simpa using hu
theorem RdZ.fresh (W : World) (ks : List Int) (n : Nat) (cs : Array Value) (t : TypeId) (hn : ks.length = n) (hc : cs = (ks.map (Value.int .i64)).toArray) : RdZ (W.alloc (.cells cs t)) (W.alloc (.cells cs t)).heap.size (some ⟨W.heap.size, 0, none⟩) n ks := by
  subst hc
  have h := Rd.fresh W (ks.map (Value.int .i64)).toArray t 1 n (by simpa using hn)
  have e : (ks.flatMap fun x => (i64A x).toList) = ks.map (Value.int .i64) := by
    clear h hn
    induction ks with
    | nil => rfl
    | cons x l ih => rw [List.flatMap_cons, ih]; rfl
  refine ⟨hn, by rw [e]; simpa using h, fun a ha _ => by injection ha with ha; rw [← ha]⟩
/-- .. the numbers lie in the newest block -/
theorem Aw.crash_new (h : Aw w W p q m) (hL : m.L.length ≤ 10000) (ks : List Int) (n c : Nat) (cs : Array Value) (t : TypeId) (hn : ks.length = n) (hc : cs = (ks.map (Value.int .i64)).toArray) (hn2 : n ≤ 10000) : Calls Try.prog 21 #[.pointer (some ⟨p, 0, none⟩), .slice (some ⟨W.heap.size, 0, none⟩) n c] (W.alloc (.cells cs t)) fun e W' => e = .returned (.tuple #[]) ∧ Aw w W' p q ⟨crL m.L ks, -1, false⟩ := by
  obtain ⟨F, h1, h2, h3⟩ := h
  have hb := (Below.refl W.heap.size W).alloc (Nat.le_refl _) (.cells cs t)
  exact (crash_any F p q m.fu m.dn m.L ks _ n c (W.alloc (.cells cs t)) (PgS.go h1 hb) hL (RdZ.fresh W ks n cs t hn hc) (fun _ a ha hm => by
    injection ha with ha
    have := PgS.lt h1 a.block hm
    rw [← ha] at this
    simp at this) (by omega)).mono fun e W' hP => Aw.of_pg h2 (below2 h3 hb) hP
theorem Aw.append_new (h : Aw w W p q m) (s bs : List UInt8) (hs : s.length ≤ 100000) (hL : m.L.length ≤ 10000) (n c : Nat) (cs : Array Value) (t : TypeId) (fr : Nat × Nat) (hn : bs.length = n) (hc : cs = (bs.map bv).toArray) (hn2 : n ≤ 10000) (r : Int × Int × Bool) (hr : endsF (whyApp q m.L s n) m.fu m.dn = r) :
    Calls Try.prog 25 #[.pointer (some ⟨p, 0, none⟩), .string (textOf s), .slice (some ⟨W.heap.size, 0, none⟩) n c] (W.alloc (.cells cs t fr)) fun e W' => e = .returned (.int .i64 r.1) ∧ Aw w W' p q ⟨appF m.L s bs r, r.2.1, r.2.2⟩ := by
  obtain ⟨F, h1, h2, h3⟩ := h
  have hb := (Below.refl W.heap.size W).alloc (Nat.le_refl _) (.cells cs t fr)
  exact (append_any F p q m.fu m.dn m.L s bs _ n c (W.alloc (.cells cs t fr)) (PgS.go h1 hb) hs hL (RdB.fresh W bs n cs t fr hn hc) (fun _ a ha hm => by
    injection ha with ha
    have := PgS.lt h1 a.block hm
    rw [← ha] at this
    simp at this) (by omega) r hr).mono fun e W' hP => Aw.of_pg h2 (below2 h3 hb) hP
/-- nothing is put behind -/
theorem Aw.append_nil (h : Aw w W p q m) (s : List UInt8) (hs : s.length ≤ 100000) (hL : m.L.length ≤ 10000) (r : Int × Int × Bool) (hr : endsF (whyApp q m.L s 0) m.fu m.dn = r) :
    Calls Try.prog 25 #[.pointer (some ⟨p, 0, none⟩), .string (textOf s), .slice none 0 0] W fun e W' => e = .returned (.int .i64 r.1) ∧ Aw w W' p q ⟨appF m.L s [] r, r.2.1, r.2.2⟩ := by
  obtain ⟨F, h1, h2, h3⟩ := h
  exact (append_any F p q m.fu m.dn m.L s [] none 0 0 W h1 hs hL ⟨rfl, fun h => absurd h (by omega)⟩ (fun h => absurd h (by omega)) (by omega) r hr).mono fun e W' hP => Aw.of_pg h2 h3 hP
theorem Aw.crash_nil (h : Aw w W p q m) (hL : m.L.length ≤ 10000) : Calls Try.prog 21 #[.pointer (some ⟨p, 0, none⟩), .slice none 0 0] W fun e W' => e = .returned (.tuple #[]) ∧ Aw w W' p q ⟨crL m.L [], -1, false⟩ :=
  h.crash hL [] none 0 0 (RdR.nil _ _) (by omega)
theorem Aw.sync (h : Aw w W p q m) (s : List UInt8) (hs : s.length ≤ 100000) (r : Int × Int × Bool) (hr : endsF (whyAt m.L s) m.fu m.dn = r) :
    Calls Try.prog 26 #[.pointer (some ⟨p, 0, none⟩), .string (textOf s)] W fun e W' => e = .returned (.int .i64 r.1) ∧ Aw w W' p q ⟨synF m.L s r, r.2.1, r.2.2⟩ := by
  obtain ⟨F, h1, h2, h3⟩ := h
  exact (sync_any F p q m.fu m.dn m.L s W h1 hs r hr).mono fun e W' hP => Aw.of_pg h2 h3 hP
theorem Aw.remove (h : Aw w W p q m) (s : List UInt8) (hs : s.length ≤ 100000) (r : Int × Int × Bool) (hr : endsF (whyAt m.L s) m.fu m.dn = r) :
    Calls Try.prog 27 #[.pointer (some ⟨p, 0, none⟩), .string (textOf s)] W fun e W' => e = .returned (.int .i64 r.1) ∧ Aw w W' p q ⟨remF m.L s r, r.2.1, r.2.2⟩ := by
  obtain ⟨F, h1, h2, h3⟩ := h
  exact (remove_any F p q m.fu m.dn m.L s W h1 hs r hr).mono fun e W' hP => Aw.of_pg h2 h3 hP
theorem Aw.rename (h : Aw w W p q m) (s t : List UInt8) (hs : s.length ≤ 100000) (ht : t.length ≤ 100000) (hL : m.L.length ≤ 10000) (r : Int × Int × Bool) (hr : endsF (whyRen m.L s t) m.fu m.dn = r) :
    Calls Try.prog 28 #[.pointer (some ⟨p, 0, none⟩), .string (textOf s), .string (textOf t)] W fun e W' => e = .returned (.int .i64 r.1) ∧ Aw w W' p q ⟨renF m.L s t r, r.2.1, r.2.2⟩ := by
  obtain ⟨F, h1, h2, h3⟩ := h
  exact (rename_any F p q m.fu m.dn m.L s t W h1 hs ht hL r hr).mono fun e W' hP => Aw.of_pg h2 h3 hP
end
end Go.Proofs.Ytejjobbgceoljaa
