/- Arguments opened: whole structs, and slices of them, as cells. -/
import Derived.Test.YtgcahcjffoehfaaFrame
import Derived.Test.YtgcahcjffoehfaaPoX
import Derived.Deep.Slices
import Derived.Deep.Fields
set_option linter.unusedSimpArgs false
set_option linter.unusedVariables false
namespace Go.Proofs.Ytgcahcjffoehfaa
open Go.ChangeShapes Go.WideShapes Go.ChangeAt Go.RowKit Go.Deep

section
variable {H : Type} {enc : TypeId × Value → H} {P : Program} {w : World} {base : Nat} {spare : Nat → Bool} {held : Bool} {fuel : Nat} {t : TypeId} {cs : List Value} {x : DataW H × List MemPlace}
theorem read_str (ht : P.underlying t = some .string) (h : DataW.trod enc P w base spare held fuel t cs = some x) : ∃ l : List UInt8, cs = [.string (textOf l)] ∧ l.length ≤ 9223372036854775807 := by
  obtain ⟨s, rfl, _, hs⟩ := DataW.trod_string ht h
  refine ⟨s.data.toList, by rw [textOf_data], ?_⟩
  have h2 : s.size ≤ 9223372036854775807 := by unfold maxLen at hs; omega
  show s.data.toList.length ≤ _
  rw [Array.length_toList]
  exact h2
theorem read_i64 (ht : P.underlying t = some (.int .i64)) (h : DataW.trod enc P w base spare held fuel t cs = some x) : ∃ z : Int, cs = [.int .i64 z] ∧ -9223372036854775808 ≤ z ∧ z ≤ 9223372036854775807 := by
  obtain ⟨z, rfl, _, hz⟩ := DataW.trod_int ht h
  have : -9223372036854775808 ≤ z ∧ z ≤ 9223372036854775807 := by simpa [Lit.wf, IntKind.min, IntKind.max, IntKind.signed, IntKind.bits] using hz
  exact ⟨z, rfl, this⟩
theorem read_u8 (ht : P.underlying t = some (.int .u8)) (h : DataW.trod enc P w base spare held fuel t cs = some x) : ∃ b : UInt8, cs = [bv b] := by
  obtain ⟨z, rfl, _, hz⟩ := DataW.trod_int ht h
  have h2 : 0 ≤ z ∧ z ≤ 255 := by simpa [Lit.wf, IntKind.min, IntKind.max, IntKind.signed, IntKind.bits] using hz
  refine ⟨UInt8.ofNat z.toNat, ?_⟩
  unfold bv
  congr 2
  rw [UInt8.toNat_ofNat']
  omega
theorem read_f64 (ht : P.underlying t = some (.float .f64)) (h : DataW.trod enc P w base spare held fuel t cs = some x) : ∃ n : Nat, cs = [fv n] ∧ n < 18446744073709551616 := by
  cases fuel with
  | zero => simp [DataW.trod] at h
  | succ m =>
    unfold DataW.trod at h
    rw [ht] at h
    split at h <;> simp_all
    rename_i heq
    subst heq
    obtain ⟨⟨_, hw⟩, _⟩ := h
    exact ⟨_, rfl, by simpa [Lit.wf] using hw⟩
theorem fld {fs : Array Field} {n : Nat} {xs : List (DataW H × List MemPlace)} (hl : xs.length = fs.size) (hf : ∀ (i : Nat) (f : Field), fs[i]? = some f → DataW.trod enc P w base spare held n f.type ((cs.drop f.offset).take (P.cellsOf f.type)) = xs[i]?)
    (j : Nat) (f : Field) (hj : fs[j]? = some f) : ∃ y, DataW.trod enc P w base spare held n f.type ((cs.drop f.offset).take (P.cellsOf f.type)) = some y := by
  have hlt : j < xs.length := by have := (Array.getElem?_eq_some_iff.1 hj).1; omega
  exact ⟨xs[j], (hf j f hj).trans (List.getElem?_eq_getElem hlt)⟩
theorem seg {α : Type} (l : List α) (o n : Nat) : l.drop o = (l.drop o).take n ++ l.drop (o + n) := by
  rw [← List.drop_drop]; exact (List.take_append_drop n _).symm
/-- an array of bytes -/
theorem read_u8s {k : Nat} {e : TypeId} (ht : P.underlying t = some (.array k e)) (he : P.underlying e = some (.int .u8)) (hc : P.cellsOf e = 1) (hk : P.cellsOf t = k) (h : DataW.trod enc P w base spare held fuel t cs = some x) : ∃ v : Vector UInt8 k, cs = v.toList.map bv := by
  obtain ⟨xs, m, _, _, hl, hxl, hf⟩ := DataW.trod_array ht h
  rw [hk] at hl
  have hg : ∀ i, i < k → ∃ b : UInt8, cs[i]? = some (bv b) := fun i hi => by
    have h1 := hf i hi
    rw [hc, Nat.mul_one, List.getElem?_eq_getElem (by omega)] at h1
    obtain ⟨b, hb⟩ := read_u8 he h1
    refine ⟨b, ?_⟩
    rw [take1_drop cs i undef (by omega)] at hb
    simp only [List.cons.injEq, and_true] at hb
    rw [List.getElem?_eq_getElem (by omega), ← hb, List.getD_eq_getElem?_getD, List.getElem?_eq_getElem (by omega)]
    rfl
  obtain ⟨f, hf⟩ : ∃ f : Nat → UInt8, ∀ i, i < k → cs[i]? = some (bv (f i)) := by
    refine ⟨fun i => if hi : i < k then (hg i hi).choose else 0, fun i hi => ?_⟩
    simp only [hi, dif_pos]
    exact (hg i hi).choose_spec
  refine ⟨Vector.ofFn fun i : Fin k => f i, ?_⟩
  apply List.ext_getElem?
  intro i
  rcases Nat.lt_or_ge i k with hi | hi
  · rw [hf i hi]
    simp [hi]
  · rw [List.getElem?_eq_none (by omega), List.getElem?_eq_none (by simpa using hi)]
end

section
variable {H : Type} {enc : TypeId × Value → H} {w : World} {base : Nat} {spare : Nat → Bool} {held : Bool} {fuel : Nat} {t : TypeId} {cs : List Value} {x : DataW H × List MemPlace}
theorem read_adr (h : DataW.trod enc Try.prog w base spare held fuel 32 cs = some x) : ∃ a : Adr, cs = a.arr.toList := by
  obtain ⟨xs, n, _, _, hl, hxl, hf⟩ := DataW.trod_struct Try.underlying32 h
  rw [show Try.prog.cellsOf 32 = 17 by kernel_rfl] at hl
  obtain ⟨y0, h0⟩ := fld hxl hf 0 _ rfl
  obtain ⟨y1, h1⟩ := fld hxl hf 1 _ rfl
  obtain ⟨b, hb, _⟩ := DataW.trod_bool (by kernel_rfl) h0
  obtain ⟨v, hv⟩ := read_u8s (k := 16) (e := 5) (by kernel_rfl) (by kernel_rfl) (by kernel_rfl) (by kernel_rfl) h1
  have c0 : (cs.drop 0).take 1 = [.bool b] := hb
  have c1 : (cs.drop 1).take 16 = v.toList.map bv := hv
  refine ⟨⟨b, v⟩, ?_⟩
  have e := seg cs 0 1
  rw [c0, seg cs (0 + 1) 16, c1, List.drop_of_length_le (i := 0 + 1 + 16) (by omega)] at e
  simpa [Adr.arr] using e
/-- a backend as it can be read -/
def Bk.good (b : Bk) : Prop := b.fine ∧ -9223372036854775808 ≤ b.port ∧ b.port ≤ 9223372036854775807
theorem read_bk (h : DataW.trod enc Try.prog w base spare held fuel 36 cs = some x) : ∃ b : Bk, cs = b.arr.toList ∧ b.good := by
  obtain ⟨xs, n, _, _, hl, hxl, hf⟩ := DataW.trod_struct Try.underlying36 h
  rw [show Try.prog.cellsOf 36 = 27 by kernel_rfl] at hl
  obtain ⟨y0, h0⟩ := fld hxl hf 0 _ rfl
  obtain ⟨y1, h1⟩ := fld hxl hf 1 _ rfl
  obtain ⟨y2, h2⟩ := fld hxl hf 2 _ rfl
  obtain ⟨y3, h3⟩ := fld hxl hf 3 _ rfl
  obtain ⟨y4, h4⟩ := fld hxl hf 4 _ rfl
  obtain ⟨y5, h5⟩ := fld hxl hf 5 _ rfl
  obtain ⟨s, hs, hsl⟩ := read_str (by kernel_rfl) h0
  obtain ⟨a, ha⟩ := read_adr h1
  obtain ⟨p, hp, hp1, hp2⟩ := read_i64 (by kernel_rfl) h2
  obtain ⟨m, hm⟩ := read_u8s (k := 6) (e := 5) (by kernel_rfl) (by kernel_rfl) (by kernel_rfl) (by kernel_rfl) h3
  obtain ⟨f, hf, hf2⟩ := read_f64 (by kernel_rfl) h4
  obtain ⟨d, hd, _⟩ := DataW.trod_bool (by kernel_rfl) h5
  have c0 : (cs.drop 0).take 1 = [.string (textOf s)] := hs
  have c1 : (cs.drop 1).take 17 = a.arr.toList := ha
  have c2 : (cs.drop 18).take 1 = [.int .i64 p] := hp
  have c3 : (cs.drop 19).take 6 = m.toList.map bv := hm
  have c4 : (cs.drop 25).take 1 = [fv f] := hf
  have c5 : (cs.drop 26).take 1 = [.bool d] := hd
  refine ⟨⟨s, a, p, m, f, d⟩, ?_, ⟨hsl, hf2⟩, hp1, hp2⟩
  have e := seg cs 0 1
  rw [c0, seg cs (0 + 1) 17, c1, seg cs (0 + 1 + 17) 1, c2, seg cs (0 + 1 + 17 + 1) 6, c3, seg cs (0 + 1 + 17 + 1 + 6) 1, c4, seg cs (0 + 1 + 17 + 1 + 6 + 1) 1, c5, List.drop_of_length_le (i := 0 + 1 + 17 + 1 + 6 + 1 + 1) (by omega)] at e
  simpa [Bk.arr, Adr.arr] using e
def Opr.good (o : Opr) : Prop := o.bk.good ∧ o.w < 18446744073709551616 ∧ o.name.length ≤ 9223372036854775807
theorem read_opr (h : DataW.trod enc Try.prog w base spare held fuel 38 cs = some x) : ∃ o : Opr, cs = o.arr.toList ∧ o.good := by
  obtain ⟨xs, n, _, _, hl, hxl, hf⟩ := DataW.trod_struct Try.underlying38 h
  rw [show Try.prog.cellsOf 38 = 30 by kernel_rfl] at hl
  obtain ⟨y0, h0⟩ := fld hxl hf 0 _ rfl
  obtain ⟨y1, h1⟩ := fld hxl hf 1 _ rfl
  obtain ⟨y2, h2⟩ := fld hxl hf 2 _ rfl
  obtain ⟨y3, h3⟩ := fld hxl hf 3 _ rfl
  obtain ⟨k, hk, _, _⟩ := read_i64 (by kernel_rfl) h0
  obtain ⟨b, hb, hbg⟩ := read_bk h1
  obtain ⟨s, hs, hsl⟩ := read_str (by kernel_rfl) h2
  obtain ⟨f, hf, hf2⟩ := read_f64 (by kernel_rfl) h3
  have c0 : (cs.drop 0).take 1 = [.int .i64 k] := hk
  have c1 : (cs.drop 1).take 27 = b.arr.toList := hb
  have c2 : (cs.drop 28).take 1 = [.string (textOf s)] := hs
  have c3 : (cs.drop 29).take 1 = [fv f] := hf
  refine ⟨⟨k, b, s, f⟩, ?_, hbg, hf2, hsl⟩
  have e := seg cs 0 1
  rw [c0, seg cs (0 + 1) 27, c1, seg cs (0 + 1 + 27) 1, c2, seg cs (0 + 1 + 27 + 1) 1, c3, List.drop_of_length_le (i := 0 + 1 + 27 + 1 + 1) (by omega)] at e
  simpa [Opr.arr] using e
end

theorem flatMap_get {α : Type} (f : α → Array Value) (size : Nat) (hs : ∀ x, (f x).size = size) (l : List α) (k j : Nat) (hk : k < l.length) (hj : j < size) : (l.flatMap fun x => (f x).toList)[k * size + j]? = (f (l[k]'hk))[j]? := by
  induction l generalizing k with
  | nil => simp at hk
  | cons x l ih =>
    rw [List.flatMap_cons]
    rcases k with _ | k
    · rw [List.getElem?_append_left (by rw [Array.length_toList, hs]; omega), Array.getElem?_toList]
      simp
    · rw [List.getElem?_append_right (by rw [Array.length_toList, hs, Nat.succ_mul]; omega), Array.length_toList, hs, show (k + 1) * size + j - size = k * size + j by rw [Nat.succ_mul]; omega]
      rw [List.length_cons] at hk
      simpa using ih k (by omega)
theorem flatMap_len {α : Type} (f : α → Array Value) (size : Nat) (hs : ∀ x, (f x).size = size) (l : List α) : (l.flatMap fun x => (f x).toList).length = l.length * size := by
  induction l with
  | nil => simp
  | cons x l ih => rw [List.flatMap_cons, List.length_append, ih, Array.length_toList, hs, List.length_cons, Nat.succ_mul]; omega
section
variable {H : Type} {enc : TypeId × Value → H} {P : Program} {w : World} {base : Nat} {held : Bool} {fuel : Nat} {t : TypeId} {cs : List Value} {x : DataW H × List MemPlace}
/-- a slice of structs -/
theorem read_rows {α : Type} (f : α → Array Value) (good : α → Prop) (size : Nat) (hfs : ∀ x, (f x).size = size) {e : TypeId} (ht : P.underlying t = some (.slice e)) (hc : P.cellsOf e = size) (hpos : 0 < size)
    (hrd : ∀ (n : Nat) (cs : List Value) (y : DataW H × List MemPlace), DataW.trod enc P w base (fun _ => true) held n e cs = some y → ∃ a, cs = (f a).toList ∧ good a)
    (h : DataW.trod enc P w base (fun _ => true) held fuel t cs = some x) :
    ∃ (A : Option Addr) (n c : Nat) (l : List α), cs = [.slice A n c] ∧ n ≤ c ∧ c ≤ 9223372036854775807 ∧ l.length = n ∧ Rd w w.heap.size size A n (l.flatMap fun x => (f x).toList) ∧ (∀ a, A = some a → 0 < n → a = ⟨a.block, a.off, none⟩) ∧ ∀ a ∈ l, good a := by
  rcases open_slice ht h with ⟨rfl, _⟩ | ⟨a, len, cap, m, n, D, Pl, rfl, _, hl, hm, hmm, _, hi⟩
  · exact ⟨none, 0, 0, [], rfl, Nat.le_refl _, by omega, rfl, Rd.nil, (fun a h => by cases h), by simp⟩
  · rw [if_pos rfl] at hmm
    have hg : ∀ i, i < len → ∃ b : α, good b ∧ ∀ j, j < size → w.cell? (a.add (i * size + j)) = (f b)[j]? := fun i hlt => by
      obtain ⟨cs', h1, h2⟩ := hi i (by omega)
      obtain ⟨_, hlen, hcell⟩ := World.cells?_some h1
      obtain ⟨b, hb, hgd⟩ := hrd _ _ _ h2
      rw [hc] at hcell
      refine ⟨b, hgd, fun j hj => ?_⟩
      have := hcell j hj
      rw [add_add_, hb, Array.getElem?_toList] at this
      exact this
    obtain ⟨F, hF⟩ : ∃ F : Fin len → α, ∀ i : Fin len, good (F i) ∧ ∀ j, j < size → w.cell? (a.add (i * size + j)) = (f (F i))[j]? :=
      ⟨fun i => (hg i i.2).choose, fun i => (hg i i.2).choose_spec⟩
    have hll : (List.ofFn F).length = len := List.length_ofFn
    have hcl : ∀ k (hk : k < len) j, j < size → ((List.ofFn F).flatMap fun x => (f x).toList)[k * size + j]? = w.cell? (a.add (k * size + j)) := fun k hk j hj => by
      rw [flatMap_get f size hfs _ k j (by omega) hj, List.getElem_ofFn]
      exact ((hF ⟨k, hk⟩).2 j hj).symm
    refine ⟨some a, len, cap, List.ofFn F, rfl, hl, by unfold maxLen at hm; omega, hll, ⟨by rw [flatMap_len f size hfs, hll], fun h0 => ⟨a, rfl, ?_, fun j u hu => ?_⟩⟩, fun a' ha h0 => ?_, fun b hb => ?_⟩
    · have h1 := hcl 0 h0 0 hpos
      have h2 := flatMap_get f size hfs (List.ofFn F) 0 0 (by omega) hpos
      have h3 : w.cell? (a.add (0 * size + 0)) = some ((f ((List.ofFn F)[0]'(by omega)))[0]'(by rw [hfs]; exact hpos)) := by rw [← h1, h2]; exact Array.getElem?_eq_getElem _
      have := World.block_lt_of_cell? _ _ h3
      rwa [add_block] at this
    · have hj : j < len * size := by
        rcases Nat.lt_or_ge j (len * size) with h1 | h1
        · exact h1
        · rw [List.getElem?_eq_none (by rw [flatMap_len f size hfs, hll]; exact h1)] at hu; cases hu
      have e1 : j = j / size * size + j % size := by rw [Nat.mul_comm]; exact (Nat.div_add_mod j size).symm
      have := hcl (j / size) ((Nat.div_lt_iff_lt_mul hpos).2 hj) (j % size) (Nat.mod_lt _ hpos)
      rw [← e1] at this
      rw [← this]; exact hu
    · injection ha with ha
      subst ha
      have h1 := hcl 0 h0 0 hpos
      have h2 := flatMap_get f size hfs (List.ofFn F) 0 0 (by omega) hpos
      have h3 : w.cell? (a.add (0 * size + 0)) = some ((f ((List.ofFn F)[0]'(by omega)))[0]'(by rw [hfs]; exact hpos)) := by rw [← h1, h2]; exact Array.getElem?_eq_getElem _
      rw [show 0 * size + 0 = 0 by omega, add_zero_] at h3
      have hs := World.cell?_spot h3
      obtain ⟨b, o, s⟩ := a
      simp at hs
      rw [hs]
    · obtain ⟨i, rfl⟩ := List.mem_ofFn.1 hb
      exact (hF i).1
end
section
variable {H : Type} {enc : TypeId × Value → H} {W : World} {base : Nat} {v : Value} {d : DataW H} {ps : List MemPlace} {held : Bool}
theorem read_pool {fuel : Nat} {cs : List Value} {x : DataW H × List MemPlace} (h : DataW.trod enc Try.prog W 0 (fun _ => true) held fuel 24 cs = some x) :
    ∃ (v : Int) (A : Option Addr) (n c : Nat) (l : List Bk), cs = [.int .i64 v, .slice A n c] ∧ (-9223372036854775808 ≤ v ∧ v ≤ 9223372036854775807) ∧ RdK W W.heap.size A n l ∧ (∀ b ∈ l, b.good) ∧ n ≤ 9223372036854775807 := by
  obtain ⟨xs, n, _, _, hl, hxl, hf⟩ := DataW.trod_struct Try.underlying24 h
  rw [show Try.prog.cellsOf 24 = 2 by kernel_rfl] at hl
  obtain ⟨y0, h0⟩ := fld hxl hf 0 _ rfl
  obtain ⟨y1, h1⟩ := fld hxl hf 1 _ rfl
  obtain ⟨z, hz, hz1, hz2⟩ := read_i64 (by kernel_rfl) h0
  obtain ⟨A, n, c, l, hs, hnc, hc, hll, hrd, hsp, hgd⟩ := read_rows Bk.arr Bk.good 27 Bk.arr_size (by kernel_rfl : Try.prog.underlying _ = some (.slice 36)) (by kernel_rfl) (by omega) (fun n cs y hy => read_bk hy) h1
  have c0 : (cs.drop 0).take 1 = [.int .i64 z] := hz
  have c1 : (cs.drop 1).take 1 = [.slice A n c] := hs
  refine ⟨z, A, n, c, l, ?_, ⟨hz1, hz2⟩, ⟨hll, hrd, hsp⟩, hgd, by omega⟩
  have e := seg cs 0 1
  rw [c0, seg cs (0 + 1) 1, c1, List.drop_of_length_le (i := 0 + 1 + 1) (by omega)] at e
  simpa using e
theorem open_pool (hval : Value.okWide Try.prog W .any base 24 v) (h : DataW.Trod enc Try.prog W 0 (fun _ => true) held 24 v d ps) :
    ∃ (z : Int) (A : Option Addr) (n c : Nat) (l : List Bk), v = .agg #[.int .i64 z, .slice A n c] ∧ (-9223372036854775808 ≤ z ∧ z ≤ 9223372036854775807) ∧ RdK W W.heap.size A n l ∧ (∀ b ∈ l, b.good) ∧ n ≤ 9223372036854775807 := by
  obtain ⟨cs, rfl, _⟩ := okWide_struct Try.underlying24 hval
  obtain ⟨fuel, hf⟩ := h
  obtain ⟨z, A, n, c, l, hcs, hr⟩ := read_pool hf
  have hc : cs.toList = [.int .i64 z, .slice A n c] := hcs
  exact ⟨z, A, n, c, l, by rw [← Array.toArray_toList (xs := cs), hc], hr⟩
theorem open_bk (hval : Value.okWide Try.prog W .any base 36 v) (h : DataW.Trod enc Try.prog W 0 (fun _ => true) held 36 v d ps) : ∃ b : Bk, v = .agg b.arr ∧ b.good := by
  obtain ⟨cs, rfl, _⟩ := okWide_struct Try.underlying36 hval
  obtain ⟨fuel, hf⟩ := h
  obtain ⟨b, hcs, hr⟩ := read_bk hf
  have hc : cs.toList = b.arr.toList := hcs
  exact ⟨b, by rw [Array.toList_inj.1 hc], hr⟩
theorem open_opr (hval : Value.okWide Try.prog W .any base 38 v) (h : DataW.Trod enc Try.prog W 0 (fun _ => true) held 38 v d ps) : ∃ o : Opr, v = .agg o.arr ∧ o.good := by
  obtain ⟨cs, rfl, _⟩ := okWide_struct Try.underlying38 hval
  obtain ⟨fuel, hf⟩ := h
  obtain ⟨b, hcs, hr⟩ := read_opr hf
  have hc : cs.toList = b.arr.toList := hcs
  exact ⟨b, by rw [Array.toList_inj.1 hc], hr⟩
/-- a slice of things to be done -/
def cellsOp (l : List Opr) : List Value := l.flatMap fun x => x.arr.toList
def RdO (w : World) (B : Nat) (A : Option Addr) (n : Nat) (l : List Opr) : Prop := l.length = n ∧ Rd w B 30 A n (cellsOp l) ∧ ∀ a, A = some a → 0 < n → a = ⟨a.block, a.off, none⟩
theorem open_oprs (hval : Value.okWide Try.prog W .any base 40 v) (h : DataW.Trod enc Try.prog W 0 (fun _ => true) held 40 v d ps) :
    ∃ (A : Option Addr) (n c : Nat) (l : List Opr), v = .slice A n c ∧ RdO W W.heap.size A n l ∧ (∀ o ∈ l, o.good) ∧ n ≤ 9223372036854775807 := by
  obtain ⟨a0, len, cap, rfl⟩ := okWide_slice Try.underlying40 hval
  obtain ⟨fuel, hf⟩ := h
  obtain ⟨A, n, c, l, hs, hnc, hc, hll, hrd, hsp, hgd⟩ := read_rows Opr.arr Opr.good 30 Opr.arr_size Try.underlying40 (by kernel_rfl) (by omega) (fun n cs y hy => read_opr hy) hf
  simp only [Value.cells, List.cons.injEq, Value.slice.injEq, and_true] at hs
  obtain ⟨rfl, rfl, rfl⟩ := hs
  exact ⟨a0, len, cap, l, rfl, ⟨hll, hrd, hsp⟩, hgd, by omega⟩
theorem texts_cells (l : List (List UInt8)) : (l.flatMap fun s => (#[Value.string (textOf s)] : Array Value).toList) = l.map fun s => .string (textOf s) := by
  induction l with
  | nil => rfl
  | cons a l ih => simp only [List.flatMap_cons, List.map_cons] at ih ⊢; rw [ih]; rfl
theorem open_texts (hval : Value.okWide Try.prog W .any base 50 v) (h : DataW.Trod enc Try.prog W 0 (fun _ => true) held 50 v d ps) :
    ∃ (A : Option Addr) (n c : Nat) (l : List (List UInt8)), v = .slice A n c ∧ RdS W W.heap.size A n l ∧ (∀ s ∈ l, s.length ≤ 9223372036854775807) ∧ n ≤ 9223372036854775807 := by
  obtain ⟨a0, len, cap, rfl⟩ := okWide_slice Try.underlying50 hval
  obtain ⟨fuel, hf⟩ := h
  obtain ⟨A, n, c, l, hs, hnc, hc, hll, hrd, hsp, hgd⟩ := read_rows (fun s : List UInt8 => #[.string (textOf s)]) (fun s => s.length ≤ 9223372036854775807) 1 (fun _ => rfl) Try.underlying50 (by kernel_rfl) (by omega) (fun n cs y hy => read_str Try.underlying9 hy) hf
  simp only [Value.cells, List.cons.injEq, Value.slice.injEq, and_true] at hs
  obtain ⟨rfl, rfl, rfl⟩ := hs
  refine ⟨a0, len, cap, l, rfl, ?_, hgd, by omega⟩
  unfold RdS
  have e := texts_cells l
  rwa [e] at hrd
end
end Go.Proofs.Ytgcahcjffoehfaa
