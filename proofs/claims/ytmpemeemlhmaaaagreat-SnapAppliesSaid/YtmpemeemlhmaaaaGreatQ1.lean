/- Words for memory, whatever the program: slices that read as lists, bytes, texts made of them. -/
import Derived.WalkKit
import Derived.WalkSpells
import Derived.WalkLawsBesides
import Derived.Deep.Draws
import Derived.Deep.OwnRows
import Derived.Laws.BytesArg
import Derived.Lib.Hide
set_option linter.unusedSimpArgs false
set_option linter.unusedVariables false
set_option maxRecDepth 100000
namespace Go.Proofs.YtmpemeemlhmaaaaGreat
open Go.RowKit

theorem nat_beq (a b : Nat) : ((a : Int) == (b : Int)) = (a == b) := by rw [Bool.eq_iff_iff]; simp; omega

theorem add_block (a : Addr) (n : Nat) : (a.add n).block = a.block := by unfold Addr.add; split <;> rfl
theorem add_add_ (a : Addr) (i j : Nat) : (a.add i).add j = a.add (i + j) := by
  unfold Addr.add
  by_cases hi : i = 0 <;> by_cases hj : j = 0 <;> simp [hi, hj, Nat.add_assoc]
theorem add_zero_ (a : Addr) : a.add 0 = a := by unfold Addr.add; simp

/-- A SLICE 'A, n' (size cells an element) READS AS THE CELLS xs, AND LIES BELOW BLOCK B. -/
def Rd (w : World) (B size : Nat) (A : Option Addr) (n : Nat) (xs : List Value) : Prop :=
  xs.length = n * size ∧ (0 < n → ∃ a, A = some a ∧ a.block < B ∧ ∀ j u, xs[j]? = some u → w.cell? (a.add j) = some u)

section
variable {w w' : World} {B B' size n : Nat} {A : Option Addr} {xs : List Value}
theorem Rd.nil : Rd w B size A 0 [] := ⟨by simp, fun h => absurd h (by omega)⟩
theorem Rd.pick {k : Nat} (h : Rd w B 1 A n xs) (hk : k < n) : ∃ a u, A = some a ∧ a.block < B ∧ xs[k]? = some u ∧ w.cell? (a.add k) = some u := by
  obtain ⟨a, e, hb, hc⟩ := h.2 (by omega)
  have hl : k < xs.length := by have := h.1; omega
  exact ⟨a, xs[k], e, hb, List.getElem?_eq_getElem hl, hc k _ (List.getElem?_eq_getElem hl)⟩
theorem Rd.keep (h : Rd w B size A n xs) (hk : ∀ p : Addr, p.block < B → w'.cell? p = w.cell? p) : Rd w' B size A n xs :=
  ⟨h.1, fun hn => by
    obtain ⟨a, e, hb, hc⟩ := h.2 hn
    exact ⟨a, e, hb, fun j u hu => (hk _ (by rw [add_block]; exact hb)).trans (hc j u hu)⟩⟩
theorem Rd.more (h : Rd w B size A n xs) (hB : B ≤ B') : Rd w B' size A n xs :=
  ⟨h.1, fun hn => by
    obtain ⟨a, e, hb, hc⟩ := h.2 hn
    exact ⟨a, e, by omega, hc⟩⟩
theorem Rd.below (h : Rd w B size A n xs) (hb : Below B w w') : Rd w' B size A n xs := h.keep fun _ hp => hb.cell hp
theorem Rd.to {C : Nat} (h : Rd w B size A n xs) (hb : Below C w w') (hC : B ≤ C) : Rd w' B size A n xs := h.keep fun _ hp => hb.cell (by omega)
theorem Rd.drew (h : Rd w B size A n xs) : Rd w.drew B size A n xs := h
theorem Rd.drewN (h : Rd w B size A n xs) (k : Nat) : Rd (w.drewN k) B size A n xs := h
theorem Rd.alloc (h : Rd w B size A n xs) (hB : B ≤ w.heap.size) (o : Obj) : Rd (w.alloc o) B size A n xs := h.keep fun p hp => World.cell?_alloc_lt w o p (by omega)
theorem Rd.setCell (h : Rd w B size A n xs) {p : Addr} (hB : B ≤ p.block) (u : Value) : Rd (w.setCell p u) B size A n xs :=
  h.keep fun q hq => World.cell?_setCell_other w p q u (fun e => by subst e; omega)
theorem Rd.cut (h : Rd w B size A n xs) {k cap : Nat} (hk : k ≤ n) (hc : n ≤ cap) :
    Rd w B size (if cap = k then A else A.map (·.add (k * size))) (n - k) (xs.drop (k * size)) := by
  refine ⟨by rw [List.length_drop, h.1, Nat.sub_mul], fun hn => ?_⟩
  obtain ⟨a, rfl, hb, hcell⟩ := h.2 (by omega)
  rw [if_neg (by omega)]
  refine ⟨a.add (k * size), rfl, by rw [add_block]; exact hb, fun j u hu => ?_⟩
  rw [add_add_]
  exact hcell _ u (by rw [← hu, List.getElem?_drop])
theorem Rd.upto (h : Rd w B size A n xs) {k : Nat} (hk : k ≤ n) : Rd w B size A k (xs.take (k * size)) := by
  refine ⟨by rw [List.length_take, h.1]; have := Nat.mul_le_mul_right size hk; omega, fun hn => ?_⟩
  obtain ⟨a, rfl, hb, hcell⟩ := h.2 (by omega)
  refine ⟨a, rfl, hb, fun j u hu => ?_⟩
  rcases Nat.lt_or_ge j (k * size) with h1 | h1
  · rw [List.getElem?_take_of_lt h1] at hu
    exact hcell j u hu
  · rw [List.getElem?_eq_none (by rw [List.length_take]; omega)] at hu; cases hu
theorem Rd.of_own {base : Nat} {e : TypeId} {c : Nat} (h : w.ownsRow base e size (.slice A n c) n xs) : Rd w w.heap.size size A n xs := by
  refine ⟨h.1, fun hn => ?_⟩
  rcases h.2 with ⟨_, h0⟩ | ⟨g, cap, cur, hv, _, _, _, _, _, _⟩
  · omega
  · injection hv with hA _ _
    have hl := (h.lt g (by rw [hA]; rfl)).2
    exact ⟨⟨g, 0, none⟩, hA, hl, h.cells (by rw [hA]; rfl)⟩
end

theorem Rd.fresh (w : World) (cs : Array Value) (t : TypeId) (size n : Nat) (hs : cs.size = n * size) : Rd (w.alloc (.cells cs t)) (w.heap.size + 1) size (some ⟨w.heap.size, 0, none⟩) n cs.toList := by
  have hrow := World.rowIs_alloc w cs t (fun j => cs.toList.getD j undef) (fun i hi => by
    rw [List.getD_eq_getElem?_getD, Array.getElem?_toList, Array.getElem?_eq_getElem hi]; rfl)
  refine ⟨by simpa using hs, fun _ => ⟨_, rfl, Nat.lt_succ_self _, fun j u hu => ?_⟩⟩
  have hj : j < cs.size := by
    rcases Nat.lt_or_ge j cs.size with h1 | h1
    · exact h1
    · rw [List.getElem?_eq_none (by simpa using h1)] at hu; cases hu
  have e : (⟨w.heap.size, 0, none⟩ : Addr).add j = ⟨w.heap.size, j, none⟩ := by unfold Addr.add; split <;> simp_all
  rw [e, hrow.cell hj, List.getD_eq_getElem?_getD, hu]
  rfl

/-- a byte as a cell -/
def bv (b : UInt8) : Value := .int .u8 (b.toNat : Nat)
theorem bv_one (b : UInt8) : (bv b).oneCell' = true := rfl
theorem bvs_one (l : List UInt8) : ∀ u ∈ l.map bv, u.oneCell' = true := by
  intro u hu
  obtain ⟨b, _, rfl⟩ := List.mem_map.1 hu
  rfl

/-- bytes, read as a list -/
def RdB (w : World) (B : Nat) (A : Option Addr) (n : Nat) (l : List UInt8) : Prop := Rd w B 1 A n (l.map bv)
section
variable {w w' : World} {B B' n : Nat} {A : Option Addr} {l : List UInt8}
theorem RdB.len (h : RdB w B A n l) : l.length = n := by have := h.1; simpa using this
theorem RdB.at_ (h : RdB w B A n l) {k : Nat} (hk : k < n) : ∃ a, A = some a ∧ a.block < B ∧ w.cell? (a.add k) = some (bv (l.getD k 0)) := by
  obtain ⟨a, u, e, hb, hu, hc⟩ := Rd.pick h hk
  refine ⟨a, e, hb, ?_⟩
  rw [hc]
  have hl := h.len
  rw [List.getElem?_map, List.getElem?_eq_getElem (by omega)] at hu
  simp only [Option.map_some, Option.some.injEq] at hu
  rw [← hu, List.getD_eq_getElem?_getD, List.getElem?_eq_getElem (by omega)]
  rfl
theorem RdB.below (h : RdB w B A n l) (hb : Below B w w') : RdB w' B A n l := Rd.below h hb
theorem RdB.to {C : Nat} (h : RdB w B A n l) (hb : Below C w w') (hC : B ≤ C) : RdB w' B A n l := Rd.to h hb hC
theorem RdB.more (h : RdB w B A n l) (hB : B ≤ B') : RdB w B' A n l := Rd.more h hB
theorem RdB.drew (h : RdB w B A n l) : RdB w.drew B A n l := h
theorem RdB.alloc (h : RdB w B A n l) (hB : B ≤ w.heap.size) (o : Obj) : RdB (w.alloc o) B A n l := Rd.alloc h hB o
theorem RdB.setCell (h : RdB w B A n l) {p : Addr} (hB : B ≤ p.block) (u : Value) : RdB (w.setCell p u) B A n l := Rd.setCell h hB u
theorem RdB.of_rowIs {b c : Nat} {t : TypeId} {N : Nat} {f : Nat → Value} (h : w.rowIs b t N f) (hn : l.length ≤ N) (hb : b < B) (hf : ∀ j, j < l.length → f j = bv (l.getD j 0)) : RdB w B (some ⟨b, 0, none⟩) l.length l := by
  refine ⟨by simp, fun h0 => ⟨⟨b, 0, none⟩, rfl, hb, fun j u hu => ?_⟩⟩
  have hj : j < l.length := by
    rcases Nat.lt_or_ge j l.length with h1 | h1
    · exact h1
    · rw [List.getElem?_eq_none (by simpa using h1)] at hu; cases hu
  have e : (⟨b, 0, none⟩ : Addr).add j = ⟨b, j, none⟩ := by unfold Addr.add; split <;> simp_all
  rw [e, h.cell (by omega), hf j hj]
  rw [List.getElem?_map, List.getElem?_eq_getElem hj] at hu
  simp only [Option.map_some, Option.some.injEq] at hu
  rw [← hu, List.getD_eq_getElem?_getD, List.getElem?_eq_getElem hj]
  rfl
end

/-- the text of bytes -/
def textOf (l : List UInt8) : ByteArray := ⟨l.toArray⟩
theorem textOf_inj {l m : List UInt8} : textOf l = textOf m ↔ l = m := by
  constructor
  · intro h
    have := congrArg (fun s : ByteArray => s.data.toList) h
    simpa [textOf] using this
  · rintro rfl; rfl
theorem textOf_data (s : ByteArray) : textOf s.data.toList = s := by cases s; rfl

theorem run_bytes_text {P : Program} {w : World} {B : Nat} {A : Option Addr} {n : Nat} {l : List UInt8} (h : RdB w B A n l) (src e dst : TypeId)
    (hs : P.underlying src = some (.slice e)) (he : P.underlying e = some (.int .u8)) (hd : P.underlying dst = some .string) (c : Nat) :
    (convert src dst (.slice A n c)).run P w = .ok (.string (textOf l)) w := by
  have hlen := h.len
  cases A with
  | none =>
    have h0 : n = 0 := by
      rcases Nat.eq_zero_or_pos n with h0 | h0
      · exact h0
      · obtain ⟨a, ha, _⟩ := h.2 h0; cases ha
    have hl : l = [] := List.eq_nil_of_length_eq_zero (by omega)
    subst hl
    rw [run_convert_bytes_nil w src e hs he n c dst hd]
    rfl
  | some a =>
    have hld : (loadCells a n).run P w = .ok ((l.map fun b => (b.toNat : Int)).map (Value.int .u8)).toArray w := by
      have hm : (l.map fun b => (b.toNat : Int)).map (Value.int .u8) = l.map bv := by rw [List.map_map]; rfl
      rw [hm]
      have := run_loadCells_list (P := P) w a (l.map bv) (fun j v hj => by
        have hn : 0 < n := by
          rcases Nat.eq_zero_or_pos n with h0 | h0
          · have hl : l = [] := List.eq_nil_of_length_eq_zero (by omega)
            subst hl; simp at hj
          · exact h0
        obtain ⟨a', ha, _, hc⟩ := h.2 hn
        injection ha with ha
        subst ha
        exact hc j v hj)
      simpa [hlen] using this
    rw [run_convert_bytes_string w src dst e _ n c hs he hd, run_bytesToString w _ n c _ hld, foldl_push_bytes]
    simp [textOf, ByteArray.empty, ByteArray.emptyWithCapacity, List.map_map, Function.comp_def]
    rfl

/-! only one block, and what is new, has turned -/
theorem gb_drewN {a w : World} {row : Option Nat} (h : a.grownBy w row) (n : Nat) : a.grownBy (w.drewN n) row := ⟨h.os, h.tape, h.output, h.size, h.block⟩
theorem gb_drew {a w : World} {row : Option Nat} (h : a.grownBy w row) : a.grownBy w.drew row := ⟨h.os, h.tape, h.output, h.size, h.block⟩
theorem gb_alloc {a w : World} {row : Option Nat} (h : a.grownBy w row) (o : Obj) : a.grownBy (w.alloc o) row :=
  ⟨h.os, h.tape, h.output, Nat.le_trans h.size (by simp), fun i hi hne => (Below.heap_alloc w o i (Nat.lt_of_lt_of_le hi h.size)).trans (h.block i hi hne)⟩
theorem gb_set {a w : World} {g : Nat} (h : a.grownBy w (some g)) {p : Addr} (hp : p.block = g ∨ a.heap.size ≤ p.block) (u : Value) : a.grownBy (w.setCell p u) (some g) :=
  ⟨h.os, h.tape, h.output, by simpa [World.setCell] using h.size, fun i hi hne => (Below.heap_setCell w p u i (by
    rintro rfl
    rcases hp with hp | hp
    · exact hne (by rw [hp])
    · omega)).trans (h.block i hi hne)⟩
theorem gb_trans {a b c : World} {row : Option Nat} (h : a.grownBy b row) (k : b.grownBy c row) : a.grownBy c row :=
  ⟨k.os.trans h.os, k.tape.trans h.tape, k.output.trans h.output, Nat.le_trans h.size k.size, fun i hi hne => (k.block i (Nat.lt_of_lt_of_le hi h.size) hne).trans (h.block i hi hne)⟩
/-- a block that is new to the caller has turned: nothing below has -/
theorem gb_below {B : Nat} {a b c : World} {g : Nat} (h : Below B a b) (k : b.grownBy c (some g)) (hg : B ≤ g) (hB : B ≤ b.heap.size) : Below B a c :=
  h.grown k hB (fun x hx => by injection hx with hx; omega)
theorem below_drewN {B : Nat} {a w : World} (h : Below B a w) (n : Nat) : Below B a (w.drewN n) := ⟨h.os, h.tape, h.output, h.size, h.block⟩

theorem below2 {w a b : World} (h1 : Below w.heap.size w a) (h2 : Below a.heap.size a b) : Below w.heap.size w b := h1.trans (h2.mono h1.size)
theorem below2d {w a b : World} (h1 : Below w.drew.heap.size w.drew a) (h2 : Below a.heap.size a b) : Below w.heap.size w b :=
  have h : Below w.heap.size w a := ⟨h1.os, h1.tape, h1.output, h1.size, h1.block⟩
  h.trans (h2.mono h1.size)
theorem below1d {w a : World} (h1 : Below w.drew.heap.size w.drew a) : Below w.heap.size w a := ⟨h1.os, h1.tape, h1.output, h1.size, h1.block⟩
theorem beq_dec (l r : List UInt8) : (l == r) = decide (l = r) := by rw [Bool.eq_iff_iff]; simp
theorem bne_dec (l r : List UInt8) : (!(l == r)) = decide (l ≠ r) := by rw [beq_dec]; simp

end Go.Proofs.YtmpemeemlhmaaaaGreat
