/- A region that draws its order and only reads, but whose callees may make memory of their own: one walk serves every order, the class of worlds being a family of one's own. -/
import Derived.Test.YtmpemeemlhmaaaaGreatRows
import Derived.BigQuiet
import Derived.Test.YtmpemeemlhmaaaaGreatQ9
import Derived.Test.YtmpemeemlhmaaaaGreatQ10
import Derived.Deep.Cut
set_option linter.unusedSimpArgs false
set_option linter.unusedVariables false
set_option maxRecDepth 100000
namespace Go.Proofs.YtmpemeemlhmaaaaGreat
open Go.RowKit

theorem quiet_in {P : Program} {T : Type} (f : T → World) {id : Nat} {Q : Exit → Act → World → Prop} {a : Act} {w : World} {l : List Oper} (hm : P.follows .mixedOrders = true) (hB : Region.lexB .any l.toArray = true)
    (n0 : T) (h0 : f n0 = w.drew)
    (h : wpQuiet P l.toArray (fun w' => ∃ n, w' = f n) (fun a' => ∀ w', (∃ n, w' = f n) → Q .normal a' w') l a) : (Code.region id l.toArray true).wp P Q a w :=
  wp_region_quiet (C := fun w' => ∃ n, w' = f n) hm hB ⟨n0, h0.symm⟩ (by simpa using h)
/-- the class of worlds: those that have what S says -/
theorem class_of (S : World → Prop) (w : World) (h : S w.drew) : ∃ (T : Type) (f : T → World) (n0 : T), f n0 = w.drew ∧ (∀ n, S (f n)) ∧ (∀ W, S W → ∃ n, W = f n) :=
  ⟨{W // S W}, Subtype.val, ⟨w.drew, h⟩, rfl, fun n => n.2, fun W hW => ⟨⟨W, hW⟩, rfl⟩⟩
/-- the one operation that may come up -/
theorem any_head {P : Program} {md : Region.Mode} {ops : Array Oper} {Q : Exit → Act → World → Prop} {fuel : Nat} {listed : Array Bool} {a : Act} {w : World} (i : Nat) {o : Oper} (hr : Region.ready md ops listed = [i]) (ho : ops[i]? = some o)
    (h : ∀ K' : Act → World → Prop, (∀ a w, wpAny P md ops Q fuel (listed.setIfInBounds i true) a w → K' a w) → if Region.wanted o (yielded ops a.tmps) = true then Oper.wp P o a w K' Q else K' (a.put o.dst undef) w) :
    wpAny P md ops Q (fuel + 1) listed a w :=
  wpAny_ready hr (by simp) (AllReady.cons ho h AllReady.nil)
/-- from the middle on -/
theorem quiet_mid {P : Program} {T : Type} (f : T → World) {Q : Exit → Act → World → Prop} {a : Act} {w : World} {ops : Array Oper} {listed : Array Bool} {fuel : Nat} (k : Nat) (l : List Oper)
    (hs : Region.noSelect ops = true) (hl : ∀ j, l[j]? = ops[k + j]?) (hB : Region.lexFrom .any ops l.length k listed = true) (hf : fuel = l.length) (n0 : T) (h0 : f n0 = w)
    (h : wpQuiet P ops (fun w' => ∃ n, w' = f n) (fun a' => ∀ w', (∃ n, w' = f n) → Q .normal a' w') l a) : wpAny P .any ops Q fuel listed a w := by
  subst hf
  exact wpAny_of_quiet (C := fun w' => ∃ n, w' = f n) (Q := fun a' => ∀ w', (∃ n, w' = f n) → Q .normal a' w') (fun _ w' hw' h => h w' hw') _ _ _ _ ⟨n0, h0.symm⟩ (wpAnyQ_lex hs l k listed a hl hB h)
theorem quiet_mid7 {P : Program} {T : Type} (f : T → World) {Q : Exit → Act → World → Prop} {a : Act} {w : World} {o0 o1 o2 o3 o4 o5 o6 : Oper} {l : List Oper} {listed : Array Bool} {fuel : Nat}
    (hs : Region.noSelect (o0 :: o1 :: o2 :: o3 :: o4 :: o5 :: o6 :: l).toArray = true) (hB : Region.lexFrom .any (o0 :: o1 :: o2 :: o3 :: o4 :: o5 :: o6 :: l).toArray l.length 7 listed = true) (hf : fuel = l.length) (n0 : T) (h0 : f n0 = w)
    (h : wpQuiet P (o0 :: o1 :: o2 :: o3 :: o4 :: o5 :: o6 :: l).toArray (fun w' => ∃ n, w' = f n) (fun a' => ∀ w', (∃ n, w' = f n) → Q .normal a' w') l a) :
    wpAny P .any (o0 :: o1 :: o2 :: o3 :: o4 :: o5 :: o6 :: l).toArray Q fuel listed a w :=
  quiet_mid f 7 l hs (fun j => by rw [Nat.add_comm]; simp) hB hf n0 h0 h
theorem class_at (S : World → Prop) (w : World) (h : S w) : ∃ (T : Type) (f : T → World) (n0 : T), f n0 = w ∧ (∀ n, S (f n)) ∧ (∀ W, S W → ∃ n, W = f n) :=
  ⟨{W // S W}, Subtype.val, ⟨w, h⟩, rfl, fun n => n.2, fun W hW => ⟨⟨W, hW⟩, rfl⟩⟩
end Go.Proofs.YtmpemeemlhmaaaaGreat

namespace Go.Proofs.YtmpemeemlhmaaaaGreat
open Go.RowKit

theorem same_refl (x : Nat) : wSame x x = true := by simp [wSame]
theorem plain_same (u : Nat) (hu : u < 18446744073709551616) (h : ¬ u % 9223372036854775808 = 0) : wPlain u = u := by
  unfold wPlain
  have hord : ord u 0 = Ieee.double.order u 0 := rfl
  rw [hord]
  have f0 : Fl.fin 0 := by unfold Fl.fin; omega
  have s0 : Fl.SV 0 = 0 := by decide +kernel
  by_cases hf : Fl.fin u
  · rw [Fl.ord_fin hf f0, s0]
    have : compare (Fl.SV u) 0 ≠ .eq := by
      intro hc
      have hz := Int.compare_eq_eq.1 hc
      unfold Fl.SV at hz
      split at hz
      · have := Fl.V_pos (r := u) (by omega)
        omega
      · have := Fl.V_pos (r := u - 9223372036854775808) (by omega)
        omega
    rw [if_neg]
    simpa using this
  · rcases Fl.not_fin hu hf with rfl | rfl | ⟨s, f, h⟩
    · rw [Fl.ord_inf_l f0]; rfl
    · rw [Fl.ord_ninf_l f0]; rfl
    · rw [Fl.ord_nan_l h]; rfl
theorem plain_zero (u : Nat) (hu : u < 18446744073709551616) (h : u % 9223372036854775808 = 0) : wPlain u = 0 := by
  have : u = 0 ∨ u = 9223372036854775808 := by omega
  rcases this with rfl | rfl <;> decide +kernel

/-- a weight without a sign -/
def wPos (x : Nat) : Bool := wSame x (wPlain x)
theorem firstByte {x : Nat} (h : wOk x = true) : decide (128 ≤ ((wPut x).getD 0 0).toNat) = !wPos x := by
  unfold wOk at h
  simp only [Bool.or_eq_true, decide_eq_true_eq, beq_iff_eq] at h
  rcases h with h | rfl
  · have hx : x < 18446744073709551616 := by omega
    have hn : isNan x = false := by
      have hf : Fl.fin x := by unfold Fl.fin; omega
      have hord : ord x x = Ieee.double.order x x := rfl
      unfold isNan
      rw [hord, Fl.ord_fin hf hf]
      simp
    have hp : wPlain x = x := by
      by_cases hz : x % 9223372036854775808 = 0
      · obtain rfl : x = 0 := by omega
        decide +kernel
      · exact plain_same x hx hz
    have hb : wBits x = x := by simp [wBits, hn]
    have hg : (wPut x).getD 0 0 = lowB x 7 := by
      unfold wPut
      rw [hb]
      rfl
    rw [hg, wPos, hp, same_refl]
    simp [lowB]
    omega
  · decide +kernel
end Go.Proofs.YtmpemeemlhmaaaaGreat

namespace Go.Proofs.YtmpemeemlhmaaaaGreat
open Go.RowKit

/-- a backend with a name and a weight that a value can have -/
def Bk.fine (x : Bk) : Prop := x.name.length ≤ 9223372036854775807 ∧ x.w < 18446744073709551616
def okAt (l : List Bk) (i : Nat) : Bool := (l.getD i noBk).fair && wPos (l.getD i noBk).w && (decide (i = 0) || decide (cmpS (nm l (i - 1)) (nm l i) < 0))
def pRight (v : Int) (l : List Bk) : Bool := decide (0 ≤ v) && decide (v ≤ 1099511627776) && decide (l.length ≤ 1024) && (List.range l.length).all (okAt l)
theorem range_all_succ (p : Nat → Bool) (i : Nat) : (List.range (i + 1)).all p = ((List.range i).all p && p i) := by
  rw [List.range_succ, List.all_append]; simp
theorem range_all_false (p : Nat → Bool) (i n : Nat) (h : i < n) (hp : p i = false) : (List.range n).all p = false := by
  rw [List.all_eq_false]; exact ⟨i, List.mem_range.2 h, by rw [hp]; simp⟩

/-- what the round of a pool's check holds of the world -/
def SR (n4 : Nat) (x : Bk) (hp : Nat) (sl : Value) (b o : Nat) (pn : List UInt8) (W : World) : Prop :=
  n4 < W.heap.size ∧ hp < W.heap.size ∧ b < W.heap.size ∧ Has W n4 0 27 ∧ cellsAt W n4 0 27 = x.arr ∧ W.cell? ⟨n4, 0, none⟩ = some (.string (textOf x.name)) ∧ W.cell? ⟨n4, 25, none⟩ = some (fv x.w) ∧ W.cell? ⟨hp, 1, none⟩ = some sl ∧ W.cell? ⟨b, o, none⟩ = some (.string (textOf pn))
theorem SR.below {n4 hp b o : Nat} {x : Bk} {sl : Value} {pn : List UInt8} {W W1 : World} (h : SR n4 x hp sl b o pn W) (hb : Below W.heap.size W W1) : SR n4 x hp sl b o pn W1 := by
  obtain ⟨h1, h2, h3, h4, h5, h6, h7, h8, h9⟩ := h
  have hz := hb.size
  refine ⟨by omega, by omega, by omega, fun j hj => ?_, ?_, by rw [hb.cell h1]; exact h6, by rw [hb.cell h1]; exact h7, by rw [hb.cell h2]; exact h8, by rw [hb.cell h3]; exact h9⟩
  · obtain ⟨v, hv⟩ := h4 j hj
    exact ⟨v, by rw [hb.cell h1]; exact hv⟩
  · rw [← h5]; exact cellsAt_of fun j _ => hb.cell h1

theorem SR.load {n4 hp b o : Nat} {x : Bk} {sl : Value} {pn : List UInt8} {W : World} (h : SR n4 x hp sl b o pn W) : (loadBk (.pointer (some ⟨n4, 0, none⟩))).run Tryz.prog W = .ok (.agg x.arr) W := by
  rw [load_bk W n4 0 h.2.2.2.1, h.2.2.2.2.1]
set_option maxRecDepth 100000 in
theorem rightPool_any (l : List Bk) (hf : ∀ x ∈ l, x.fine) (v : Int) (A : Option Addr) (c : Nat) (w : World) (hR : RdK w w.heap.size A l.length l) (hn : l.length < 4611686018427387904) :
    Calls Tryz.prog 37 #[.agg #[.int .i64 v, .slice A l.length c]] w fun e w' => e = .returned (.bool (pRight v l)) ∧ Below w.heap.size w w' := by
  have hb0 : ∀ ob, Below w.heap.size w (w.alloc ob) := fun ob => (Below.refl _ _).alloc (Nat.le_refl _) _
  have HB0 := Lib.hid hb0
  clear hb0
  have HR := Lib.hid hR
  have HF := Lib.hid hf
  clear hR hf
  have hp : pRight v l = (decide (0 ≤ v) && decide (v ≤ 1099511627776) && decide (l.length ≤ 1024) && (List.range l.length).all (okAt l)) := rfl
  have HP := Lib.hid hp
  clear hp
  by_cases h1 : 0 ≤ v
  rotate_left
  · have h1' : v < 0 := by omega
    go_enter Tryz.func37, Tryz.ntmps37
    go_wp2
    go_ret
    exact ⟨by rw [HP.out]; simp <;> intros <;> omega, HB0.out _⟩
  by_cases h2 : v ≤ 1099511627776
  rotate_left
  · go_enter Tryz.func37, Tryz.ntmps37
    go_wp2
    go_ret
    exact ⟨by rw [HP.out]; simp <;> intros <;> omega, HB0.out _⟩
  by_cases h3 : l.length ≤ 1024
  rotate_left
  · go_enter Tryz.func37, Tryz.ntmps37
    go_wp2
    go_ret
    exact ⟨by rw [HP.out]; simp <;> intros <;> omega, HB0.out _⟩
  obtain ⟨n, hnl⟩ : ∃ n, n = l.length := ⟨_, rfl⟩
  rw [← hnl] at HR hn h3 ⊢
  have HN := Lib.hid hnl
  clear hnl
  go_enter Tryz.func37, Tryz.ntmps37
  go_wp2
  go_loopw [22] (fun s22 wr => ∃ i : Nat, i ≤ n ∧ s22 = .int .i64 i ∧ (List.range i).all (okAt l) = true ∧ Below (w.heap.size + 1) (w.alloc (.cells #[.int .i64 v, .slice A n c] 24)) wr) (fun s22 _ => n - (intOf s22).toNat)
  case atStart => exact ⟨0, by omega, rfl, rfl, by simpa using Below.refl _ _⟩
  case round =>
    obtain ⟨i, hin, rfl, hall, hb⟩ := hrel
    have HA := Lib.hid hall
    have hB := (HB0.out (.cells #[.int .i64 v, .slice A n c] 24)).trans (hb.mono (by simp))
    have hcl : wr.cell? ⟨w.heap.size, 1, none⟩ = some (.slice A n c) := by
      rw [hb.cell (by simp)]
      go_simp
    have HB := Lib.hid hb
    have HBW := Lib.hid hB
    have hsz := hb.size
    clear hall hb hB
    by_cases hlt : i < n
    · have hi : (i : Int) < n := by omega
      have hR1 := HR.out.below HBW.out
      obtain ⟨b, o, rfl, hbb, hh, hc⟩ := hR1.at_ hlt
      have hbs : b < wr.heap.size := by simp at hsz; omega
      have hmem : l.getD i noBk ∈ l := by
        have := HN.out
        rw [List.getD_eq_getElem?_getD, List.getElem?_eq_getElem (by omega)]; simp
      obtain ⟨hx1, hx2⟩ := HF.out _ hmem
      have hok : okAt l i = ((l.getD i noBk).fair && wPos (l.getD i noBk).w && (decide (i = 0) || decide (cmpS (nm l (i - 1)) (nm l i) < 0))) := rfl
      have hnm : nm l i = (l.getD i noBk).name := rfl
      rw [hnm] at hok
      obtain ⟨x, hx⟩ : ∃ x, x = l.getD i noBk := ⟨_, rfl⟩
      rw [← hx] at hc hx1 hx2 hok
      have HOK := Lib.hid hok
      clear hx hok hnm hmem
      obtain ⟨K1, hK1⟩ : ∃ K, x.fair = K := ⟨_, rfl⟩
      obtain ⟨K2, hK2⟩ : ∃ K, wSame x.w (wPlain x.w) = K := ⟨_, rfl⟩
      have hn4 : wr.heap.size < (wr.alloc (.cells x.arr 60)).heap.size := by simp
      have hS : ∀ b' o' pn, b' < wr.heap.size → wr.cell? ⟨b', o', none⟩ = some (.string (textOf pn)) → SR wr.heap.size x w.heap.size (.slice (some ⟨b, o, none⟩) n c) b' o' pn (wr.alloc (.cells x.arr 60)) := by
        intro b' o' pn h1 h2
        refine ⟨by simp, by simp at hsz ⊢; omega, by simp; omega, ?_, ?_, ?_, ?_, ?_, ?_⟩
        · rw [Has_bk_new]; trivial
        · exact cellsAt_bk_new _ _ _
        · rw [cell_new]; exact Bk.arr_0 x
        · rw [cell_new]; exact Bk.arr_25 x
        · rw [World.cell?_alloc_lt _ _ _ (by simp at hsz ⊢; omega)]; exact hcl
        · rw [World.cell?_alloc_lt _ _ _ (by simpa using h1)]; exact h2
      have hpn : ∃ pn, (0 < i → wr.cell? ⟨b, o + (i - 1) * 27, none⟩ = some (.string (textOf pn)) ∧ nm l (i - 1) = pn) := by
        refine ⟨nm l (i - 1), fun h0 => ⟨?_, rfl⟩⟩
        obtain ⟨b', o', hbo, _, hcc⟩ := hR1.cell (k := i - 1) (by omega)
        injection hbo with hbo
        injection hbo with e1 e2
        subst e1 e2
        have := hcc 0 (by omega)
        rw [Bk.arr_0] at this
        simpa [nm] using this
      have hn0 : wr.cell? ⟨b, o + i * 27, none⟩ = some (.string (textOf x.name)) := by
        have := hh 0 (by omega)
        obtain ⟨u, hu⟩ := this
        have hg := cellsAt_get wr b (o + i * 27) 27 0 (by omega)
        rw [hc, Bk.arr_0] at hg
        rw [hu] at hg
        simp at hg hu
        rw [hu, ← hg]
      have keyS : ∀ b' o' pn, b' < wr.heap.size → wr.cell? ⟨b', o', none⟩ = some (.string (textOf pn)) → ∃ (T : Type) (f : T → World) (n0 : T), f n0 = (wr.alloc (.cells x.arr 60)).drew ∧ (∀ m W1, Below (f m).heap.size (f m) W1 → ∃ m', W1 = f m') ∧ (∀ m, Below (w.heap.size + 1) (w.alloc (.cells #[.int .i64 v, .slice (some ⟨b, o, none⟩) n c] 24)) (f m)) ∧
          (∀ m, (loadBk (.pointer (some ⟨wr.heap.size, 0, none⟩))).run Tryz.prog (f m) = .ok (.agg x.arr) (f m)) ∧ (∀ m, (f m).cell? ⟨wr.heap.size, 0, none⟩ = some (.string (textOf x.name))) ∧ (∀ m, (f m).cell? ⟨wr.heap.size, 25, none⟩ = some (.float .f64 x.w)) ∧
            (∀ m, (f m).cell? ⟨w.heap.size, 1, none⟩ = some (.slice (some ⟨b, o, none⟩) n c)) ∧ (∀ m, (f m).cell? ⟨b', o', none⟩ = some (.string (textOf pn))) := by
        intro b' o' pn h1 h2
        obtain ⟨T, f, n0, e0, eS, eT⟩ := class_of (fun W => SR wr.heap.size x w.heap.size (.slice (some ⟨b, o, none⟩) n c) b' o' pn W ∧ Below (w.heap.size + 1) (w.alloc (.cells #[.int .i64 v, .slice (some ⟨b, o, none⟩) n c] 24)) W)
          (wr.alloc (.cells x.arr 60)) ⟨hS _ _ _ h1 h2, (HB.out.alloc (by simp at hsz; omega) _).drew⟩
        refine ⟨T, f, n0, e0, ?_, fun m => (eS m).2, fun m => (eS m).1.load, fun m => (eS m).1.2.2.2.2.2.1, fun m => (eS m).1.2.2.2.2.2.2.1, fun m => (eS m).1.2.2.2.2.2.2.2.1, fun m => (eS m).1.2.2.2.2.2.2.2.2⟩
        intro m W1 hb
        have := (eS m).2.size
        exact eT _ ⟨(eS m).1.below hb, (eS m).2.trans (hb.mono (by simpa using this))⟩
      have right_K : ∀ K, x.fair = K → ∀ W, Calls Tryz.prog 88 #[.agg x.arr] W fun e w' => e = .returned (.bool K) ∧ Below W.heap.size W w' := fun K h W => by
        have := right_bk x W hx1 hx2
        rw [h] at this
        exact this
      have same_K : ∀ K, wSame x.w (wPlain x.w) = K → ∀ W, Calls Tryz.prog 81 #[.float .f64 x.w, .float .f64 (wPlain x.w)] W fun e w' => e = .returned (.bool K) ∧ W = w' := fun K h W => by
        have := same_any x.w (wPlain x.w) W
        rw [h] at this
        exact this
      cases K1
      · have hno : okAt l i = false := by rw [HOK.out, hK1]; rfl
        have hno2 := range_all_false (okAt l) i n hlt hno
        have hPF : pRight v l = false := by rw [HP.out, ← HN.out, hno2]; simp
        have HPF := Lib.hid hPF
        have HRI := Lib.hid (right_K _ hK1)
        have HSA := Lib.hid (same_K _ hK2)
        clear hK1 hK2 hpn hno hno2 hPF right_K same_K
        obtain ⟨T, f, n0, e0, es, ew, r1, r2, r3, r4, r5⟩ := keyS _ _ _ hbs hn0
        have hne : Nonempty T := ⟨n0⟩
        have E0 := Lib.hid e0
        have ES := Lib.hid es
        have EW := Lib.hid ew
        clear hS keyS e0 es ew
        go_upto_region 6 with fail
        refine quiet_in f (by kernel_rfl) (by kernel_rfl) n0 E0.out ?_
        repeat (go_big_quiet_step ((first
          | (go_at_call 88; refine (HRI.out _).mono ?_; rintro e w1 ⟨rfl, hb1⟩; exact ⟨rfl, ES.out _ _ hb1⟩)
          | (go_at_call 75; refine (plain_any _ _).mono ?_; rintro e w1 ⟨rfl, rfl⟩; exact ⟨rfl, _, rfl⟩)
          | (go_at_call 81; refine (HSA.out _).mono ?_; rintro e w1 ⟨rfl, rfl⟩; exact ⟨rfl, _, rfl⟩))))
        refine wpQuiet_nil ?_
        rintro _ ⟨m, rfl⟩
        go_wp2
        go_ret
        exact ⟨by rw [HPF.out]; rfl, (HB0.out _).trans ((EW.out _).mono (by simp))⟩
      · cases K2
        · have hno : okAt l i = false := by rw [HOK.out]; unfold wPos; rw [hK2]; simp
          have hno2 := range_all_false (okAt l) i n hlt hno
          have hPF : pRight v l = false := by rw [HP.out, ← HN.out, hno2]; simp
          have HPF := Lib.hid hPF
          have HRI := Lib.hid (right_K _ hK1)
          have HSA := Lib.hid (same_K _ hK2)
          clear hK1 hK2 hpn hno hno2 hPF right_K same_K
          obtain ⟨T, f, n0, e0, es, ew, r1, r2, r3, r4, r5⟩ := keyS _ _ _ hbs hn0
          have hne : Nonempty T := ⟨n0⟩
          have E0 := Lib.hid e0
          have ES := Lib.hid es
          have EW := Lib.hid ew
          clear hS keyS e0 es ew
          go_upto_region 6 with fail
          refine quiet_in f (by kernel_rfl) (by kernel_rfl) n0 E0.out ?_
          repeat (go_big_quiet_step ((first
            | (go_at_call 88; refine (HRI.out _).mono ?_; rintro e w1 ⟨rfl, hb1⟩; exact ⟨rfl, ES.out _ _ hb1⟩)
            | (go_at_call 75; refine (plain_any _ _).mono ?_; rintro e w1 ⟨rfl, rfl⟩; exact ⟨rfl, _, rfl⟩)
            | (go_at_call 81; refine (HSA.out _).mono ?_; rintro e w1 ⟨rfl, rfl⟩; exact ⟨rfl, _, rfl⟩))))
          refine wpQuiet_nil ?_
          rintro _ ⟨m, rfl⟩
          go_wp2
          go_ret
          exact ⟨by rw [HPF.out]; rfl, (HB0.out _).trans ((EW.out _).mono (by simp))⟩
        · rcases i with _ | i
          · simp only [Nat.zero_mul, Nat.add_zero] at hh hc hn0
            have hyes : (List.range (0 + 1)).all (okAt l) = (List.range 0).all (okAt l) := by
              rw [range_all_succ, HOK.out]; unfold wPos; rw [hK1, hK2]; simp
            have HY := Lib.hid hyes
            have HRI := Lib.hid (right_K _ hK1)
            have HSA := Lib.hid (same_K _ hK2)
            clear hK1 hK2 hpn hyes right_K same_K
            obtain ⟨T, f, n0, e0, es, ew, r1, r2, r3, r4, r5⟩ := keyS _ _ _ hbs hn0
            have hne : Nonempty T := ⟨n0⟩
            have E0 := Lib.hid e0
            have ES := Lib.hid es
            have EW := Lib.hid ew
            clear hS keyS e0 es ew
            go_upto_region 6 with fail
            refine quiet_in f (by kernel_rfl) (by kernel_rfl) n0 E0.out ?_
            repeat (go_big_quiet_step ((first
              | (go_at_call 88; refine (HRI.out _).mono ?_; rintro e w1 ⟨rfl, hb1⟩; exact ⟨rfl, ES.out _ _ hb1⟩)
              | (go_at_call 75; refine (plain_any _ _).mono ?_; rintro e w1 ⟨rfl, rfl⟩; exact ⟨rfl, _, rfl⟩)
              | (go_at_call 81; refine (HSA.out _).mono ?_; rintro e w1 ⟨rfl, rfl⟩; exact ⟨rfl, _, rfl⟩))))
            refine wpQuiet_nil ?_
            rintro _ ⟨m, rfl⟩
            go_wp2
            go_roundw
            case rel => exact ⟨0 + 1, by omega, by go_num, by rw [HY.out]; exact HA.out, EW.out _⟩
            case measure => simp [intOf] <;> omega
          · obtain ⟨pn, hpn⟩ := hpn
            obtain ⟨hp1, hp2⟩ := hpn (by omega)
            clear hpn
            simp only [Nat.add_sub_cancel] at hp1 hp2
            have hok2 : okAt l (i + 1) = (x.fair && wPos x.w && (decide (i + 1 = 0) || decide (cmpS pn x.name < 0))) := by rw [HOK.out, Nat.add_sub_cancel, hp2]
            have hbl := bytesLess_is pn x.name
            by_cases ht : cmpS pn x.name < 0
            · have hbt : Op.bytesLess pn x.name = true := by rw [hbl]; simpa using ht
              have hyes : (List.range (i + 1 + 1)).all (okAt l) = (List.range (i + 1)).all (okAt l) := by
                rw [range_all_succ, hok2]; unfold wPos; rw [hK1, hK2]; simp [ht]
              have HY := Lib.hid hyes
              have HRI := Lib.hid (right_K _ hK1)
              have HSA := Lib.hid (same_K _ hK2)
              clear hK1 hK2 hyes right_K same_K hok2 hbl hp2 ht
              obtain ⟨T, f, n0, e0, es, ew, r1, r2, r3, r4, r5⟩ := keyS _ _ _ hbs hp1
              have hne : Nonempty T := ⟨n0⟩
              have E0 := Lib.hid e0
              have ES := Lib.hid es
              have EW := Lib.hid ew
              clear hS keyS e0 es ew
              go_upto_region 6 with fail
              refine quiet_in f (by kernel_rfl) (by kernel_rfl) n0 E0.out ?_
              repeat (go_big_quiet_step ((first
                | (go_at_call 88; refine (HRI.out _).mono ?_; rintro e w1 ⟨rfl, hb1⟩; exact ⟨rfl, ES.out _ _ hb1⟩)
                | (go_at_call 75; refine (plain_any _ _).mono ?_; rintro e w1 ⟨rfl, rfl⟩; exact ⟨rfl, _, rfl⟩)
                | (go_at_call 81; refine (HSA.out _).mono ?_; rintro e w1 ⟨rfl, rfl⟩; exact ⟨rfl, _, rfl⟩))))
              refine wpQuiet_nil ?_
              rintro _ ⟨m, rfl⟩
              go_wp2
              go_roundw
              case rel => exact ⟨i + 1 + 1, by omega, by go_num, by rw [HY.out]; exact HA.out, EW.out _⟩
              case measure => simp [intOf] <;> omega
            · have hbt : Op.bytesLess pn x.name = false := by rw [hbl]; simpa using ht
              have hno : okAt l (i + 1) = false := by rw [hok2]; simp [ht]
              have hno2 := range_all_false (okAt l) (i + 1) n hlt hno
              have hPF : pRight v l = false := by rw [HP.out, ← HN.out, hno2]; simp
              have HPF := Lib.hid hPF
              have HRI := Lib.hid (right_K _ hK1)
              have HSA := Lib.hid (same_K _ hK2)
              clear hK1 hK2 hno hno2 hPF right_K same_K hok2 hbl hp2 ht
              obtain ⟨T, f, n0, e0, es, ew, r1, r2, r3, r4, r5⟩ := keyS _ _ _ hbs hp1
              have hne : Nonempty T := ⟨n0⟩
              have E0 := Lib.hid e0
              have ES := Lib.hid es
              have EW := Lib.hid ew
              clear hS keyS e0 es ew
              go_upto_region 6 with fail
              refine quiet_in f (by kernel_rfl) (by kernel_rfl) n0 E0.out ?_
              repeat (go_big_quiet_step ((first
                | (go_at_call 88; refine (HRI.out _).mono ?_; rintro e w1 ⟨rfl, hb1⟩; exact ⟨rfl, ES.out _ _ hb1⟩)
                | (go_at_call 75; refine (plain_any _ _).mono ?_; rintro e w1 ⟨rfl, rfl⟩; exact ⟨rfl, _, rfl⟩)
                | (go_at_call 81; refine (HSA.out _).mono ?_; rintro e w1 ⟨rfl, rfl⟩; exact ⟨rfl, _, rfl⟩))))
              refine wpQuiet_nil ?_
              rintro _ ⟨m, rfl⟩
              go_wp2
              go_ret
              exact ⟨by rw [HPF.out]; rfl, (HB0.out _).trans ((EW.out _).mono (by simp))⟩
    · obtain rfl : i = n := by omega
      have hPT : pRight v l = true := by rw [HP.out, ← HN.out, HA.out]; simp [h1, h2, h3] <;> omega
      have HPT := Lib.hid hPT
      clear hPT
      have hd : decide ((i : Int) < i) = false := by simp
      go_wp2
      go_ret
      exact ⟨by rw [HPT.out]; rfl, HBW.out⟩
end Go.Proofs.YtmpemeemlhmaaaaGreat
