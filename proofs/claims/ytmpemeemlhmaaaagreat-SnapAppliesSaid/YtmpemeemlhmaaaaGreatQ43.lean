/- The document's two readers: texts, counts, flags, weights. -/
import Derived.Test.YtmpemeemlhmaaaaGreatQ42
import Derived.Test.YtmpemeemlhmaaaaGreatQ9
import Derived.Test.YtmpemeemlhmaaaaGreatQ15
import Derived.Test.YtmpemeemlhmaaaaGreatQ13
import Derived.RegionTactic
import Derived.Laws.Rows
import Derived.ChangeAlike
set_option linter.unusedSimpArgs false
set_option linter.unusedVariables false
set_option maxRecDepth 100000
namespace Go.Proofs.YtmpemeemlhmaaaaGreat
open Go.RowKit Go.ChangeShapes Go.WideShapes Go.ChangeAt

/-- a text is answered -/
def TxQ (W : World) (p B : Nat) (r : List UInt8 × RS) (e : Ending) (W' : World) : Prop := e = .returned (.string (textOf r.1)) ∧ RowS W' p B r.2 ∧ W.grownBy W' (some p)
theorem textR_le {s : RS} {n : Nat} {s1 : RS} (h : numD 1152921504606846976 s = (n, s1)) (hn : n ≤ 255) : textR s = takeD n s1 := by
  unfold textR
  rw [show M60 = 1152921504606846976 from rfl, h]
  exact if_pos hn
theorem textR_gt {s : RS} {n : Nat} {s1 : RS} (h : numD 1152921504606846976 s = (n, s1)) (hn : ¬ n ≤ 255) : textR s = ([], none) := by
  unfold textR
  rw [show M60 = 1152921504606846976 from rfl, h]
  exact if_neg hn
theorem RowS.spot {W : World} {p B : Nat} {s : RS} (h : RowS W p B s) : W.cell? ⟨p, 1, none⟩ = some (.bool s.isNone) ∧ W.frozen? ⟨p, 1, none⟩ = false := by
  obtain ⟨A, n, c, l, bad, q1, q2, q3, q4, q5, q6, rfl⟩ := h
  refine ⟨?_, q1.facts.2.1 1⟩
  rw [q1.facts.1]
  cases bad <;> rfl
theorem RowS.bad {W : World} {p B : Nat} {s : RS} (h : RowS W p B s) : RowS (W.setCell ⟨p, 1, none⟩ (.bool true)) p B none := by
  obtain ⟨A, n, c, l, bad, q1, q2, q3, q4, q5, q6, rfl⟩ := h
  exact .mk' (q1.set_same 1 _) (q2.setO q6 _ _) q3 q4 q5 q6 rfl
/-- bytes of one's own, cell by cell -/
theorem own_cells {W : World} {base n c : Nat} {e : TypeId} {A : Option Addr} {l : List UInt8} (h : W.ownsRow base e 1 (.slice A n c) n (l.map bv)) (hn : 0 < n) : ∃ g, A = some ⟨g, 0, none⟩ ∧ base ≤ g ∧ g < W.heap.size ∧ ∀ j, j < n → W.cell? ⟨g, j, none⟩ = some (bv (l.getD j 0)) := by
  have h1 := h.1
  rcases h.2 with ⟨_, h0⟩ | ⟨g, cap, cur, hv, hb, hg, h2, _, h3, h4⟩
  · omega
  · injection hv with hv _ _
    refine ⟨g, hv, hb, (Array.getElem?_eq_some_iff.1 hg).1, fun j hj => ?_⟩
    rw [cell_of_row W g j cur e (0, 0) hg]
    have h5 : (l.map bv)[j]? = cur[j]? := by
      rw [← h4, List.getElem?_take, if_pos (by omega)]
      simp
    rw [← h5, List.getElem?_map, List.getD_eq_getElem?_getD]
    rw [List.length_map] at h1
    rw [List.getElem?_eq_getElem (by omega)]
    rfl
set_option maxRecDepth 100000 in
set_option maxHeartbeats 4000000 in
theorem rowText_any (p B : Nat) (s : RS) (W : World) (h : RowS W p B s) :
    Calls Tryz.prog 57 #[.pointer (some ⟨p, 0, none⟩)] W (TxQ W p B (textR s)) := by
  have NU := Lib.hid (rowNum_any p B s W h)
  obtain ⟨⟨n, s1⟩, e1⟩ : ∃ z, numD 1152921504606846976 s = z := ⟨_, rfl⟩
  rw [e1] at NU
  have E1 := Lib.hid e1
  clear e1 h
  by_cases hn : n ≤ 255
  · have HT := Lib.hid (textR_le E1.out hn)
    rw [HT.out]
    have hng : decide ((255 : Int) < (n : Int)) = false := decide_eq_false (by omega)
    clear E1 HT
    go_enter Tryz.func57, Tryz.ntmps57
    go_wp2_with fail
    refine NU.out.mono ?_
    rintro e w1 ⟨rfl, k1, k2⟩
    have TK := Lib.hid (rowTake_any p B n s1 w1 k1 (by omega))
    have K2 := Lib.hid k2
    clear k1 k2 NU
    go_wp2_with fail
    refine TK.out.mono ?_
    rintro e w2 ⟨A, m, c, rfl, hm, ho, hr, hg⟩
    have t1 := (text_later (show RdB w2 w2.heap.size A m _ from RdB.of_own ho) c).2
    have FIN := Lib.hid (And.intro hr (gb_trans K2.out hg))
    clear hm ho hr hg
    go_wp2
    go_ret
    exact ⟨rfl, FIN.out⟩
  · have HT := Lib.hid (textR_gt E1.out hn)
    rw [HT.out]
    have hng : decide ((255 : Int) < (n : Int)) = true := decide_eq_true (by omega)
    clear E1 HT
    go_enter Tryz.func57, Tryz.ntmps57
    go_wp2_with fail
    refine NU.out.mono ?_
    rintro e w1 ⟨rfl, k1, k2⟩
    obtain ⟨c1, c2⟩ := k1.spot
    have hl := k1.lt
    have K1 := Lib.hid k1
    have K2 := Lib.hid k2
    clear k1 k2 NU
    go_wp2
    go_ret
    exact ⟨rfl, K1.out.bad, gb_trans K2.out (set_gb _ _ _ _)⟩
theorem manyQ_le' {m : Nat} {s : RS} {n : Nat} {s1 : RS} (h : numD 1152921504606846976 s = (n, s1)) (hn : n ≤ m) : manyQ m s = (n, s1) := by
  unfold manyQ
  rw [show M60 = 1152921504606846976 from rfl, h]
  exact if_pos hn
theorem manyQ_gt {m : Nat} {s : RS} {n : Nat} {s1 : RS} (h : numD 1152921504606846976 s = (n, s1)) (hn : ¬ n ≤ m) : manyQ m s = (0, none) := by
  unfold manyQ
  rw [show M60 = 1152921504606846976 from rfl, h]
  exact if_neg hn
set_option maxRecDepth 100000 in
set_option maxHeartbeats 4000000 in
theorem rowMany_any (p B m : Nat) (hm : m ≤ 1000000) (s : RS) (W : World) (h : RowS W p B s) :
    Calls Tryz.prog 56 #[.pointer (some ⟨p, 0, none⟩), .int .i64 (m : Nat)] W (NumQP W p B (manyQ m s)) := by
  have NU := Lib.hid (rowNum_any p B s W h)
  obtain ⟨⟨n, s1⟩, e1⟩ : ∃ z, numD 1152921504606846976 s = z := ⟨_, rfl⟩
  rw [e1] at NU
  have E1 := Lib.hid e1
  clear e1 h
  by_cases hn : n ≤ m
  · have HT := Lib.hid (manyQ_le' E1.out hn)
    rw [HT.out]
    have hng : decide ((m : Int) < (n : Int)) = false := decide_eq_false (by omega)
    clear E1 HT
    go_enter Tryz.func56, Tryz.ntmps56
    go_wp2_with fail
    refine NU.out.mono ?_
    rintro e w1 ⟨rfl, k1, k2⟩
    have FIN := Lib.hid (And.intro k1 k2)
    clear k1 k2 NU
    go_wp2
    go_ret
    exact ⟨rfl, FIN.out⟩
  · have HT := Lib.hid (manyQ_gt E1.out hn)
    rw [HT.out]
    have hng : decide ((m : Int) < (n : Int)) = true := decide_eq_true (by omega)
    clear E1 HT
    go_enter Tryz.func56, Tryz.ntmps56
    go_wp2_with fail
    refine NU.out.mono ?_
    rintro e w1 ⟨rfl, k1, k2⟩
    obtain ⟨c1, c2⟩ := k1.spot
    have hl := k1.lt
    have K1 := Lib.hid k1
    have K2 := Lib.hid k2
    clear k1 k2 NU
    go_wp2
    go_ret
    exact ⟨rfl, K1.out.bad, gb_trans K2.out (set_gb _ _ _ _)⟩
set_option maxRecDepth 100000 in
set_option maxHeartbeats 4000000 in
theorem partText_any (p B m : Nat) (hm : m ≤ 1000000) (s : RS) (W : World) (h : RowS W p B s) :
    Calls Tryz.prog 136 #[.pointer (some ⟨p, 0, none⟩), .int .i64 (m : Nat)] W (TxQ W p B (textQ m s)) := by
  have NU := Lib.hid (partNum_any p B m s W h (by omega))
  have hle := numD_le m s
  unfold textQ
  obtain ⟨⟨n, s1⟩, e1⟩ : ∃ z, numD m s = z := ⟨_, rfl⟩
  rw [e1] at NU hle ⊢
  simp only at hle ⊢
  clear e1 h
  have hm0 : m < 18446744073709551616 := by omega
  go_enter Tryz.func136, Tryz.ntmps136
  go_wp2_with fail
  refine NU.out.mono ?_
  rintro e w1 ⟨rfl, k1, k2⟩
  have TK := Lib.hid (partTake_any p B n s1 w1 k1 (by omega))
  have K2 := Lib.hid k2
  clear k1 k2 NU
  go_wp2_with fail
  refine TK.out.mono ?_
  rintro e w2 ⟨A, m, c, rfl, hm, ho, hr, hg⟩
  have t1 := (text_later (show RdB w2 w2.heap.size A m _ from RdB.of_own ho) c).2
  have FIN := Lib.hid (And.intro hr (gb_trans K2.out hg))
  clear hm ho hr hg
  go_wp2
  go_ret
  exact ⟨rfl, FIN.out⟩
theorem u8_eq (x y : UInt8) : (x == y) = ((x.toNat : Int) == (y.toNat : Int)) := by
  rw [Bool.eq_iff_iff]
  simp only [beq_iff_eq]
  exact ⟨fun h => by rw [h], fun h => UInt8.toNat_inj.1 (by omega)⟩
/-- a truth is answered -/
def FlQ (W : World) (p B : Nat) (r : Bool × RS) (e : Ending) (W' : World) : Prop := e = .returned (.bool r.1) ∧ RowS W' p B r.2 ∧ W.grownBy W' (some p)
set_option maxRecDepth 100000 in
set_option maxHeartbeats 4000000 in
theorem partFlag_any (p B : Nat) (s : RS) (W : World) (h : RowS W p B s) :
    Calls Tryz.prog 137 #[.pointer (some ⟨p, 0, none⟩)] W (FlQ W p B (flagQ s)) := by
  have TK := Lib.hid (partTake_any p B 1 s W h (by omega))
  have hlen := takeD_len 1 s
  have hpl := h.lt
  obtain ⟨R, hR⟩ : ∃ R, R = flagQ s := ⟨_, rfl⟩
  rw [← hR]
  unfold flagQ at hR
  obtain ⟨⟨l, s1⟩, e1⟩ : ∃ z, takeD 1 s = z := ⟨_, rfl⟩
  rw [e1] at TK hlen hR
  have HR0 := Lib.hid hR
  have HLEN := Lib.hid (show l.length = 1 from hlen)
  clear e1 h hR hlen
  go_enter Tryz.func137, Tryz.ntmps137
  go_wp2_with fail
  refine TK.out.mono ?_
  rintro e w1 ⟨A, m, c, rfl, hm, ho, hr, hg⟩
  have hm2 : m = 1 := by rw [hm]; exact HLEN.out
  subst hm2
  obtain ⟨g, rfl, hg1, hg2, hc⟩ := own_cells ho (by omega)
  have c0 := hc 0 (by omega)
  obtain ⟨x, hx⟩ : ∃ x, x = l.getD 0 0 := ⟨_, rfl⟩
  rw [← hx] at c0
  have HR1 := Lib.hid (show R = (((x.toNat : Int) == 1), if x.toNat ≤ 1 then s1 else none) by
    have h9 := HR0.out
    rw [← hx, u8_eq x 1] at h9
    exact h9)
  have hx8 := x.toNat_lt
  have hlr := hr.lt
  obtain ⟨d1, d2⟩ := hr.spot
  have HR := Lib.hid hr
  have HG := Lib.hid hg
  have c1 : (w1.setCell ⟨p, 1, none⟩ (.bool true)).cell? ⟨g, 0, none⟩ = some (bv x) := by
    rw [World.cell?_setCell_other _ _ _ _ (fun e => by injection e with e _; omega)]; exact c0
  unfold bv at c0 c1
  clear hr hg ho hc TK hx hm HR0
  by_cases h1 : x.toNat ≤ 1
  · have HR2 := Lib.hid (HR1.out.trans (by rw [if_pos h1]))
    have hng : decide ((1 : Int) < (x.toNat : Int)) = false := decide_eq_false (by omega)
    clear HR1
    go_wp2
    go_ret
    exact (by rw [HR2.out]; exact ⟨rfl, HR.out, HG.out⟩)
  · have HR2 := Lib.hid (HR1.out.trans (by rw [if_neg h1]))
    have hng : decide ((1 : Int) < (x.toNat : Int)) = true := decide_eq_true (by omega)
    clear HR1
    go_wp2
    go_ret
    exact (by rw [HR2.out]; exact ⟨rfl, HR.out.bad, gb_trans HG.out (set_gb _ _ _ _)⟩)
/-- a float is answered -/
def WtQ (W : World) (p B : Nat) (r : Nat × RS) (e : Ending) (W' : World) : Prop := e = .returned (.float .f64 r.1) ∧ RowS W' p B r.2 ∧ W.grownBy W' (some p)
set_option maxRecDepth 100000 in
set_option maxHeartbeats 4000000 in
theorem partWeight_any (p B : Nat) (s : RS) (W : World) (h : RowS W p B s) :
    Calls Tryz.prog 139 #[.pointer (some ⟨p, 0, none⟩)] W (WtQ W p B (fltQ s)) := by
  have TK := Lib.hid (partTake_any p B 8 s W h (by omega))
  have hlen := takeD_len 8 s
  obtain ⟨R, hR⟩ : ∃ R, R = fltQ s := ⟨_, rfl⟩
  rw [← hR]
  unfold fltQ at hR
  obtain ⟨⟨l, s1⟩, e1⟩ : ∃ z, takeD 8 s = z := ⟨_, rfl⟩
  rw [e1] at TK hlen hR
  have HLEN := Lib.hid (show l.length = 8 from hlen)
  obtain ⟨K, hK⟩ : ∃ K, wGetOk l = K := ⟨_, rfl⟩
  obtain ⟨z, hz⟩ : ∃ z, wGet l = z := ⟨_, rfl⟩
  simp only [hK, hz] at hR
  have HR0 := Lib.hid hR
  have HK := Lib.hid hK
  have HZ := Lib.hid hz
  clear e1 h hR hlen hK hz
  go_enter Tryz.func139, Tryz.ntmps139
  go_wp2_with fail
  refine TK.out.mono ?_
  rintro e w1 ⟨A, m, c, rfl, hm, ho, hr, hg⟩
  have hm2 : m = 8 := by rw [hm]; exact HLEN.out
  subst hm2
  have HR := Lib.hid hr
  have HG := Lib.hid hg
  have WG := Lib.hid (refGet_any A 8 c l w1 (by omega) (RdB.of_own ho))
  rw [HK.out, HZ.out] at WG
  clear hr hg ho hm
  go_wp2_with fail
  refine WG.out.mono ?_
  rintro e w2 ⟨rfl, hb⟩
  have HR2 := Lib.hid (HR.out.go hb)
  have HG2 := Lib.hid (gb_trans HG.out (gb_of_below hb _))
  obtain ⟨d1, d2⟩ := HR2.out.spot
  have hl := HR2.out.lt
  clear hb
  cases K
  · go_wp2
    go_ret
    exact (by rw [HR0.out]; exact ⟨rfl, HR2.out.bad, gb_trans HG2.out (set_gb _ _ _ _)⟩)
  · go_wp2
    go_ret
    exact (by rw [HR0.out]; exact ⟨rfl, HR2.out, HG2.out⟩)
end Go.Proofs.YtmpemeemlhmaaaaGreat

namespace Go.Proofs.YtmpemeemlhmaaaaGreat
open Go.RowKit Go.ChangeShapes Go.WideShapes Go.ChangeAt

theorem take_getD0 (l : List UInt8) (k j : Nat) : (l.take k).getD j 0 = if j < k then l.getD j 0 else 0 := by
  simp only [List.getD_eq_getElem?_getD, List.getElem?_take]
  split <;> rfl
theorem vecO_take (n : Nat) (l : List UInt8) : vecO n (l.take n) = vecO n l := by
  apply Vector.ext
  intro i hi
  simp only [vecO, Vector.getElem_ofFn, take_getD0]
  rw [if_pos hi]
theorem drop_getD0 (l : List UInt8) (k j : Nat) : (l.drop k).getD j 0 = l.getD (k + j) 0 := by
  simp only [List.getD_eq_getElem?_getD, List.getElem?_drop]
theorem byte_next (n : Nat) (l : List UInt8) (i j : Nat) (hi : i < n) (hj : j < n) (a b : Nat) (hab : a = b ↔ i = j) : (if a = b then some (bv (l.getD i 0)) else some (bv ((vecO n (l.take i)).toList.getD j 0))) = some (bv ((vecO n (l.take (i + 1))).toList.getD j 0)) := by
  rw [vecO_get n _ j hj, vecO_get n _ j hj, take_getD0, take_getD0]
  by_cases h : i = j
  · subst h
    rw [if_pos (hab.2 rfl), if_pos (by omega)]
  · rw [if_neg (fun e => h (hab.1 e))]
    by_cases h2 : j < i
    · rw [if_pos h2, if_pos (by omega)]
    · rw [if_neg h2, if_neg (by omega)]
theorem Bk.set_b (x : Bk) (l : List UInt8) (i : Nat) (hi : i < 16) : (x.toB (l.take i)).arr.setIfInBounds (i + 2) (bv (l.getD i 0)) = (x.toB (l.take (i + 1))).arr := by
  refine Bk.ext_arr (by simp [Bk.arr_size]) ?_ ?_ ?_ ?_ ?_ ?_ ?_ <;> (try intro j hj) <;> rw [set_get _ _ _ _ (by rw [Bk.arr_size]; omega)]
  · rw [if_neg (by omega)]; exact Bk.arr_0 _
  · rw [if_neg (by omega)]; exact Bk.arr_1 _
  · rw [Bk.arr_b _ j hj]; exact byte_next 16 l i j hi hj _ _ (by omega)
  · rw [if_neg (by omega)]; exact Bk.arr_18 _
  · rw [if_neg (by omega)]; exact Bk.arr_m _ j hj
  · rw [if_neg (by omega)]; exact Bk.arr_25 _
  · rw [if_neg (by omega)]; exact Bk.arr_26 _
theorem Bk.set_m (x : Bk) (l : List UInt8) (i : Nat) (hi : i < 6) : (x.toM (l.take i)).arr.setIfInBounds (i + 19) (bv (l.getD i 0)) = (x.toM (l.take (i + 1))).arr := by
  refine Bk.ext_arr (by simp [Bk.arr_size]) ?_ ?_ ?_ ?_ ?_ ?_ ?_ <;> (try intro j hj) <;> rw [set_get _ _ _ _ (by rw [Bk.arr_size]; omega)]
  · rw [if_neg (by omega)]; exact Bk.arr_0 _
  · rw [if_neg (by omega)]; exact Bk.arr_1 _
  · rw [if_neg (by omega)]; exact Bk.arr_b _ j hj
  · rw [if_neg (by omega)]; exact Bk.arr_18 _
  · rw [Bk.arr_m _ j hj]; exact byte_next 6 l i j hi hj _ _ (by omega)
  · rw [if_neg (by omega)]; exact Bk.arr_25 _
  · rw [if_neg (by omega)]; exact Bk.arr_26 _
theorem Bk.toB_nil (x : Bk) (h : x.addr.b = Vector.replicate 16 0) : x.toB [] = x := by unfold Bk.toB; rw [vecO_nil, ← h]
theorem Bk.toM_nil (x : Bk) (h : x.mac = Vector.replicate 6 0) : x.toM [] = x := by unfold Bk.toM; rw [vecO_nil, ← h]
/-- since W0: the reader at p, a struct in the making at y, the answer's place -/
structure Lq (W0 w : World) (p B : Nat) (s : RS) (y : Nat) (c c0 : Array Value) : Prop where
  rd : RowS w p B s
  bk : Box w y c
  res : Box w W0.heap.size c0
  frm : W0.grownBy w (some p)
  ne : y ≠ p ∧ W0.heap.size < y ∧ p < W0.heap.size
section
variable {W0 w w' : World} {p B y : Nat} {s s' : RS} {c c' c0 : Array Value}
theorem Lq.read (h : Lq W0 w p B s y c c0) (k : RowS w' p B s') (hg : w.grownBy w' (some p)) : Lq W0 w' p B s' y c c0 :=
  ⟨k, h.bk.grown hg (fun e => h.ne.1 (by injection e)), h.res.grown hg (fun e => by injection e with e; have := h.ne.2.2; omega), gb_trans h.frm hg, h.ne⟩
theorem Lq.go (h : Lq W0 w p B s y c c0) (hb : Below w.heap.size w w') : Lq W0 w' p B s y c c0 := ⟨h.rd.go hb, h.bk.go hb, h.res.go hb, gb_trans h.frm (gb_of_below hb _), h.ne⟩
theorem Lq.set (h : Lq W0 w p B s y c c0) (j : Nat) (u : Value) (hc : c.setIfInBounds j u = c') : Lq W0 (w.setCell ⟨y, j, none⟩ u) p B s y c' c0 := by
  have hl := h.bk.lt
  have hB := h.rd.le
  refine ⟨h.rd.grown (set_gb w y j u) (fun e => h.ne.1 (by injection e)) (fun k hk => by injection hk with hk; have := h.ne; omega), hc ▸ h.bk.set_same j u, h.res.set_other _ _ (by have := h.ne; simp only; omega), ?_, h.ne⟩
  exact ⟨h.frm.os, h.frm.tape, h.frm.output, by simpa [World.setCell] using h.frm.size, fun k hk hne => (Below.heap_setCell w _ u k (by have := h.ne; simp only; omega)).trans (h.frm.block k hk hne)⟩
theorem Lq.drewN (h : Lq W0 w p B s y c c0) (k : Nat) : Lq W0 (w.drewN k) p B s y c c0 := ⟨h.rd.drewN k, h.bk.drewN k, h.res.drewN k, ⟨h.frm.os, h.frm.tape, h.frm.output, h.frm.size, h.frm.block⟩, h.ne⟩
/-- the answer is laid into its place -/
theorem Lq.fin (h : Lq W0 w p B s y c c0) (d : Array Value) (hd : d.size = c0.size) : Box (w.setCells W0.heap.size 0 d.toList) W0.heap.size d ∧ RowS (w.setCells W0.heap.size 0 d.toList) p B s ∧ W0.grownBy (w.setCells W0.heap.size 0 d.toList) (some p) := by
  have hg : w.grownBy (w.setCells W0.heap.size 0 d.toList) (some W0.heap.size) := grown_setCells _ 0 w (World.grownBy.refl _ _)
  have hB := h.rd.le
  have hne := h.ne
  have hls := h.res.lt
  refine ⟨h.res.setAll d hd, h.rd.grown hg (fun e => by injection e with e; omega) (fun k hk => by injection hk with hk; omega), ?_⟩
  exact ⟨hg.os.trans h.frm.os, hg.tape.trans h.frm.tape, hg.output.trans h.frm.output, Nat.le_trans h.frm.size hg.size, fun k hk hne2 => (hg.block k (by have := h.frm.size; omega) (fun e => by injection e with e; omega)).trans (h.frm.block k hk hne2)⟩
end
theorem ret_bk1 {fn : Func} {p : Tmp} (h : fn.results = #[.cell p 60]) (tmps : Array Value) (W : World) (b : Nat) (hp : tmps.getD p undef = .pointer (some ⟨b, 0, none⟩)) (x : Bk) (hB : Box W b x.arr) : (results fn tmps).run Tryz.prog W = .ok (.agg x.arr) W := by
  obtain ⟨t, hb⟩ := hB
  exact results_cell_row h tmps W b t x.arr (0, 0) _ hp hb Tryz.underlying60 rfl (by rw [Bk.arr_size]; kernel_rfl)
theorem ret_fw1 {fn : Func} {p : Tmp} (h : fn.results = #[.cell p 79]) (tmps : Array Value) (W : World) (b : Nat) (hp : tmps.getD p undef = .pointer (some ⟨b, 0, none⟩)) (x : Fw) (hB : Box W b x.arr) : (results fn tmps).run Tryz.prog W = .ok (.agg x.arr) W := by
  obtain ⟨t, hb⟩ := hB
  exact results_cell_row h tmps W b t x.arr (0, 0) _ hp hb Tryz.underlying79 rfl (by rw [Fw.arr_size]; kernel_rfl)
/-- bytes that lie in a block of their own -/
def Byt (W : World) (g : Nat) (l : List UInt8) : Prop := ∀ j, j < l.length → W.cell? ⟨g, j, none⟩ = some (bv (l.getD j 0))
theorem Byt.set {W : World} {g : Nat} {l : List UInt8} (h : Byt W g l) {y : Nat} (hy : y ≠ g) (j : Nat) (u : Value) : Byt (W.setCell ⟨y, j, none⟩ u) g l := fun k hk => by
  rw [World.cell?_setCell_other _ _ _ _ (fun e => hy (by injection e))]
  exact h k hk
theorem Byt.grown {W W' : World} {g : Nat} {l : List UInt8} (h : Byt W g l) {k : Option Nat} (hg : W.grownBy W' k) (hk : k ≠ some g) : Byt W' g l := fun j hj => hg.cell (h j hj) (fun e => hk e.symm)
theorem partText255 (p B : Nat) (s : RS) (W : World) (h : RowS W p B s) : Calls Tryz.prog 136 #[.pointer (some ⟨p, 0, none⟩), .int .i64 255] W (TxQ W p B (textQ 255 s)) := partText_any p B 255 (by omega) s W h
theorem partTake24 (p B : Nat) (s : RS) (W : World) (h : RowS W p B s) : Calls Tryz.prog 138 #[.pointer (some ⟨p, 0, none⟩), .int .i64 24] W (BytQ W p B (takeD 24 s)) := partTake_any p B 24 s W h (by omega)
theorem rowTake38 (p B : Nat) (s : RS) (W : World) (h : RowS W p B s) : Calls Tryz.prog 58 #[.pointer (some ⟨p, 0, none⟩), .int .i64 38] W (BytQ W p B (takeD 38 s)) := rowTake_any p B 38 s W h (by omega)
theorem rowTake1 (p B : Nat) (s : RS) (W : World) (h : RowS W p B s) : Calls Tryz.prog 58 #[.pointer (some ⟨p, 0, none⟩), .int .i64 1] W (BytQ W p B (takeD 1 s)) := rowTake_any p B 1 s W h (by omega)
theorem rowMany1024 (p B : Nat) (s : RS) (W : World) (h : RowS W p B s) : Calls Tryz.prog 56 #[.pointer (some ⟨p, 0, none⟩), .int .i64 1024] W (NumQP W p B (manyQ 1024 s)) := rowMany_any p B 1024 (by omega) s W h
theorem rowMany4096 (p B : Nat) (s : RS) (W : World) (h : RowS W p B s) : Calls Tryz.prog 56 #[.pointer (some ⟨p, 0, none⟩), .int .i64 4096] W (NumQP W p B (manyQ 4096 s)) := rowMany_any p B 4096 (by omega) s W h
def BkQ (W : World) (p B : Nat) (r : Bk × RS) (e : Ending) (W' : World) : Prop := e = .returned (.agg r.1.arr) ∧ RowS W' p B r.2 ∧ W.grownBy W' (some p)
set_option maxRecDepth 100000 in
set_option maxHeartbeats 8000000 in
theorem partBk_any (p B : Nat) (s : RS) (W : World) (h : RowS W p B s) :
    Calls Tryz.prog 103 #[.pointer (some ⟨p, 0, none⟩)] W (BkQ W p B (bkQ s)) := by
  obtain ⟨R, hR⟩ : ∃ R, bkQ s = R := ⟨_, rfl⟩
  rw [hR]
  unfold bkQ at hR
  obtain ⟨⟨x1, s1⟩, e1⟩ : ∃ z, textQ 255 s = z := ⟨_, rfl⟩
  obtain ⟨⟨x2, s2⟩, e2⟩ : ∃ z, flagQ s1 = z := ⟨_, rfl⟩
  obtain ⟨⟨x3, s3⟩, e3⟩ : ∃ z, takeD 24 s2 = z := ⟨_, rfl⟩
  obtain ⟨⟨x4, s4⟩, e4⟩ : ∃ z, fltQ s3 = z := ⟨_, rfl⟩
  obtain ⟨⟨x5, s5⟩, e5⟩ : ∃ z, flagQ s4 = z := ⟨_, rfl⟩
  simp only [e1, e2, e3, e4, e5] at hR
  have h24 := takeD_len 24 s2
  rw [e3] at h24
  have H24 := Lib.hid (show x3.length = 24 from h24)
  have HR0 := Lib.hid hR
  have E1 := Lib.hid e1
  have E2 := Lib.hid e2
  have E3 := Lib.hid e3
  have E4 := Lib.hid e4
  have E5 := Lib.hid e5
  have hpl := h.lt
  have HH := Lib.hid h
  clear hR h24 e1 e2 e3 e4 e5 h
  have C1 := Lib.hid (partText255 p B s (W.alloc (.cells noBk.arr 60)) (HH.out.alloc _))
  rw [E1.out] at C1
  go_enter Tryz.func103, Tryz.ntmps103
  go_wp2_with fail
  (with_reducible refine C1.out.mono ?_)
  rintro e w1 ⟨rfl, k1, k2⟩
  obtain ⟨W2, hW2⟩ : ∃ W2, W2 = w1.alloc (.cells (noBk.toN x1).arr 60) := ⟨_, rfl⟩
  have hs1 : W.heap.size < w1.heap.size := by have := k2.size; simp at this; omega
  have L2 := Lib.hid (show Lq W W2 p B s1 w1.heap.size (noBk.toN x1).arr noBk.arr by
    rw [hW2]
    refine ⟨k1.alloc _, Box.new _ _ _, ((Box.new W noBk.arr 60).grown k2 (fun e => by injection e with e; omega)).alloc _, ?_, by omega, hs1, hpl⟩
    exact gb_trans (gb_trans (gb_of_below ((Below.refl W.heap.size W).alloc (Nat.le_refl _) _) _) k2) (gb_of_below ((Below.refl w1.heap.size w1).alloc (Nat.le_refl _) _) _))
  obtain ⟨y, hy⟩ : ∃ y, y = w1.heap.size := ⟨_, rfl⟩
  have C2 := Lib.hid (partFlag_any p B s1 W2 L2.out.rd)
  rw [E2.out] at C2
  have HW2 := Lib.hid hW2
  clear k1 k2 hW2
  go_wp2_with fail
  rw [← HW2.out]
  (with_reducible refine C2.out.mono ?_)
  rintro e w3 ⟨rfl, k1, k2⟩
  have L3 := Lib.hid (L2.out.read k1 k2)
  rw [← hy] at L3 ⊢
  clear k1 k2 L2 C1 C2 hy HW2 hs1
  obtain ⟨y1, y2, y3, y4⟩ := L3.out.bk.facts
  have ly := L3.out.bk.lt
  have L4 := Lib.hid (L3.out.set 1 (.bool x2) (Bk.set_six _ _))
  have C3 := Lib.hid (partTake24 p B s2 _ L4.out.rd)
  rw [E3.out] at C3
  go_wp2_with fail
  (with_reducible refine C3.out.mono ?_)
  rintro e w5 ⟨A, m, c, rfl, hm, ho, k1, k2⟩
  have hm2 : m = 24 := by rw [hm]; exact H24.out
  subst hm2
  obtain ⟨g, rfl, hg1, hg2, hc⟩ := own_cells ho (by omega)
  have L5 := Lib.hid (L4.out.read k1 k2)
  have hgy : y ≠ g := by have : y < (w3.setCell ⟨y, 1, none⟩ (.bool x2)).heap.size := L4.out.bk.lt; omega
  have hgp : p ≠ g := by have : p < (w3.setCell ⟨y, 1, none⟩ (.bool x2)).heap.size := L4.out.rd.lt; omega
  have BY := Lib.hid (show Byt w5 g x3 from fun j hj => hc j (by rw [← H24.out]; exact hj))
  clear ho k1 k2 hm hc L3 L4 y1 y2 y3 y4 ly C3 hg1
  obtain ⟨X, hX⟩ : ∃ X, X = (noBk.toN x1).toS x2 := ⟨_, rfl⟩
  rw [← hX] at L5
  have HXb := Lib.hid (show X.addr.b = Vector.replicate 16 0 by rw [hX]; rfl)
  have HXm := Lib.hid (show X.mac = Vector.replicate 6 0 by rw [hX]; rfl)
  have HX := Lib.hid hX
  clear hX
  go_wp2
  go_loopw [5] (fun s5 wr => ∃ i : Nat, i ≤ 16 ∧ s5 = .int .i64 i ∧ Lq W wr p B s3 y (X.toB (x3.take i)).arr noBk.arr ∧ Byt wr g x3) (fun s5 _ => 16 - (intOf s5).toNat)
  case atStart => exact ⟨0, by omega, rfl, by rw [List.take_zero, Bk.toB_nil X HXb.out]; exact L5.out, BY.out⟩
  case round =>
    obtain ⟨i, hin, rfl, hL, hB⟩ := hrel
    have HL := Lib.hid hL
    have HBY := Lib.hid hB
    obtain ⟨y1, y2, y3, y4⟩ := hL.bk.facts
    have ly := hL.bk.lt
    by_cases hlt : i < 16
    · have hi : (i : Int) < 16 := by omega
      have hci := hB i (by rw [H24.out]; omega)
      obtain ⟨b, hb⟩ : ∃ b, b = x3.getD i 0 := ⟨_, rfl⟩
      have hyi : wr.cell? ⟨y, 2 + i, none⟩ = some (bv ((X.toB (x3.take i)).addr.b.toList.getD i 0)) := by rw [y1, Nat.add_comm, Bk.arr_b _ i hlt]
      have L6 := Lib.hid (show Lq W (wr.setCell ⟨y, 2 + i, none⟩ (bv b)) p B s3 y (X.toB (x3.take (i + 1))).arr noBk.arr by
        rw [Nat.add_comm 2 i, hb]; exact HL.out.set (i + 2) _ (Bk.set_b X x3 i hlt))
      have B6 := Lib.hid (HBY.out.set hgy (2 + i) (bv b))
      rw [← hb] at hci
      have hb8 := b.toNat_lt
      unfold bv at hci L6 B6 hyi
      clear hL hB hb y1
      go_wp2
      go_roundw
      case rel => exact ⟨i + 1, by omega, by go_num, L6.out, B6.out⟩
      case measure => simp [intOf] <;> omega
    · obtain rfl : i = 16 := by omega
      obtain ⟨wA, hwA⟩ : ∃ wA, wA = wr := ⟨_, rfl⟩
      have HV := Lib.hid (show X.toB (x3.take 16) = X.toB x3 by unfold Bk.toB; rw [vecO_take])
      rw [HV.out] at HL
      rw [← hwA] at HL HBY ⊢
      have h16 := hB 16 (by rw [H24.out]; omega)
      have h17 := hB 17 (by rw [H24.out]; omega)
      rw [← hwA] at h16 h17
      clear hL hB y1 y2 y3 y4 ly L5 BY
      obtain ⟨a, ha⟩ : ∃ a, a = x3.getD 16 0 := ⟨_, rfl⟩
      obtain ⟨b, hb⟩ : ∃ b, b = x3.getD 17 0 := ⟨_, rfl⟩
      rw [← ha] at h16
      rw [← hb] at h17
      have HA := Lib.hid ha
      have HBB := Lib.hid hb
      have ha8 := a.toNat_lt
      have hb8 := b.toNat_lt
      clear ha hb hwA
      obtain ⟨y1, y2, y3, y4⟩ := HL.out.bk.facts
      have ly := HL.out.bk.lt
      unfold bv at h16 h17
      go_wp2
      go_region
      obtain ⟨P, hP⟩ : ∃ P : Int, P = 256 * (a.toNat : Int) + (b.toNat : Int) := ⟨_, rfl⟩
      rw [← hP]
      obtain ⟨wD, hwD⟩ : ∃ wD, wD = (wA.setCell ⟨y, 18, none⟩ (.int .i64 P)).drew := ⟨_, rfl⟩
      have L7 := Lib.hid (show Lq W wD p B s3 y ((X.toB x3).toP P).arr noBk.arr by rw [hwD]; exact (HL.out.set 18 _ (Bk.set_port _ _)).drewN 1)
      have B7 := Lib.hid (show Byt wD g x3 by rw [hwD]; exact HBY.out.set hgy 18 (.int .i64 P))
      rw [← hwD]
      obtain ⟨Y, hY⟩ : ∃ Y, Y = (X.toB x3).toP P := ⟨_, rfl⟩
      have HP := Lib.hid (show P = ((256 * (x3.getD 16 0).toNat + (x3.getD 17 0).toNat : Nat) : Int) by rw [hP, HA.out, HBB.out]; omega)
      rw [← hY] at L7
      have HYm := Lib.hid (show Y.mac = Vector.replicate 6 0 by rw [hY]; exact HXm.out)
      have HY := Lib.hid hY
      clear hwD hP hY y1 y2 y3 y4 ly HL HBY h16 h17
      go_wp2
      go_loopw [6] (fun s6 wr => ∃ i : Nat, i ≤ 6 ∧ s6 = .int .i64 i ∧ Lq W wr p B s3 y (Y.toM ((x3.drop 18).take i)).arr noBk.arr ∧ Byt wr g x3) (fun s6 _ => 6 - (intOf s6).toNat)
      case atStart => exact ⟨0, by omega, rfl, by rw [List.take_zero, Bk.toM_nil Y HYm.out]; exact L7.out, B7.out⟩
      case round =>
        obtain ⟨i, hin, rfl, hL, hB⟩ := hrel
        have HL := Lib.hid hL
        have HBY := Lib.hid hB
        obtain ⟨y1, y2, y3, y4⟩ := hL.bk.facts
        have ly := hL.bk.lt
        by_cases hlt : i < 6
        · have hi : (i : Int) < 6 := by omega
          have hci := hB (18 + i) (by rw [H24.out]; omega)
          obtain ⟨b, hb⟩ : ∃ b, b = x3.getD (18 + i) 0 := ⟨_, rfl⟩
          have hyi : wr.cell? ⟨y, 19 + i, none⟩ = some (bv ((Y.toM ((x3.drop 18).take i)).mac.toList.getD i 0)) := by rw [y1, Nat.add_comm, Bk.arr_m _ i hlt]
          have L6 := Lib.hid (show Lq W (wr.setCell ⟨y, 19 + i, none⟩ (bv b)) p B s3 y (Y.toM ((x3.drop 18).take (i + 1))).arr noBk.arr by
            rw [Nat.add_comm 19 i, hb, ← drop_getD0]; exact HL.out.set (i + 19) _ (Bk.set_m Y (x3.drop 18) i hlt))
          have B6 := Lib.hid (HBY.out.set hgy (19 + i) (bv b))
          rw [← hb] at hci
          have hb8 := b.toNat_lt
          have hi18 : IntKind.i64.wrap ((18 : Int) + (i : Int)) = ((18 + i : Nat) : Int) := by rw [IntWalk.i64_in _ (by omega)]; omega
          unfold bv at hci L6 B6 hyi
          clear hL hB hb y1
          go_wp2
          go_roundw
          case rel => exact ⟨i + 1, by omega, by go_num, L6.out, B6.out⟩
          case measure => simp [intOf] <;> omega
        · obtain rfl : i = 6 := by omega
          obtain ⟨wE, hwE⟩ : ∃ wE, wE = wr := ⟨_, rfl⟩
          have HV := Lib.hid (show Y.toM ((x3.drop 18).take 6) = Y.toM (x3.drop 18) by unfold Bk.toM; rw [vecO_take])
          rw [HV.out] at HL
          rw [← hwE] at HL ⊢
          clear hL hB y1 y2 y3 y4 ly L7 B7 HBY hwE
          have C4 := Lib.hid (partWeight_any p B s3 wE HL.out.rd)
          rw [E4.out] at C4
          go_wp2_with fail
          (with_reducible refine C4.out.mono ?_)
          rintro e w8 ⟨rfl, k1, k2⟩
          have L8 := Lib.hid (HL.out.read k1 k2)
          obtain ⟨y1, y2, y3, y4⟩ := L8.out.bk.facts
          have ly := L8.out.bk.lt
          have L9 := Lib.hid (L8.out.set 25 (.float .f64 x4) (Bk.set_w _ _))
          have C5 := Lib.hid (partFlag_any p B s4 _ L9.out.rd)
          rw [E5.out] at C5
          clear k1 k2 C4 HL
          go_wp2_with fail
          (with_reducible refine C5.out.mono ?_)
          rintro e wg ⟨rfl, k1, k2⟩
          have La := Lib.hid (L9.out.read k1 k2)
          clear k1 k2 y1 y2 y3 y4 ly L8 L9 C5
          obtain ⟨y1, y2, y3, y4⟩ := La.out.bk.facts
          have ly := La.out.bk.lt
          have Lb := Lib.hid (La.out.set 26 (.bool x5) (Bk.set_d _ _))
          obtain ⟨d1, d2⟩ := Lb.out.rd.spot
          obtain ⟨z1, z2, z3, z4⟩ := Lb.out.bk.facts
          have lz := Lb.out.bk.lt
          have th := Lb.out.res.there 0 27 (by rw [Bk.arr_size]; omega)
          obtain ⟨Z, hZ⟩ : ∃ Z, Z = (((Y.toM (x3.drop 18)).toW x4).toD x5) := ⟨_, rfl⟩
          have HZ := Lib.hid hZ
          rw [← hZ] at Lb z1 z4
          cases s5 with
          | none =>
            have FN := Lib.hid (Lb.out.fin noBk.arr rfl)
            have HR1 := Lib.hid (show R = (noBk, none) from HR0.out.symm)
            clear hZ
            go_wp2
            exact (by
              refine bodyPost_ret (ret_bk1 rfl _ _ W.heap.size rfl noBk FN.out.1) rfl ?_
              rw [HR1.out]
              exact ⟨rfl, FN.out.2.1, FN.out.2.2⟩)
          | some r =>
            have FN := Lib.hid (Lb.out.fin Z.arr (by rw [Bk.arr_size]; rfl))
            have HR1 := Lib.hid (show R = (Z, some r) by
              rw [← HR0.out, HZ.out, HY.out, HX.out, HP.out]
              rfl)
            clear hZ
            go_wp2
            exact (by
              refine bodyPost_ret (ret_bk1 rfl _ _ W.heap.size rfl Z FN.out.1) rfl ?_
              rw [HR1.out]
              exact ⟨rfl, FN.out.2.1, FN.out.2.2⟩)
end Go.Proofs.YtmpemeemlhmaaaaGreat
