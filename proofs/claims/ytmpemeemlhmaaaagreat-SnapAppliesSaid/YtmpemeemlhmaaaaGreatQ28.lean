/- snap.Delta. -/
import Derived.Test.YtmpemeemlhmaaaaGreatQ23
import Derived.Test.YtmpemeemlhmaaaaGreatQ27
set_option linter.unusedSimpArgs false
set_option linter.unusedVariables false
set_option maxRecDepth 100000
namespace Go.Proofs.YtmpemeemlhmaaaaGreat
open Go.RowKit

/-- who is gone; who is other, or new -/
def goneL (la lb : List Bk) : List (List UInt8) := (la.filter fun x => !hasN lb x.name).map Bk.name
def otherL (la lb : List Bk) : List Bk := lb.filter fun x => !justB la x
def deltaB (va vb : Int) (la lb : List Bk) : List UInt8 := numsB [va, vb, ((goneL la lb).length : Nat)] ++ (goneL la lb).flatMap textB ++ bksB (otherL la lb)
def deltaV (va vb : Int) (la lb : List Bk) : Option (List UInt8) := if pRight va la && pRight vb lb then some (deltaB va vb la lb) else none
/-- bytes are answered, in new memory, or none -/
def BytP (w : World) (r : Option (List UInt8)) (no : Int) (e : Ending) (w' : World) : Prop := Below w.heap.size w w' ∧ match r with
  | some bs => ∃ A n c, e = .returned (.tuple #[.slice A n c, .int .i64 0]) ∧ n = bs.length ∧ w'.ownsRow w.heap.size 5 1 (.slice A n c) n (bs.map bv)
  | none => e = .returned (.tuple #[.slice none 0 0, .int .i64 no])
theorem BytP.no {w w' : World} {r : Option (List UInt8)} {z : Int} (h : r = none) (hb : Below w.heap.size w w') : BytP w r z (.returned (.tuple #[.slice none 0 0, .int .i64 z])) w' := ⟨hb, by rw [h]⟩
theorem BytP.yes {w w1 w' : World} {r : Option (List UInt8)} {z : Int} {L : List (Nat × Array Value)} {A : Option Addr} {n c : Nat} {bs : List UInt8} (h : r = some bs) (hb : Below w.heap.size w w1) (k : Ly w1.heap.size L w1 w' (.slice A n c) bs) : BytP w r z (.returned (.tuple #[.slice A n c, .int .i64 0])) w' := by
  subst h
  obtain ⟨A2, c2, e2⟩ := k.o.form
  injection e2 with e3 e4 e5
  subst e3 e4 e5
  exact ⟨below2 hb k.o.bel, ⟨_, _, _, rfl, rfl, own_less k.o.own hb.size⟩⟩
theorem Ly.rd {B : Nat} {L : List (Nat × Array Value)} {w0 W : World} {A : Option Addr} {n c : Nat} {bs : List UInt8} (h : Ly B L w0 W (.slice A n c) bs) : RdB W W.heap.size A n bs := by
  obtain ⟨A2, c2, e2⟩ := h.o.form
  injection e2 with e3 e4 e5
  subst e3 e4 e5
  exact RdB.of_own h.o.own
theorem Ly.len {B : Nat} {L : List (Nat × Array Value)} {w0 W : World} {A : Option Addr} {n c : Nat} {bs : List UInt8} (h : Ly B L w0 W (.slice A n c) bs) : n = bs.length := by
  obtain ⟨A2, c2, e2⟩ := h.o.form
  injection e2
theorem goneL_snoc (la lb : List Bk) (i : Nat) (hi : i < la.length) : goneL (la.take (i + 1)) lb = goneL (la.take i) lb ++ (if hasN lb (la.getD i noBk).name then [] else [(la.getD i noBk).name]) := by
  unfold goneL
  rw [← take_snocR noBk la i hi, List.filter_append, List.map_append]
  congr 1
  generalize la.getD i noBk = x
  cases h : hasN lb x.name <;> simp [h]
theorem otherL_snoc (la lb : List Bk) (i : Nat) (hi : i < lb.length) : otherL la (lb.take (i + 1)) = otherL la (lb.take i) ++ (if justB la (lb.getD i noBk) then [] else [lb.getD i noBk]) := by
  unfold otherL
  rw [← take_snocR noBk lb i hi, List.filter_append]
  congr 1
  generalize lb.getD i noBk = x
  cases h : justB la x <;> simp [h]
theorem goneL_len (la lb : List Bk) : (goneL la lb).length ≤ la.length := by unfold goneL; rw [List.length_map]; exact List.length_filter_le _ _
theorem otherL_len (la lb : List Bk) : (otherL la lb).length ≤ lb.length := List.length_filter_le _ _
theorem otherL_mem {la lb : List Bk} {x : Bk} (h : x ∈ otherL la lb) : x ∈ lb := (List.mem_filter.1 h).1
theorem goneL_small {la lb : List Bk} (h : ∀ x ∈ la, x.name.length ≤ 255) : ∀ s ∈ goneL la lb, s.length ≤ 255 := by
  intro s hs
  obtain ⟨x, hx, rfl⟩ := List.mem_map.1 hs
  exact h x (List.mem_filter.1 hx).1
theorem textsB_len (l : List (List UInt8)) (h : ∀ s ∈ l, s.length ≤ 255) : (l.flatMap textB).length ≤ 300 * l.length := by
  induction l with
  | nil => simp
  | cons s l ih =>
    have h1 := h s (by simp)
    have h3 := ih (fun y hy => h y (by simp [hy]))
    have a1 := (varB_len s.length).2
    simp only [List.flatMap_cons, List.length_append, List.length_cons, textB]
    omega
theorem delta_no (va vb : Int) (la lb : List Bk) (A B : Option Addr) (n m c d : Nat) (w : World) (hA : RdR Bk.arr 27 w w.heap.size A n la) (hB : RdR Bk.arr 27 w w.heap.size B m lb) (hfa : ∀ x ∈ la, x.fine) (hfb : ∀ x ∈ lb, x.fine)
    (hn : n ≤ 4611686018427387903) (hm : m ≤ 4611686018427387903) (hr : (pRight va la && pRight vb lb) = false) :
    Calls Tryz.prog 20 #[.agg #[.int .i64 va, .slice A n c], .agg #[.int .i64 vb, .slice B m d]] w (BytP w (deltaV va vb la lb) 1) := by
  obtain ⟨W1, hW1⟩ : ∃ W1, W1 = (w.alloc (.cells #[.int .i64 va, .slice A n c] 24)).alloc (.cells #[.int .i64 vb, .slice B m d] 24) := ⟨_, rfl⟩
  have HB1 := Lib.hid (show Below w.heap.size w W1 by rw [hW1]; exact ((Below.refl w.heap.size w).alloc (Nat.le_refl _) _).alloc (by simp) _)
  have P1 := Lib.hid (show Box W1 w.heap.size #[.int .i64 va, .slice A n c] by rw [hW1]; exact (Box.new w _ _).alloc _)
  have Q1 := Lib.hid (show Box W1 (w.heap.size + 1) #[.int .i64 vb, .slice B m d] by rw [hW1]; exact Box.new1 w _ _ _)
  have HNO := Lib.hid (show deltaV va vb la lb = none by unfold deltaV; rw [hr]; rfl)
  obtain ⟨K, hK⟩ : ∃ K, pRight va la = K := ⟨_, rfl⟩
  have R1 := Lib.hid (rightP_any la hfa va A n c W1 (hA.go HB1.out) hn K hK)
  obtain ⟨p1, p2, p3, p4⟩ := P1.out.facts
  obtain ⟨q1, q2, q3, q4⟩ := Q1.out.facts
  have hlp := P1.out.lt
  have hlq := Q1.out.lt
  have HBR := Lib.hid (hB.go HB1.out)
  have HFB := Lib.hid hfb
  have HRR := Lib.hid hr
  have HK := Lib.hid hK
  clear hK hA hB hfa hfb hr
  subst hW1
  cases K
  · go_enter Tryz.func20, Tryz.ntmps20
    go_wp2_with fail
    (with_reducible refine R1.out.mono ?_)
    rintro e w1 ⟨rfl, hb1⟩
    have HB2 := Lib.hid (below2 HB1.out hb1)
    clear hb1
    go_wp2
    go_ret2
    exact .no HNO.out HB2.out
  · have HK2 := Lib.hid (show pRight vb lb = false by have := HRR.out; rw [HK.out] at this; simpa using this)
    go_enter Tryz.func20, Tryz.ntmps20
    go_wp2_with fail
    (with_reducible refine R1.out.mono ?_)
    rintro e w1 ⟨rfl, hb1⟩
    have HB2 := Lib.hid (below2 HB1.out hb1)
    have Q2 := Lib.hid (Q1.out.go hb1)
    obtain ⟨r1, r2, r3, r4⟩ := Q2.out.facts
    have hlr := Q2.out.lt
    have R2 := Lib.hid (rightP_any lb HFB.out vb B m d w1 (HBR.out.go hb1) hm false HK2.out)
    clear hb1
    go_wp2_with fail
    (with_reducible refine R2.out.mono ?_)
    rintro e w2 ⟨rfl, hb2⟩
    have HB3 := Lib.hid (below2 HB2.out hb2)
    clear hb2
    go_wp2
    go_ret2
    exact .no HNO.out HB3.out
set_option maxRecDepth 100000 in
set_option maxHeartbeats 8000000 in
theorem delta_yes (va vb : Int) (la lb : List Bk) (A B : Option Addr) (n m c d : Nat) (w : World) (hA : RdR Bk.arr 27 w w.heap.size A n la) (hB : RdR Bk.arr 27 w w.heap.size B m lb) (hfa : ∀ x ∈ la, x.fine) (hfb : ∀ x ∈ lb, x.fine)
    (hn : n ≤ 4611686018427387903) (hm : m ≤ 4611686018427387903) (hra : pRight va la = true) (hrb : pRight vb lb = true) :
    Calls Tryz.prog 20 #[.agg #[.int .i64 va, .slice A n c], .agg #[.int .i64 vb, .slice B m d]] w (BytP w (deltaV va vb la lb) 1) := by
  obtain ⟨W1, hW1⟩ : ∃ W1, W1 = (w.alloc (.cells #[.int .i64 va, .slice A n c] 24)).alloc (.cells #[.int .i64 vb, .slice B m d] 24) := ⟨_, rfl⟩
  have HB1 := Lib.hid (show Below w.heap.size w W1 by rw [hW1]; exact ((Below.refl w.heap.size w).alloc (Nat.le_refl _) _).alloc (by simp) _)
  have P1 := Lib.hid (show Box W1 w.heap.size #[.int .i64 va, .slice A n c] by rw [hW1]; exact (Box.new w _ _).alloc _)
  have Q1 := Lib.hid (show Box W1 (w.heap.size + 1) #[.int .i64 vb, .slice B m d] by rw [hW1]; exact Box.new1 w _ _ _)
  have HYES := Lib.hid (show deltaV va vb la lb = some (deltaB va vb la lb) by unfold deltaV; rw [hra, hrb]; rfl)
  have R1 := Lib.hid (rightP_any la hfa va A n c W1 (hA.go HB1.out) hn true hra)
  obtain ⟨p1, p2, p3, p4⟩ := P1.out.facts
  obtain ⟨q1, q2, q3, q4⟩ := Q1.out.facts
  have hlp := P1.out.lt
  have hlq := Q1.out.lt
  have HAR := Lib.hid (hA.go HB1.out)
  have HBR := Lib.hid (hB.go HB1.out)
  have HFB := Lib.hid hfb
  have HFA := Lib.hid hfa
  have IA := Lib.hid (pRight_iff.1 hra)
  have IB := Lib.hid (pRight_iff.1 hrb)
  have LA := Lib.hid (right_lay hra)
  have LB := Lib.hid (right_lay hrb)
  have HLA := Lib.hid hA.1
  have HLB := Lib.hid hB.1
  have hn1 : n ≤ 1024 := by rw [← hA.1]; exact IA.out.2.2.1
  have hm1 : m ≤ 1024 := by rw [← hB.1]; exact IB.out.2.2.1
  have HRB := Lib.hid hrb
  clear hA hB hfa hfb hra hrb
  subst hW1
  go_enter Tryz.func20, Tryz.ntmps20
  go_wp2_with fail
  (with_reducible refine R1.out.mono ?_)
  rintro e w1 ⟨rfl, hb1⟩
  have HB2 := Lib.hid (below2 HB1.out hb1)
  have Q2 := Lib.hid (Q1.out.go hb1)
  have P2 := Lib.hid (P1.out.go hb1)
  have HAR2 := Lib.hid (HAR.out.go hb1)
  have HBR2 := Lib.hid (HBR.out.go hb1)
  obtain ⟨r1, r2, r3, r4⟩ := Q2.out.facts
  have hlr := Q2.out.lt
  have R2 := Lib.hid (rightP_any lb HFB.out vb B m d w1 HBR2.out (by omega) true HRB.out)
  clear hb1
  go_wp2_with fail
  (with_reducible refine R2.out.mono ?_)
  rintro e w2 ⟨rfl, hb2⟩
  have HB3 := Lib.hid (below2 HB2.out hb2)
  have HAR3 := Lib.hid (HAR2.out.go hb2)
  have HBR3 := Lib.hid (HBR2.out.go hb2)
  have L0 := Lib.hid ((Ly.nil.add (P2.out.go hb2) (by intro e; cases e)).add (Q2.out.go hb2) (by intro e; cases e))
  clear hb2 p1 p2 p3 p4 q1 q2 q3 q4 hlp hlq r1 r2 r3 r4 hlr
  obtain ⟨q1, q2, q3, q4⟩ := L0.out.b0.facts
  obtain ⟨p1, p2, p3, p4⟩ := L0.out.b1.facts
  have hlp := L0.out.b1.lt
  have hlq := L0.out.b0.lt
  go_wp2
  go_loopw [6, 8, 27] (fun s6 s8 s27 wr => ∃ (i : Nat) (A' : Option Addr) (m' c' : Nat), i ≤ n ∧ s27 = .int .i64 i ∧ s8 = .int .i64 ((goneL (la.take i) lb).length : Nat) ∧ s6 = .slice A' m' c' ∧ Ly w2.heap.size [(w.heap.size + 1, #[.int .i64 vb, .slice B m d]), (w.heap.size, #[.int .i64 va, .slice A n c])] w2 wr (.slice A' m' c') ((goneL (la.take i) lb).flatMap textB)) (fun _ _ s27 _ => n - (intOf s27).toNat)
  case atStart => exact ⟨0, none, 0, 0, by omega, rfl, rfl, rfl, by simpa [goneL] using L0.out⟩
  case round =>
    obtain ⟨i, A', m', c', hi, rfl, rfl, rfl, h⟩ := hrel
    have HO := Lib.hid h
    clear h q1 q2 q3 q4 p1 p2 p3 p4 hlp hlq
    obtain ⟨q1, q2, q3, q4⟩ := HO.out.b0.facts
    obtain ⟨p1, p2, p3, p4⟩ := HO.out.b1.facts
    have hlp := HO.out.b1.lt
    have hlq := HO.out.b0.lt
    by_cases hlt : i < n
    · have hlt2 : (i : Int) < n := by omega
      obtain ⟨b, o, rfl, hbb, hh1, hh2⟩ := RdR.at_ Bk.arr_size noBk (HAR3.out.go HO.out.o.bel) hlt
      have hxl := LA.out _ (getD_mem noBk la i (by have := HLA.out; omega))
      have hs := goneL_snoc la lb i (by have := HLA.out; omega)
      have hgl := goneL_len (la.take i) lb
      rw [List.length_take] at hgl
      have hgs := goneL_small (lb := lb) (fun x hx => (LA.out x (List.mem_of_mem_take (i := i) hx)).1)
      have hbl : ((goneL (la.take i) lb).flatMap textB).length ≤ 900000 := by
        have := textsB_len _ hgs
        omega
      obtain ⟨x, hx⟩ : ∃ x, la.getD i noBk = x := ⟨_, rfl⟩
      rw [hx] at hh2 hxl hs
      have hgl2 : (goneL (la.take i) lb).length ≤ 1024 := by omega
      have T := Lib.hid (HO.out.new x.arr 60)
      obtain ⟨K, hK⟩ : ∃ K, hasN lb x.name = K := ⟨_, rfl⟩
      obtain ⟨g, hg⟩ : ∃ g, gotN lb x.name = g := ⟨_, rfl⟩
      have FD := Lib.hid (pFind_any lb IB.out.2.2.2.2 x.name vb B m d _ ((HBR3.out.go HO.out.o.bel).up (.cells x.arr 60)) (by omega) K g hK hg)
      rw [hK] at hs
      have HSN := Lib.hid hs
      have TX := Lib.hid (fun (L : List (Nat × Array Value)) W v (hh : Ly w2.heap.size L w2 W v ((goneL (la.take i) lb).flatMap textB)) => text_ly x.name hh (by have := hxl.1; omega) (by omega))
      obtain ⟨t1, t2, t3, t4⟩ := T.out.b0.facts
      obtain ⟨u1, u2, u3, u4⟩ := T.out.b1.facts
      have hlt1 := T.out.b0.lt
      have hlu := T.out.b1.lt
      clear hx hs hbl hxl hK hg hgs hgl
      go_wp2_with fail
      (with_reducible refine FD.out.mono ?_)
      rintro e w3 ⟨rfl, hb3⟩
      have T3 := Lib.hid ((T.out.go hb3).alloc (.cells g.arr 60))
      have hs3 := hb3.size
      clear hb3 t1 t2 t3 t4 u1 u2 u3 u4 hlt1 hlu
      obtain ⟨t1, t2, t3, t4⟩ := T3.out.b0.facts
      have hlt1 := T3.out.b0.lt
      cases K
      · go_wp2_with fail
        (with_reducible refine (TX.out _ _ _ T3.out).mono ?_)
        rintro e w4 ⟨A4, n4, c4, rfl, h4⟩
        have L4 := Lib.hid h4.pop
        clear h4
        go_wp2
        go_roundw
        case rel => exact ⟨i + 1, A4, n4, c4, by omega, by go_num, by rw [HSN.out]; simp, rfl, by rw [HSN.out]; simpa using L4.out⟩
        case measure => simp [intOf] <;> omega
      · go_wp2
        go_roundw
        case rel => exact ⟨i + 1, A', m', c', by omega, by go_num, by rw [HSN.out]; simp, rfl, by rw [HSN.out]; simpa using T3.out.pop⟩
        case measure => simp [intOf] <;> omega
    · have hge : ¬ (i : Int) < n := by omega
      have HF2 := Lib.hid (show la.take i = la from List.take_of_length_le (by have := HLA.out; omega))
      rw [HF2.out] at HO
      rw [HF2.out]
      have hgl := goneL_len la lb
      have HGS := Lib.hid (goneL_small (lb := lb) (fun x hx => (LA.out x hx).1))
      have hla := HLA.out
      have hgl2 : (goneL la lb).length ≤ 1024 := by omega
      have HGB := Lib.hid (show ((goneL la lb).flatMap textB).length ≤ 900000 by have := textsB_len _ HGS.out; omega)
      obtain ⟨gn, hgn⟩ : ∃ k, (goneL la lb).length = k := ⟨_, rfl⟩
      rw [hgn] at hgl hgl2 ⊢
      have HGN := Lib.hid hgn
      clear hgn hla hgl
      obtain ⟨u2, hu2⟩ : ∃ u2, wr = u2 := ⟨_, rfl⟩
      subst hu2
      generalize wr = w3 at *
      have Z0 := Lib.hid (((Rz.nil (f := Bk.arr) (sz := 27) (e := 60) w3).add HO.out.b1 (by intro e; cases e)).add HO.out.b0 (by intro e; cases e))
      have GA := Lib.hid HO.out
      have HB4 := Lib.hid (below2 HB3.out HO.out.o.bel)
      have HAR4 := Lib.hid (HAR3.out.go HO.out.o.bel)
      have HBR4 := Lib.hid (HBR3.out.go HO.out.o.bel)
      have hm0 := hm1
      go_wp2
      go_loopw [13, 50] (fun s13 s50 wr => ∃ (j : Nat) (A2 : Option Addr) (m2 c2 : Nat), j ≤ m ∧ s50 = .int .i64 j ∧ s13 = .slice A2 m2 c2 ∧ Rz Bk.arr 27 60 [(w.heap.size + 1, #[.int .i64 vb, .slice B m d]), (w.heap.size, #[.int .i64 va, .slice A n c])] w3 wr (.slice A2 m2 c2) (otherL la (lb.take j))) (fun _ s50 _ => m - (intOf s50).toNat)
      case atStart => exact ⟨0, none, 0, 0, by omega, rfl, rfl, by simpa [otherL] using Z0.out⟩
      case round =>
        obtain ⟨j, A2, m2, c2, hj, rfl, rfl, h⟩ := hrel
        have HZ := Lib.hid h
        clear h q1 q2 q3 q4 p1 p2 p3 p4 hlp hlq
        obtain ⟨q1, q2, q3, q4⟩ := HZ.out.b0.facts
        obtain ⟨p1, p2, p3, p4⟩ := HZ.out.b1.facts
        have hlp := HZ.out.b1.lt
        have hlq := HZ.out.b0.lt
        by_cases hlt : j < m
        · have hlt2 : (j : Int) < m := by omega
          obtain ⟨b, o, rfl, hbb, hh1, hh2⟩ := RdR.at_ Bk.arr_size noBk (HBR4.out.go HZ.out.bel) hlt
          have hs := otherL_snoc la lb j (by have := HLB.out; omega)
          have hol := otherL_len la (lb.take j)
          rw [List.length_take] at hol
          obtain ⟨x, hx⟩ : ∃ x, lb.getD j noBk = x := ⟨_, rfl⟩
          rw [hx] at hh2 hs
          have HOL := Lib.hid (show (otherL la (lb.take j)).length + 1 ≤ 1000000 by omega)
          have T := Lib.hid (HZ.out.new x.arr 60)
          obtain ⟨K, hK⟩ : ∃ K, justB la x = K := ⟨_, rfl⟩
          have JU := Lib.hid (just_any la IA.out.2.2.2.2 va A n c x _ ((HAR4.out.go HZ.out.bel).up (.cells x.arr 60)) (by omega) K hK)
          rw [hK] at hs
          have HSN := Lib.hid hs
          obtain ⟨t1, t2, t3, t4⟩ := T.out.b0.facts
          obtain ⟨u1, u2, u3, u4⟩ := T.out.b2.facts
          have hlt1 := T.out.b0.lt
          have hlu := T.out.b2.lt
          clear hx hs hK hol
          go_wp2_with fail
          (with_reducible refine JU.out.mono ?_)
          rintro e w4 ⟨rfl, hb4⟩
          have T3 := Lib.hid (T.out.go hb4)
          have hs3 := hb4.size
          clear hb4 t1 t2 t3 t4 u1 u2 u3 u4 hlt1 hlu
          obtain ⟨t1, t2, t3, t4⟩ := T3.out.b0.facts
          have hlt1 := T3.out.b0.lt
          cases K
          · have T4 := Lib.hid (T3.out.alloc (.cells x.arr 60))
            have RO := Lib.hid (RdR.one (f := Bk.arr) x Bk.arr_size w4 60)
            go_wp2_with (at_builtin; refine wpList_rz rowT_bk rfl (.tmp 58) (.tmp 60) rfl rfl T4.out rfl RO.out HOL.out ?_; intro A5 n5 c5 w5 h5 h6; have T5 := Lib.hid h5.pop; clear h5 h6)
            go_roundw
            case rel => exact ⟨j + 1, A5, n5, c5, by omega, by go_num, rfl, by rw [HSN.out]; exact T5.out⟩
            case measure => simp [intOf] <;> omega
          · go_wp2
            go_roundw
            case rel => exact ⟨j + 1, A2, m2, c2, by omega, by go_num, rfl, by rw [HSN.out]; simpa using T3.out.pop⟩
            case measure => simp [intOf] <;> omega
        · have hge2 : ¬ (j : Int) < m := by omega
          have HF3 := Lib.hid (show lb.take j = lb from List.take_of_length_le (by have := HLB.out; omega))
          rw [HF3.out] at HZ
          have GW := Lib.hid (GA.out.go HZ.out.bel)
          have RG := Lib.hid GW.out.rd
          have HML := Lib.hid GW.out.len
          have HB5 := Lib.hid (below2 HB4.out HZ.out.bel)
          have N5 := Lib.hid (nums_ly [va, vb, (gn : Int)] 3 ((Ly.nil (w := wr)).new (intsC [va, vb, (gn : Int)]) 3) (by have := IA.out.1; have := IA.out.2.1; have := IB.out.1; have := IB.out.2.1; intro z hz; simp at hz; omega) rfl (by omega) (by simp))
          go_wp2_with fail
          (with_reducible refine N5.out.mono ?_)
          rintro e w5 ⟨A5, n5, c5, rfl, h5⟩
          have L5 := Lib.hid h5
          have RG5 := Lib.hid (RdB.more (RdB.to RG.out h5.o.bel (Nat.le_refl _)) h5.o.bel.size)
          have HL5 := Lib.hid (show ([] ++ numsB [va, vb, (gn : Int)]).length + m' ≤ 1000000000 by
            rw [HML.out]
            have := numsB_len [va, vb, (gn : Int)]
            have := HGB.out
            simp only [List.nil_append, List.length_cons, List.length_nil] at *
            omega)
          have R6 := Lib.hid HZ.out.rd
          have HL6 := Lib.hid (show ([] ++ numsB [va, vb, (gn : Int)] ++ (goneL la lb).flatMap textB).length ≤ 100000000 by
            have := numsB_len [va, vb, (gn : Int)]
            have := HGB.out
            simp only [List.nil_append, List.length_append, List.length_cons, List.length_nil] at *
            omega)
          have hol := otherL_len la lb
          have hol2 := HZ.out.len
          have hlb := HLB.out
          have HM2 := Lib.hid (show m2 ≤ 10000 by omega)
          clear h5 hol hol2 hlb
          go_wp2_with (at_builtin; refine wpList_ow rfl (.tmp 70) (.tmp 71) rfl rfl L5.out.o rfl RG5.out HL5.out ?_; intro A6 n6 c6 w6 h2 h3; have L6 := Lib.hid (L5.out.step h3); clear h2 h3)
          have B6 := Lib.hid (bks_ly (otherL la lb) A2 m2 c2 L6.out R6.out (Nat.le_refl _) (fun y hy => HFB.out y (otherL_mem hy)) (fun y hy => layBk_told (LB.out y (otherL_mem hy))) HM2.out HL6.out)
          (with_reducible refine B6.out.mono ?_)
          rintro e w7 ⟨A7, n7, c7, rfl, h7⟩
          have L7 := Lib.hid h7
          clear h7
          go_wp2
          go_ret2
          refine BytP.yes ?_ HB5.out L7.out
          rw [HYES.out]
          unfold deltaB
          rw [HGN.out, List.nil_append]
theorem delta_any (va vb : Int) (la lb : List Bk) (A B : Option Addr) (n m c d : Nat) (w : World) (hA : RdR Bk.arr 27 w w.heap.size A n la) (hB : RdR Bk.arr 27 w w.heap.size B m lb) (hfa : ∀ x ∈ la, x.fine) (hfb : ∀ x ∈ lb, x.fine)
    (hn : n ≤ 4611686018427387903) (hm : m ≤ 4611686018427387903) (r : Option (List UInt8)) (hr : deltaV va vb la lb = r) :
    Calls Tryz.prog 20 #[.agg #[.int .i64 va, .slice A n c], .agg #[.int .i64 vb, .slice B m d]] w (BytP w r 1) := by
  subst hr
  cases h : (pRight va la && pRight vb lb)
  · exact delta_no va vb la lb A B n m c d w hA hB hfa hfb hn hm h
  · rw [Bool.and_eq_true] at h
    exact delta_yes va vb la lb A B n m c d w hA hB hfa hfb hn hm h.1 h.2
end Go.Proofs.YtmpemeemlhmaaaaGreat
