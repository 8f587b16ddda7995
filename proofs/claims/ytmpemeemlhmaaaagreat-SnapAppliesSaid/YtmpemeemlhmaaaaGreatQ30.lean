/- snap.Apply. -/
import Derived.Test.YtmpemeemlhmaaaaGreatQ29
import Derived.Test.YtmpemeemlhmaaaaGreatQ26
set_option linter.unusedSimpArgs false
set_option linter.unusedVariables false
set_option maxRecDepth 100000
namespace Go.Proofs.YtmpemeemlhmaaaaGreat
open Go.RowKit

/-! ### bytes.Equal -/
theorem bytesEqual_any (a b : List UInt8) (A B : Option Addr) (n m c d : Nat) (w : World) (hA : RdB w w.heap.size A n a) (hB : RdB w w.heap.size B m b) (K : Bool) (hK : decide (a = b) = K) :
    Calls Tryz.prog 69 #[.slice A n c, .slice B m d] w fun e w' => e = .returned (.bool K) ∧ w = w' := by
  have h1 := (text_later hA c).2
  have h2 := (text_later hB d).2
  by_cases hab : a = b
  · subst hab
    obtain rfl : K = true := by rw [← hK]; simp
    go_enter Tryz.func69, Tryz.ntmps69
    go_wp2
    go_ret
    exact ⟨by simp, rfl⟩
  · obtain rfl : K = false := by rw [← hK]; simp [hab]
    go_enter Tryz.func69, Tryz.ntmps69
    go_wp2
    go_ret
    exact ⟨by simp [hab], rfl⟩
def PoolR (w : World) (r : Option (Int × List Bk)) (no : Int) (e : Ending) (w' : World) : Prop := Below w.heap.size w w' ∧ match r with
  | some (v, m) => ∃ A c, e = .returned (.tuple #[.agg #[.int .i64 v, .slice A m.length c], .int .i64 0]) ∧ w'.ownsRow w.heap.size 60 27 (.slice A m.length c) m.length (m.flatMap fun x => (Bk.arr x).toList)
  | none => e = .returned (.tuple #[.agg #[.int .i64 0, .slice none 0 0], .int .i64 no])
theorem PoolR.no {w w' : World} {r : Option (Int × List Bk)} {z : Int} (h : r = none) (hb : Below w.heap.size w w') : PoolR w r z (.returned (.tuple #[.agg #[.int .i64 0, .slice none 0 0], .int .i64 z])) w' := ⟨hb, by rw [h]⟩
set_option maxRecDepth 100000 in
set_option maxHeartbeats 4000000 in
theorem apply_no (va : Int) (la : List Bk) (d : List UInt8) (A B : Option Addr) (n m c k : Nat) (w : World) (hA : RdR Bk.arr 27 w w.heap.size A n la) (hfa : ∀ x ∈ la, x.fine) (hn : n ≤ 4611686018427387903) (hr : pRight va la = false) :
    Calls Tryz.prog 22 #[.agg #[.int .i64 va, .slice A n c], .slice B m k] w (PoolR w none 1) := by
  obtain ⟨W1, hW1⟩ : ∃ W1, W1 = (w.alloc (.cells #[.int .i64 va, .slice A n c] 24)).alloc (.cells #[.int .i64 0, .slice none 0 0] 24) := ⟨_, rfl⟩
  have HB1 := Lib.hid (show Below w.heap.size w W1 by rw [hW1]; exact ((Below.refl w.heap.size w).alloc (Nat.le_refl _) _).alloc (by simp) _)
  have P1 := Lib.hid (show Box W1 w.heap.size #[.int .i64 va, .slice A n c] by rw [hW1]; exact (Box.new w _ _).alloc _)
  have Q1 := Lib.hid (show Box W1 (w.heap.size + 1) #[.int .i64 0, .slice none 0 0] by rw [hW1]; exact Box.new1 w _ _ _)
  have R1 := Lib.hid (rightP_any la hfa va A n c W1 (hA.go HB1.out) hn false hr)
  obtain ⟨p1, p2, p3, p4⟩ := P1.out.facts
  have hlp := P1.out.lt
  clear hA hfa hr
  subst hW1
  go_enter Tryz.func22, Tryz.ntmps22
  go_wp2_with fail
  (with_reducible refine R1.out.mono ?_)
  rintro e w1 ⟨rfl, hb1⟩
  have HB2 := Lib.hid (below2 HB1.out hb1)
  have Q2 := Lib.hid (Q1.out.go hb1)
  obtain ⟨q1, q2, q3, q4⟩ := Q2.out.facts
  have hlq := Q2.out.lt
  clear hb1 p1 p2 p3 p4 hlp
  have Q3 := Lib.hid ((Q2.out.set_same 0 (.int .i64 0)).set_same 1 (.slice none 0 0))
  go_wp2
  try simp only [Exit.inBlock, Exit.then]
  obtain ⟨v4, hv4⟩ : ∃ v, v = (w1.setCell ⟨w.heap.size + 1, 0, none⟩ (.int .i64 0)).setCell ⟨w.heap.size + 1, 1, none⟩ (.slice none 0 0) := ⟨_, rfl⟩
  rw [← hv4] at Q3 ⊢
  have HB3 := Lib.hid (show Below w.heap.size w v4 by rw [hv4]; exact (HB2.out.setCell (Nat.le_succ _) _).setCell (Nat.le_succ _) _)
  obtain ⟨r1, r2, r3, r4⟩ := Q3.out.facts
  refine bodyPost_ret (ret_pool rfl _ _ _ _ rfl (by rw [r3 0 2 (by simp [csize])]; trivial)) rfl ?_
  rw [r4 0 2 (by simp [csize])]
  exact .no rfl HB3.out
theorem foldl_len (m : List Bk) : ∀ l : List Bk, (m.foldl insB l).length ≤ l.length + m.length := by
  induction m with
  | nil => intro l; simp
  | cons x m ih =>
    intro l
    have h1 := ih (insB l x)
    have h2 := len_insB l x
    rw [List.foldl_cons, List.length_cons]
    split at h2 <;> omega
theorem foldl_del_len (m : List (List UInt8)) : ∀ l : List Bk, (m.foldl delB l).length ≤ l.length := by
  induction m with
  | nil => intro l; simp
  | cons x m ih =>
    intro l
    have h1 := ih (delB l x)
    have h2 := len_delB l x
    rw [List.foldl_cons]
    split at h2 <;> omega
theorem all_insL {P : Bk → Prop} {l : List Bk} (h : Srt l) (hl : ∀ x ∈ l, P x) (m : List Bk) (hm : ∀ x ∈ m, P x) : ∀ x ∈ m.foldl insB l, P x := by
  induction m generalizing l with
  | nil => exact hl
  | cons y m ih =>
    refine ih (srt_insB h y) (fun x hx => ?_) (fun x hx => hm x (by simp [hx]))
    rcases (mem_insB h y x).1 hx with rfl | ⟨hx, _⟩
    · exact hm x (by simp)
    · exact hl x hx
theorem upd_ins {w : World} {M : Nat} {L L' : List Bk} (h : Srt L) (x : Bk) (e : L' = insB L x) (k : HasV w M (if (byName L x.name).isSome then L.length else L.length + 1) (putV (byName L) x.name (.agg x.arr))) : HasV w M L'.length (byName L') := by
  subst e
  rw [byName_some, ← len_insB] at k
  exact k.eq (byName_ins h x)
theorem upd_del {w : World} {M : Nat} {L L' : List Bk} (h : Srt L) (x : List UInt8) (e : L' = delB L x) (k : HasV w M (if (byName L x).isSome then L.length - 1 else L.length) (delV (byName L) x)) : HasV w M L'.length (byName L') := by
  subst e
  rw [byName_some, ← len_delB] at k
  exact k.eq (byName_del h x)
theorem map_below {w7 W W' : World} (h : Below w7.heap.size w7 W) (hg : W.grownBy W' (some w7.heap.size)) : Below w7.heap.size w7 W' :=
  h.grown hg h.size (fun j hj => by injection hj with hj; omega)
/-- since w: a reader at p, all older blocks as they were in w1 -/
structure Rdn (w1 W : World) (p g N : Nat) (r : RS) : Prop where
  rdr : RdrS W p g N r
  bel : Below w1.heap.size w1 W
  hp : w1.heap.size ≤ p
  hg : w1.heap.size ≤ g ∧ g < W.heap.size
theorem Rdn.read {w1 W W' : World} {p g N : Nat} {r r' : RS} (h : Rdn w1 W p g N r) (k : RdrS W' p g N r') (hg : W.grownBy W' (some p)) : Rdn w1 W' p g N r' :=
  ⟨k, h.bel.grown hg h.bel.size (fun j hj => by injection hj with hj; have := h.hp; omega), h.hp, h.hg.1, Nat.lt_of_lt_of_le h.hg.2 hg.size⟩
theorem Rdn.go {w1 W W' : World} {p g N : Nat} {r : RS} (h : Rdn w1 W p g N r) (hb : Below W.heap.size W W') : Rdn w1 W' p g N r :=
  ⟨h.rdr.go hb, below2 h.bel hb, h.hp, h.hg.1, Nat.lt_of_lt_of_le h.hg.2 hb.size⟩
set_option maxRecDepth 100000 in
set_option maxHeartbeats 8000000 in
theorem apply_yes (va : Int) (la : List Bk) (d : List UInt8) (A B : Option Addr) (n m c k : Nat) (w : World) (hA : RdR Bk.arr 27 w w.heap.size A n la) (hfa : ∀ x ∈ la, x.fine) (hn : n ≤ 4611686018427387903) (hB : RdB w w.heap.size B m d) (hm : m ≤ 1000000000) (hr : pRight va la = true) :
    Calls Tryz.prog 22 #[.agg #[.int .i64 va, .slice A n c], .slice B m k] w (PoolR w (applyV va la d) 3) := by
  obtain ⟨W1, hW1⟩ : ∃ W1, W1 = (w.alloc (.cells #[.int .i64 va, .slice A n c] 24)).alloc (.cells #[.int .i64 0, .slice none 0 0] 24) := ⟨_, rfl⟩
  have HB1 := Lib.hid (show Below w.heap.size w W1 by rw [hW1]; exact ((Below.refl w.heap.size w).alloc (Nat.le_refl _) _).alloc (by simp) _)
  have P1 := Lib.hid (show Box W1 w.heap.size #[.int .i64 va, .slice A n c] by rw [hW1]; exact (Box.new w _ _).alloc _)
  have Q1 := Lib.hid (show Box W1 (w.heap.size + 1) #[.int .i64 0, .slice none 0 0] by rw [hW1]; exact Box.new1 w _ _ _)
  have R1 := Lib.hid (rightP_any la hfa va A n c W1 (hA.go HB1.out) hn true hr)
  obtain ⟨p1, p2, p3, p4⟩ := P1.out.facts
  have hlp := P1.out.lt
  have IA := Lib.hid (pRight_iff.1 hr)
  have hn1 : n ≤ 1024 := by rw [← hA.1]; exact IA.out.2.2.1
  have HLA := Lib.hid hA.1
  have HA := Lib.hid hA
  have HD := Lib.hid hB
  have HFA := Lib.hid hfa
  have LA := Lib.hid (right_lay hr)
  have HR := Lib.hid hr
  obtain ⟨⟨n1, r1⟩, e1⟩ : ∃ z, numO (some d) = z := ⟨_, rfl⟩
  obtain ⟨⟨n2, r2⟩, e2⟩ : ∃ z, numO r1 = z := ⟨_, rfl⟩
  obtain ⟨⟨l3, r3⟩, e3⟩ : ∃ z, listO nameO 1024 r2 = z := ⟨_, rfl⟩
  obtain ⟨⟨l4, r4⟩, e4⟩ : ∃ z, listO bkO 1024 r3 = z := ⟨_, rfl⟩
  have HAP := Lib.hid (show applyR d = (n2, l3, l4) by unfold applyR; simp only [e1, e2, e3, e4])
  have C1 := Lib.hid (fun p g W (k : RdrS W p g m (some d)) => number_any p g m (some d) W k)
  have C2 := Lib.hid (fun p g W (k : RdrS W p g m r1) => number_any p g m r1 W k)
  have C3 := Lib.hid (fun p g W (k : RdrS W p g m r2) (hg : g < W.heap.size) => list_tx p g m r2 1024 (by omega) W k hg)
  have C4 := Lib.hid (fun p g W (k : RdrS W p g m r3) (hg : g < W.heap.size) => list_bk p g m r3 1024 (by omega) W k hg)
  rw [e1] at C1
  rw [e2] at C2
  rw [e3] at C3
  rw [e4] at C4
  have A3 := Lib.hid (show (∀ x ∈ l3.getD [], x.length ≤ 255) ∧ (l3.getD []).length ≤ 1024 from by have := listO_all (one := nameO) (P := fun x : List UInt8 => x.length ≤ 255) (fun s => textO_len 255 s) 1024 r2; rwa [e3] at this)
  have A4 := Lib.hid (show (∀ x ∈ l4.getD [], x.fine) ∧ (l4.getD []).length ≤ 1024 from by have := listO_all bkO_fine 1024 r3; rwa [e4] at this)
  have A5 := Lib.hid (show (∀ x ∈ l4.getD [], x.name.length ≤ 255) from by have := (listO_all (one := bkO) (P := fun x : Bk => x.name.length ≤ 255) (fun s => by unfold bkO; simp only; split; exact textO_len _ _; simp [noBk]) 1024 r3).1; rwa [e4] at this)
  clear hA hfa hr hB e1 e2 e3 e4
  subst hW1
  go_enter Tryz.func22, Tryz.ntmps22
  go_wp2_with fail
  (with_reducible refine R1.out.mono ?_)
  rintro e w1 ⟨rfl, hb1⟩
  have HB2 := Lib.hid (below2 HB1.out hb1)
  have P2 := Lib.hid (P1.out.go hb1)
  have Q2 := Lib.hid (Q1.out.go hb1)
  have NE := Lib.hid (cursorNew_any d B m k w1 ((HD.out.to HB2.out (Nat.le_refl _)).more HB2.out.size) hm)
  clear hb1 p1 p2 p3 p4 hlp
  go_wp2_with fail
  (with_reducible refine NE.out.mono ?_)
  rintro e w2 ⟨p, g, rfl, k1, k2, k3, k4, k5⟩
  have G2 := Lib.hid (show Rdn w1 w2 p g m (some d) from ⟨k1, k5, k2, k3, k4⟩)
  clear k1 k2 k3 k4 k5
  go_wp2_with fail
  (with_reducible refine (C1.out _ _ _ G2.out.rdr).mono ?_)
  rintro e w3 ⟨rfl, k1, k2⟩
  have G3 := Lib.hid (G2.out.read k1 k2)
  clear k1 k2
  go_wp2_with fail
  (with_reducible refine (C2.out _ _ _ G3.out.rdr).mono ?_)
  rintro e w4 ⟨rfl, k1, k2⟩
  have G4 := Lib.hid (G3.out.read k1 k2)
  clear k1 k2
  go_wp2_with fail
  obtain ⟨W5, hW5⟩ : ∃ W5, W5 = w4.alloc (.cells #[.int .i64 (n2 : Int), .slice none 0 0] 24) := ⟨_, rfl⟩
  have G5 := Lib.hid (show Rdn w1 W5 p g m r2 by rw [hW5]; exact G4.out.go ((Below.refl _ _).alloc (Nat.le_refl _) _))
  have V5 := Lib.hid (show Box W5 w4.heap.size #[.int .i64 (n2 : Int), .slice none 0 0] by rw [hW5]; exact Box.new w4 _ _)
  have hs5 : w4.heap.size < W5.heap.size := V5.out.lt
  have hp4 : p < w4.heap.size := G4.out.rdr.lt
  have hq4 : w1.heap.size ≤ w4.heap.size := G4.out.bel.size
  rw [← hW5]
  clear hW5
  refine (C3.out _ _ _ G5.out.rdr G5.out.hg.2).mono ?_
  rintro e w6 ⟨A6, n6, c6, rfl, o6, q6, k1, k2⟩
  have G6 := Lib.hid (G5.out.read k1 k2)
  have RG6 := Lib.hid (RdR.of_own q6 o6)
  have HG6 := Lib.hid (show ∀ a, A6 = some a → W5.heap.size ≤ a.block from fun a ha => (o6.lt a.block (by rw [ha]; rfl)).1)
  have V6 := Lib.hid (V5.out.grown k2 (fun e => by injection e with e; omega))
  have hs6 : W5.heap.size ≤ w6.heap.size := k2.size
  clear k1 k2 o6 q6
  go_wp2_with fail
  refine (C4.out _ _ _ G6.out.rdr G6.out.hg.2).mono ?_
  rintro e w7 ⟨A7, n7, c7, rfl, o7, q7, k1, k2⟩
  have G7 := Lib.hid (G6.out.read k1 k2)
  have RO7 := Lib.hid (RdR.of_own q7 o7)
  have RG7 := Lib.hid ((RG6.out.grownO k2 (fun a ha e => by injection e with e; have := HG6.out a ha; omega)).more k2.size)
  have V7 := Lib.hid (V6.out.grown k2 (fun e => by injection e with e; omega))
  have hs7 : w6.heap.size ≤ w7.heap.size := k2.size
  have HB7 := Lib.hid (below2 HB2.out G7.out.bel)
  have P7 := Lib.hid (P2.out.go G7.out.bel)
  have Q7 := Lib.hid (Q2.out.go G7.out.bel)
  have NRG := Lib.hid (show (l3.getD []).length = n6 from RG6.out.1)
  have NRO := Lib.hid q7
  clear k1 k2 o7 q7 NE C1 C2 C3 C4 R1
  have hl6 : (l3.getD []).length ≤ 1024 := A3.out.2
  have hl7 : (l4.getD []).length ≤ 1024 := A4.out.2
  have hn6 : n6 ≤ 1024 := by rw [← NRG.out]; exact hl6
  have hn7 : n7 ≤ 1024 := by rw [← NRO.out]; exact hl7
  clear hl6 hl7
  cases h3 : l3 with
  | none =>
    subst h3
    have HNO := Lib.hid (show applyV va la d = none by unfold applyV; rw [HAP.out])
    obtain ⟨q1, q2, q3, q4⟩ := Q7.out.facts
    have hlq := Q7.out.lt
    have Q8 := Lib.hid ((Q7.out.set_same 0 (.int .i64 0)).set_same 1 (.slice none 0 0))
    go_wp2
    try simp only [Exit.inBlock, Exit.then]
    obtain ⟨v4, hv4⟩ : ∃ v, v = (w7.setCell ⟨w.heap.size + 1, 0, none⟩ (.int .i64 0)).setCell ⟨w.heap.size + 1, 1, none⟩ (.slice none 0 0) := ⟨_, rfl⟩
    rw [← hv4] at Q8 ⊢
    have HB8 := Lib.hid (show Below w.heap.size w v4 by rw [hv4]; exact (HB7.out.setCell (Nat.le_succ _) _).setCell (Nat.le_succ _) _)
    obtain ⟨r1, r2, r3, r4⟩ := Q8.out.facts
    refine bodyPost_ret (ret_pool rfl _ _ _ _ rfl (by rw [r3 0 2 (by simp [csize])]; trivial)) rfl ?_
    rw [r4 0 2 (by simp [csize]), HNO.out]
    exact .no rfl HB8.out
  | some gone =>
  subst h3
  cases h4 : l4 with
  | none =>
    subst h4
    have HNO := Lib.hid (show applyV va la d = none by unfold applyV; rw [HAP.out])
    obtain ⟨q1, q2, q3, q4⟩ := Q7.out.facts
    have hlq := Q7.out.lt
    have Q8 := Lib.hid ((Q7.out.set_same 0 (.int .i64 0)).set_same 1 (.slice none 0 0))
    go_wp2
    try simp only [Exit.inBlock, Exit.then]
    obtain ⟨v4, hv4⟩ : ∃ v, v = (w7.setCell ⟨w.heap.size + 1, 0, none⟩ (.int .i64 0)).setCell ⟨w.heap.size + 1, 1, none⟩ (.slice none 0 0) := ⟨_, rfl⟩
    rw [← hv4] at Q8 ⊢
    have HB8 := Lib.hid (show Below w.heap.size w v4 by rw [hv4]; exact (HB7.out.setCell (Nat.le_succ _) _).setCell (Nat.le_succ _) _)
    obtain ⟨r1, r2, r3, r4⟩ := Q8.out.facts
    refine bodyPost_ret (ret_pool rfl _ _ _ _ rfl (by rw [r3 0 2 (by simp [csize])]; trivial)) rfl ?_
    rw [r4 0 2 (by simp [csize]), HNO.out]
    exact .no rfl HB8.out
  | some other =>
  subst h4
  have HAV := Lib.hid (show applyV va la d = applyW va la d n2 gone other by unfold applyV; rw [HAP.out])
  simp only [Option.getD_some] at RG7 RO7 A3 A4 A5 NRG NRO
  obtain ⟨p1, p2, p3, p4⟩ := (P7.out.alloc (.map #[] 0)).facts
  have hlp := (P7.out.alloc (.map #[] 0)).lt
  have HM0 := Lib.hid (HasV.new w7)
  have B8 := Lib.hid ((Below.refl w7.heap.size w7).alloc (Nat.le_refl _) (.map #[] 0))
  have HA7 := Lib.hid (HA.out.go HB7.out)
  have hmk := run_makeMap (P := Tryz.prog) 120
  go_wp2
  clear hmk
  go_loopw [53] (fun s53 wr => ∃ i : Nat, i ≤ n ∧ s53 = .int .i64 i ∧ HasV wr w7.heap.size ((la.take i).foldl insB []).length (byName ((la.take i).foldl insB [])) ∧ Below w7.heap.size w7 wr) (fun s53 _ => n - (intOf s53).toNat)
  case atStart => exact ⟨0, by omega, rfl, by simpa [byName, hasN, lowN] using HM0.out.eq (g := byName []) (fun s => by simp [byName, hasN, lowN]), B8.out⟩
  case round =>
    obtain ⟨i, hi, rfl, hM, hb⟩ := hrel
    have HMr := Lib.hid hM
    have BWr := Lib.hid hb
    clear hM hb p1 p2 p3 p4 hlp
    obtain ⟨p1, p2, p3, p4⟩ := (P7.out.go BWr.out).facts
    have hlp := (P7.out.go BWr.out).lt
    by_cases hlt : i < n
    · have hlt2 : (i : Int) < n := by omega
      obtain ⟨b, o, rfl, hbb, hh1, hh2⟩ := RdR.at_ Bk.arr_size noBk (HA7.out.go BWr.out) hlt
      have hs := take_snocR noBk la i (by have := HLA.out; omega)
      have hxl := LA.out _ (getD_mem noBk la i (by have := HLA.out; omega))
      have hsr := srt_insL srt_nil (la.take i)
      obtain ⟨x, hx⟩ : ∃ x, la.getD i noBk = x := ⟨_, rfl⟩
      rw [hx] at hh2 hxl hs
      have HST := Lib.hid (show (la.take (i + 1)).foldl insB [] = insB ((la.take i).foldl insB []) x by rw [← hs, List.foldl_append]; rfl)
      have HLN := Lib.hid (show ((la.take i).foldl insB []).length ≤ 1000000 by have h1 := foldl_len (la.take i) []; rw [List.length_take] at h1; simp only [List.length_nil] at h1; omega)
      obtain ⟨L, hL⟩ : ∃ L, (la.take i).foldl insB [] = L := ⟨_, rfl⟩
      rw [hL] at HMr HST HLN hsr
      have HSR := Lib.hid hsr
      have HNX := Lib.hid (show x.name.length ≤ 100000 by have := hxl.1; omega)
      have T := Lib.hid (Box.new wr x.arr 60)
      have BT := Lib.hid ((BWr.out.alloc BWr.out.size (.cells x.arr 60)))
      obtain ⟨t1, t2, t3, t4⟩ := T.out.facts
      have hlt1 := T.out.lt
      clear hx hs hxl hL hsr
      go_wp2_with (at_mapUpdate; refine wpList_updV Tryz.underlying120 rfl _ _ _ rfl w7.heap.size _ _ rfl (HMr.out.alloc _) HLN.out x.name HNX.out rfl (.agg x.arr) rfl (plainBk x) ?_; intro w9 h9 g9; have H9 := Lib.hid h9; have G9 := Lib.hid g9; clear h9 g9)
      go_roundw
      case rel => exact ⟨i + 1, by omega, by go_num, upd_ins HSR.out x HST.out H9.out, map_below BT.out G9.out⟩
      case measure => simp [intOf] <;> omega
    · have hge : ¬ (i : Int) < n := by omega
      have HF2 := Lib.hid (show la.take i = la from List.take_of_length_le (by have := HLA.out; omega))
      rw [HF2.out] at HMr
      have HS1 := Lib.hid (srt_insL srt_nil la)
      have HP1 := Lib.hid (all_insL (P := fun x : Bk => x.fine ∧ x.name.length ≤ 255) srt_nil (fun x hx => by cases hx) la (fun x hx => ⟨HFA.out x hx, (LA.out x hx).1⟩))
      have HN1 := Lib.hid (show (la.foldl insB []).length ≤ 1024 by have h1 := foldl_len la []; have := HLA.out; simp only [List.length_nil] at h1; omega)
      have HMD := Lib.hid (show mergeL la gone other = other.foldl insB (gone.foldl delB (la.foldl insB [])) from rfl)
      obtain ⟨L1, hL1⟩ : ∃ L, la.foldl insB [] = L := ⟨_, rfl⟩
      rw [hL1] at HMr HS1 HN1 HMD HP1
      have HL1 := Lib.hid hL1
      clear hL1
      generalize wr = wo at *
      go_wp2
      go_loopw [64] (fun s64 wr => ∃ i : Nat, i ≤ n6 ∧ s64 = .int .i64 i ∧ HasV wr w7.heap.size ((gone.take i).foldl delB L1).length (byName ((gone.take i).foldl delB L1)) ∧ Below w7.heap.size w7 wr) (fun s64 _ => n6 - (intOf s64).toNat)
      case atStart => exact ⟨0, by omega, rfl, by simpa using HMr.out, BWr.out⟩
      case round =>
        clear HMr BWr p1 p2 p3 p4 hlp
        obtain ⟨i, hi, rfl, hM, hb⟩ := hrel
        have HMr := Lib.hid hM
        have BWr := Lib.hid hb
        clear hM hb
        by_cases hlt : i < n6
        · have hlt2 : (i : Int) < n6 := by omega
          obtain ⟨b, o, rfl, hbb, hc⟩ := RdR.text (RG7.out.go BWr.out) hlt
          have hig : i < gone.length := by rw [NRG.out]; exact hlt
          have hs := take_snocR [] gone i hig
          have hsl := A3.out.1 _ (getD_mem [] gone i hig)
          have hsr := srt_delL HS1.out (gone.take i)
          obtain ⟨x, hx⟩ : ∃ x, gone.getD i [] = x := ⟨_, rfl⟩
          rw [hx] at hc hs hsl
          have HST := Lib.hid (show (gone.take (i + 1)).foldl delB L1 = delB ((gone.take i).foldl delB L1) x by rw [← hs, List.foldl_append]; rfl)
          obtain ⟨L, hL⟩ : ∃ L, (gone.take i).foldl delB L1 = L := ⟨_, rfl⟩
          rw [hL] at HMr HST hsr
          have HSR := Lib.hid hsr
          have HNX := Lib.hid (show x.length ≤ 100000 by omega)
          clear hx hs hsl hL hsr hig
          go_wp2_with (at_delete; refine wpList_delV Tryz.underlying120 rfl _ _ rfl w7.heap.size _ _ rfl HMr.out x HNX.out rfl ?_; intro w9 h9 g9; have H9 := Lib.hid h9; have G9 := Lib.hid g9; clear h9 g9)
          go_roundw
          case rel => exact ⟨i + 1, by omega, by go_num, upd_del HSR.out x HST.out H9.out, map_below BWr.out G9.out⟩
          case measure => simp [intOf] <;> omega
        · have hge2 : ¬ (i : Int) < n6 := by omega
          have HF3 := Lib.hid (show gone.take i = gone from List.take_of_length_le (by have := NRG.out; omega))
          rw [HF3.out] at HMr
          have HS2 := Lib.hid (srt_delL HS1.out gone)
          have HP2 := Lib.hid (fun x hx => HP1.out x ((mem_delL HS1.out gone x).1 hx).1)
          have HN2 := Lib.hid (show (gone.foldl delB L1).length ≤ 1024 by have := foldl_del_len gone L1; have := HN1.out; omega)
          obtain ⟨L2, hL2⟩ : ∃ L, gone.foldl delB L1 = L := ⟨_, rfl⟩
          rw [hL2] at HMr HS2 HN2 HMD HP2
          have HL2 := Lib.hid hL2
          clear hL2
          generalize wr = wo2 at *
          go_wp2
          go_loopw [73] (fun s73 wr => ∃ i : Nat, i ≤ n7 ∧ s73 = .int .i64 i ∧ HasV wr w7.heap.size ((other.take i).foldl insB L2).length (byName ((other.take i).foldl insB L2)) ∧ Below w7.heap.size w7 wr) (fun s73 _ => n7 - (intOf s73).toNat)
          case atStart => exact ⟨0, by omega, rfl, by simpa using HMr.out, BWr.out⟩
          case round =>
            clear HMr BWr
            obtain ⟨i, hi, rfl, hM, hb⟩ := hrel
            have HMr := Lib.hid hM
            have BWr := Lib.hid hb
            clear hM hb
            by_cases hlt : i < n7
            · have hlt2 : (i : Int) < n7 := by omega
              obtain ⟨b, o, rfl, hbb, hh1, hh2⟩ := RdR.at_ Bk.arr_size noBk (RO7.out.go BWr.out) hlt
              have hig : i < other.length := by rw [NRO.out]; exact hlt
              have hs := take_snocR noBk other i hig
              have hxl := A5.out _ (getD_mem noBk other i hig)
              have hsr := srt_insL HS2.out (other.take i)
              obtain ⟨x, hx⟩ : ∃ x, other.getD i noBk = x := ⟨_, rfl⟩
              rw [hx] at hh2 hxl hs
              have HST := Lib.hid (show (other.take (i + 1)).foldl insB L2 = insB ((other.take i).foldl insB L2) x by rw [← hs, List.foldl_append]; rfl)
              have HLN := Lib.hid (show ((other.take i).foldl insB L2).length ≤ 1000000 by have h1 := foldl_len (other.take i) L2; have := HN2.out; rw [List.length_take] at h1; omega)
              obtain ⟨L, hL⟩ : ∃ L, (other.take i).foldl insB L2 = L := ⟨_, rfl⟩
              rw [hL] at HMr HST HLN hsr
              have HSR := Lib.hid hsr
              have HNX := Lib.hid (show x.name.length ≤ 100000 by omega)
              have T := Lib.hid (Box.new wr x.arr 60)
              have BT := Lib.hid ((BWr.out.alloc BWr.out.size (.cells x.arr 60)))
              obtain ⟨t1, t2, t3, t4⟩ := T.out.facts
              have hlt1 := T.out.lt
              clear hx hs hxl hL hsr hig
              go_wp2_with (at_mapUpdate; refine wpList_updV Tryz.underlying120 rfl _ _ _ rfl w7.heap.size _ _ rfl (HMr.out.alloc _) HLN.out x.name HNX.out rfl (.agg x.arr) rfl (plainBk x) ?_; intro w9 h9 g9; have H9 := Lib.hid h9; have G9 := Lib.hid g9; clear h9 g9)
              go_roundw
              case rel => exact ⟨i + 1, by omega, by go_num, upd_ins HSR.out x HST.out H9.out, map_below BT.out G9.out⟩
              case measure => simp [intOf] <;> omega
            · have hge3 : ¬ (i : Int) < n7 := by omega
              have HF4 := Lib.hid (show other.take i = other from List.take_of_length_le (by have := NRO.out; omega))
              rw [HF4.out] at HMr
              have HS3 := Lib.hid (srt_insL HS2.out other)
              have HP3 := Lib.hid (all_insL (P := fun x : Bk => x.fine ∧ x.name.length ≤ 255) HS2.out HP2.out other (fun x hx => ⟨A4.out.1 x hx, A5.out x hx⟩))
              have HN3 := Lib.hid (show (other.foldl insB L2).length ≤ 2048 by have := foldl_len other L2; have := HN2.out; have := NRO.out; omega)
              obtain ⟨L3, hL3⟩ : ∃ L, other.foldl insB L2 = L := ⟨_, rfl⟩
              rw [hL3] at HMr HS3 HN3 HMD HP3
              have HL3 := Lib.hid hL3
              clear hL3
              have SO := Lib.hid (sorted_any w7.heap.size L3 wr HMr.out HS3.out (by have := HN3.out; omega) (fun x hx => by have := (HP3.out x hx).2; omega))
              go_wp2_with fail
              (with_reducible refine SO.out.mono ?_)
              rintro e w8 ⟨A8, c8, rfl, o8, b8⟩
              have BW8 := Lib.hid (below2 BWr.out b8)
              have V8 := Lib.hid (V7.out.go BW8.out)
              have P8 := Lib.hid (P7.out.go BW8.out)
              have Q8 := Lib.hid (Q7.out.go BW8.out)
              have O8 := Lib.hid o8
              have HB8 := Lib.hid (below2 HB7.out BW8.out)
              have hs8 : w7.heap.size ≤ wr.heap.size := BWr.out.size
              have hq2 : w.heap.size + 1 < w1.heap.size := Q2.out.lt
              obtain ⟨v1, v2, v3, v4⟩ := V8.out.facts
              have hlv := V8.out.lt
              clear o8 b8
              go_upto_region 27 with fail
              obtain ⟨W9, hW9⟩ : ∃ v, v = w8.setCell ⟨w4.heap.size, 1, none⟩ (.slice A8 L3.length c8) := ⟨_, rfl⟩
              have V9 := Lib.hid (show Box W9 w4.heap.size #[.int .i64 (n2 : Int), .slice A8 L3.length c8] by rw [hW9]; exact V8.out.set_same 1 _)
              have P9 := Lib.hid (show Box W9 w.heap.size #[.int .i64 va, .slice A n c] by rw [hW9]; exact P8.out.set_other ⟨w4.heap.size, 1, none⟩ _ (by simp; omega))
              have Q9 := Lib.hid (show Box W9 (w.heap.size + 1) #[.int .i64 0, .slice none 0 0] by rw [hW9]; exact Q8.out.set_other ⟨w4.heap.size, 1, none⟩ _ (by simp; omega))
              have HB9 := Lib.hid (show Below w.heap.size w W9 by rw [hW9]; exact HB8.out.setCell (by simp; omega) _)
              have O9 := Lib.hid (show W9.ownsRow wr.heap.size 60 27 (.slice A8 L3.length c8) L3.length (L3.flatMap fun x => (Bk.arr x).toList) by
                rw [hW9]
                exact own_set_ne O8.out (p := ⟨w4.heap.size, 1, none⟩) (fun e => by have h1 := (O8.out.lt _ e).1; have h2 : wr.heap.size ≤ w4.heap.size := h1; omega) _)
              rw [← hW9]
              clear hW9 v1 v2 v3 v4 hlv
              obtain ⟨v1, v2, v3, v4⟩ := V9.out.facts
              have hlv := V9.out.lt
              obtain ⟨p1, p2, p3, p4⟩ := P9.out.facts
              have hlp := P9.out.lt
              have DE := Lib.hid (fun r hr => delta_any va n2 la L3 A A8 n L3.length c c8 W9 (HA.out.go HB9.out) (RdR.of_own rfl O9.out) HFA.out (fun x hx => (HP3.out x hx).1) (by omega) (by have := HN3.out; omega) r hr)
              have HAW := Lib.hid (show applyW va la d n2 gone other = if deltaV va n2 la L3 = some d then some ((n2 : Int), L3) else none by unfold applyW; rw [HMD.out])
              obtain ⟨r, hr⟩ : ∃ r, deltaV va n2 la L3 = r := ⟨_, rfl⟩
              have DL := Lib.hid (DE.out r hr)
              rw [hr] at HAW
              clear hr DE
              go_wp2_with fail
              (with_reducible refine DL.out.mono ?_)
              rintro e w10 ⟨b10, h10⟩
              have Q10 := Lib.hid (Q9.out.go b10)
              have V10 := Lib.hid (V9.out.go b10)
              have O10 := Lib.hid (own_go O9.out b10)
              have HB10 := Lib.hid (below2 HB9.out b10)
              clear v1 v2 v3 v4 hlv p1 p2 p3 p4 hlp
              obtain ⟨q1, q2, q3, q4⟩ := Q10.out.facts
              have hlq := Q10.out.lt
              cases r with
              | none =>
                have HNO := Lib.hid (show applyW va la d n2 gone other = none by rw [HAW.out]; simp)
                obtain rfl := h10
                clear b10
                have Q11 := Lib.hid ((Q10.out.set_same 0 (.int .i64 0)).set_same 1 (.slice none 0 0))
                go_wp2
                try simp only [Exit.inBlock, Exit.then]
                obtain ⟨v4, hv4⟩ : ∃ v, v = (w10.setCell ⟨w.heap.size + 1, 0, none⟩ (.int .i64 0)).setCell ⟨w.heap.size + 1, 1, none⟩ (.slice none 0 0) := ⟨_, rfl⟩
                rw [← hv4] at Q11 ⊢
                have HB11 := Lib.hid (show Below w.heap.size w v4 by rw [hv4]; exact (HB10.out.setCell (Nat.le_succ _) _).setCell (Nat.le_succ _) _)
                obtain ⟨r1, r2, r3, r4⟩ := Q11.out.facts
                refine bodyPost_ret (ret_pool rfl _ _ _ _ rfl (by rw [r3 0 2 (by simp [csize])]; trivial)) rfl ?_
                rw [r4 0 2 (by simp [csize]), HAV.out, HNO.out]
                exact .no rfl HB11.out
              | some bs =>
                obtain ⟨A10, n10, c10, rfl, rfl, o10⟩ := h10
                have R10 := Lib.hid (RdB.of_own o10)
                have RD10 := Lib.hid ((HD.out.to HB10.out (Nat.le_refl _)).more HB10.out.size)
                clear b10 o10
                obtain ⟨K, hK⟩ : ∃ K, decide (bs = d) = K := ⟨_, rfl⟩
                have EQ := Lib.hid (fun c1 c2 => bytesEqual_any bs d A10 B bs.length m c1 c2 w10 R10.out RD10.out K hK)
                have HK := Lib.hid hK
                clear hK
                cases K
                · have HNO := Lib.hid (show applyW va la d n2 gone other = none by have h1 : bs ≠ d := by simpa using HK.out
                                                                                   rw [HAW.out]; simp [h1])
                  go_wp2_with fail
                  (with_reducible refine (EQ.out _ _).mono ?_)
                  rintro e w11 ⟨rfl, rfl⟩
                  have Q11 := Lib.hid ((Q10.out.set_same 0 (.int .i64 0)).set_same 1 (.slice none 0 0))
                  go_wp2
                  try simp only [Exit.inBlock, Exit.then]
                  obtain ⟨v4, hv4⟩ : ∃ v, v = (w10.setCell ⟨w.heap.size + 1, 0, none⟩ (.int .i64 0)).setCell ⟨w.heap.size + 1, 1, none⟩ (.slice none 0 0) := ⟨_, rfl⟩
                  rw [← hv4] at Q11 ⊢
                  have HB11 := Lib.hid (show Below w.heap.size w v4 by rw [hv4]; exact (HB10.out.setCell (Nat.le_succ _) _).setCell (Nat.le_succ _) _)
                  obtain ⟨r1, r2, r3, r4⟩ := Q11.out.facts
                  refine bodyPost_ret (ret_pool rfl _ _ _ _ rfl (by rw [r3 0 2 (by simp [csize])]; trivial)) rfl ?_
                  rw [r4 0 2 (by simp [csize]), HAV.out, HNO.out]
                  exact .no rfl HB11.out
                · have HYES := Lib.hid (show applyW va la d n2 gone other = some ((n2 : Int), L3) by have h1 : bs = d := by simpa using HK.out
                                                                                                     rw [HAW.out, h1]; simp)
                  obtain ⟨v1, v2, v3, v4⟩ := V10.out.facts
                  have hlv := V10.out.lt
                  go_wp2_with fail
                  (with_reducible refine (EQ.out _ _).mono ?_)
                  rintro e w11 ⟨rfl, rfl⟩
                  have Q11 := Lib.hid ((Q10.out.set_same 0 (.int .i64 (n2 : Int))).set_same 1 (.slice A8 L3.length c8))
                  go_wp2
                  try simp only [Exit.inBlock, Exit.then]
                  obtain ⟨v4, hv4⟩ : ∃ v, v = (w10.setCell ⟨w.heap.size + 1, 0, none⟩ (.int .i64 (n2 : Int))).setCell ⟨w.heap.size + 1, 1, none⟩ (.slice A8 L3.length c8) := ⟨_, rfl⟩
                  have O11 := Lib.hid (show v4.ownsRow wr.heap.size 60 27 (.slice A8 L3.length c8) L3.length (L3.flatMap fun x => (Bk.arr x).toList) by
                    rw [hv4]
                    have hne : (Value.slice A8 L3.length c8).ownBlock ≠ some (w.heap.size + 1) := fun e => by
                      have h1 := (O10.out.lt _ e).1
                      omega
                    exact own_set_ne (own_set_ne O10.out (p := ⟨w.heap.size + 1, 0, none⟩) hne _) (p := ⟨w.heap.size + 1, 1, none⟩) hne _)
                  rw [← hv4] at Q11 ⊢
                  have HB11 := Lib.hid (show Below w.heap.size w v4 by rw [hv4]; exact (HB10.out.setCell (Nat.le_succ _) _).setCell (Nat.le_succ _) _)
                  obtain ⟨r1, r2, r3, r4⟩ := Q11.out.facts
                  refine bodyPost_ret (ret_pool rfl _ _ _ _ rfl (by rw [r3 0 2 (by simp [csize])]; trivial)) rfl ?_
                  rw [r4 0 2 (by simp [csize]), HAV.out, HYES.out]
                  exact ⟨HB11.out, A8, c8, rfl, own_less O11.out (by omega)⟩
end Go.Proofs.YtmpemeemlhmaaaaGreat
