/- The two stores side by side: StorePlays. -/
import Derived.Test.YtejjobbgceoljaaSvF
import Derived.Test.YtejjobbgceoljaaSuB
import Derived.Deep.RegionHeld3
import Derived.Deep.CutRange
set_option linter.unusedSimpArgs false
set_option linter.unusedVariables false
namespace Go.Proofs.Ytejjobbgceoljaa
open Go.ChangeShapes Go.WideShapes Go.ChangeAt Go.RowKit

/-- both stores lie in world W, all of them made since w: the program's tells m, the document's tells m' -/
def Bt (w W : World) (p p' : Nat) (q : Int) (m m' : Mo) : Prop :=
  ∃ F, PgM F W p q m ∧ (∀ b ∈ F, w.heap.size ≤ b) ∧ Below w.heap.size w W ∧ RfX F W p' q m'.L m'.fu m'.dn ∧ p' ∉ F ∧ w.heap.size ≤ p'
section
variable {w W : World} {p p' : Nat} {q : Int} {m m' : Mo}
theorem Bt.below (h : Bt w W p p' q m m') : Below w.heap.size w W := by obtain ⟨F, _, _, h, _⟩ := h; exact h
theorem Bt.good (h : Bt w W p p' q m m') : GoodF q m.L := by obtain ⟨F, h, _⟩ := h; exact h.good
theorem Bt.fuse (h : Bt w W p p' q m m') : -1 ≤ m.fu ∧ m.fu ≤ 9223372036854775807 := by obtain ⟨F, h, _⟩ := h; exact PgS.fuse h
theorem Bt.go {W' : World} (h : Bt w W p p' q m m') (hb : Below W.heap.size W W') : Bt w W' p p' q m m' := by
  obtain ⟨F, h1, h2, h3, h4, h5, h6⟩ := h
  exact ⟨F, PgS.go h1 hb, h2, below2 h3 hb, h4.go hb, h5, h6⟩
theorem Bt.drew (h : Bt w W p p' q m m') : Bt w W.drew p p' q m m' := by
  obtain ⟨F, h1, h2, h3, h4, h5, h6⟩ := h
  exact ⟨F, PgS.agree h1 (fun _ _ => rfl), h2, h3.drew, h4.frm ((Frm.refl F W).drewN 1) h5 (fun g hg => .inl hg), h5, h6⟩
theorem Bt.drewN (h : Bt w W p p' q m m') (n : Nat) : Bt w (W.drewN n) p p' q m m' := by
  obtain ⟨F, h1, h2, h3, h4, h5, h6⟩ := h
  exact ⟨F, PgS.agree h1 (fun _ _ => rfl), h2, below_drewN h3 n, h4.frm ((Frm.refl F W).drewN n) h5 (fun g hg => .inl hg), h5, h6⟩
theorem Bt.new {W' : World} {F : List Nat} (h1 : PgM F W p q ⟨[], -1, false⟩) (h2 : ∀ b ∈ F, w.heap.size ≤ b) (h3 : Below w.heap.size w W) (h4 : RfX F W' W.heap.size q [] (-1) false) (h5 : Below W.heap.size W W') : Bt w W' p W.heap.size q ⟨[], -1, false⟩ ⟨[], -1, false⟩ :=
  ⟨F, PgS.go h1 h5, h2, below2 h3 h5, h4, fun hm => by have := PgS.lt h1 _ hm; omega, h3.size⟩
theorem Bt.do (h : Bt w W p p' q m m') (x : Ac) (bs : List UInt8) (ks : List Int) (hL : m.L.length ≤ 10000) (hx : AcW w x bs ks) :
    Calls Try.prog 13 #[.pointer (some ⟨p, 0, none⟩), .agg x.arr] W fun e W' => e = .returned (.int .i64 (stepM q m x bs ks).2) ∧ Bt w W' p p' q (stepM q m x bs ks).1 m' := by
  obtain ⟨F, h1, h2, h3, h4, h5, h6⟩ := h
  have hx2 := hx.below h3
  refine (do_any F p q m x bs ks W h1 hL hx.1 hx.2.1 ⟨hx2.2.2.1, Aw.off h2 (rdb_off hx.2.2.1), hx2.2.2.2, Aw.off h2 (rdr_off hx.2.2.2)⟩).mono ?_
  rintro e W' ⟨rfl, F', k2, k3, k4⟩
  have hlt : p' < W.heap.size := by obtain ⟨A, n, c, hb, _⟩ := h4; exact hb.lt
  refine ⟨rfl, F', k2, fun b hb' => ?_, h3.trans (k3.to_below h2 h3.size), h4.frm k3 h5 k4, fun hm => ?_, h6⟩
  · rcases k4 b hb' with h | h
    · exact h2 b h
    · exact Nat.le_trans h3.size h
  · rcases k4 _ hm with h | h
    · exact h5 h
    · omega
theorem Bt.does (h : Bt w W p p' q m m') (hG : GoodF q m'.L) (hf : -1 ≤ m'.fu ∧ m'.fu ≤ 9223372036854775807) (x : Ac) (bs : List UInt8) (ks : List Int) (hL : m'.L.length ≤ 10000) (hx : AcW w x bs ks) :
    Calls Try.prog 14 #[.pointer (some ⟨p', 0, none⟩), .agg x.arr] W fun e W' => e = .returned (.int .i64 (stepM q m' x bs ks).2) ∧ Bt w W' p p' q m (stepM q m' x bs ks).1 := by
  obtain ⟨F, h1, h2, h3, h4, h5, h6⟩ := h
  have hx2 := hx.below h3
  refine (does_any F p' q m' x bs ks W h4 hG hf (PgS.lt h1) hL hx.1 hx.2.1 ⟨hx2.2.2.1, fun h0 a ha hm => ?_, hx2.2.2.2, fun h0 a ha hm => ?_⟩).mono ?_
  · have := rdb_off hx.2.2.1 h0 a ha
    have := List.mem_singleton.1 hm
    omega
  · have := rdr_off hx.2.2.2 h0 a ha
    have := List.mem_singleton.1 hm
    omega
  rintro e W' ⟨rfl, k1, k2⟩
  refine ⟨rfl, F, h1.agree fun g hg => k2.block g (PgS.lt h1 g hg) (fun e => ?_), h2, h3.trans ((Frm.of_grown (F := [p']) k2 (fun k hk => .inl (by injection hk with hk; simp [hk]))).to_below (fun g hg => by have := List.mem_singleton.1 hg; omega) h3.size), k1, h5, h6⟩
  injection e with e
  subst e
  exact h5 hg
theorem Bt.same (h : Bt w W p p' q m m) (hL : m.L.length ≤ 10000) : Calls Try.prog 15 #[.pointer (some ⟨p, 0, none⟩), .pointer (some ⟨p', 0, none⟩)] W fun e W' => e = .returned (.bool true) ∧ Bt w W' p p' q m m := by
  have h0 := h
  obtain ⟨F, h1, h2, h3, h4, h5, h6⟩ := h
  refine (same_any F p p' q m.fu m.dn m.L W h1 h4 hL).mono ?_
  rintro e W' ⟨rfl, hb⟩
  exact ⟨rfl, h0.go hb⟩
theorem Bt.synced (h : Bt w W p p' q m m') (s : List UInt8) (hs : s.length ≤ 100000) : Calls Try.prog 18 #[.pointer (some ⟨p, 0, none⟩), .string (textOf s)] W fun e W' => e = .returned (.tuple #[.int .i64 (synV m.L s).1, .bool (synV m.L s).2]) ∧ W = W' := by
  obtain ⟨F, h1, _⟩ := h
  exact synced_any F p q m.fu m.dn m.L s W h1 hs
theorem Bt.read (h : Bt w W p p' q m m') (s : List UInt8) (hs : s.length ≤ 100000) : Calls Try.prog 16 #[.pointer (some ⟨p, 0, none⟩), .string (textOf s)] W fun e W' => ∃ A c, e = .returned (.tuple #[.slice A (readV m.L s m.dn).1.length c, .int .i64 (readV m.L s m.dn).2]) ∧
    W'.ownsRow W.heap.size 5 1 (.slice A (readV m.L s m.dn).1.length c) (readV m.L s m.dn).1.length ((readV m.L s m.dn).1.map bv) ∧ Below W.heap.size W W' := by
  obtain ⟨F, h1, _⟩ := h
  exact read_any F p q m.fu m.dn m.L s W h1 hs
theorem Bt.refRead (h : Bt w W p p' q m m') (s : List UInt8) (hL : m'.L.length ≤ 10000) : Calls Try.prog 17 #[.pointer (some ⟨p', 0, none⟩), .string (textOf s)] W fun e W' => e = .returned (.tuple #[.string (textOf (readV m'.L s m'.dn).1), .int .i64 (readV m'.L s m'.dn).2]) ∧ Below W.heap.size W W' := by
  obtain ⟨F, _, _, _, h4, _⟩ := h
  exact refRead_any F p' q m'.fu m'.dn m'.L s W h4 hL
theorem Bt.find (h : Bt w W p p' q m m') (s : List UInt8) (hL : m'.L.length ≤ 10000) : Calls Try.prog 19 #[.pointer (some ⟨p', 0, none⟩), .string (textOf s)] W fun e W' => e = .returned (.int .i64 (atF m'.L s)) ∧ Below W.heap.size W W' := by
  obtain ⟨F, _, _, _, ⟨A, n, c, hB, hR, _⟩, _⟩ := h
  exact find_any p' q m'.fu A n c m'.dn m'.L s W hB hR (by rw [← hR.1]; omega)
/-- what Synced says, and where Find stands -/
theorem syn_find (L : List Fi) (s : List UInt8) : (synV L s = (0, false) ∧ atF L s = -1) ∨ ∃ (z : Int) (k : Nat), synV L s = (z, true) ∧ atF L s = k := by
  unfold synV
  rcases atF_cases L s with ⟨h1, h2⟩ | ⟨k, h1, _, _, h2⟩
  · exact .inl ⟨by rw [h2], h1⟩
  · exact .inr ⟨_, k, by rw [h2], h1⟩
end
-- WALK
set_option maxHeartbeats 8000000 in
set_option maxRecDepth 100000 in
theorem storePlays_walk (q : Int) (l : List Ac) (A : Option Addr) (n c : Nat) (w : World) (hq : -9223372036854775808 ≤ q ∧ q ≤ 9223372036854775807) (hR : RdA w w.heap.size A n l) (hg : ∀ o ∈ l, o.good w w.heap.size) (hn : n ≤ 9223372036854775807) :
    Calls Try.prog 3 #[.int .i64 q, .slice A n c] w fun e w' => e = .returned (.bool true) ∧ Below w.heap.size w w' := by
  have HR := Lib.hid hR
  have HN := Lib.hid hR.1
  have HG := Lib.hid hg
  have FW := Lib.hid (fun W (h : Below w.heap.size w W) => few_any l A n c W ((hR.to h (Nat.le_refl _)).more h.size) hn)
  clear hR hg
  cases hfw : fewA l with
  | false =>
    rw [hfw] at FW
    clear hfw
    go_enter Try.func3, Try.ntmps3
    go_wp2_with fail
    refine (awake_any _).mono ?_
    rintro e w1 ⟨rfl, hb1⟩
    have HB1 := Lib.hid hb1
    clear hb1
    go_wp2_with fail
    refine (FW.out w1 HB1.out).mono ?_
    rintro e w2 ⟨rfl, hb2⟩
    have HB2 := Lib.hid (below2 HB1.out hb2)
    clear hb2
    go_wp2_with fail
    refine (awake_any _).mono ?_
    rintro e w3 ⟨rfl, hb3⟩
    have HB3 := Lib.hid (below2 HB2.out hb3)
    clear hb3
    go_wp2
    go_ret
    exact ⟨rfl, HB3.out⟩
  | true =>
    rw [hfw] at FW
    have hn80 := few_len hfw
    rw [HN.out] at hn80
    have HAC := Lib.hid (fun i (hi : i < n) => acts_read HG.out hfw (i := i) (by rw [HN.out]; exact hi))
    clear hfw
    by_cases hq1 : q < 1
    · have hd1 : decide (q < 1) = true := decide_eq_true hq1
      have NO := Lib.hid (fun W => new_no q W (.inl hq1))
      go_enter Try.func3, Try.ntmps3
      go_wp2_with fail
      refine (awake_any _).mono ?_
      rintro e w1 ⟨rfl, hb1⟩
      have HB1 := Lib.hid hb1
      clear hb1
      go_wp2_with fail
      refine (FW.out w1 HB1.out).mono ?_
      rintro e w2 ⟨rfl, hb2⟩
      have HB2 := Lib.hid (below2 HB1.out hb2)
      clear hb2
      go_wp2_with fail
      refine (NO.out w2).mono ?_
      rintro e w3 ⟨rfl, rfl⟩
      go_wp2
      go_ret
      exact ⟨rfl, HB2.out⟩
    by_cases hq2 : 1073741824 < q
    · have hd1 : decide (q < 1) = false := decide_eq_false hq1
      have hd2 : decide (1073741824 < q) = true := decide_eq_true hq2
      have NO := Lib.hid (fun W => new_no q W (.inr hq2))
      go_enter Try.func3, Try.ntmps3
      go_wp2_with fail
      refine (awake_any _).mono ?_
      rintro e w1 ⟨rfl, hb1⟩
      have HB1 := Lib.hid hb1
      clear hb1
      go_wp2_with fail
      refine (FW.out w1 HB1.out).mono ?_
      rintro e w2 ⟨rfl, hb2⟩
      have HB2 := Lib.hid (below2 HB1.out hb2)
      clear hb2
      go_wp2_with fail
      refine (NO.out w2).mono ?_
      rintro e w3 ⟨rfl, rfl⟩
      go_wp2
      go_ret
      exact ⟨rfl, HB2.out⟩
    have hd1 : decide (q < 1) = false := decide_eq_false hq1
    have hd2 : decide (1073741824 < q) = false := decide_eq_false hq2
    have NW := Lib.hid (fun W => new_any q W ⟨by omega, by omega⟩)
    clear hq1 hq2 hq hn
    go_enter Try.func3, Try.ntmps3
    go_wp2_with fail
    refine (awake_any _).mono ?_
    rintro e w1 ⟨rfl, hb1⟩
    have HB1 := Lib.hid hb1
    clear hb1
    go_wp2_with fail
    refine (FW.out w1 HB1.out).mono ?_
    rintro e w2 ⟨rfl, hb2⟩
    have HB2 := Lib.hid (below2 HB1.out hb2)
    clear hb2
    go_wp2_with fail
    refine (NW.out w2).mono ?_
    rintro e w3 ⟨p, F, rfl, h1, h2, h3⟩
    have P3 := Lib.hid h1
    have N3 := Lib.hid (fun b hb => Nat.le_trans HB2.out.size (h3 b hb))
    have HB3 := Lib.hid (below2 HB2.out h2)
    clear h1 h2 h3
    go_wp2_with fail
    refine (refNew_any F q w3).mono ?_
    rintro e w4 ⟨rfl, h4, h5⟩
    have B4 := Lib.hid (Bt.new P3.out N3.out HB3.out h4 h5)
    clear h4 h5 hd1 hd2
    obtain ⟨p', hp'⟩ : ∃ p', p' = w3.heap.size := ⟨_, rfl⟩
    rw [← hp'] at B4 ⊢
    clear hp'
    go_wp2
    go_loopw [8] (fun s8 wr => ∃ (i : Nat) (m : Mo), i ≤ n ∧ s8 = .int .i64 i ∧ Bt w wr p p' q m m ∧ m.L.length ≤ i) (fun s8 _ => n - (intOf s8).toNat)
    case atStart => exact ⟨0, _, by omega, rfl, B4.out, by simp⟩
    case round =>
      obtain ⟨i, m, hin, rfl, hA, hLi⟩ := hrel
      have HA := Lib.hid hA
      clear hA
      by_cases hlt : i < n
      · have hi : (i : Int) < n := by omega
        obtain ⟨bs, ks, hac⟩ := HAC.out i hlt
        obtain ⟨b, o, hA0, hbb, _⟩ := HR.out.ac hlt
        subst hA0
        have KS0 := Lib.hid (fun W (h : Below w.heap.size w W) => (HR.out.to h (Nat.le_refl _)).ac hlt)
        obtain ⟨x, hx⟩ : ∃ x, x = l.getD i noAc := ⟨_, rfl⟩
        rw [← hx] at KS0 hac
        have KS := Lib.hid (show ∀ W, Below w.heap.size w W → (loadAc (.pointer (some ⟨b, o + i * 6, none⟩))).run Try.prog W = .ok (.agg x.arr) W ∧ W.cell? ⟨b, o + i * 6 + 1, none⟩ = some (.string (textOf x.name)) ∧ W.cell? ⟨b, o + i * 6 + 2, none⟩ = some (.string (textOf x.dst)) from fun W h => by
          obtain ⟨b', o', e, _, y1, y2, _, y3, y4, _⟩ := KS0.out W h
          injection e with e
          injection e with e1 e2
          subst e1 e2
          exact ⟨by rw [load_ac _ _ _ y1, y2], y3, y4⟩)
        have HGD := Lib.hid HA.out.good
        have HFU := Lib.hid HA.out.fuse
        have HX := Lib.hid hac
        have XB := Lib.hid (okAc_bd hac.1)
        have hmL : m.L.length ≤ 10000 := by omega
        obtain ⟨st, hst⟩ : ∃ st, stepM q m x bs ks = st := ⟨_, rfl⟩
        have SL := step_len q m x bs ks
        have DO := Lib.hid (fun W (h : Bt w W p p' q m m) => h.do x bs ks hmL HX.out)
        have DS := Lib.hid (fun W (h : Bt w W p p' q st.1 m) => h.does HGD.out HFU.out x bs ks hmL HX.out)
        rw [hst] at SL DO DS
        have hmL2 : st.1.L.length ≤ 10000 := by omega
        have hmi : st.1.L.length ≤ i + 1 := by omega
        clear hst SL hx hac hbb KS0 HGD HFU hmL hLi
        obtain ⟨m', er⟩ := st
        dsimp only at DO DS hmL2 hmi
        have s1 := (KS.out _ HA.out.below).1
        have hai : IntKind.i64.wrap (i : Int) = i := IntWalk.i64_in _ (by omega)
        go_upto_if 73 with fail
        go_cut [73] from 49 to 133 (fun s73 wx => s73 = .bool false ∧ Bt w wx p p' q m' m')
        case first =>
          go_region_held3 (fun W' => (loadAc (.pointer (some ⟨b, o + i * 6, none⟩))).run Try.prog W' = .ok (.agg x.arr) W')
            (first | exact (KS.out _ A6.out.below).1 | exact (KS.out _ A5.out.below).1 | exact (KS.out _ A4.out.below).1 | exact (KS.out _ HA.out.drew.below).1 | exact (KS.out _ HA.out.below).1 | go_keep)
            (first
            | (go_at_call 13; (with_reducible refine (DO.out _ HA.out.drew).mono ?_); rintro e w4 ⟨rfl, h4⟩; have A4 := Lib.hid h4; clear h4)
            | (go_at_call 14; (with_reducible refine (DS.out _ A4.out).mono ?_); rintro e w5 ⟨rfl, h5⟩; have A5 := Lib.hid h5; clear h5)
            | (go_at_call 15; (with_reducible refine (A5.out.same hmL2).mono ?_); rintro e w6 ⟨rfl, h6⟩; have A6 := Lib.hid h6; clear h6))
          all_goals
            go_wp2_with fail
            go_meet
            case rel => exact ⟨rfl, A6.out⟩
        case rest =>
          obtain ⟨rfl, hcut⟩ := hcut
          have HC := Lib.hid hcut
          have XB1 := XB.out.1
          have XB2 := XB.out.2.1
          obtain ⟨r, hr⟩ : ∃ r, readV m'.L x.name m'.dn = r := ⟨_, rfl⟩
          have RE := Lib.hid (HC.out.read x.name (by omega))
          have RR := Lib.hid (fun W (h : Below wc.heap.size wc W) => (HC.out.go h).refRead x.name hmL2)
          have SY := Lib.hid (fun W (h : Below wc.heap.size wc W) => (HC.out.go h).synced x.dst (by omega))
          have FN := Lib.hid (fun W (h : Below wc.heap.size wc W) => (HC.out.go h).find x.dst hmL2)
          have SF := syn_find m'.L x.dst
          rw [hr] at RE RR
          clear hr hcut s1
          have k1 := (KS.out _ HC.out.below).2
          go_wp2_with fail
          refine RE.out.mono ?_
          rintro e w5 ⟨A5, c5, rfl, ho5, hb5⟩
          have HB5 := Lib.hid hb5
          have k2 := (KS.out _ (HC.out.go hb5).below).2
          clear hb5 k1
          go_wp2_with fail
          refine (RR.out _ HB5.out).mono ?_
          rintro e w6 ⟨rfl, hb6⟩
          have HB6 := Lib.hid (below2 HB5.out hb6)
          have k3 := (KS.out _ (HC.out.go HB6.out).below).2
          clear k2
          go_wp2_with fail
          refine (SY.out _ HB6.out).mono ?_
          rintro e w7 ⟨rfl, rfl⟩
          go_wp2_with fail
          refine (FN.out _ HB6.out).mono ?_
          rintro e w7 ⟨rfl, hb7⟩
          have HB7 := Lib.hid (below2 HB6.out hb7)
          have hcv : (convert 32 9 (.slice A5 r.1.length c5)).run Try.prog w7 = .ok (.string (textOf r.1)) w7 :=
            run_bytes_text (P := Try.prog) (show RdB w7 w5.heap.size A5 r.1.length r.1 from ((RdB.of_own ho5).below hb6).below (hb7.mono hb6.size)) 32 5 9 Try.underlying32 Try.underlying5 Try.underlying9 c5
          clear ho5 k3 hb6 hb7
          rcases SF with ⟨e1, e2⟩ | ⟨z, k, e1, e2⟩
          · rw [e1, e2]
            clear e1 e2
            go_wp2
            go_roundw
            case rel => exact ⟨i + 1, m', by omega, by go_num, HC.out.go HB7.out, hmi⟩
            case measure => simp [intOf] <;> omega
          · rw [e1, e2]
            have d1 : decide ((0 : Int) ≤ (k : Int)) = true := decide_eq_true (by omega)
            clear e1 e2
            go_wp2
            go_roundw
            case rel => exact ⟨i + 1, m', by omega, by go_num, HC.out.go HB7.out, hmi⟩
            case measure => simp [intOf] <;> omega
      · obtain rfl : i = n := by omega
        have hd : decide ((i : Int) < i) = false := by simp
        go_wp2
        go_ret
        exact ⟨rfl, HA.out.below⟩
set_option maxRecDepth 100000 in
theorem storePlays_lifted (os : Os) (started : os.Started) (H : Type) (enc : TypeId × Value → H) :
    ReturnsInHanded {} Try.checked os 3 .any (Rows.storePlaysSpec.pre6 enc Try.prog Try.f3 Rows.storePlaysRow.domain false) (Rows.storePlaysSpec.post enc Try.prog Try.f3 false true false false) := by
  refine returnsInHanded_of_change (C := Try.checked) own started (by kernel_rfl) Try.func3
    (ChangeSpec.witness6 (enc := enc) (C := Try.checked) false ⟨#[], #[.int .i64 0, .slice none 0 0], []⟩ 8 (by kernel_rfl) (by kernel_rfl) (by kernel_rfl) (by kernel_rfl)) ?_
  intro W base args ds gs before hval0 hW hcnd _
  have hval : ∀ (j : Nat) t v, Try.f3.params[j]? = some t → args[j]? = some v → Value.okWide Try.prog W .any base t v := hval0
  have hW' := hW
  obtain ⟨p, q, hA0, hV, rfl, hfz, hnd⟩ := hW
  have hA : DataW.TrodAll enc Try.prog W 0 (fun _ => true) true Try.f3.params.toList args.toList ds p := hA0
  rw [Try.params3] at hA hval
  obtain ⟨v0, vs0, d0, ds0, p0, q0, hargs, rfl, rfl, h0, r0⟩ := trodAll_cons hA
  obtain ⟨v1, vs1, d1, ds1, p1, q1, rfl, rfl, rfl, h1, r1⟩ := trodAll_cons r0
  obtain ⟨rfl, rfl, rfl⟩ := trodAll_nil r1
  obtain rfl : args = #[v0, v1] := by cases args; simp_all
  obtain ⟨q, rfl, hq⟩ := open_i64 Try.underlying3 (hval 0 3 v0 rfl rfl) h0
  obtain ⟨Az, nz, cz, lz, rfl, hRz, hgz, hmz⟩ := open_acs (hval 1 22 v1 rfl rfl) h1
  clear hA0 hval0
  refine (storePlays_walk q lz Az nz cz W hq hRz hgz hmz).mono fun e W' ⟨he, hb⟩ => ?_
  subst he
  exact ⟨_, rfl, law_post laidOut rfl (by kernel_rfl) 4 Try.underlying4 rfl hW' rfl hb⟩
theorem storePlays_holds : Rows.StorePlaysSaid :=
  OpenClaim.holds_of_wide 3 Try.f3 rfl rfl rfl rfl rfl rfl rfl ⟨rfl, rfl, rfl, rfl, rfl⟩ rfl rfl rfl rfl rfl (by kernel_rfl) Try.func3 (by kernel_rfl)
    (of_decide_eq_true (by kernel_rfl)) (by unfold Func.isWrapper; first | (rw [if_pos (by decide +kernel)]; kernel_rfl) | (rw [if_neg (by decide +kernel)]; exact ⟨rfl, rfl⟩))
    (fun os started H enc _ => storePlays_lifted os started H enc)
#print axioms storePlays_holds
end Go.Proofs.Ytejjobbgceoljaa
