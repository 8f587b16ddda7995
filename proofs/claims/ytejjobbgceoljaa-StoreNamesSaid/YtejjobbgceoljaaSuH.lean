/- StoreNames. -/
import Derived.Test.YtejjobbgceoljaaSuG
import Derived.Deep.CutRange
set_option linter.unusedSimpArgs false
set_option linter.unusedVariables false
namespace Go.Proofs.Ytejjobbgceoljaa
open Go.ChangeShapes Go.WideShapes Go.ChangeAt Go.RowKit

/-- a store in a law, and a box of the law's own beside it -/
def BxA (w W : World) (p : Nat) (q : Int) (m : Mo) (b : Nat) (c : Array Value) : Prop := ∃ F, PgM F W p q m ∧ (∀ b ∈ F, w.heap.size ≤ b) ∧ Below w.heap.size w W ∧ b ∉ F ∧ Box W b c
section
variable {w W : World} {p b : Nat} {q : Int} {m : Mo} {c : Array Value}
theorem BxA.below (h : BxA w W p q m b c) : Below w.heap.size w W := by obtain ⟨F, _, _, h, _⟩ := h; exact h
theorem BxA.good (h : BxA w W p q m b c) : GoodF q m.L := by obtain ⟨F, h, _⟩ := h; exact PgS.good h
theorem BxA.of_pg {F : List Nat} {L : List Fi} {fu : Int} {dn : Bool} {v : Value} {e : Ending} {W' : World} (hF : ∀ b ∈ F, w.heap.size ≤ b) (hb : Below w.heap.size w W) (hn : b ∉ F) (hB : Box W b c) (h : PgP F W p q L fu dn v e W') : e = .returned v ∧ BxA w W' p q ⟨L, fu, dn⟩ b c := by
  obtain ⟨h1, F', h2, h3, h4⟩ := h
  refine ⟨h1, F', h2, fun b hb' => ?_, hb.trans (h3.to_below hF hb.size), fun hm => ?_, ?_⟩
  · rcases h4 b hb' with h | h
    · exact hF b h
    · exact Nat.le_trans hb.size h
  · rcases h4 b hm with h | h
    · exact hn h
    · have := hB.lt; omega
  · obtain ⟨t, hB⟩ := hB
    exact ⟨t, (h3.block b (Array.getElem?_eq_some_iff.1 hB).1 hn).trans hB⟩
theorem BxA.do (h : BxA w W p q m b c) (x : Ac) (bs : List UInt8) (ks : List Int) (hL : m.L.length ≤ 10000) (hx : AcW w x bs ks) :
    Calls Try.prog 13 #[.pointer (some ⟨p, 0, none⟩), .agg x.arr] W fun e W' => e = .returned (.int .i64 (stepM q m x bs ks).2) ∧ BxA w W' p q (stepM q m x bs ks).1 b c := by
  obtain ⟨F, h1, h2, h3, h4, h5⟩ := h
  have hx2 := hx.below h3
  refine (do_any F p q m x bs ks W h1 hL hx.1 hx.2.1 ⟨hx2.2.2.1, Aw.off h2 (rdb_off hx.2.2.1), hx2.2.2.2, Aw.off h2 (rdr_off hx.2.2.2)⟩).mono ?_
  intro e W' hP
  exact BxA.of_pg h2 h3 h4 h5 hP
theorem BxA.crash5 (h : BxA w W p q m b c) (hL : m.L.length ≤ 10000) (cc : Nat) (t : TypeId) : Calls Try.prog 21 #[.pointer (some ⟨p, 0, none⟩), .slice (some ⟨W.heap.size, 0, none⟩) 5 cc] (W.alloc (.cells #[.int .i64 1000, .int .i64 1000, .int .i64 1000, .int .i64 1000, .int .i64 1000] t)) fun e W' => e = .returned (.tuple #[]) ∧ BxA w W' p q ⟨crL m.L [1000, 1000, 1000, 1000, 1000], -1, false⟩ b c := by
  obtain ⟨F, h1, h2, h3, h4, h5⟩ := h
  have hb := (Below.refl W.heap.size W).alloc (Nat.le_refl _) (.cells #[.int .i64 1000, .int .i64 1000, .int .i64 1000, .int .i64 1000, .int .i64 1000] t)
  exact (crash_any F p q m.fu m.dn m.L [1000, 1000, 1000, 1000, 1000] _ 5 cc _ (PgS.go h1 hb) hL (RdZ.fresh W [1000, 1000, 1000, 1000, 1000] 5 _ t rfl rfl) (fun _ a ha hm => by
    injection ha with ha
    have := PgS.lt h1 a.block hm
    rw [← ha] at this
    simp at this) (by omega)).mono fun e W' hP => BxA.of_pg h2 (below2 h3 hb) h4 (h5.alloc _) hP
end
set_option maxHeartbeats 8000000 in
set_option maxRecDepth 100000 in
theorem storeNames_walk (l : List Ac) (A : Option Addr) (n c : Nat) (x : Ac) (w : World) (hR : RdA w w.heap.size A n l) (hg : ∀ o ∈ l, o.good w w.heap.size) (hn : n ≤ 9223372036854775807) (hx : x.good w w.heap.size) :
    Calls Try.prog 7 #[.slice A n c, .agg x.arr] w fun e w' => e = .returned (.bool true) ∧ Below w.heap.size w w' := by
  have HR := Lib.hid hR
  have HN := Lib.hid hR.1
  have HG := Lib.hid hg
  have HXG := Lib.hid hx
  have FW := Lib.hid (fun W (h : Below w.heap.size w W) => few_any l A n c W ((hR.to h (Nat.le_refl _)).more h.size) hn)
  have HB0 := Lib.hid ((Below.refl w.heap.size w).alloc (Nat.le_refl _) (.cells x.arr 35))
  have BX0 := Lib.hid (Box.new w x.arr 35)
  have FX := Lib.hid (fun W => few_any [x] (some ⟨W.heap.size, 0, none⟩) 1 1 (W.alloc (.cells x.arr 35)) (RdR.one x Ac.arr_size W 35) (by omega))
  clear hR hg hx
  cases hfw : fewA l with
  | false =>
    rw [hfw] at FW
    go_enter Try.func7, Try.ntmps7
    go_wp2_with fail
    refine (awake_any _).mono ?_
    rintro e w1 ⟨rfl, hb1⟩
    have HB1 := Lib.hid (below2 HB0.out hb1)
    have BX1 := Lib.hid (BX0.out.go hb1)
    clear hb1
    go_wp2_with fail
    refine (FW.out w1 HB1.out).mono ?_
    rintro e w2 ⟨rfl, hb2⟩
    have HB2 := Lib.hid (below2 HB1.out hb2)
    have BX2 := Lib.hid (BX1.out.go hb2)
    clear hb2
    go_wp2_with fail
    refine (awake_any _).mono ?_
    rintro e w9 ⟨rfl, hb9⟩
    have HB9 := Lib.hid (below2 HB2.out hb9)
    clear hb9
    go_wp2
    go_ret
    exact ⟨rfl, HB9.out⟩
  | true =>
    rw [hfw] at FW
    have hn80 := few_len hfw
    rw [HN.out] at hn80
    have HAC := Lib.hid (fun i (hi : i < n) => acts_read HG.out hfw (i := i) (by rw [HN.out]; exact hi))
    clear hfw
    cases hfx : fewA [x] with
    | false =>
      rw [hfx] at FX
      clear hfx
      go_enter Try.func7, Try.ntmps7
      go_wp2_with fail
      refine (awake_any _).mono ?_
      rintro e w1 ⟨rfl, hb1⟩
      have HB1 := Lib.hid (below2 HB0.out hb1)
      have BX1 := Lib.hid (BX0.out.go hb1)
      clear hb1
      go_wp2_with fail
      refine (FW.out w1 HB1.out).mono ?_
      rintro e w2 ⟨rfl, hb2⟩
      have HB2 := Lib.hid (below2 HB1.out hb2)
      have BX2 := Lib.hid (BX1.out.go hb2)
      clear hb2
      obtain ⟨f1, f2, f3, f4⟩ := BX2.out.facts
      go_wp2_with fail
      refine (FX.out w2).mono ?_
      rintro e w3 ⟨rfl, hb3⟩
      have HB3 := Lib.hid (below2 (HB2.out.alloc HB2.out.size _) hb3)
      have BX3 := Lib.hid ((BX2.out.alloc _).go hb3)
      clear hb3 f1 f2 f3 f4
      go_wp2_with fail
      refine (awake_any _).mono ?_
      rintro e w9 ⟨rfl, hb9⟩
      have HB9 := Lib.hid (below2 HB3.out hb9)
      clear hb9
      go_wp2
      go_ret
      exact ⟨rfl, HB9.out⟩
    | true =>
      rw [hfx] at FX
      obtain ⟨bs, kz, hac⟩ : ∃ bs ks, AcW w x bs ks := by
        have := acts_read (w := w) (l := [x]) (fun o ho => by simp at ho; subst ho; exact HXG.out) hfx (i := 0) (by simp)
        simpa using this
      have HAX := Lib.hid hac
      clear hfx hac
      by_cases hk0 : x.kind < 0
      · have hd1 : decide (x.kind < 0) = true := decide_eq_true hk0
        go_enter Try.func7, Try.ntmps7
        go_wp2_with fail
        refine (awake_any _).mono ?_
        rintro e w1 ⟨rfl, hb1⟩
        have HB1 := Lib.hid (below2 HB0.out hb1)
        have BX1 := Lib.hid (BX0.out.go hb1)
        clear hb1
        go_wp2_with fail
        refine (FW.out w1 HB1.out).mono ?_
        rintro e w2 ⟨rfl, hb2⟩
        have HB2 := Lib.hid (below2 HB1.out hb2)
        have BX2 := Lib.hid (BX1.out.go hb2)
        clear hb2
        obtain ⟨f1, f2, f3, f4⟩ := BX2.out.facts
        go_wp2_with fail
        refine (FX.out w2).mono ?_
        rintro e w3 ⟨rfl, hb3⟩
        have HB3 := Lib.hid (below2 (HB2.out.alloc HB2.out.size _) hb3)
        have BX3 := Lib.hid ((BX2.out.alloc _).go hb3)
        clear hb3 f1 f2 f3 f4
        obtain ⟨f1, f2, f3, f4⟩ := BX3.out.facts
        go_wp2_with fail
        refine (awake_any _).mono ?_
        rintro e w9 ⟨rfl, hb9⟩
        have HB9 := Lib.hid (below2 HB3.out hb9)
        clear hb9
        go_wp2
        go_ret
        exact ⟨rfl, HB9.out⟩
      · have hd1 : decide (x.kind < 0) = false := decide_eq_false hk0
        by_cases hk3 : 3 < x.kind
        · have hd2 : decide (3 < x.kind) = true := decide_eq_true hk3
          go_enter Try.func7, Try.ntmps7
          go_wp2_with fail
          refine (awake_any _).mono ?_
          rintro e w1 ⟨rfl, hb1⟩
          have HB1 := Lib.hid (below2 HB0.out hb1)
          have BX1 := Lib.hid (BX0.out.go hb1)
          clear hb1
          go_wp2_with fail
          refine (FW.out w1 HB1.out).mono ?_
          rintro e w2 ⟨rfl, hb2⟩
          have HB2 := Lib.hid (below2 HB1.out hb2)
          have BX2 := Lib.hid (BX1.out.go hb2)
          clear hb2
          obtain ⟨f1, f2, f3, f4⟩ := BX2.out.facts
          go_wp2_with fail
          refine (FX.out w2).mono ?_
          rintro e w3 ⟨rfl, hb3⟩
          have HB3 := Lib.hid (below2 (HB2.out.alloc HB2.out.size _) hb3)
          have BX3 := Lib.hid ((BX2.out.alloc _).go hb3)
          clear hb3 f1 f2 f3 f4
          obtain ⟨f1, f2, f3, f4⟩ := BX3.out.facts
          go_wp2_with fail
          refine (awake_any _).mono ?_
          rintro e w9 ⟨rfl, hb9⟩
          have HB9 := Lib.hid (below2 HB3.out hb9)
          clear hb9
          go_wp2
          go_ret
          exact ⟨rfl, HB9.out⟩
        · have hd2 : decide (3 < x.kind) = false := decide_eq_false hk3
          have HKK := Lib.hid (show 0 ≤ x.kind ∧ x.kind ≤ 3 from ⟨by omega, by omega⟩)
          clear hk0 hk3
          go_enter Try.func7, Try.ntmps7
          go_wp2_with fail
          refine (awake_any _).mono ?_
          rintro e w1 ⟨rfl, hb1⟩
          have HB1 := Lib.hid (below2 HB0.out hb1)
          have BX1 := Lib.hid (BX0.out.go hb1)
          clear hb1
          go_wp2_with fail
          refine (FW.out w1 HB1.out).mono ?_
          rintro e w2 ⟨rfl, hb2⟩
          have HB2 := Lib.hid (below2 HB1.out hb2)
          have BX2 := Lib.hid (BX1.out.go hb2)
          clear hb2
          obtain ⟨f1, f2, f3, f4⟩ := BX2.out.facts
          go_wp2_with fail
          refine (FX.out w2).mono ?_
          rintro e w3 ⟨rfl, hb3⟩
          have HB3 := Lib.hid (below2 (HB2.out.alloc HB2.out.size _) hb3)
          have BX3 := Lib.hid ((BX2.out.alloc _).go hb3)
          clear hb3 f1 f2 f3 f4
          obtain ⟨f1, f2, f3, f4⟩ := BX3.out.facts
          have NW := Lib.hid ((new_any 100000 w3 (by decide)))
          go_wp2_with fail
          refine NW.out.mono ?_
          rintro e w4 ⟨p, F4, rfl, hP4, hb4, hF4⟩
          have A4 := Lib.hid (show Aw w w4 p 100000 ⟨[], -1, false⟩ from ⟨F4, hP4, fun b hb => Nat.le_trans HB3.out.size (hF4 b hb), below2 HB3.out hb4⟩)
          have BXA := Lib.hid (show BxA w w4 p 100000 ⟨[], -1, false⟩ w.heap.size x.arr from ⟨F4, hP4, fun b hb => Nat.le_trans HB3.out.size (hF4 b hb), below2 HB3.out hb4, fun hm => by have := hF4 _ hm; have := BX3.out.lt; omega, BX3.out.go hb4⟩)
          clear hP4 hb4 hF4 f1 f2 f3 f4
          go_wp2
          go_loopw [7] (fun s7 wr => ∃ (i : Nat) (m : Mo), i ≤ n ∧ s7 = .int .i64 i ∧ BxA w wr p 100000 m w.heap.size x.arr ∧ m.L.length ≤ i) (fun s7 _ => n - (intOf s7).toNat)
          case atStart => exact ⟨0, _, by omega, rfl, BXA.out, by simp⟩
          case round =>
            obtain ⟨i, m, hin, rfl, hA, hLi⟩ := hrel
            have HA := Lib.hid hA
            clear hA
            by_cases hlt : i < n
            · have hi : (i : Int) < n := by omega
              obtain ⟨bs, kz, hac⟩ := HAC.out i hlt
              obtain ⟨b, o, rfl, hbb, hh, hcl, _⟩ := (HR.out.to HA.out.below (Nat.le_refl _)).ac hlt
              obtain ⟨y, hy⟩ : ∃ y, y = l.getD i noAc := ⟨_, rfl⟩
              rw [← hy] at hcl hac
              have DO := Lib.hid (HA.out.do y bs kz (by omega) hac)
              have SL := Lib.hid (step_len 100000 m y bs kz)
              clear hy hac hbb
              go_wp2_with fail
              refine DO.out.mono ?_
              rintro e w5 ⟨rfl, h5⟩
              have A5 := Lib.hid h5
              clear h5 hh hcl
              go_wp2
              go_roundw
              case rel => exact ⟨i + 1, _, by omega, by go_num, A5.out, by have := SL.out; omega⟩
              case measure => simp [intOf] <;> omega
            · obtain rfl : i = n := by omega
              have hd : decide ((i : Int) < i) = false := by simp
              go_wp2_with fail
              refine (HA.out.crash5 (by omega) _ _).mono ?_
              rintro e w5 ⟨rfl, h5⟩
              obtain ⟨F, hP, hF, hBw, hbF, hbx⟩ := h5
              have hG0 := HA.out.good
              have hL0 : (crL m.L [1000, 1000, 1000, 1000, 1000]).length ≤ i := by rw [crL_len]; exact hLi
              have hSY0 : ∀ k, k < (crL m.L [1000, 1000, 1000, 1000, 1000]).length → ((crL m.L [1000, 1000, 1000, 1000, 1000]).getD k noFi).syn = (((crL m.L [1000, 1000, 1000, 1000, 1000]).getD k noFi).b.length : Nat) := fun k hk => crL_syn hG0 (by rw [crL_len] at hk; exact hk)
              obtain ⟨L, hL⟩ : ∃ L, crL m.L [1000, 1000, 1000, 1000, 1000] = L := ⟨_, rfl⟩
              try dsimp only at hP
              rw [hL] at hP hL0 hSY0
              obtain ⟨N, hN⟩ : ∃ N, L.length = N := ⟨_, rfl⟩
              have hN2 : N ≤ 10000 := by omega
              have HP := Lib.hid hP
              have HF := Lib.hid hF
              have HNE := Lib.hid hN
              have HBW := Lib.hid hBw
              have HBF := Lib.hid hbF
              have HBX := Lib.hid hbx
              have HSY := Lib.hid hSY0
              clear hP hF hBw hbF hbx hL hG0 hSY0
              go_wp2_with fail
              refine (list_any F p 100000 (-1) false L _ HP.out (by omega)).mono ?_
              rintro e wL ⟨A8, c8, rfl, ho, hb⟩
              rw [names_len, hN] at ho
              rw [names_len, hN]
              have RN := Lib.hid (RdR.of_own (by rw [names_len]; exact hN) ho : RdT wL wL.heap.size A8 N (namesF L))
              have HPL := Lib.hid (PgS.go HP.out hb)
              have HBL := Lib.hid (below2 HBW.out hb)
              have BXL := Lib.hid (HBX.out.go hb)
              have OFF8 := Lib.hid (show 0 < N → ∀ a, A8 = some a → a.block ∉ F from fun _ a ha hm => by
                have h1 := (ho.lt a.block (by rw [ha]; rfl)).1
                have h2 := PgS.lt HP.out a.block hm
                omega)
              have HFL := Lib.hid (show ∀ g ∈ F, g < wL.heap.size from fun g hm => PgS.lt HPL.out g hm)
              have hG := PgS.good HP.out
              have HGD := Lib.hid hG
              clear ho hb hN hG
              obtain ⟨j0, hj0, hj1, hj2, hj3⟩ := infoTx
              have HJ0 := Lib.hid hj0
              have HJ1 := Lib.hid hj1
              have HJ2 := Lib.hid hj2
              have HJ3 := Lib.hid hj3
              clear hj0 hj1 hj2 hj3
              go_wp2
              go_loopw [9, 10] (fun s9 s10 wx => ∃ (k : Nat) (A9 : Option Addr) (c9 : Nat), k ≤ N ∧ s10 = .int .i64 k ∧ s9 = .slice A9 k c9 ∧ wx.ownsRow wL.heap.size 9 1 (.slice A9 k c9) k (cellsT (bytesF (L.take k))) ∧ Below wL.heap.size wL wx) (fun _ s10 _ => N - (intOf s10).toNat)
              case atStart => exact ⟨0, none, 0, by omega, rfl, rfl, by simpa [bytesF, cellsT] using World.ownsRow_nil _ _ _ _, Below.refl _ _⟩
              case round =>
                obtain ⟨k, A9, c9, hkN, rfl, rfl, ho1, hbx⟩ := hrel
                have HO1 := Lib.hid ho1
                have HBX2 := Lib.hid hbx
                have hszx := hbx.size
                clear ho1 hbx
                by_cases hkn : k < N
                · have hki : (k : Int) < N := by omega
                  have hkL : k < L.length := by rw [HNE.out]; exact hkn
                  obtain ⟨nb, no, rfl, _, hnc⟩ := (RN.out.to HBX2.out (Nat.le_refl _)).text hkn
                  obtain ⟨nm, hnm⟩ : ∃ nm, nm = (namesF L).getD k [] := ⟨_, rfl⟩
                  rw [← hnm] at hnc
                  have hnl : nm.length ≤ 100000 := by rw [hnm]; exact names_le HGD.out hkL
                  have hrv := read_at HGD.out.1 hkL
                  rw [← hnm] at hrv
                  have HBT := Lib.hid (bytesF_take hkL)
                  obtain ⟨y, hy⟩ : ∃ y, y = L.getD k noFi := ⟨_, rfl⟩
                  rw [← hy] at hrv HBT
                  have RD := read_any F p 100000 (-1) false L nm _ (PgS.go HPL.out HBX2.out) hnl
                  rw [hrv] at RD
                  have RD := Lib.hid RD
                  have T63 := Lib.hid (show k + 1 ≤ maxLen by unfold maxLen; omega)
                  have TBY := Lib.hid (show (k + 1) * j0.bytes ≤ 140737488355328 from Nat.le_trans (Nat.mul_le_mul (show k + 1 ≤ 100002 by omega) HJ3.out) (by omega))
                  clear hnm hrv hy
                  go_wp2_with fail
                  refine RD.out.mono ?_
                  rintro e w7 ⟨A7, c7, rfl, ho7, hb7⟩
                  have hcv := run_bytes_text (P := Try.prog) (RdB.of_own ho7) 32 5 9 Try.underlying32 Try.underlying5 Try.underlying9 c7
                  have B7 := Lib.hid (HBX2.out.trans (hb7.mono hszx))
                  have O17 := Lib.hid (own_alloc (own_below HO1.out hb7) (.cells #[.string (textOf y.b)] 9))
                  have hs7 := B7.out.size
                  have R17 := Lib.hid (fresh_one w7 (.string (textOf y.b)) 9)
                  clear ho7 hb7 hnc
                  have HB8 := Lib.hid (fun W2 (hg : (w7.alloc (.cells #[.string (textOf y.b)] 9)).grownBy W2 (Value.slice A9 k c9).ownBlock) => (B7.out.alloc hs7 (.cells #[.string (textOf y.b)] 9)).grown hg (by simp; omega) (fun j hj => (HO1.out.lt j hj).1))
                  go_wp2_with (at_builtin; refine wpList_app_rd _ rfl (.tmp 86) (.tmp 89) _ rfl wL.heap.size 9 j0 (.string ⟨#[]⟩) 1 j0.bytes Try.underlying48 HJ0.out HJ1.out HJ2.out rfl rfl (Nat.succ_pos _) (.slice A9 k c9) k (cellsT (bytesF (L.take k))) rfl O17.out (w7.heap.size + 1) (some ⟨w7.heap.size, 0, none⟩) 1 1 [.string (textOf y.b)] rfl R17.out (by simp [Value.oneCell']) T63.out TBY.out (by simp; omega) ?_; intro v1 w8 hown1 hg1 hat1; rw [cellsT_snoc, HBT.out] at hown1; have B8 := Lib.hid (HB8.out w8 hg1); obtain ⟨A9', c9', rfl, _, _⟩ := own_form hown1; have O18 := Lib.hid hown1; clear hown1 hg1 hat1)
                  go_roundw
                  case rel => exact ⟨k + 1, A9', c9', by omega, by go_num, rfl, O18.out, B8.out⟩
                  case measure => simp [intOf] <;> omega
                · obtain rfl : k = N := by omega
                  have hd2 : decide ((k : Int) < k) = false := by simp
                  have htk : L.take k = L := List.take_of_length_le (by rw [HNE.out]; exact Nat.le_refl _)
                  have hbl : (bytesF L).length = k := by rw [← HNE.out]; simp [bytesF]
                  have ho1 := HO1.out
                  rw [htk] at ho1
                  have RWr : RdT wr wr.heap.size A9 k (bytesF L) := RdR.of_own hbl ho1
                  have OFW : 0 < k → ∀ a, A9 = some a → a.block ∉ F := fun _ a ha hm => by
                    have h1 := (ho1.lt a.block (by rw [ha]; rfl)).1
                    have h2 := HFL.out a.block hm
                    omega
                  have RNr := (RN.out.to HBX2.out (Nat.le_refl _)).more hszx
                  have BXr := BXL.out.below HBX2.out BXL.out.lt
                  have hBr := HBL.out.trans (HBX2.out.mono HBL.out.size)
                  have hax := HAX.out.below hBr
                  have DO := Lib.hid (do_any F p 100000 ⟨L, -1, false⟩ x bs kz wr (PgS.go HPL.out HBX2.out) (by rw [HNE.out]; exact hN2) hax.1 hax.2.1 ⟨hax.2.2.1, Aw.off HF.out (rdb_off HAX.out.2.2.1), hax.2.2.2, Aw.off HF.out (rdr_off HAX.out.2.2.2)⟩)
                  have HBR := Lib.hid hBr
                  have K1 := Lib.hid (fun (w5 : World) (h : Frm F wr w5) => And.intro ((RWr.frm h (Nat.le_refl _) OFW).more h.size) (And.intro ((RNr.frm h (Nat.le_refl _) OFF8.out).more h.size) (show Box w5 w.heap.size x.arr by
                    obtain ⟨ty, hb⟩ := BXr
                    exact ⟨ty, (h.block _ (Array.getElem?_eq_some_iff.1 hb).1 HBF.out).trans hb⟩)))
                  have SLN := Lib.hid (step_len 100000 ⟨L, -1, false⟩ x bs kz)
                  have NL := Lib.hid (fun y hy => names_law 100000 ⟨L, -1, false⟩ x bs kz HGD.out.1 HKK.out y hy)
                  have SDN := Lib.hid (step_up 100000 L x bs kz HKK.out)
                  obtain ⟨m3, hm3⟩ : ∃ m3, (stepM 100000 ⟨L, -1, false⟩ x bs kz).1 = m3 := ⟨_, rfl⟩
                  obtain ⟨er, her⟩ : ∃ er, (stepM 100000 ⟨L, -1, false⟩ x bs kz).2 = er := ⟨_, rfl⟩
                  rw [hm3, her] at DO NL
                  rw [hm3] at SLN SDN
                  obtain ⟨g1, g2, g3, g4⟩ := BXr.facts
                  clear ho1 RWr OFW RNr hBr htk hbl hm3 her hax
                  go_wp2_with fail
                  refine DO.out.mono ?_
                  rintro e w5 ⟨rfl, F5, hP5, hf5, hs5⟩
                  have A5 := Lib.hid (Aw.of_pg (v := .int .i64 er) HF.out HBR.out ⟨rfl, F5, hP5, hf5, hs5⟩).2
                  obtain ⟨r1, r3, rb⟩ := K1.out w5 hf5
                  have R1 := Lib.hid r1
                  have R3 := Lib.hid r3
                  have RB := Lib.hid rb
                  have hL3 : m3.L.length ≤ 10000 := by have h : m3.L.length ≤ L.length + 1 := SLN.out; omega
                  clear hP5 hf5 hs5 r1 r3 rb g1 g2 g3 g4 BXr
                  go_wp2_with fail
                  refine (A5.out.list hL3).mono ?_
                  rintro e w6 ⟨A14, c14, rfl, ho6, hb6, h6⟩
                  have A6 := Lib.hid (show Aw w w6 p 100000 m3 from h6)
                  try dsimp only at ho6 ⊢
                  obtain ⟨N3, hN3⟩ : ∃ N3, m3.L.length = N3 := ⟨_, rfl⟩
                  rw [names_len, hN3] at ho6
                  rw [names_len, hN3]
                  have R14 := Lib.hid (RdR.of_own (by rw [names_len]; exact hN3) ho6 : RdT w6 w6.heap.size A14 N3 (namesF m3.L))
                  have R1 := Lib.hid (R1.out.go hb6)
                  have R3 := Lib.hid (R3.out.go hb6)
                  have RB := Lib.hid (RB.out.go hb6)
                  have HN3 := Lib.hid hN3
                  have HG3 := Lib.hid A6.out.good
                  clear h6 ho6 hb6
                  rw [hN3] at hL3
                  clear hN3
                  go_wp2
                  go_loopw [15] (fun s15 wx => ∃ (j : Nat), j ≤ N3 + 1 ∧ s15 = .int .i64 (j : Nat) ∧ 1 ≤ j ∧ Aw w wx p 100000 m3 ∧ Below w6.heap.size w6 wx) (fun s15 _ => N3 + 1 - (intOf s15).toNat)
                  case atStart => exact ⟨1, by omega, rfl, Nat.le_refl _, A6.out, Below.refl _ _⟩
                  case round =>
                    obtain ⟨j, hj3, rfl, hj1, hA9, hb9⟩ := hrel
                    have A9' := Lib.hid hA9
                    have HB9 := Lib.hid hb9
                    clear hA9 hb9
                    by_cases hjn : j < N3
                    · have hji : (j : Int) < N3 := by omega
                      have hjm : (j : Int) - 1 < N3 := by omega
                      have hj0 : (0 : Int) ≤ (j : Int) - 1 := by omega
                      obtain ⟨i1, rfl⟩ : ∃ i1, j = i1 + 1 := ⟨j - 1, by omega⟩
                      clear hjm hj0
                      obtain ⟨nb, no, rfl, _, hn1⟩ := (R14.out.to HB9.out (Nat.le_refl _)).text (show i1 < N3 by omega)
                      obtain ⟨nb', no', he, _, hn2⟩ := (R14.out.to HB9.out (Nat.le_refl _)).text hjn
                      injection he with he
                      injection he with he1 he2
                      subst he1 he2
                      have hlt2 := names_rise HG3.out.1 (k := i1) (by rw [HN3.out]; exact hjn)
                      have hne2 : ((namesF m3.L).getD i1 [] == (namesF m3.L).getD (i1 + 1) []) = false := by simpa using bl_ne hlt2
                      obtain ⟨s1, hs1⟩ : ∃ s1, (namesF m3.L).getD i1 [] = s1 := ⟨_, rfl⟩
                      obtain ⟨s2, hs2⟩ : ∃ s2, (namesF m3.L).getD (i1 + 1) [] = s2 := ⟨_, rfl⟩
                      rw [hs1, hs2] at hlt2 hne2
                      rw [hs1] at hn1
                      rw [hs2] at hn2
                      have hi1 : (i1 : Int) < N3 := by omega
                      clear hs1 hs2
                      go_wp2
                      go_quiet (fail)
                      go_wp2
                      go_roundw
                      case rel => exact ⟨i1 + 1 + 1, by omega, by go_num, by omega, A9'.out.drewN _, below_drewN HB9.out _⟩
                      case measure => simp [intOf] <;> omega
                    · have hdj : decide ((j : Int) < N3) = false := by simp; omega
                      go_wp2
                      go_loopw [16] (fun s16 wx => ∃ j2 : Nat, j2 ≤ k ∧ s16 = .int .i64 j2 ∧ Aw w wx p 100000 m3 ∧ Below w6.heap.size w6 wx) (fun s16 _ => k - (intOf s16).toNat)
                      case atStart => exact ⟨0, by omega, rfl, A9'.out, HB9.out⟩
                      case round =>
                        obtain ⟨j2, hjk, rfl, hA7, hb7⟩ := hrel
                        have A7 := Lib.hid hA7
                        have HB7 := Lib.hid hb7
                        clear hA7 hb7
                        by_cases hjn2 : j2 < k
                        · have hji2 : (j2 : Int) < k := by omega
                          have hjL : j2 < L.length := by rw [HNE.out]; exact hjn2
                          obtain ⟨y, hy⟩ : ∃ y, y = L.getD j2 noFi := ⟨_, rfl⟩
                          have hym : y ∈ L := by rw [hy]; exact getD_mem noFi L j2 hjL
                          have hnl : y.name.length ≤ 100000 := (HGD.out.2.1 y hym).1
                          have hys : y.syn = (y.b.length : Nat) := by rw [hy]; exact HSY.out j2 hjL
                          have CE := Lib.hid (show ∀ W, Below w6.heap.size w6 W → (∃ b o, A8 = some ⟨b, o, none⟩ ∧ W.cell? ⟨b, o + j2, none⟩ = some (.string (textOf y.name))) ∧ (∃ b o, A9 = some ⟨b, o, none⟩ ∧ W.cell? ⟨b, o + j2, none⟩ = some (.string (textOf y.b))) ∧ Box W w.heap.size x.arr from fun W h => by
                            obtain ⟨b1, o1, e1, _, q1⟩ := (R3.out.to h (Nat.le_refl _)).text hjn2
                            obtain ⟨b3, o3, e3, _, q3⟩ := (R1.out.to h (Nat.le_refl _)).text hjn2
                            rw [names_get hjL, ← hy] at q1
                            rw [bytesF_at hjL, ← hy] at q3
                            exact ⟨⟨b1, o1, e1, q1⟩, ⟨b3, o3, e3, q3⟩, RB.out.below h RB.out.lt⟩)
                          obtain ⟨⟨b1, o1, rfl, q1⟩, ⟨b3, o3, rfl, q3⟩, qb⟩ := CE.out _ HB7.out
                          obtain ⟨f1, f2, f3, f4⟩ := qb.facts
                          obtain ⟨nl1, nl2⟩ := NL.out y hym
                          obtain ⟨xd1, xd2, _, _⟩ := okAc_bd HAX.out.1
                          have hdl : x.dst.length ≤ 100000 := by omega
                          clear hy hym qb
                          by_cases hnq : y.name = x.name
                          · have eq1 : (y.name == x.name) = true := by simpa using hnq
                            by_cases he0 : er = 0
                            · have ee1 : (er == 0) = true := by simpa using he0
                              have ee2 : decide (er = 0) = true := by simpa using he0
                              by_cases hk2 : x.kind = 2
                              · have ek1 : (x.kind == 2) = true := by simpa using hk2
                                have ek2 : (x.kind != 2) = false := by simpa using hk2
                                have ek3 : decide (x.kind = 2) = true := by simpa using hk2
                                obtain ⟨u1, u2⟩ := nl1 ⟨hnq, he0, hk2⟩
                                have RD1 := A7.out.read y.name hnl
                                rw [SDN.out, read_no u1] at RD1
                                have RD1 := Lib.hid RD1
                                obtain ⟨v1, v2⟩ := read_of u2
                                rw [hys] at v2
                                have RD2 := Lib.hid (fun W (h : Aw w W p 100000 m3) => by
                                  have := h.read x.dst hdl
                                  rw [SDN.out, v1] at this
                                  exact this)
                                have SY2 := Lib.hid (show ∀ W, Aw w W p 100000 m3 → Calls Try.prog 18 #[.pointer (some ⟨p, 0, none⟩), .string (textOf x.dst)] W fun e W' => e = .returned (.tuple #[.int .i64 (y.b.length : Nat), .bool true]) ∧ W = W' from fun W h => by
                                  have h2 := h.synced x.dst hdl
                                  rw [v2] at h2
                                  exact h2)
                                have hnq2 := Lib.hid hnq
                                clear nl1 nl2 u1 u2 v1 v2 hnq he0 hk2 hys
                                go_wp2_with fail
                                refine RD1.out.mono ?_
                                rintro e wa ⟨Aa, ca, rfl, _, hba, ha⟩
                                have AA := Lib.hid (show Aw w wa p 100000 m3 from ha)
                                have HBA := Lib.hid (HB7.out.trans (hba.mono HB7.out.size))
                                clear hba ha f1 f2 f3 f4 q1 q3
                                obtain ⟨⟨z1, t1, e1, q1⟩, ⟨z3, t3, e3, q3⟩, qb⟩ := CE.out _ HBA.out
                                injection e1 with e1
                                injection e1 with e1 e1'
                                subst e1 e1'
                                injection e3 with e3
                                injection e3 with e3 e3'
                                subst e3 e3'
                                obtain ⟨f1, f2, f3, f4⟩ := qb.facts
                                go_wp2_with fail
                                refine (RD2.out wa AA.out).mono ?_
                                rintro e wb ⟨Ab, cb, rfl, ho7, hb8, h8⟩
                                have AB := Lib.hid (show Aw w wb p 100000 m3 from h8)
                                have HBB := Lib.hid (HBA.out.trans (hb8.mono HBA.out.size))
                                have hcv : ∀ nq, (convert 32 9 (.slice Ab y.b.length cb)).run Try.prog (wb.drewN nq) = .ok (.string (textOf y.b)) (wb.drewN nq) := fun nq =>
                                  run_bytes_text (P := Try.prog) (show RdB (wb.drewN nq) wb.heap.size Ab y.b.length y.b from RdB.of_own ho7) 32 5 9 Try.underlying32 Try.underlying5 Try.underlying9 cb
                                clear ho7 hb8 h8 q1 q3 f1 f2 f3 f4
                                obtain ⟨⟨y1, r1, e1, q1⟩, ⟨y3, r3, e3, q3⟩, qb2⟩ := CE.out _ HBB.out
                                injection e1 with e1
                                injection e1 with e1 e1'
                                subst e1 e1'
                                injection e3 with e3
                                injection e3 with e3 e3'
                                subst e3 e3'
                                obtain ⟨f1, f2, f3, f4⟩ := qb2.facts
                                go_wp2_with (go_at_call 18; refine (SY2.out _ AB.out).mono ?_; rintro e wc ⟨rfl, rfl⟩)
                                go_quiet (fail)
                                go_wp2
                                go_roundw
                                case rel => exact ⟨j2 + 1, by omega, by go_num, AB.out.drewN _, below_drewN HBB.out _⟩
                                case measure => simp [intOf] <;> omega
                              · have ek1 : (x.kind == 2) = false := by simpa using hk2
                                have ek2 : (x.kind != 2) = true := by simpa using hk2
                                have ek3 : decide (x.kind = 2) = false := by simpa using hk2
                                clear nl1 nl2 hnq he0 hk2
                                go_wp2
                                go_roundw
                                case rel => exact ⟨j2 + 1, by omega, by go_num, A7.out, HB7.out⟩
                                case measure => simp [intOf] <;> omega
                            · have ee1 : (er == 0) = false := by simpa using he0
                              have ee2 : decide (er = 0) = false := by simpa using he0
                              obtain ⟨v1, v2⟩ := read_of (nl2 (fun h => he0 h.2))
                              rw [hys] at v2
                              have RD2 := A7.out.read y.name hnl
                              rw [SDN.out, v1] at RD2
                              have RD2 := Lib.hid RD2
                              have SY2 := Lib.hid (show ∀ W, Aw w W p 100000 m3 → Calls Try.prog 18 #[.pointer (some ⟨p, 0, none⟩), .string (textOf y.name)] W fun e W' => e = .returned (.tuple #[.int .i64 (y.b.length : Nat), .bool true]) ∧ W = W' from fun W h => by
                                have h2 := h.synced y.name hnl
                                rw [v2] at h2
                                exact h2)
                              clear nl1 nl2 v1 v2 hnq he0 hys
                              go_wp2_with fail
                              refine RD2.out.mono ?_
                              rintro e wb ⟨Ab, cb, rfl, ho7, hb8, h8⟩
                              have AB := Lib.hid (show Aw w wb p 100000 m3 from h8)
                              have HBB := Lib.hid (HB7.out.trans (hb8.mono HB7.out.size))
                              have hcv : ∀ nq, (convert 32 9 (.slice Ab y.b.length cb)).run Try.prog (wb.drewN nq) = .ok (.string (textOf y.b)) (wb.drewN nq) := fun nq =>
                                run_bytes_text (P := Try.prog) (show RdB (wb.drewN nq) wb.heap.size Ab y.b.length y.b from RdB.of_own ho7) 32 5 9 Try.underlying32 Try.underlying5 Try.underlying9 cb
                              clear ho7 hb8 h8 q1 q3 f1 f2 f3 f4
                              obtain ⟨⟨y1, r1, e1, q1⟩, ⟨y3, r3, e3, q3⟩, qb2⟩ := CE.out _ HBB.out
                              injection e1 with e1
                              injection e1 with e1 e1'
                              subst e1 e1'
                              injection e3 with e3
                              injection e3 with e3 e3'
                              subst e3 e3'
                              obtain ⟨f1, f2, f3, f4⟩ := qb2.facts
                              go_wp2_with (go_at_call 18; refine (SY2.out _ AB.out).mono ?_; rintro e wc ⟨rfl, rfl⟩)
                              go_quiet (fail)
                              go_wp2
                              go_roundw
                              case rel => exact ⟨j2 + 1, by omega, by go_num, AB.out.drewN _, below_drewN HBB.out _⟩
                              case measure => simp [intOf] <;> omega
                          · have eq1 : (y.name == x.name) = false := by simpa using hnq
                            obtain ⟨v1, v2⟩ := read_of (nl2 (fun h => hnq h.1))
                            rw [hys] at v2
                            have RD2 := A7.out.read y.name hnl
                            rw [SDN.out, v1] at RD2
                            have RD2 := Lib.hid RD2
                            have SY2 := Lib.hid (show ∀ W, Aw w W p 100000 m3 → Calls Try.prog 18 #[.pointer (some ⟨p, 0, none⟩), .string (textOf y.name)] W fun e W' => e = .returned (.tuple #[.int .i64 (y.b.length : Nat), .bool true]) ∧ W = W' from fun W h => by
                              have h2 := h.synced y.name hnl
                              rw [v2] at h2
                              exact h2)
                            clear nl1 nl2 v1 v2 hnq hys
                            go_wp2_with fail
                            refine RD2.out.mono ?_
                            rintro e wb ⟨Ab, cb, rfl, ho7, hb8, h8⟩
                            have AB := Lib.hid (show Aw w wb p 100000 m3 from h8)
                            have HBB := Lib.hid (HB7.out.trans (hb8.mono HB7.out.size))
                            have hcv : ∀ nq, (convert 32 9 (.slice Ab y.b.length cb)).run Try.prog (wb.drewN nq) = .ok (.string (textOf y.b)) (wb.drewN nq) := fun nq =>
                              run_bytes_text (P := Try.prog) (show RdB (wb.drewN nq) wb.heap.size Ab y.b.length y.b from RdB.of_own ho7) 32 5 9 Try.underlying32 Try.underlying5 Try.underlying9 cb
                            clear ho7 hb8 h8 q1 q3 f1 f2 f3 f4
                            obtain ⟨⟨y1, r1, e1, q1⟩, ⟨y3, r3, e3, q3⟩, qb2⟩ := CE.out _ HBB.out
                            injection e1 with e1
                            injection e1 with e1 e1'
                            subst e1 e1'
                            injection e3 with e3
                            injection e3 with e3 e3'
                            subst e3 e3'
                            obtain ⟨f1, f2, f3, f4⟩ := qb2.facts
                            go_wp2_with (go_at_call 18; refine (SY2.out _ AB.out).mono ?_; rintro e wc ⟨rfl, rfl⟩)
                            go_quiet (fail)
                            go_wp2
                            go_roundw
                            case rel => exact ⟨j2 + 1, by omega, by go_num, AB.out.drewN _, below_drewN HBB.out _⟩
                            case measure => simp [intOf] <;> omega
                        · obtain rfl : j2 = k := by omega
                          have hd3 : decide ((j2 : Int) < j2) = false := by simp
                          have FIN := Lib.hid A7.out.below
                          go_wp2
                          go_ret
                          exact ⟨rfl, FIN.out⟩
set_option maxRecDepth 100000 in
theorem storeNames_lifted (os : Os) (started : os.Started) (H : Type) (enc : TypeId × Value → H) :
    ReturnsInHanded {} Try.checked os 7 .any (Rows.storeNamesSpec.pre6 enc Try.prog Try.f7 Rows.storeNamesRow.domain false) (Rows.storeNamesSpec.post enc Try.prog Try.f7 false true false false) := by
  refine returnsInHanded_of_change (C := Try.checked) own started (by kernel_rfl) Try.func7
    (ChangeSpec.witness6 (enc := enc) (C := Try.checked) false ⟨#[], #[.slice none 0 0, .agg noAc.arr], []⟩ 8 (by kernel_rfl) (by kernel_rfl) (by kernel_rfl) (by kernel_rfl)) ?_
  intro W base args ds gs before hval0 hW hcnd _
  have hval : ∀ (j : Nat) t v, Try.f7.params[j]? = some t → args[j]? = some v → Value.okWide Try.prog W .any base t v := hval0
  have hW' := hW
  obtain ⟨p, q, hA0, hV, rfl, hfz, hnd⟩ := hW
  have hA : DataW.TrodAll enc Try.prog W 0 (fun _ => true) true Try.f7.params.toList args.toList ds p := hA0
  rw [Try.params7] at hA hval
  obtain ⟨v0, vs0, d0, ds0, p0, q0, hargs, rfl, rfl, h0, r0⟩ := trodAll_cons hA
  obtain ⟨v1, vs1, d1, ds1, p1, q1, rfl, rfl, rfl, h1, r1⟩ := trodAll_cons r0
  obtain ⟨rfl, rfl, rfl⟩ := trodAll_nil r1
  obtain rfl : args = #[v0, v1] := by cases args; simp_all
  obtain ⟨Az, nz, cz, lz, rfl, hRz, hgz, hmz⟩ := open_acs (hval 0 22 v0 rfl rfl) h0
  obtain ⟨a, rfl, hga⟩ := open_ac (hval 1 35 v1 rfl rfl) h1
  clear hA0 hval0
  refine (storeNames_walk lz Az nz cz a W hRz hgz hmz hga).mono fun e W' ⟨he, hb⟩ => ?_
  subst he
  exact ⟨_, rfl, law_post laidOut rfl (by kernel_rfl) 4 Try.underlying4 rfl hW' rfl hb⟩
theorem storeNames_holds : Rows.StoreNamesSaid :=
  OpenClaim.holds_of_wide 7 Try.f7 rfl rfl rfl rfl rfl rfl rfl ⟨rfl, rfl, rfl, rfl, rfl⟩ rfl rfl rfl rfl rfl (by kernel_rfl) Try.func7 (by kernel_rfl)
    (of_decide_eq_true (by kernel_rfl)) (by unfold Func.isWrapper; first | (rw [if_pos (by decide +kernel)]; kernel_rfl) | (rw [if_neg (by decide +kernel)]; exact ⟨rfl, rfl⟩))
    (fun os started H enc _ => storeNames_lifted os started H enc)
#print axioms storeNames_holds
end Go.Proofs.Ytejjobbgceoljaa
