/- StoreLasts. -/
import Derived.Test.YtejjobbgceoljaaSuE
import Derived.Test.YtejjobbgceoljaaSuD
import Derived.Deep.CutRange
set_option linter.unusedSimpArgs false
set_option linter.unusedVariables false
namespace Go.Proofs.Ytejjobbgceoljaa
open Go.ChangeShapes Go.WideShapes Go.ChangeAt Go.RowKit

attribute [local go_sem] text_take
set_option maxHeartbeats 8000000 in
set_option maxRecDepth 100000 in
theorem storeLasts_walk (u : Nat) (l : List Ac) (A : Option Addr) (n c : Nat) (ks : List Int) (A2 : Option Addr) (n2 c2 : Nat) (w : World) (hu : u < 65536) (hR : RdA w w.heap.size A n l) (hg : ∀ o ∈ l, o.good w w.heap.size) (hn : n ≤ 9223372036854775807) (hR2 : RdZ w w.heap.size A2 n2 ks) (hn2 : n2 ≤ 9223372036854775807) :
    Calls Try.prog 4 #[.int .u16 (u : Nat), .slice A n c, .slice A2 n2 c2] w fun e w' => e = .returned (.bool true) ∧ Below w.heap.size w w' := by
  have HR := Lib.hid hR
  have HN := Lib.hid hR.1
  have HG := Lib.hid hg
  have HK := Lib.hid hR2
  have FW := Lib.hid (fun W (h : Below w.heap.size w W) => few_any l A n c W ((hR.to h (Nat.le_refl _)).more h.size) hn)
  clear hR hg hR2
  cases hfw : fewA l with
  | false =>
    rw [hfw] at FW
    go_enter Try.func4, Try.ntmps4
    go_wp2_with fail
    refine (awake_any _).mono ?_
    rintro e w1 ⟨rfl, hb1⟩
    have HB1 := Lib.hid hb1
    clear hb1
    go_wp2_with fail
    refine (FW.out w1 HB1.out).mono ?_
    rintro e w2 ⟨rfl, hb2⟩
    have HB2 := Lib.hid (below2 HB1.out hb2)
    clear hb2
    go_wp2_with fail
    refine (awake_any _).mono ?_
    rintro e w3 ⟨rfl, hb3⟩
    have HB3 := Lib.hid (below2 HB2.out hb3)
    clear hb3
    go_wp2
    go_ret
    exact ⟨rfl, HB3.out⟩
  | true =>
    rw [hfw] at FW
    have hn80 := few_len hfw
    rw [HN.out] at hn80
    have HAC := Lib.hid (fun i (hi : i < n) => acts_read HG.out hfw (i := i) (by rw [HN.out]; exact hi))
    clear hfw
    by_cases hk100 : 100 < n2
    · have hd100 : decide ((100 : Int) < (n2 : Int)) = true := decide_eq_true (by omega)
      clear hk100
      go_enter Try.func4, Try.ntmps4
      go_wp2_with fail
      refine (awake_any _).mono ?_
      rintro e w1 ⟨rfl, hb1⟩
      have HB1 := Lib.hid hb1
      clear hb1
      go_wp2_with fail
      refine (FW.out w1 HB1.out).mono ?_
      rintro e w2 ⟨rfl, hb2⟩
      have HB2 := Lib.hid (below2 HB1.out hb2)
      clear hb2
      go_wp2_with fail
      refine (awake_any _).mono ?_
      rintro e w3 ⟨rfl, hb3⟩
      have HB3 := Lib.hid (below2 HB2.out hb3)
      clear hb3
      go_wp2
      go_ret
      exact ⟨rfl, HB3.out⟩
    · have hd100 : decide ((100 : Int) < (n2 : Int)) = false := decide_eq_false (by omega)
      go_enter Try.func4, Try.ntmps4
      go_wp2_with fail
      refine (awake_any _).mono ?_
      rintro e w1 ⟨rfl, hb1⟩
      have HB1 := Lib.hid hb1
      clear hb1
      go_wp2_with fail
      refine (FW.out w1 HB1.out).mono ?_
      rintro e w2 ⟨rfl, hb2⟩
      have HB2 := Lib.hid (below2 HB1.out hb2)
      clear hb2
      obtain ⟨q, hq⟩ : ∃ q : Int, (1 : Int) + u = q := ⟨_, rfl⟩
      have hq1 : 1 ≤ q ∧ q ≤ 65536 := by omega
      go_wp2_with fail
      refine (Aw.new q w w2 HB2.out (by omega)).mono ?_
      rintro e w3 ⟨p, rfl, h3⟩
      have A3 := Lib.hid h3
      clear h3 hq
      go_wp2
      go_loopw [9] (fun s9 wr => ∃ (i : Nat) (m : Mo), i ≤ n ∧ s9 = .int .i64 i ∧ Aw w wr p q m ∧ m.L.length ≤ i) (fun s9 _ => n - (intOf s9).toNat)
      case atStart => exact ⟨0, _, by omega, rfl, A3.out, by simp⟩
      case round =>
        obtain ⟨i, m, hin, rfl, hA, hLi⟩ := hrel
        have HA := Lib.hid hA
        clear hA
        by_cases hlt : i < n
        · have hi : (i : Int) < n := by omega
          obtain ⟨bs, kz, hac⟩ := HAC.out i hlt
          obtain ⟨b, o, rfl, hbb, hh, hcl, _⟩ := (HR.out.to HA.out.below (Nat.le_refl _)).ac hlt
          obtain ⟨x, hx⟩ : ∃ x, x = l.getD i noAc := ⟨_, rfl⟩
          rw [← hx] at hcl hac
          have DO := Lib.hid (HA.out.do x bs kz (by omega) hac)
          have SL := Lib.hid (step_len q m x bs kz)
          clear hx hac hbb
          go_wp2_with fail
          refine DO.out.mono ?_
          rintro e w5 ⟨rfl, h5⟩
          have A5 := Lib.hid h5
          clear h5 hh hcl
          go_wp2
          go_roundw
          case rel => exact ⟨i + 1, _, by omega, by go_num, A5.out, by have := SL.out; omega⟩
          case measure => simp [intOf] <;> omega
        · obtain rfl : i = n := by omega
          have hd : decide ((i : Int) < i) = false := by simp
          have DN := HA.out.down
          have DN := Lib.hid DN
          go_upto_if 59 with (go_at_call 20; refine DN.out.mono ?_; rintro e w4 ⟨rfl, rfl⟩)
          go_cut [] from 59 to 61 (fun wx => ∃ m2, Aw w wx p q m2 ∧ m2.dn = false ∧ m2.L.length ≤ i)
          case first =>
            cases hdn : m.dn with
            | true =>
              go_wp2_with (first | (go_at_call 21; refine (HA.out.crash_nil (by omega)).mono ?_; rintro e w5 ⟨rfl, h5⟩; have A5 := Lib.hid h5; clear h5))
              go_meet
              case rel => exact ⟨_, A5.out, rfl, by rw [crL_len]; omega⟩
            | false =>
              go_wp2_with fail
              go_meet
              case rel => exact ⟨m, HA.out, hdn, hLi⟩
          case rest =>
            obtain ⟨m2, hA2, hdn2, hL2⟩ := hcut
            have HW2 := Lib.hid hA2
            clear hA2 hLi
            obtain ⟨F, hP, hF, hBw⟩ := HW2.out
            obtain ⟨L, fu, dn⟩ := m2
            dsimp only at hdn2 hL2 hP
            subst hdn2
            obtain ⟨N, hN⟩ : ∃ N, L.length = N := ⟨_, rfl⟩
            have hN2 : N ≤ 10000 := by omega
            have HP := Lib.hid hP
            have HF := Lib.hid hF
            have HNE := Lib.hid hN
            clear hP hF hBw hL2
            go_wp2_with fail
            refine (list_any F p q fu false L _ HP.out (by omega)).mono ?_
            rintro e wL ⟨A10, c10, rfl, ho, hb⟩
            rw [names_len, hN] at ho
            rw [names_len, hN]
            have RN := Lib.hid (RdR.of_own (by rw [names_len]; exact hN) ho : RdT wL wL.heap.size A10 N (namesF L))
            have HPL := Lib.hid (PgS.go HP.out hb)
            have HBL := Lib.hid (below2 HW2.out.below hb)
            have OFF10 := Lib.hid (show 0 < N → ∀ a, A10 = some a → a.block ∉ F from fun _ a ha hm => by
              have h1 := (ho.lt a.block (by rw [ha]; rfl)).1
              have h2 := PgS.lt HP.out a.block hm
              omega)
            have HFL := Lib.hid (show ∀ g ∈ F, g < wL.heap.size from fun g hm => PgS.lt HPL.out g hm)
            have hG := PgS.good HP.out
            have HGD := Lib.hid hG
            clear ho hb hN hG
            obtain ⟨j0, hj0, hj1, hj2, hj3⟩ := infoTx
            obtain ⟨i0, hi0, hi1, hi2, hi3⟩ := infoI
            have HJ0 := Lib.hid hj0
            have HJ1 := Lib.hid hj1
            have HJ2 := Lib.hid hj2
            have HJ3 := Lib.hid hj3
            have HI0 := Lib.hid hi0
            have HI1 := Lib.hid hi1
            have HI2 := Lib.hid hi2
            have HI3 := Lib.hid hi3
            clear hj0 hj1 hj2 hj3 hi0 hi1 hi2 hi3
            go_wp2
            go_loopw [11, 12, 13] (fun s11 s12 s13 wx => ∃ (k : Nat) (A11 A12 : Option Addr) (c11 c12 : Nat), k ≤ N ∧ s13 = .int .i64 k ∧ s11 = .slice A11 k c11 ∧ s12 = .slice A12 k c12 ∧ wx.ownsRow wL.heap.size 9 1 (.slice A11 k c11) k (cellsT (bytesF (L.take k))) ∧
              wx.ownsRow wL.heap.size 3 1 (.slice A12 k c12) k (cellsZ (synsF (L.take k))) ∧ Apart (.slice A11 k c11) (.slice A12 k c12) ∧ Below wL.heap.size wL wx) (fun _ _ s13 _ => N - (intOf s13).toNat)
            case atStart => exact ⟨0, none, none, 0, 0, by omega, rfl, rfl, rfl, by simpa [bytesF, cellsT] using World.ownsRow_nil _ _ _ _, by simpa [synsF, cellsZ] using World.ownsRow_nil _ _ _ _, (fun g h => by cases h), Below.refl _ _⟩
            case round =>
              obtain ⟨k, A11, A12, c11, c12, hkN, rfl, rfl, rfl, ho1, ho2, hap, hbx⟩ := hrel
              have HO1 := Lib.hid ho1
              have HO2 := Lib.hid ho2
              have HAP := Lib.hid hap
              have HBX := Lib.hid hbx
              have hszx := hbx.size
              clear ho1 ho2 hap hbx
              by_cases hkn : k < N
              · have hki : (k : Int) < N := by omega
                have hkL : k < L.length := by rw [HNE.out]; exact hkn
                obtain ⟨nb, no, rfl, _, hnc⟩ := (RN.out.to HBX.out (Nat.le_refl _)).text hkn
                obtain ⟨nm, hnm⟩ : ∃ nm, nm = (namesF L).getD k [] := ⟨_, rfl⟩
                rw [← hnm] at hnc
                have hnl : nm.length ≤ 100000 := by rw [hnm]; exact names_le HGD.out hkL
                have hrv := read_at HGD.out.1 hkL
                have hsv := syn_at HGD.out.1 hkL
                rw [← hnm] at hrv hsv
                have HNM := Lib.hid hnm.symm
                have HBT := Lib.hid (bytesF_take hkL)
                have HST := Lib.hid (synsF_take hkL)
                obtain ⟨y, hy⟩ : ∃ y, y = L.getD k noFi := ⟨_, rfl⟩
                rw [← hy] at hrv hsv HBT HST
                have RD := read_any F p q fu false L nm _ (PgS.go HPL.out HBX.out) hnl
                rw [hrv] at RD
                have RD := Lib.hid RD
                have SY := Lib.hid (fun W (h : PgS F W p q L fu false) => by
                  have := synced_any F p q fu false L nm W h hnl
                  rw [hsv] at this
                  exact this)
                have T63 := Lib.hid (show k + 1 ≤ maxLen by unfold maxLen; omega)
                have TBY := Lib.hid (show (k + 1) * j0.bytes ≤ 140737488355328 from Nat.le_trans (Nat.mul_le_mul (show k + 1 ≤ 100002 by omega) HJ3.out) (by omega))
                have IBY := Lib.hid (show (k + 1) * i0.bytes ≤ 140737488355328 from Nat.le_trans (Nat.mul_le_mul (show k + 1 ≤ 100002 by omega) HI3.out) (by omega))
                clear hnm hrv hsv hy
                go_wp2_with fail
                refine RD.out.mono ?_
                rintro e w7 ⟨A7, c7, rfl, ho7, hb7⟩
                have hcv := run_bytes_text (P := Try.prog) (RdB.of_own ho7) 32 5 9 Try.underlying32 Try.underlying5 Try.underlying9 c7
                have B7 := Lib.hid (HBX.out.trans (hb7.mono hszx))
                have P7 := Lib.hid (PgS.go HPL.out B7.out)
                have O17 := Lib.hid (own_alloc (own_below HO1.out hb7) (.cells #[.string (textOf y.b)] 9))
                have O27 := Lib.hid (own_alloc (own_below HO2.out hb7) (.cells #[.string (textOf y.b)] 9))
                have hs7 := B7.out.size
                have R17 := Lib.hid (fresh_one w7 (.string (textOf y.b)) 9)
                clear ho7 hb7 hnc
                obtain ⟨nb', no', he, _, hnc⟩ := (RN.out.to B7.out (Nat.le_refl _)).text hkn
                injection he with he
                injection he with he1 he2
                subst he1 he2
                have hnm2 : (namesF L).getD k [] = nm := HNM.out
                rw [hnm2] at hnc
                clear hnm2
                have I0 := Lib.hid (fun W v t => fresh_one W v t)
                have HB8 := Lib.hid (fun W2 (hg : (w7.alloc (.cells #[.string (textOf y.b)] 9)).grownBy W2 (Value.slice A11 k c11).ownBlock) => (B7.out.alloc hs7 (.cells #[.string (textOf y.b)] 9)).grown hg (by simp; omega) (fun j hj => (HO1.out.lt j hj).1))
                go_wp2_with (first
                  | (go_at_call 18; refine (SY.out _ P7.out).mono ?_; rintro e w8 ⟨rfl, rfl⟩)
                  | (at_builtin; refine wpList_app_rd _ rfl (.tmp 88) (.tmp 91) _ rfl wL.heap.size 9 j0 (.string ⟨#[]⟩) 1 j0.bytes Try.underlying48 HJ0.out HJ1.out HJ2.out rfl rfl (Nat.succ_pos _) (.slice A11 k c11) k (cellsT (bytesF (L.take k))) rfl O17.out (w7.heap.size + 1) (some ⟨w7.heap.size, 0, none⟩) 1 1 [.string (textOf y.b)] rfl R17.out (by simp [Value.oneCell']) T63.out TBY.out (by simp; omega) ?_; intro v1 w8 hown1 hg1 hat1; rw [cellsT_snoc, HBT.out] at hown1; obtain ⟨O28, AP8⟩ := own_beside O27.out HAP.out hg1 hat1; have B8 := Lib.hid (HB8.out w8 hg1); obtain ⟨A11', c11', rfl, _, _⟩ := own_form hown1; have O18 := Lib.hid (own_alloc hown1 (.cells #[.int .i64 y.syn] 3)); have O28 := Lib.hid (own_alloc O28 (.cells #[.int .i64 y.syn] 3)); have AP8 := Lib.hid AP8; have R28 := Lib.hid (I0.out w8 (.int .i64 y.syn) 3); have hs8 := B8.out.size; clear hown1 hg1 hat1)
                  | (at_builtin; refine wpList_app_rd _ rfl (.tmp 93) (.tmp 95) _ rfl wL.heap.size 3 i0 (.int .i64 0) 1 i0.bytes Try.underlying33 HI0.out HI1.out HI2.out rfl rfl (Nat.succ_pos _) (.slice A12 k c12) k (cellsZ (synsF (L.take k))) rfl O28.out (w8.heap.size + 1) (some ⟨w8.heap.size, 0, none⟩) 1 1 [.int .i64 y.syn] rfl R28.out (by simp [Value.oneCell']) T63.out IBY.out (by simp; omega) ?_; intro v2 w9 hown2 hg2 hat2; rw [cellsZ_snoc, HST.out] at hown2; obtain ⟨O19, AP9⟩ := own_beside O18.out AP8.out.symm hg2 hat2; have B9 := Lib.hid ((B8.out.alloc hs8 (.cells #[.int .i64 y.syn] 3)).grown hg2 (by simp; omega) (fun j hj => (HO2.out.lt j hj).1)); obtain ⟨A12', c12', rfl, _, _⟩ := own_form hown2; have O29 := Lib.hid hown2; have O19 := Lib.hid O19; have AP9 := Lib.hid AP9.symm; clear hown2 hg2 hat2))
                go_roundw
                case rel => exact ⟨k + 1, A11', A12', c11', c12', by omega, by go_num, rfl, rfl, O19.out, O29.out, AP9.out, B9.out⟩
                case measure => simp [intOf] <;> omega
              · obtain rfl : k = N := by omega
                have hd2 : decide ((k : Int) < k) = false := by simp
                have htk : L.take k = L := List.take_of_length_le (by rw [HNE.out]; exact Nat.le_refl _)
                have hbl : (bytesF L).length = k := by rw [← HNE.out]; simp [bytesF]
                have hsl : (synsF L).length = k := by rw [← HNE.out]; simp [synsF]
                have ho1 := HO1.out
                have ho2 := HO2.out
                rw [htk] at ho1 ho2
                have RWr : RdT wr wr.heap.size A11 k (bytesF L) := RdR.of_own hbl ho1
                have RLr : RdZ wr wr.heap.size A12 k (synsF L) := RdR.of_own hsl ho2
                have OFW : 0 < k → ∀ a, A11 = some a → a.block ∉ F := fun _ a ha hm => by
                  have h1 := (ho1.lt a.block (by rw [ha]; rfl)).1
                  have h2 := HFL.out a.block hm
                  omega
                have OFL : 0 < k → ∀ a, A12 = some a → a.block ∉ F := fun _ a ha hm => by
                  have h1 := (ho2.lt a.block (by rw [ha]; rfl)).1
                  have h2 := HFL.out a.block hm
                  omega
                have RNr := (RN.out.to HBX.out (Nat.le_refl _)).more hszx
                have hBr := HBL.out.trans (HBX.out.mono HBL.out.size)
                have CR := Lib.hid (crash_any F p q fu false L ks A2 n2 c2 wr (PgS.go HPL.out HBX.out) (by rw [HNE.out]; exact hN2) ((HK.out.to hBr (Nat.le_refl _)).more hBr.size) (Aw.off HF.out (rdr_off HK.out)) hn2)
                have HBR := Lib.hid hBr
                have K1 := Lib.hid (fun (w5 : World) (h : Frm F wr w5) => And.intro ((RWr.frm h (Nat.le_refl _) OFW).more h.size) (And.intro ((RLr.frm h (Nat.le_refl _) OFL).more h.size) ((RNr.frm h (Nat.le_refl _) OFF10.out).more h.size)))
                clear ho1 ho2 RWr RLr OFW OFL RNr hBr htk hbl hsl
                go_wp2_with fail
                refine CR.out.mono ?_
                rintro e w5 ⟨rfl, F5, hP5, hf5, hs5⟩
                have A5 := Lib.hid (Aw.of_pg (v := .tuple #[]) HF.out HBR.out ⟨rfl, F5, hP5, hf5, hs5⟩).2
                obtain ⟨r1, r2, r3⟩ := K1.out w5 hf5
                have R1 := Lib.hid r1
                have R2 := Lib.hid r2
                have R3 := Lib.hid r3
                clear hP5 hf5 hs5 r1 r2 r3
                go_wp2_with fail
                refine (A5.out.list (by rw [crL_len, HNE.out]; exact hN2)).mono ?_
                rintro e w6 ⟨A18, c18, rfl, ho6, hb6, h6⟩
                rw [crL_names, names_len, HNE.out] at ho6
                rw [crL_names, names_len, HNE.out]
                have A6 := Lib.hid h6
                have R18 := Lib.hid (RdR.of_own (by rw [names_len]; exact HNE.out) ho6 : RdT w6 w6.heap.size A18 k (namesF L))
                have R1 := Lib.hid (R1.out.go hb6)
                have R2 := Lib.hid (R2.out.go hb6)
                have R3 := Lib.hid (R3.out.go hb6)
                clear h6 ho6 hb6
                go_wp2_with (go_at_call 20; refine A6.out.down.mono ?_; rintro e w9 ⟨rfl, rfl⟩)
                go_loopw [19] (fun s19 wx => ∃ j : Nat, j ≤ k ∧ s19 = .int .i64 j ∧ Aw w wx p q ⟨crL L ks, -1, false⟩ ∧ Below w6.heap.size w6 wx) (fun s19 _ => k - (intOf s19).toNat)
                case atStart => exact ⟨0, by omega, rfl, A6.out, Below.refl _ _⟩
                case round =>
                  obtain ⟨j, hjk, rfl, hA7, hb7⟩ := hrel
                  have A7 := Lib.hid hA7
                  have HB7 := Lib.hid hb7
                  clear hA7 hb7
                  by_cases hjn : j < k
                  · have hji : (j : Int) < k := by omega
                    have hjL : j < L.length := by rw [HNE.out]; exact hjn
                    obtain ⟨nm, hnm⟩ : ∃ nm, nm = (namesF L).getD j [] := ⟨_, rfl⟩
                    obtain ⟨x, hx⟩ : ∃ x, x = L.getD j noFi := ⟨_, rfl⟩
                    have CE := Lib.hid (show ∀ W, Below w6.heap.size w6 W → (∃ b o, A18 = some ⟨b, o, none⟩ ∧ W.cell? ⟨b, o + j, none⟩ = some (.string (textOf nm))) ∧ (∃ b o, A10 = some ⟨b, o, none⟩ ∧ W.cell? ⟨b, o + j, none⟩ = some (.string (textOf nm))) ∧
                        (∃ b o, A11 = some ⟨b, o, none⟩ ∧ W.cell? ⟨b, o + j, none⟩ = some (.string (textOf x.b))) ∧ (∃ b o, A12 = some ⟨b, o, none⟩ ∧ W.cell? ⟨b, o + j, none⟩ = some (.int .i64 x.syn)) from fun W h => by
                      obtain ⟨b1, o1, e1, _, q1⟩ := (R18.out.to h (Nat.le_refl _)).text hjn
                      obtain ⟨b2, o2, e2, _, q2⟩ := (R3.out.to h (Nat.le_refl _)).text hjn
                      obtain ⟨b3, o3, e3, _, q3⟩ := (R1.out.to h (Nat.le_refl _)).text hjn
                      obtain ⟨b4, o4, e4, _, q4⟩ := (R2.out.to h (Nat.le_refl _)).int hjn
                      rw [← hnm] at q1 q2
                      rw [bytesF_at hjL, ← hx] at q3
                      rw [synsF_at hjL, ← hx] at q4
                      exact ⟨⟨b1, o1, e1, q1⟩, ⟨b2, o2, e2, q2⟩, ⟨b3, o3, e3, q3⟩, ⟨b4, o4, e4, q4⟩⟩)
                    obtain ⟨⟨b1, o1, rfl, q1⟩, ⟨b2, o2, rfl, q2⟩, ⟨b3, o3, rfl, q3⟩, ⟨b4, o4, rfl, q4⟩⟩ := CE.out _ HB7.out
                    have hxb : 0 ≤ x.syn ∧ x.syn ≤ x.b.length := by rw [hx]; exact (HGD.out.2.1 _ (getD_mem noFi L j hjL)).2
                    obtain ⟨kk, hk1, hk2, hk3, hk4⟩ := crX_nums hxb ks[j]?
                    have hG3 := A7.out.good
                    have hnl : nm.length ≤ 100000 := by rw [hnm]; exact names_le HGD.out hjL
                    have hrv := read_at hG3.1 (k := j) (by rw [crL_len]; exact hjL)
                    have hsv := syn_at hG3.1 (k := j) (by rw [crL_len]; exact hjL)
                    rw [crL_names, ← hnm, crL_at hjL, ← hx, hk2] at hrv
                    rw [crL_names, ← hnm, crL_at hjL, ← hx, hk1] at hsv
                    have RD := A7.out.read nm hnl
                    dsimp only at RD hrv hsv
                    rw [hrv] at RD
                    have hlen : (x.b.take kk).length = kk := by rw [List.length_take]; omega
                    rw [hlen] at RD
                    have RD := Lib.hid RD
                    have SY := Lib.hid (fun W (h : Aw w W p q ⟨crL L ks, -1, false⟩) => by
                      have := h.synced nm hnl
                      dsimp only at this
                      rw [hsv] at this
                      exact this)
                    have hd5 : decide ((kk : Int) < x.syn) = false := decide_eq_false (by omega)
                    have hd6 : decide ((x.b.length : Int) < kk) = false := decide_eq_false (by omega)
                    have hk5 : (kk : Int) ≤ x.b.length := by omega
                    have hd6n : decide (x.b.length < kk) = false := decide_eq_false (by omega)
                    have hd6p : ¬ (x.b.length : Int) < kk := by omega
                    have hd6q : ¬ x.b.length < kk := by omega
                    have hk5n : kk ≤ x.b.length := by omega
                    clear hnm hx hxb hk1 hk2 hk3 hk4 hG3 hrv hsv hlen
                    go_wp2_with fail
                    refine RD.out.mono ?_
                    rintro e w7 ⟨Ab, cb, rfl, ho7, hb7, h7⟩
                    have A8 := Lib.hid h7
                    have HB8 := Lib.hid (HB7.out.trans (hb7.mono HB7.out.size))
                    have hcv : ∀ nq, (convert 32 9 (.slice Ab kk cb)).run Try.prog (w7.drewN nq) = .ok (.string (textOf (x.b.take kk))) (w7.drewN nq) := fun nq =>
                      run_bytes_text (P := Try.prog) (show RdB (w7.drewN nq) w7.heap.size Ab kk (x.b.take kk) from RdB.of_own ho7) 32 5 9 Try.underlying32 Try.underlying5 Try.underlying9 cb
                    clear ho7 hb7 h7 q1 q2 q3 q4
                    obtain ⟨⟨y1, z1, e1, q1⟩, ⟨y2, z2, e2, q2⟩, ⟨y3, z3, e3, q3⟩, ⟨y4, z4, e4, q4⟩⟩ := CE.out _ HB8.out
                    injection e1 with e1
                    injection e1 with e1 e1'
                    subst e1 e1'
                    injection e2 with e2
                    injection e2 with e2 e2'
                    subst e2 e2'
                    injection e3 with e3
                    injection e3 with e3 e3'
                    subst e3 e3'
                    injection e4 with e4
                    injection e4 with e4 e4'
                    subst e4 e4'
                    go_wp2_with (go_at_call 18; refine (SY.out _ A8.out).mono ?_; rintro e w8 ⟨rfl, rfl⟩)
                    go_quiet (fail)
                    go_wp2
                    go_roundw
                    case rel => exact ⟨j + 1, by omega, by go_num, A8.out.drewN _, below_drewN HB8.out _⟩
                    case measure => simp [intOf] <;> omega
                  · obtain rfl : j = k := by omega
                    have hd3 : decide ((j : Int) < j) = false := by simp
                    have FIN := Lib.hid A7.out.below
                    go_wp2
                    go_ret
                    exact ⟨rfl, FIN.out⟩
set_option maxRecDepth 100000 in
theorem storeLasts_lifted (os : Os) (started : os.Started) (H : Type) (enc : TypeId × Value → H) :
    ReturnsInHanded {} Try.checked os 4 .any (Rows.storeLastsSpec.pre6 enc Try.prog Try.f4 Rows.storeLastsRow.domain false) (Rows.storeLastsSpec.post enc Try.prog Try.f4 false true false false) := by
  refine returnsInHanded_of_change (C := Try.checked) own started (by kernel_rfl) Try.func4
    (ChangeSpec.witness6 (enc := enc) (C := Try.checked) false ⟨#[], #[.int .u16 0, .slice none 0 0, .slice none 0 0], []⟩ 8 (by kernel_rfl) (by kernel_rfl) (by kernel_rfl) (by kernel_rfl)) ?_
  intro W base args ds gs before hval0 hW hcnd _
  have hval : ∀ (j : Nat) t v, Try.f4.params[j]? = some t → args[j]? = some v → Value.okWide Try.prog W .any base t v := hval0
  have hW' := hW
  obtain ⟨p, q, hA0, hV, rfl, hfz, hnd⟩ := hW
  have hA : DataW.TrodAll enc Try.prog W 0 (fun _ => true) true Try.f4.params.toList args.toList ds p := hA0
  rw [Try.params4] at hA hval
  obtain ⟨v0, vs0, d0, ds0, p0, q0, hargs, rfl, rfl, h0, r0⟩ := trodAll_cons hA
  obtain ⟨v1, vs1, d1, ds1, p1, q1, rfl, rfl, rfl, h1, r1⟩ := trodAll_cons r0
  obtain ⟨v2, vs2, d2, ds2, p2, q2, rfl, rfl, rfl, h2, r2⟩ := trodAll_cons r1
  obtain ⟨rfl, rfl, rfl⟩ := trodAll_nil r2
  obtain rfl : args = #[v0, v1, v2] := by cases args; simp_all
  obtain ⟨u, rfl, hu⟩ := open_u16 Try.underlying46 (hval 0 46 v0 rfl rfl) h0
  obtain ⟨Az, nz, cz, lz, rfl, hRz, hgz, hmz⟩ := open_acs (hval 1 22 v1 rfl rfl) h1
  obtain ⟨Ak, nk, ck, lk, rfl, hRk, hgk, hmk⟩ := open_ints (hval 2 33 v2 rfl rfl) h2
  clear hA0 hval0
  refine (storeLasts_walk u lz Az nz cz lk Ak nk ck W hu hRz hgz hmz hRk hmk).mono fun e W' ⟨he, hb⟩ => ?_
  subst he
  exact ⟨_, rfl, law_post laidOut rfl (by kernel_rfl) 4 Try.underlying4 rfl hW' rfl hb⟩
theorem storeLasts_holds : Rows.StoreLastsSaid :=
  OpenClaim.holds_of_wide 4 Try.f4 rfl rfl rfl rfl rfl rfl rfl ⟨rfl, rfl, rfl, rfl, rfl⟩ rfl rfl rfl rfl rfl (by kernel_rfl) Try.func4 (by kernel_rfl)
    (of_decide_eq_true (by kernel_rfl)) (by unfold Func.isWrapper; first | (rw [if_pos (by decide +kernel)]; kernel_rfl) | (rw [if_neg (by decide +kernel)]; exact ⟨rfl, rfl⟩))
    (fun os started H enc _ => storeLasts_lifted os started H enc)
#print axioms storeLasts_holds
end Go.Proofs.Ytejjobbgceoljaa
