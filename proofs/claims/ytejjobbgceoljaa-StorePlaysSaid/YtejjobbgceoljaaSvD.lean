/- The document's store: Crash. -/
import Derived.Test.YtejjobbgceoljaaSvC
import Derived.Deep.RegionHeldLaw
import Derived.Deep.RegionLaw
import Derived.Deep.CutRange
set_option linter.unusedSimpArgs false
set_option linter.unusedVariables false
namespace Go.Proofs.Ytejjobbgceoljaa
open Go.RowKit

attribute [local go_sem] text_take
theorem cr_take {L : List Fi} {ks : List Int} {i : Nat} (hi : i < L.length) {x : Fi} (hx : x = L.getD i noFi) : (crL L ks).take i ++ [crX x ks[i]?] = (crL L ks).take (i + 1) := by
  rw [hx, ← crL_at hi]
  exact take_snocR noFi (crL L ks) i (by rw [crL_len]; exact hi)
theorem srt_cr {L : List Fi} {ks : List Int} (h : SrtF L) : SrtF (crL L ks) := by
  have e : (crL L ks).map Fi.name = L.map Fi.name := crL_names L ks
  have h1 : (L.map Fi.name).Pairwise (fun a b => Op.bytesLess a b = true) := List.pairwise_map.2 h
  rw [← e] at h1
  exact List.pairwise_map.1 h1
set_option maxRecDepth 100000 in
set_option maxHeartbeats 4000000 in
theorem refCrash_any (X : List Nat) (p : Nat) (q fu : Int) (dn : Bool) (L : List Fi) (ks : List Int) (A2 : Option Addr) (n2 c2 : Nat) (w : World) (hS : RfX X w p q L fu dn) (hn : L.length ≤ 10000) (hX : ∀ g ∈ X, g < w.heap.size) (hG : ∀ x ∈ L, 0 ≤ x.syn ∧ x.syn ≤ x.b.length) (hsl : sumF L ≤ 1073741824) (hK : RdZ w w.heap.size A2 n2 ks) (hn2 : n2 ≤ 9223372036854775807) :
    Calls Try.prog 33 #[.pointer (some ⟨p, 0, none⟩), .slice A2 n2 c2] w (OpX X w p q (crL L ks) (-1) false (.tuple #[])) := by
  obtain ⟨A, n, c, hB, hR, hne, hso⟩ := hS
  have hnl := hR.1
  have hl := hB.lt
  have HB0 := Lib.hid hB
  have HR0 := Lib.hid hR
  have HK := Lib.hid hK
  have HG := Lib.hid hG
  have HN := Lib.hid hnl
  have hkl := hK.1
  have hn10 : n ≤ 10000 := by omega
  obtain ⟨i0, hi0, hz0, hz1, hzb⟩ := infoFi
  have HI0 := Lib.hid hi0
  have HZ0 := Lib.hid hz0
  have HZ1 := Lib.hid hz1
  have HZB := Lib.hid hzb
  have HZ2 := Lib.hid (show (Value.agg noFi.arr).cells.size = 3 by simp [Value.cells, Fi.arr_size])
  clear hB hR hne hK hG hi0 hz0 hz1 hzb
  go_enter Try.func33, Try.ntmps33
  go_wp2
  go_loopw [4, 5] (fun s4 s5 wr => ∃ (i : Nat) (O : Option Addr) (cap : Nat), i ≤ n ∧ s4 = .slice O i cap ∧ s5 = .int .i64 i ∧ wr.ownsRow w.heap.size 69 3 (.slice O i cap) i (cellsF ((crL L ks).take i)) ∧ Below w.heap.size w wr) (fun _ s5 _ => n - (intOf s5).toNat)
  case atStart => exact ⟨0, none, 0, by omega, rfl, rfl, by simpa [cellsF] using World.ownsRow_nil _ _ _ _, Below.refl _ _⟩
  case round =>
    obtain ⟨i, O, cap, hin, rfl, rfl, how, hb⟩ := hrel
    have HOW := Lib.hid how
    have HB := Lib.hid hb
    obtain ⟨f1, f2, f3, f4⟩ := (HB0.out.below hb hl).facts
    have hsz := hb.size
    clear how hb
    by_cases hlt : i < n
    · have hi : (i : Int) < n := by omega
      have hiL : i < L.length := by rw [HN.out]; exact hlt
      obtain ⟨b, oo, rfl, hbb, hh, hcl, _⟩ := (HR0.out.below HB.out).fi hlt
      obtain ⟨x, hx⟩ : ∃ x, x = L.getD i noFi := ⟨_, rfl⟩
      rw [← hx] at hcl
      have hxm : x ∈ L := by rw [hx]; exact getD_mem noFi L i hiL
      obtain ⟨hx0, hx1⟩ := HG.out x hxm
      have hxl : x.b.length ≤ 1073741824 := Nat.le_trans (sumF_mem hxm) hsl
      have HTK := Lib.hid (cr_take (ks := ks) hiL hx)
      obtain ⟨mv, hmv⟩ : ∃ mv, moreF x ks[i]? = mv := ⟨_, rfl⟩
      have hmb := more_bd (HG.out x hxm) ks[i]?
      rw [hmv] at hmb
      obtain ⟨hm0, hm1⟩ := hmb
      obtain ⟨kk, hkk⟩ : ∃ kk : Nat, x.syn + mv = kk := ⟨(x.syn + mv).toNat, by omega⟩
      have HCX := Lib.hid (show crX x ks[i]? = ⟨x.name, x.b.take kk, kk⟩ by unfold crX; rw [hmv, hkk]; rfl)
      have HMV := Lib.hid hmv
      have BX := Lib.hid (Box.new wr x.arr 69)
      have HB5 := Lib.hid (HB.out.alloc hsz (.cells x.arr 69))
      have HO5 := Lib.hid (own_alloc HOW.out (.cells x.arr 69))
      have HKK := Lib.hid hkk
      have hkb : (kk : Int) ≤ x.b.length := by omega
      clear hx hxm hmv hkk hbb
      go_wp2
      obtain ⟨w5, hw5⟩ : ∃ w5, wr.alloc (.cells x.arr 69) = w5 := ⟨_, rfl⟩
      rw [hw5] at BX HB5 HO5 ⊢
      have hs5 : w5.heap.size = wr.heap.size + 1 := by rw [← hw5]; simp
      clear hw5 hh hcl f1 f2 f3 f4
      go_loopw [7] (fun s7 wx => ∃ z : Int, s7 = .int .i64 z ∧ x.syn ≤ z ∧ z ≤ kk ∧ Below w5.heap.size w5 wx) (fun s7 _ => ((kk : Int) - intOf s7).toNat)
      case atStart => exact ⟨x.syn, rfl, by omega, by have := HKK.out; omega, Below.refl _ _⟩
      case round =>
        obtain ⟨z, rfl, hz0, hz1, hb⟩ := hrel
        have HB6 := Lib.hid hb
        obtain ⟨f1, f2, f3, f4⟩ := (BX.out.below hb BX.out.lt).facts
        have O6 := Lib.hid (own_below HO5.out hb)
        have hs6 := hb.size
        have HW1 := Lib.hid (show ∀ y : Int, z = y → wrap64 (y - x.syn) = y - x.syn from fun y hy => by rw [← hy]; unfold wrap64; omega)
        have HW2 := Lib.hid (show wrap64 (z + 1) = z + 1 by unfold wrap64; omega)
        clear hb
        by_cases hz2 : z < x.b.length
        · have hd1 : decide (z < (x.b.length : Int)) = true := decide_eq_true hz2
          by_cases hi2 : i < n2
          · have hd2 : decide ((i : Int) < (n2 : Int)) = true := decide_eq_true (by omega)
            have hii : (i : Int) < n2 := by omega
            obtain ⟨kb, ko, rfl, _, hkc⟩ := (HK.out.to (HB5.out.trans (HB6.out.mono HB5.out.size)) (Nat.le_refl _)).int hi2
            obtain ⟨z0, hz0'⟩ : ∃ z0, z0 = ks.getD i 0 := ⟨_, rfl⟩
            rw [← hz0'] at hkc
            have hmv2 : min (max z0 0) ((x.b.length : Int) - x.syn) = mv := by
              rw [← HMV.out, getD_some (by omega) 0, ← hz0']; rfl
            have hkk := HKK.out
            by_cases hz3 : z - x.syn < z0
            · have hd3 : decide (z - x.syn < z0) = true := decide_eq_true hz3
              have hnx : z + 1 ≤ kk := by omega
              clear hmv2 hkk hz0' hz2 hz3
              have HZ01 := Lib.hid (show x.syn ≤ z + 1 by omega)
              have HME := Lib.hid (show ((kk : Int) - (z + 1)).toNat < ((kk : Int) - z).toNat by omega)
              have hwr1 := HW1.out z rfl
              have hwr2 := HW2.out
              go_wp2
              go_quiet (fail)
              go_wp2
              go_roundw
              case rel => exact ⟨z + 1, by go_num, HZ01.out, hnx, below_drewN HB6.out _⟩
              case measure => simpa [intOf, HW2.out] using HME.out
            · have hd3 : decide (z - x.syn < z0) = false := decide_eq_false hz3
              obtain rfl : z = kk := by omega
              have hd1n : decide (kk < x.b.length) = true := decide_eq_true (by omega)
              have hd1p : kk < x.b.length := by omega
              clear hmv2 hkk hz0' hz2 hz3 hz0 hz1
              have hwr1 := HW1.out (kk : Int) rfl
              go_wp2
              go_quiet (fail)
              clear hwr1
              have H63 := Lib.hid (show i + 1 ≤ maxLen by unfold maxLen; omega)
              have HBY := Lib.hid (show (i + 1) * i0.bytes ≤ 140737488355328 from Nat.le_trans (Nat.mul_le_mul (show i + 1 ≤ 100002 by omega) HZB.out) (by omega))
              have hk5 : (kk : Int) ≤ x.b.length := by omega
              have hk6 : kk ≤ x.b.length := by omega
              have BX7 := (BX.out.below HB6.out BX.out.lt).drewN nq
              have O7 := show (wr.drewN nq).ownsRow w.heap.size 69 3 (.slice O i cap) i (cellsF ((crL L ks).take i)) from O6.out
              have H7 := below_drewN HB6.out nq
              go_wp2_with fail
              obtain ⟨w7, hw7⟩ : ∃ w7, wr.drewN nq = w7 := ⟨_, rfl⟩
              rw [hw7] at BX7 O7 H7 ⊢
              clear hw7 f1 f2 f3 f4
              have h7s := H7.size
              have HB7 := Lib.hid H7
              have OA7 : ((w7.alloc (.cells (Fi.mk x.name (x.b.take kk) kk).arr 69)).drew).ownsRow w.heap.size 69 3 (.slice O i cap) i (cellsF ((crL L ks).take i)) := own_alloc O7 (.cells (Fi.mk x.name (x.b.take kk) kk).arr 69)
              have RA7 : Rd ((w7.alloc (.cells (Fi.mk x.name (x.b.take kk) kk).arr 69)).drew) (w7.heap.size + 1) 3 (some ⟨w7.heap.size, 0, none⟩) 1 (Fi.mk x.name (x.b.take kk) kk).arr.toList := row_rdR w7 (Fi.mk x.name (x.b.take kk) kk).arr 3 (Fi.arr_size _) 69
              have BS7 : w.heap.size ≤ ((w7.alloc (.cells (Fi.mk x.name (x.b.take kk) kk).arr 69)).drew).heap.size := by
                have e : ((w7.alloc (.cells (Fi.mk x.name (x.b.take kk) kk).arr 69)).drew).heap.size = w7.heap.size + 1 := by simp
                omega
              have HBA : Below w.heap.size w ((w7.alloc (.cells (Fi.mk x.name (x.b.take kk) kk).arr 69)).drew) := ((HB5.out.trans (HB7.out.mono HB5.out.size)).alloc (by omega) (.cells (Fi.mk x.name (x.b.take kk) kk).arr 69)).drew
              have OAH := Lib.hid OA7
              have RAH := Lib.hid RA7
              have BSH := Lib.hid BS7
              have HBH := Lib.hid HBA
              obtain ⟨g1, g2, g3, g4⟩ := BX7.facts
              clear O7 BX7 H7 OA7 RA7 BS7 HBA
              go_region_law (refine step_app_rd _ rfl (.tmp 50) (.tmp 59) _ rfl w.heap.size 69 i0 (.agg noFi.arr) 3 i0.bytes Try.underlying63 HI0.out HZ0.out HZ1.out rfl HZ2.out (Nat.succ_pos _) (.slice O i cap) i (cellsF ((crL L ks).take i)) (by kernel_rfl) OAH.out (w7.heap.size + 1) (some ⟨w7.heap.size, 0, none⟩) 1 1 (Fi.mk x.name (x.b.take kk) kk).arr.toList (by kernel_rfl) RAH.out (by simp [Fi.arr, Value.oneCell']) H63.out HBY.out BSH.out ?_; intro v8 w8 hown8 hg8 hat8; have HB8 := Lib.hid (HBH.out.grown hg8 BSH.out (fun k hk => (HOW.out.lt k hk).1)); rw [cellsF_snoc, ← HCX.out, HTK.out] at hown8; have O8 := Lib.hid hown8; clear hown8 hg8 hat8)
              all_goals
                obtain ⟨O', cap', rfl, _, _⟩ := own_form O8.out
                try go_wp2
                go_roundw
                case rel => exact ⟨i + 1, O', cap', by omega, rfl, by go_num, O8.out, by first | exact HB8.out | exact HB8.out.drew⟩
                case measure => simp [intOf] <;> omega
          · have hd2 : decide ((i : Int) < (n2 : Int)) = false := decide_eq_false (by omega)
            have hmv2 : mv = 0 := by rw [← HMV.out, List.getElem?_eq_none (by omega)]; rfl
            have hkk := HKK.out
            obtain rfl : z = kk := by omega
            have hd1n : decide (kk < x.b.length) = true := decide_eq_true (by omega)
            have hd1p : kk < x.b.length := by omega
            clear hmv2 hkk hz2 hz0 hz1
            have hwr1 := HW1.out (kk : Int) rfl
            go_wp2
            go_quiet (fail)
            clear hwr1
            have H63 := Lib.hid (show i + 1 ≤ maxLen by unfold maxLen; omega)
            have HBY := Lib.hid (show (i + 1) * i0.bytes ≤ 140737488355328 from Nat.le_trans (Nat.mul_le_mul (show i + 1 ≤ 100002 by omega) HZB.out) (by omega))
            have hk5 : (kk : Int) ≤ x.b.length := by omega
            have hk6 : kk ≤ x.b.length := by omega
            have BX7 := (BX.out.below HB6.out BX.out.lt).drewN nq
            have O7 := show (wr.drewN nq).ownsRow w.heap.size 69 3 (.slice O i cap) i (cellsF ((crL L ks).take i)) from O6.out
            have H7 := below_drewN HB6.out nq
            go_wp2_with fail
            obtain ⟨w7, hw7⟩ : ∃ w7, wr.drewN nq = w7 := ⟨_, rfl⟩
            rw [hw7] at BX7 O7 H7 ⊢
            clear hw7 f1 f2 f3 f4
            have h7s := H7.size
            have HB7 := Lib.hid H7
            have OA7 : ((w7.alloc (.cells (Fi.mk x.name (x.b.take kk) kk).arr 69)).drew).ownsRow w.heap.size 69 3 (.slice O i cap) i (cellsF ((crL L ks).take i)) := own_alloc O7 (.cells (Fi.mk x.name (x.b.take kk) kk).arr 69)
            have RA7 : Rd ((w7.alloc (.cells (Fi.mk x.name (x.b.take kk) kk).arr 69)).drew) (w7.heap.size + 1) 3 (some ⟨w7.heap.size, 0, none⟩) 1 (Fi.mk x.name (x.b.take kk) kk).arr.toList := row_rdR w7 (Fi.mk x.name (x.b.take kk) kk).arr 3 (Fi.arr_size _) 69
            have BS7 : w.heap.size ≤ ((w7.alloc (.cells (Fi.mk x.name (x.b.take kk) kk).arr 69)).drew).heap.size := by
              have e : ((w7.alloc (.cells (Fi.mk x.name (x.b.take kk) kk).arr 69)).drew).heap.size = w7.heap.size + 1 := by simp
              omega
            have HBA : Below w.heap.size w ((w7.alloc (.cells (Fi.mk x.name (x.b.take kk) kk).arr 69)).drew) := ((HB5.out.trans (HB7.out.mono HB5.out.size)).alloc (by omega) (.cells (Fi.mk x.name (x.b.take kk) kk).arr 69)).drew
            have OAH := Lib.hid OA7
            have RAH := Lib.hid RA7
            have BSH := Lib.hid BS7
            have HBH := Lib.hid HBA
            obtain ⟨g1, g2, g3, g4⟩ := BX7.facts
            clear O7 BX7 H7 OA7 RA7 BS7 HBA
            go_region_law (refine step_app_rd _ rfl (.tmp 50) (.tmp 59) _ rfl w.heap.size 69 i0 (.agg noFi.arr) 3 i0.bytes Try.underlying63 HI0.out HZ0.out HZ1.out rfl HZ2.out (Nat.succ_pos _) (.slice O i cap) i (cellsF ((crL L ks).take i)) (by kernel_rfl) OAH.out (w7.heap.size + 1) (some ⟨w7.heap.size, 0, none⟩) 1 1 (Fi.mk x.name (x.b.take kk) kk).arr.toList (by kernel_rfl) RAH.out (by simp [Fi.arr, Value.oneCell']) H63.out HBY.out BSH.out ?_; intro v8 w8 hown8 hg8 hat8; have HB8 := Lib.hid (HBH.out.grown hg8 BSH.out (fun k hk => (HOW.out.lt k hk).1)); rw [cellsF_snoc, ← HCX.out, HTK.out] at hown8; have O8 := Lib.hid hown8; clear hown8 hg8 hat8)
            all_goals
              obtain ⟨O', cap', rfl, _, _⟩ := own_form O8.out
              try go_wp2
              go_roundw
              case rel => exact ⟨i + 1, O', cap', by omega, rfl, by go_num, O8.out, by first | exact HB8.out | exact HB8.out.drew⟩
              case measure => simp [intOf] <;> omega
        · have hd1 : decide (z < (x.b.length : Int)) = false := decide_eq_false hz2
          have hkk := HKK.out
          obtain rfl : z = kk := by omega
          have hd1n : decide (kk < x.b.length) = false := decide_eq_false (by omega)
          have hd1p : ¬ kk < x.b.length := by omega
          clear hkk hz2 hz0 hz1
          have hwr1 := HW1.out (kk : Int) rfl
          go_wp2
          go_quiet (fail)
          clear hwr1
          have H63 := Lib.hid (show i + 1 ≤ maxLen by unfold maxLen; omega)
          have HBY := Lib.hid (show (i + 1) * i0.bytes ≤ 140737488355328 from Nat.le_trans (Nat.mul_le_mul (show i + 1 ≤ 100002 by omega) HZB.out) (by omega))
          have hk5 : (kk : Int) ≤ x.b.length := by omega
          have hk6 : kk ≤ x.b.length := by omega
          have BX7 := (BX.out.below HB6.out BX.out.lt).drewN nq
          have O7 := show (wr.drewN nq).ownsRow w.heap.size 69 3 (.slice O i cap) i (cellsF ((crL L ks).take i)) from O6.out
          have H7 := below_drewN HB6.out nq
          go_wp2_with fail
          obtain ⟨w7, hw7⟩ : ∃ w7, wr.drewN nq = w7 := ⟨_, rfl⟩
          rw [hw7] at BX7 O7 H7 ⊢
          clear hw7 f1 f2 f3 f4
          have h7s := H7.size
          have HB7 := Lib.hid H7
          have OA7 : ((w7.alloc (.cells (Fi.mk x.name (x.b.take kk) kk).arr 69)).drew).ownsRow w.heap.size 69 3 (.slice O i cap) i (cellsF ((crL L ks).take i)) := own_alloc O7 (.cells (Fi.mk x.name (x.b.take kk) kk).arr 69)
          have RA7 : Rd ((w7.alloc (.cells (Fi.mk x.name (x.b.take kk) kk).arr 69)).drew) (w7.heap.size + 1) 3 (some ⟨w7.heap.size, 0, none⟩) 1 (Fi.mk x.name (x.b.take kk) kk).arr.toList := row_rdR w7 (Fi.mk x.name (x.b.take kk) kk).arr 3 (Fi.arr_size _) 69
          have BS7 : w.heap.size ≤ ((w7.alloc (.cells (Fi.mk x.name (x.b.take kk) kk).arr 69)).drew).heap.size := by
            have e : ((w7.alloc (.cells (Fi.mk x.name (x.b.take kk) kk).arr 69)).drew).heap.size = w7.heap.size + 1 := by simp
            omega
          have HBA : Below w.heap.size w ((w7.alloc (.cells (Fi.mk x.name (x.b.take kk) kk).arr 69)).drew) := ((HB5.out.trans (HB7.out.mono HB5.out.size)).alloc (by omega) (.cells (Fi.mk x.name (x.b.take kk) kk).arr 69)).drew
          have OAH := Lib.hid OA7
          have RAH := Lib.hid RA7
          have BSH := Lib.hid BS7
          have HBH := Lib.hid HBA
          obtain ⟨g1, g2, g3, g4⟩ := BX7.facts
          clear O7 BX7 H7 OA7 RA7 BS7 HBA
          go_region_law (refine step_app_rd _ rfl (.tmp 50) (.tmp 59) _ rfl w.heap.size 69 i0 (.agg noFi.arr) 3 i0.bytes Try.underlying63 HI0.out HZ0.out HZ1.out rfl HZ2.out (Nat.succ_pos _) (.slice O i cap) i (cellsF ((crL L ks).take i)) (by kernel_rfl) OAH.out (w7.heap.size + 1) (some ⟨w7.heap.size, 0, none⟩) 1 1 (Fi.mk x.name (x.b.take kk) kk).arr.toList (by kernel_rfl) RAH.out (by simp [Fi.arr, Value.oneCell']) H63.out HBY.out BSH.out ?_; intro v8 w8 hown8 hg8 hat8; have HB8 := Lib.hid (HBH.out.grown hg8 BSH.out (fun k hk => (HOW.out.lt k hk).1)); rw [cellsF_snoc, ← HCX.out, HTK.out] at hown8; have O8 := Lib.hid hown8; clear hown8 hg8 hat8)
          all_goals
            obtain ⟨O', cap', rfl, _, _⟩ := own_form O8.out
            try go_wp2
            go_roundw
            case rel => exact ⟨i + 1, O', cap', by omega, rfl, by go_num, O8.out, by first | exact HB8.out | exact HB8.out.drew⟩
            case measure => simp [intOf] <;> omega
    · obtain rfl : i = n := by omega
      have hd : decide ((i : Int) < i) = false := by simp
      have hE := HOW.out
      rw [List.take_of_length_le (by rw [crL_len, HN.out]; exact Nat.le_refl _)] at hE
      have HE := Lib.hid hE
      clear hE
      go_wp2
      go_end0
      have B2 := (((HB0.out.below HB.out hl).set_same 1 (.slice O i cap)).set_same 2 (.int .i64 (-1))).set_same 3 (.bool false)
      rw [rfC_set1, rfC_set2, rfC_set3] at B2
      have hpo : p < w.heap.size := hl
      have O3 := own_set (own_set (own_set HE.out (p := ⟨p, 1, none⟩) hpo (.slice O i cap)) (p := ⟨p, 2, none⟩) hpo (.int .i64 (-1))) (p := ⟨p, 3, none⟩) hpo (.bool false)
      refine ⟨rfl, ⟨O, i, cap, B2, RdR.of_own (by rw [crL_len]; exact HN.out) O3, fun a ha => ?_, srt_cr hso⟩, grown_setCells [.slice O i cap, .int .i64 (-1), .bool false] 1 wr (grown_of_below HB.out (some p))⟩
      obtain ⟨this, hup⟩ := HE.out.lt a.block (by rw [ha]; rfl)
      exact ⟨fun e => by omega, fun hm => by have := hX _ hm; omega, by simpa [World.setCell] using hup⟩
end Go.Proofs.Ytejjobbgceoljaa
