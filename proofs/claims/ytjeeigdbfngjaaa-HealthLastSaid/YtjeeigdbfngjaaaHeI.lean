/- Healths of names: the document's way. -/
import Derived.Test.YtjeeigdbfngjaaaHeH
set_option linter.unusedSimpArgs false
set_option linter.unusedVariables false
namespace Go.Proofs.Ytjeeigdbfngjaaa
open Go.RowKit

def slLen : Value → Nat
  | .slice _ n _ => n
  | _ => 0
theorem slLen_is (A : Option Addr) (n c : Nat) : slLen (.slice A n c) = n := rfl
theorem sync_snoc (l : List Hl) (U : List (List UInt8)) (k : Nat) (hk : k < U.length) : cellsH ((U.take k).map (pickH l)) ++ (pickH l (U.getD k [])).arr.toList = cellsH ((U.take (k + 1)).map (pickH l)) := by
  rw [cellsH_snoc, ← take_snocR [] U k hk, List.map_append]; rfl
/-- what the last of those that are out says of a name: the test of the inner loop -/
def skipT (U : List (List UInt8)) (k : Nat) (x : List UInt8) : Bool := Op.bytesLess x (U.getD (k - 1) []) || x == U.getD (k - 1) []
theorem skipT_abv {U : List (List UInt8)} {k : Nat} (hk : 0 < k) (x : List UInt8) : skipT U k x = !AbvT U k x := by
  unfold skipT AbvT
  rw [show decide (k = 0) = false from decide_eq_false (by omega), Bool.false_or]
  cases h : Op.bytesLess (U.getD (k - 1) []) x
  · cases h2 : Op.bytesLess x (U.getD (k - 1) [])
    · rw [bl_total _ _ h2 h]; simp
    · simp
  · rw [bl_asymm h]
    simp only [Bool.false_or, Bool.not_true, beq_eq_false_iff_ne]
    rintro rfl
    rw [bl_irrefl] at h; cases h
set_option maxHeartbeats 4000000 in
set_option maxRecDepth 100000 in
theorem refSync_any (l : List Hl) (names : List (List UInt8)) (A B : Option Addr) (n nn c d : Nat) (w : World) (hR : RdH w w.heap.size A n l) (hT : RdT w w.heap.size B nn names) (hn : n ≤ 100000) (hnn : nn ≤ 100000) :
    Calls Try.prog 19 #[.slice A n c, .slice B nn d] w (ClP w (syncH l names).length (syncH l names)) := by
  have HR := Lib.hid hR
  have HT := Lib.hid hT
  have HN := Lib.hid hR.1
  have HNN := Lib.hid hT.1
  obtain ⟨i0, hi0, hz0, hz1, hzb⟩ := infoHl
  have HI0 := Lib.hid hi0
  have HZ0 := Lib.hid hz0
  have HZ1 := Lib.hid hz1
  have HZ2 := Lib.hid (show (Value.agg noHl.arr).cells.size = 3 by simp [Value.cells, Hl.arr_size])
  have FIN := Lib.hid (fun s W (hb : Below w.heap.size w W) => refFind_any l s A n c W ((HR.out.below hb).more hb.size) (by omega))
  have hul := len_uniq names
  obtain ⟨U, hU⟩ : ∃ U, U = uniq names := ⟨_, rfl⟩
  have HU := Lib.hid hU
  have HSY := Lib.hid (show syncH l names = U.map (pickH l) by rw [hU]; rfl)
  have HUL := Lib.hid (show U.length ≤ 100000 by rw [hU]; have := HNN.out; omega)
  obtain ⟨ul, hulen⟩ : ∃ ul, ul = U.length := ⟨_, rfl⟩
  have HL := Lib.hid hulen
  have hul2 : ul ≤ 100000 := by rw [hulen]; exact HUL.out
  clear hR hT hi0 hz0 hz1 hul hU hulen
  go_enter Try.func19, Try.ntmps19
  go_wp2
  go_loopw [5] (fun s5 wr => ∃ (k : Nat) (O : Option Addr) (cap : Nat), k ≤ ul ∧ s5 = .slice O k cap ∧ wr.ownsRow w.heap.size 23 3 (.slice O k cap) k (cellsH ((U.take k).map (pickH l))) ∧ Below w.heap.size w wr) (fun s5 _ => ul - slLen s5)
  case atStart => exact ⟨0, none, 0, by omega, rfl, by simpa [cellsH] using World.ownsRow_nil _ _ _ _, Below.refl _ _⟩
  case round =>
    obtain ⟨k, O, cap, hku, rfl, ho, hb⟩ := hrel
    have HO := Lib.hid ho
    have HB := Lib.hid hb
    have hsz := hb.size
    have RO := Lib.hid (RdR.of_own (l := (U.take k).map (pickH l)) (by rw [List.length_map, List.length_take, ← HL.out]; omega) ho : RdH wr wr.heap.size O k _)
    clear ho hb
    go_wp2_with fail
    go_loopw [6, 7] (fun s6 s7 wi => ∃ (i : Nat) (b : Int), i ≤ nn ∧ s6 = .int .i64 b ∧ s7 = .int .i64 i ∧ -1 ≤ b ∧ b < i ∧ BestT U names k i b ∧ Below wr.heap.size wr wi) (fun _ s7 _ => nn - (intOf s7).toNat)
    case atStart => exact ⟨0, -1, by omega, rfl, rfl, by omega, by omega, .inl ⟨rfl, fun j hj => by omega⟩, Below.refl _ _⟩
    case round =>
      obtain ⟨i, b, hin, rfl, rfl, hb1, hb2, hbest, hbi⟩ := hrel
      have HBE := Lib.hid hbest
      have HBI := Lib.hid hbi
      have HBW := Lib.hid (HB.out.trans (hbi.mono hsz))
      clear hbest hbi
      by_cases hlt : i < nn
      · have hi : (i : Int) < nn := by omega
        obtain ⟨bb, o, rfl, hbb, hc⟩ := (HT.out.below HBW.out).text hlt
        obtain ⟨x, hx⟩ : ∃ x, x = names.getD i [] := ⟨_, rfl⟩
        rw [← hx] at hc
        have HX := Lib.hid hx
        clear hx hbb
        rcases Nat.eq_zero_or_pos k with hk0 | hk0
        · subst hk0
          have hz0 : ((0 : Int) > 0) = False := by simp
          have HAB := Lib.hid (show AbvT U 0 x = true by unfold AbvT; simp)
          rcases Int.lt_or_le b 0 with hneg | hpos
          · have hbn : decide (b < 0) = true := decide_eq_true hneg
            have NB := Lib.hid (best_first HBE.out hneg (by rw [← HX.out]; exact HAB.out))
            go_wp2
            go_quiet (fail)
            go_wp2
            go_quiet (fail)
            go_wp2
            go_roundw
            case rel => exact ⟨i + 1, i, by omega, by first | rfl | go_num, by go_num, by omega, by omega, NB.out, by first | exact below_drewN (below_drewN HBI.out _) _ | exact below_drewN HBI.out _ | exact HBI.out⟩
            case measure => simp [intOf] <;> omega
          · have hbn : decide (b < 0) = false := decide_eq_false (by omega)
            obtain ⟨m, rfl⟩ : ∃ m : Nat, b = m := ⟨b.toNat, by omega⟩
            have hmn : m < nn := by omega
            obtain ⟨bb2, o2, hA2, _, hc2⟩ := (HT.out.below HBW.out).text hmn
            injection hA2 with hA2
            injection hA2 with e1 e2
            subst e1 e2
            obtain ⟨y, hy⟩ : ∃ y, y = names.getD m [] := ⟨_, rfl⟩
            rw [← hy] at hc2
            have HY := Lib.hid hy
            clear hy
            cases hbl : Op.bytesLess x y
            · have NB := Lib.hid (best_keep HBE.out (by rw [← HX.out]; exact HAB.out) (by rw [← HX.out, ← HY.out]; exact hbl))
              go_wp2
              go_quiet (fail)
              go_wp2
              go_quiet (fail)
              go_wp2
              go_roundw
              case rel => exact ⟨i + 1, m, by omega, rfl, by go_num, by omega, by omega, NB.out, by first | exact below_drewN (below_drewN HBI.out _) _ | exact below_drewN HBI.out _ | exact HBI.out⟩
              case measure => simp [intOf] <;> omega
            · have NB := Lib.hid (best_less HBE.out (by rw [← HX.out]; exact HAB.out) (by rw [← HX.out, ← HY.out]; exact hbl))
              go_wp2
              go_quiet (fail)
              go_wp2
              go_quiet (fail)
              go_wp2
              go_roundw
              case rel => exact ⟨i + 1, i, by omega, by first | rfl | go_num, by go_num, by omega, by omega, NB.out, by first | exact below_drewN (below_drewN HBI.out _) _ | exact below_drewN HBI.out _ | exact HBI.out⟩
              case measure => simp [intOf] <;> omega
        · obtain ⟨k', rfl⟩ : ∃ k', k = k' + 1 := ⟨k - 1, by omega⟩
          have hkp : decide ((0 : Int) < ((k' + 1 : Nat) : Int)) = true := decide_eq_true (by omega)
          obtain ⟨b3, o3, rfl, _, _, _, hn3, _⟩ := (RO.out.below HBI.out).hl (Nat.lt_succ_self k')
          have hlast : (((U.take (k' + 1)).map (pickH l)).getD k' noHl).name = U.getD k' [] := by
            have hkl : k' < U.length := by rw [← HL.out]; omega
            rw [List.getD_eq_getElem?_getD, List.getElem?_map, List.getElem?_take_of_lt (Nat.lt_succ_self k'), List.getElem?_eq_getElem hkl]
            simp only [Option.map_some, Option.getD_some, pickH_name]
            rw [List.getD_eq_getElem?_getD, List.getElem?_eq_getElem hkl]; rfl
          rw [hlast] at hn3
          obtain ⟨z, hz⟩ : ∃ z, z = U.getD k' [] := ⟨_, rfl⟩
          rw [← hz] at hn3
          have HZZ := Lib.hid hz
          clear hlast hz
          have hsk := skipT_abv (U := U) hk0 x
          unfold skipT at hsk
          rw [Nat.add_sub_cancel, ← HZZ.out] at hsk
          cases hab : AbvT U (k' + 1) x
          · have HAB := Lib.hid hab
            rw [hab] at hsk
            simp only [Bool.not_false] at hsk
            have NB := Lib.hid (best_skip HBE.out (by rw [← HX.out]; exact hab))
            clear hab
            go_wp2
            go_quiet (fail)
            go_wp2
            go_roundw
            case rel => exact ⟨i + 1, b, by omega, rfl, by go_num, by omega, by omega, NB.out, below_drewN HBI.out _⟩
            case measure => simp [intOf] <;> omega
          · have HAB := Lib.hid hab
            rw [hab] at hsk
            simp only [Bool.not_true] at hsk
            clear hab
            rcases Int.lt_or_le b 0 with hneg | hpos
            · have hbn : decide (b < 0) = true := decide_eq_true hneg
              have NB := Lib.hid (best_first HBE.out hneg (by rw [← HX.out]; exact HAB.out))
              go_wp2
              go_quiet (fail)
              go_wp2
              go_quiet (fail)
              go_wp2
              go_roundw
              case rel => exact ⟨i + 1, i, by omega, by first | rfl | go_num, by go_num, by omega, by omega, NB.out, by first | exact below_drewN (below_drewN HBI.out _) _ | exact below_drewN HBI.out _ | exact HBI.out⟩
              case measure => simp [intOf] <;> omega
            · have hbn : decide (b < 0) = false := decide_eq_false (by omega)
              obtain ⟨m, rfl⟩ : ∃ m : Nat, b = m := ⟨b.toNat, by omega⟩
              have hmn : m < nn := by omega
              obtain ⟨bb2, o2, hA2, _, hc2⟩ := (HT.out.below HBW.out).text hmn
              injection hA2 with hA2
              injection hA2 with e1 e2
              subst e1 e2
              obtain ⟨y, hy⟩ : ∃ y, y = names.getD m [] := ⟨_, rfl⟩
              rw [← hy] at hc2
              have HY := Lib.hid hy
              clear hy
              cases hbl : Op.bytesLess x y
              · have NB := Lib.hid (best_keep HBE.out (by rw [← HX.out]; exact HAB.out) (by rw [← HX.out, ← HY.out]; exact hbl))
                go_wp2
                go_quiet (fail)
                go_wp2
                go_quiet (fail)
                go_wp2
                go_roundw
                case rel => exact ⟨i + 1, m, by omega, rfl, by go_num, by omega, by omega, NB.out, by first | exact below_drewN (below_drewN HBI.out _) _ | exact below_drewN HBI.out _ | exact HBI.out⟩
                case measure => simp [intOf] <;> omega
              · have NB := Lib.hid (best_less HBE.out (by rw [← HX.out]; exact HAB.out) (by rw [← HX.out, ← HY.out]; exact hbl))
                go_wp2
                go_quiet (fail)
                go_wp2
                go_quiet (fail)
                go_wp2
                go_roundw
                case rel => exact ⟨i + 1, i, by omega, by first | rfl | go_num, by go_num, by omega, by omega, NB.out, by first | exact below_drewN (below_drewN HBI.out _) _ | exact below_drewN HBI.out _ | exact HBI.out⟩
                case measure => simp [intOf] <;> omega
      · obtain rfl : i = nn := by omega
        have hd : decide ((i : Int) < i) = false := by simp
        rcases Int.lt_or_le b 0 with hneg | hpos
        · have hbn : decide (b < 0) = true := decide_eq_true hneg
          have KE := Lib.hid (show k = ul by rw [HL.out, HU.out]; exact best_end_none (by rw [← HU.out, ← HL.out]; exact hku) (by rw [← HU.out, HNN.out]; exact HBE.out) hneg)
          have OF := Lib.hid (own_below HO.out HBI.out)
          go_wp2
          go_ret
          have h1 := OF.out
          rw [List.take_of_length_le (by rw [← HL.out, KE.out]; exact Nat.le_refl _), ← HSY.out] at h1
          have h2 : (syncH l names).length = k := by rw [HSY.out, List.length_map, ← HL.out, KE.out]
          rw [h2]
          exact ⟨O, cap, rfl, h1, HBW.out⟩
        · have hbn : decide (b < 0) = false := decide_eq_false (by omega)
          obtain ⟨m, rfl⟩ : ∃ m : Nat, b = m := ⟨b.toNat, by omega⟩
          have hes := best_end_some (m := m) (show k ≤ (uniq names).length by rw [← HU.out, ← HL.out]; exact hku) (by rw [← HU.out, HNN.out]; exact HBE.out)
          rw [← HU.out, ← HL.out] at hes
          obtain ⟨_, he2, hkl⟩ := hes
          have hmn : m < i := by omega
          obtain ⟨bb, o, rfl, hbb, hc⟩ := (HT.out.below HBW.out).text hmn
          rw [he2] at hc
          obtain ⟨y, hy⟩ : ∃ y, y = U.getD k [] := ⟨_, rfl⟩
          rw [← hy] at hc
          have SN := Lib.hid (sync_snoc l U k (by rw [← HL.out]; exact hkl))
          have HY := Lib.hid hy
          have OI := Lib.hid (own_below HO.out HBI.out)
          have hszi : w.heap.size ≤ wr.heap.size := HBW.out.size
          have H63 := Lib.hid (show k + 1 ≤ maxLen by unfold maxLen; omega)
          have HBY := Lib.hid (show (k + 1) * i0.bytes ≤ 140737488355328 from Nat.le_trans (Nat.mul_le_mul (show k + 1 ≤ 100002 by omega) hzb) (by omega))
          have BS := Lib.hid (fun ob => show w.heap.size ≤ (wr.alloc ob).heap.size by simp; omega)
          have HGR := Lib.hid (fun ob w1 (hg : (wr.alloc ob).grownBy w1 (Value.slice O k cap).ownBlock) => (HBW.out.alloc hszi ob).grown hg (BS.out ob) (fun k hk => (OI.out.lt k hk).1))
          clear hy hbb he2
          go_wp2_with fail
          refine (FIN.out y _ HBW.out).mono ?_
          rintro e w' ⟨rfl, rfl⟩
          rcases posH_cases l y with hp | ⟨p, hp, hpl⟩
          · have PK := Lib.hid (show pickH l y = ⟨y, false, 0⟩ by unfold pickH; rw [if_pos (by omega)])
            have W1 := Lib.hid (row_rdR wr (Hl.mk y false 0).arr 3 (Hl.arr_size _) 23)
            rw [hp]
            clear hp
            go_wp2_with (at_builtin; refine wpList_app_rd _ rfl (.tmp 57) (.tmp 63) _ rfl w.heap.size 23 i0 (.agg noHl.arr) 3 i0.bytes Try.underlying34 HI0.out HZ0.out HZ1.out rfl HZ2.out (Nat.succ_pos _) (.slice O k cap) k (cellsH ((U.take k).map (pickH l))) rfl (own_alloc OI.out _) (wr.heap.size + 1) (some ⟨wr.heap.size, 0, none⟩) 1 1 (Hl.mk y false 0).arr.toList rfl W1.out (by simp [Hl.arr, Value.oneCell']) H63.out HBY.out (BS.out _) ?_; intro v1 w1 hown1 hg1 hat1; have O1 := Lib.hid hown1; have G1 := Lib.hid (HGR.out _ _ hg1); clear hown1 hg1 hat1)
            obtain ⟨O', cap', rfl, _, _⟩ := own_form O1.out
            go_roundw
            case rel => exact ⟨k + 1, O', cap', by omega, rfl, by have h1 := O1.out; have h2 := SN.out; rw [← HY.out, PK.out] at h2; rw [h2] at h1; exact h1, G1.out⟩
            case measure => simp only [slLen_is]; omega
          · have PK := Lib.hid (show pickH l y = l.getD p noHl by unfold pickH; rw [if_neg (by omega), hp, Int.toNat_natCast])
            have hpn : p < n := by rw [← HN.out]; exact hpl
            have hpi : (p : Int) < n := by omega
            obtain ⟨b4, o4, rfl, hb4, hh4, hc4, _, _⟩ := (HR.out.below HBW.out).hl hpn
            obtain ⟨xx, hxx⟩ : ∃ xx, xx = l.getD p noHl := ⟨_, rfl⟩
            rw [← hxx] at hc4
            have HXX := Lib.hid hxx
            have W1 := Lib.hid (row_rdR wr xx.arr 3 (Hl.arr_size _) 23)
            have hd2 : decide ((p : Int) < 0) = false := by simp
            rw [hp]
            clear hp hpl hxx hb4
            go_wp2_with (at_builtin; refine wpList_app_rd _ rfl (.tmp 65) (.tmp 70) _ rfl w.heap.size 23 i0 (.agg noHl.arr) 3 i0.bytes Try.underlying34 HI0.out HZ0.out HZ1.out rfl HZ2.out (Nat.succ_pos _) (.slice O k cap) k (cellsH ((U.take k).map (pickH l))) rfl (own_alloc OI.out _) (wr.heap.size + 1) (some ⟨wr.heap.size, 0, none⟩) 1 1 xx.arr.toList rfl W1.out (by simp [Hl.arr, Value.oneCell']) H63.out HBY.out (BS.out _) ?_; intro v1 w1 hown1 hg1 hat1; have O1 := Lib.hid hown1; have G1 := Lib.hid (HGR.out _ _ hg1); clear hown1 hg1 hat1)
            obtain ⟨O', cap', rfl, _, _⟩ := own_form O1.out
            go_roundw
            case rel => exact ⟨k + 1, O', cap', by omega, rfl, by have h1 := O1.out; have h2 := SN.out; rw [← HY.out, PK.out, ← HXX.out] at h2; rw [h2] at h1; exact h1, G1.out⟩
            case measure => simp only [slLen_is]; omega
end Go.Proofs.Ytjeeigdbfngjaaa
