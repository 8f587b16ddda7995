/- Who is down; results run through. -/
import Derived.Test.YtjeeigdbfngjaaaHeC
import Derived.Deep.RegionHeld3
set_option linter.unusedSimpArgs false
set_option linter.unusedVariables false
namespace Go.Proofs.Ytjeeigdbfngjaaa
open Go.RowKit Go.ChangeShapes Go.WideShapes Go.ChangeAt Go.Deep

def downs (l : List Hl) : List (List UInt8) := (l.filter (·.down)).map (·.name)
theorem downs_yes (l : List Hl) (i : Nat) (hi : i < l.length) {x : Hl} (hx : x = l.getD i noHl) (h : x.down = true) : downs (l.take (i + 1)) = downs (l.take i) ++ [x.name] := by
  rw [← take_snocR noHl l i hi, ← hx]; simp [downs, h]
theorem downs_no (l : List Hl) (i : Nat) (hi : i < l.length) {x : Hl} (hx : x = l.getD i noHl) (h : x.down = false) : downs (l.take (i + 1)) = downs (l.take i) := by
  rw [← take_snocR noHl l i hi, ← hx]; simp [downs, h]
theorem downs_le (l : List Hl) : (downs l).length ≤ l.length := by simp [downs]; exact List.length_filter_le _ _
set_option maxHeartbeats 1000000 in
set_option maxRecDepth 100000 in
theorem down_any (l : List Hl) (A : Option Addr) (n c : Nat) (w : World) (hR : RdH w w.heap.size A n l) (hn : n ≤ 100000) :
    Calls Try.prog 21 #[.slice A n c] w (TxP w (downs l)) := by
  have HR := Lib.hid hR
  have HN := Lib.hid hR.1
  obtain ⟨i0, hi0, hz0, hz1, hzb⟩ := infoTx
  have HI0 := Lib.hid hi0
  have HZ0 := Lib.hid hz0
  have HZ1 := Lib.hid hz1
  have HZ2 := Lib.hid (show (Value.string ⟨#[]⟩).cells.size = 1 from rfl)
  clear hR hi0 hz0 hz1
  go_enter Try.func21, Try.ntmps21
  go_wp2
  go_loopw [3, 8] (fun s3 s8 wr => ∃ (i : Nat) (O : Option Addr) (cap k : Nat), i ≤ n ∧ s3 = .slice O k cap ∧ s8 = .int .i64 i ∧ k ≤ i ∧ (downs (l.take i)).length = k ∧ wr.ownsRow w.heap.size 9 1 (.slice O k cap) k (cellsT (downs (l.take i))) ∧ Below w.heap.size w wr) (fun _ s8 _ => n - (intOf s8).toNat)
  case atStart => exact ⟨0, none, 0, 0, by omega, rfl, rfl, by omega, by simp [downs], World.ownsRow_nil _ _ _ _, Below.refl _ _⟩
  case round =>
    obtain ⟨i, O, cap, k, hin, rfl, rfl, hki, hlen, ho, hb⟩ := hrel
    have HB := Lib.hid hb
    have HO := Lib.hid ho
    have HLEN := Lib.hid hlen
    have hsz := hb.size
    clear hb ho hlen
    by_cases hlt : i < n
    · have hi : (i : Int) < n := by omega
      obtain ⟨b, o, rfl, hbb, hh, hc, hnm, hdw⟩ := (HR.out.below HB.out).hl hlt
      obtain ⟨x, hx⟩ : ∃ x, x = l.getD i noHl := ⟨_, rfl⟩
      rw [← hx] at hc hnm hdw
      have HX := Lib.hid hx
      have hbs : b < wr.heap.size := by omega
      clear hx hbb
      have HNL := Lib.hid (show i < l.length by rw [HN.out]; exact hlt)
      cases hd : x.down
      · have HD := Lib.hid hd
        rw [hd] at hdw
        go_wp2
        go_roundw
        case rel => exact ⟨i + 1, O, cap, k, by omega, rfl, by go_num, by omega, by rw [downs_no l i HNL.out HX.out HD.out]; exact HLEN.out, by rw [downs_no l i HNL.out HX.out HD.out]; exact HO.out.alloc _, HB.out.alloc hsz _⟩
        case measure => simp [intOf] <;> omega
      · have HD := Lib.hid hd
        rw [hd] at hdw
        have H63 := Lib.hid (show k + 1 ≤ maxLen by unfold maxLen; omega)
        have HBY := Lib.hid (show (k + 1) * i0.bytes ≤ 140737488355328 from Nat.le_trans (Nat.mul_le_mul (show k + 1 ≤ 100002 by omega) hzb) (by omega))
        have HKI := Lib.hid hki
        have HROW := Lib.hid (fun (ob : Obj) (s : List UInt8) => show Rd ((wr.alloc ob).alloc (.cells #[.string (textOf s)] 9)) (wr.heap.size + 2) 1 (some ⟨wr.heap.size + 1, 0, none⟩) 1 [.string (textOf s)] by
          have h := row_rdR (wr.alloc ob) (txA s) 1 rfl 9
          rwa [show (wr.alloc ob).heap.size = wr.heap.size + 1 by simp] at h)
        have HBS := Lib.hid (fun ob ob' => show w.heap.size ≤ ((wr.alloc ob).alloc ob').heap.size by simp; omega)
        have HGR := Lib.hid (fun ob ob' w1 (hg : ((wr.alloc ob).alloc ob').grownBy w1 (Value.slice O k cap).ownBlock) => ((HB.out.alloc hsz ob).alloc (by simp; omega) ob').grown hg (by simp; omega) (fun k hk => (HO.out.lt k hk).1))
        clear hki
        go_wp2_with (at_builtin; refine wpList_app_rd _ rfl (.tmp 14) (.tmp 17) _ rfl w.heap.size 9 i0 (.string ⟨#[]⟩) 1 i0.bytes Try.underlying35 HI0.out HZ0.out HZ1.out rfl HZ2.out (Nat.succ_pos _) (.slice O k cap) k (cellsT (downs (l.take i))) rfl ((HO.out.alloc _).alloc _) (wr.heap.size + 2) (some ⟨wr.heap.size + 1, 0, none⟩) 1 1 [.string (textOf x.name)] rfl (HROW.out _ x.name) (by simp [Value.oneCell']) H63.out HBY.out (HBS.out _ _) ?_; intro v1 w1 hown1 hg1 hat1; have O1 := Lib.hid hown1; have G1 := Lib.hid (HGR.out _ _ _ hg1); clear hown1 hg1 hat1)
        obtain ⟨O', cap', rfl, _, _⟩ := own_form O1.out
        go_roundw
        case rel => exact ⟨i + 1, O', cap', k + 1, by omega, rfl, by go_num, by have := HKI.out; omega, by rw [downs_yes l i HNL.out HX.out HD.out, List.length_append, HLEN.out]; rfl, by rw [downs_yes l i HNL.out HX.out HD.out, ← cellsT_snoc]; exact O1.out, G1.out⟩
        case measure => simp [intOf] <;> omega
    · obtain rfl : i = n := by omega
      have hd : decide ((i : Int) < i) = false := by simp
      have HL := Lib.hid (show l.take i = l from List.take_of_length_le (by rw [HN.out]; omega))
      go_wp2
      go_ret
      exact ⟨O, k, cap, rfl, by rw [← HL.out]; exact HLEN.out, by have := HO.out; rw [HL.out] at this; exact this, HB.out⟩
set_option maxHeartbeats 1000000 in
set_option maxRecDepth 100000 in
theorem refDown_any (l : List Hl) (A : Option Addr) (n c : Nat) (w : World) (hR : RdH w w.heap.size A n l) (hn : n ≤ 100000) :
    Calls Try.prog 22 #[.slice A n c] w (TxP w (downs l)) := by
  have HR := Lib.hid hR
  have HN := Lib.hid hR.1
  obtain ⟨i0, hi0, hz0, hz1, hzb⟩ := infoTx
  have HI0 := Lib.hid hi0
  have HZ0 := Lib.hid hz0
  have HZ1 := Lib.hid hz1
  have HZ2 := Lib.hid (show (Value.string ⟨#[]⟩).cells.size = 1 from rfl)
  clear hR hi0 hz0 hz1
  go_enter Try.func22, Try.ntmps22
  go_wp2
  go_loopw [3, 4] (fun s3 s8 wr => ∃ (i : Nat) (O : Option Addr) (cap k : Nat), i ≤ n ∧ s3 = .slice O k cap ∧ s8 = .int .i64 i ∧ k ≤ i ∧ (downs (l.take i)).length = k ∧ wr.ownsRow w.heap.size 9 1 (.slice O k cap) k (cellsT (downs (l.take i))) ∧ Below w.heap.size w wr) (fun _ s8 _ => n - (intOf s8).toNat)
  case atStart => exact ⟨0, none, 0, 0, by omega, rfl, rfl, by omega, by simp [downs], World.ownsRow_nil _ _ _ _, Below.refl _ _⟩
  case round =>
    obtain ⟨i, O, cap, k, hin, rfl, rfl, hki, hlen, ho, hb⟩ := hrel
    have HB := Lib.hid hb
    have HO := Lib.hid ho
    have HLEN := Lib.hid hlen
    have hsz := hb.size
    clear hb ho hlen
    by_cases hlt : i < n
    · have hi : (i : Int) < n := by omega
      obtain ⟨b, o, rfl, hbb, hh, hc, hnm, hdw⟩ := (HR.out.below HB.out).hl hlt
      obtain ⟨x, hx⟩ : ∃ x, x = l.getD i noHl := ⟨_, rfl⟩
      rw [← hx] at hc hnm hdw
      have HX := Lib.hid hx
      have hbs : b < wr.heap.size := by omega
      clear hx hbb
      have HNL := Lib.hid (show i < l.length by rw [HN.out]; exact hlt)
      cases hd : x.down
      · have HD := Lib.hid hd
        rw [hd] at hdw
        go_wp2
        go_roundw
        case rel => exact ⟨i + 1, O, cap, k, by omega, rfl, by go_num, by omega, by rw [downs_no l i HNL.out HX.out HD.out]; exact HLEN.out, by rw [downs_no l i HNL.out HX.out HD.out]; exact HO.out, HB.out⟩
        case measure => simp [intOf] <;> omega
      · have HD := Lib.hid hd
        rw [hd] at hdw
        have H63 := Lib.hid (show k + 1 ≤ maxLen by unfold maxLen; omega)
        have HBY := Lib.hid (show (k + 1) * i0.bytes ≤ 140737488355328 from Nat.le_trans (Nat.mul_le_mul (show k + 1 ≤ 100002 by omega) hzb) (by omega))
        have HKI := Lib.hid hki
        have HROW := Lib.hid (fun (s : List UInt8) => show Rd (wr.alloc (.cells #[.string (textOf s)] 9)) (wr.heap.size + 1) 1 (some ⟨wr.heap.size + 0, 0, none⟩) 1 [.string (textOf s)] from row_rdR wr (txA s) 1 rfl 9)
        have HBS := Lib.hid (fun ob => show w.heap.size ≤ (wr.alloc ob).heap.size by simp; omega)
        have HGR := Lib.hid (fun ob w1 (hg : (wr.alloc ob).grownBy w1 (Value.slice O k cap).ownBlock) => (HB.out.alloc hsz ob).grown hg (by simp; omega) (fun k hk => (HO.out.lt k hk).1))
        clear hki
        go_wp2_with (at_builtin; refine wpList_app_rd _ rfl (.tmp 16) (.tmp 22) _ rfl w.heap.size 9 i0 (.string ⟨#[]⟩) 1 i0.bytes Try.underlying35 HI0.out HZ0.out HZ1.out rfl HZ2.out (Nat.succ_pos _) (.slice O k cap) k (cellsT (downs (l.take i))) rfl (HO.out.alloc _) (wr.heap.size + 1) (some ⟨wr.heap.size + 0, 0, none⟩) 1 1 [.string (textOf x.name)] rfl (HROW.out  x.name) (by simp [Value.oneCell']) H63.out HBY.out (HBS.out _) ?_; intro v1 w1 hown1 hg1 hat1; have O1 := Lib.hid hown1; have G1 := Lib.hid (HGR.out _ _ hg1); clear hown1 hg1 hat1)
        obtain ⟨O', cap', rfl, _, _⟩ := own_form O1.out
        go_roundw
        case rel => exact ⟨i + 1, O', cap', k + 1, by omega, rfl, by go_num, by have := HKI.out; omega, by rw [downs_yes l i HNL.out HX.out HD.out, List.length_append, HLEN.out]; rfl, by rw [downs_yes l i HNL.out HX.out HD.out, ← cellsT_snoc]; exact O1.out, G1.out⟩
        case measure => simp [intOf] <;> omega
    · obtain rfl : i = n := by omega
      have hd : decide ((i : Int) < i) = false := by simp
      have HL := Lib.hid (show l.take i = l from List.take_of_length_le (by rw [HN.out]; omega))
      go_wp2
      go_ret
      exact ⟨O, k, cap, rfl, by rw [← HL.out]; exact HLEN.out, by have := HO.out; rw [HL.out] at this; exact this, HB.out⟩
end Go.Proofs.Ytjeeigdbfngjaaa
