/- The health of a name stepped: the document's way. -/
import Derived.Test.YtjeeigdbfngjaaaHeF
set_option linter.unusedSimpArgs false
set_option linter.unusedVariables false
namespace Go.Proofs.Ytjeeigdbfngjaaa
open Go.RowKit

set_option maxHeartbeats 4000000 in
set_option maxRecDepth 100000 in
theorem refSet_no (l : List Hl) (s : List UInt8) (well : Bool) (rise fall : Int) (A : Option Addr) (n c : Nat) (w : World) (hR : RdH w w.heap.size A n l) (hg : ∀ x ∈ l, okRun x) (hn : n ≤ 100000) (hp : posH l s = -1) :
    Calls Try.prog 24 #[.slice A n c, .string (textOf s), .bool well, .int .i64 rise, .int .i64 fall] w (SetP w n (setH l s well rise fall)) := by
  have HN := Lib.hid hR.1
  have HR := Lib.hid hR
  have HG := Lib.hid hg
  obtain ⟨i0, hi0, hz0, hz1, hzb⟩ := infoHl
  have HI0 := Lib.hid hi0
  have HZ0 := Lib.hid hz0
  have HZ1 := Lib.hid hz1
  have HZ2 := Lib.hid (show (Value.agg noHl.arr).cells.size = 3 by simp [Value.cells, Hl.arr_size])
  clear hR hg hi0 hz0 hz1
  have HS := Lib.hid (setH_no hp well rise fall)
  obtain ⟨L, hL⟩ : ∃ L, L = l := ⟨_, rfl⟩
  have HL := Lib.hid hL
  have HLN := Lib.hid (show L.length = n by rw [hL]; exact HN.out)
  have LO := Lib.hid (fun (i : Nat) => show L.getD i noHl = l.getD i noHl by rw [hL])
  have FIN := Lib.hid (refFind_any l s A n c w HR.out (by omega))
  rw [hp] at FIN
  clear hp hL
  go_enter Try.func24, Try.ntmps24
  go_wp2_with fail
  refine FIN.out.mono ?_
  rintro e w' ⟨rfl, rfl⟩
  go_wp2_with fail
  go_loopw [13, 14, 16] (fun s13 s14 s16 wr => ∃ (i : Nat) (O : Option Addr) (cap : Nat), i ≤ n ∧ s13 = .slice O i cap ∧ s14 = .bool false ∧ s16 = .int .i64 i ∧ wr.ownsRow w.heap.size 23 3 (.slice O i cap) i (cellsH (L.take i)) ∧ Below w.heap.size w wr) (fun _ _ s16 _ => n - (intOf s16).toNat)
  case atStart => exact ⟨0, none, 0, by omega, rfl, by simp, rfl, World.ownsRow_nil _ _ _ _, Below.refl _ _⟩
  case round =>
    obtain ⟨i, O, cap, hin, rfl, rfl, rfl, ho, hb⟩ := hrel
    have HB := Lib.hid hb
    have HO := Lib.hid ho
    have hsz := hb.size
    clear hb ho
    by_cases hlt : i < n
    · have hi : (i : Int) < n := by omega
      obtain ⟨b, o, rfl, hbb, hh, hc, _, _⟩ := (HR.out.below HB.out).hl hlt
      obtain ⟨x, hx⟩ : ∃ x, x = l.getD i noHl := ⟨_, rfl⟩
      rw [← hx] at hc
      have HX := Lib.hid hx
      have hbs : b < wr.heap.size := by omega
      clear hx hbb
      have H63 := Lib.hid (show i + 1 ≤ maxLen by unfold maxLen; omega)
      have HBY := Lib.hid (show (i + 1) * i0.bytes ≤ 140737488355328 from Nat.le_trans (Nat.mul_le_mul (show i + 1 ≤ 100002 by omega) hzb) (by omega))
      have SN := Lib.hid (fun y (h : L.getD i noHl = y) => show cellsH (L.take i) ++ y.arr.toList = cellsH (L.take (i + 1)) by rw [cellsH_snoc, ← h, take_snocR noHl L i (by rw [HLN.out]; exact hlt)])
      have hne : ((i : Int) == -1) = false := by rw [beq_eq_false_iff_ne]; omega
      · skip
        have W2 := Lib.hid (show Rd ((wr.alloc (.cells x.arr 23)).alloc (.cells x.arr 23)) (wr.heap.size + 1 + 1) 3 (some ⟨wr.heap.size + 1, 0, none⟩) 1 x.arr.toList by
          have h := row_rdR (wr.alloc (.cells x.arr 23)) x.arr 3 (Hl.arr_size x) 23
          rwa [show (wr.alloc (.cells x.arr 23)).heap.size = wr.heap.size + 1 by simp] at h)
        have BS := Lib.hid (show w.heap.size ≤ ((wr.alloc (.cells x.arr 23)).alloc (.cells x.arr 23)).heap.size by simp; omega)
        have OW := Lib.hid (own_alloc (own_alloc HO.out (.cells x.arr 23)) (.cells x.arr 23))
        have HGR := Lib.hid (fun w1 (hg : ((wr.alloc (.cells x.arr 23)).alloc (.cells x.arr 23)).grownBy w1 (Value.slice O i cap).ownBlock) => ((HB.out.alloc hsz (.cells x.arr 23)).alloc (by simp; omega) (.cells x.arr 23)).grown hg BS.out (fun k hk => (HO.out.lt k hk).1))
        go_wp2_with (at_builtin; refine wpList_app_rd _ rfl (.tmp 46) (.tmp 48) _ rfl w.heap.size 23 i0 (.agg noHl.arr) 3 i0.bytes Try.underlying34 HI0.out HZ0.out HZ1.out rfl HZ2.out (Nat.succ_pos _) (.slice O i cap) i (cellsH (L.take i)) rfl OW.out (wr.heap.size + 1 + 1) (some ⟨wr.heap.size + 1, 0, none⟩) 1 1 x.arr.toList rfl W2.out (by simp [Hl.arr, Value.oneCell']) H63.out HBY.out BS.out ?_; intro v1 w1 hown1 hg1 hat1; have O1 := Lib.hid hown1; have G1 := Lib.hid (HGR.out _ hg1); clear hown1 hg1 hat1)
        obtain ⟨O', cap', rfl, _, _⟩ := own_form O1.out
        go_roundw
        case rel => exact ⟨i + 1, O', cap', by omega, rfl, rfl, by go_num, by have h1 := O1.out; rw [SN.out x (by rw [LO.out i, ← HX.out])] at h1; exact h1, G1.out⟩
        case measure => simp [intOf] <;> omega
    · obtain rfl : i = n := by omega
      have hd : decide ((i : Int) < i) = false := by simp
      have OF := Lib.hid (show wr.ownsRow w.heap.size 23 3 (.slice O i cap) i (cellsH L) by have := HO.out; rwa [List.take_of_length_le (by rw [HLN.out]; omega)] at this)
      go_wp2_with fail
      go_ret3
      refine ⟨O, cap, by rw [HS.out]; rfl, by rw [HS.out]; rw [HL.out] at OF; exact OF.out, HB.out⟩
set_option maxHeartbeats 4000000 in
set_option maxRecDepth 100000 in
theorem refSet_yes (l : List Hl) (s : List UInt8) (well : Bool) (rise fall : Int) (A : Option Addr) (n c : Nat) (w : World) (hR : RdH w w.heap.size A n l) (hg : ∀ x ∈ l, okRun x) (hn : n ≤ 100000) (k : Nat) (hp : posH l s = k) (hk : k < l.length) :
    Calls Try.prog 24 #[.slice A n c, .string (textOf s), .bool well, .int .i64 rise, .int .i64 fall] w (SetP w n (setH l s well rise fall)) := by
  have HN := Lib.hid hR.1
  have HR := Lib.hid hR
  have HG := Lib.hid hg
  obtain ⟨i0, hi0, hz0, hz1, hzb⟩ := infoHl
  have HI0 := Lib.hid hi0
  have HZ0 := Lib.hid hz0
  have HZ1 := Lib.hid hz1
  have HZ2 := Lib.hid (show (Value.agg noHl.arr).cells.size = 3 by simp [Value.cells, Hl.arr_size])
  clear hR hg hi0 hz0 hz1
  have hkn : k < n := by rw [← HN.out]; exact hk
  obtain ⟨z, hz⟩ : ∃ z, z = l.getD k noHl := ⟨_, rfl⟩
  obtain ⟨⟨qx, qt⟩, hq⟩ : ∃ q, stepH z well rise fall = q := ⟨_, rfl⟩
  have HS := Lib.hid (setH_yes hp hz hq)
  have ST := Lib.hid (fun W => hq ▸ refStep_any z well rise fall W (HG.out z (by rw [hz]; exact getD_mem noHl l k hk)))
  have HZ := Lib.hid hz
  have HP := Lib.hid hp
  obtain ⟨L, hL⟩ : ∃ L, L = l.set k qx := ⟨_, rfl⟩
  have HL := Lib.hid hL
  have HLN := Lib.hid (show L.length = n by rw [hL, List.length_set]; exact HN.out)
  have LK := Lib.hid (show L.getD k noHl = qx by rw [hL, List.getD_eq_getElem?_getD, List.getElem?_set_self hk]; rfl)
  have LO := Lib.hid (fun i (h : i ≠ k) => show L.getD i noHl = l.getD i noHl by rw [hL, List.getD_eq_getElem?_getD, List.getElem?_set_ne (fun e => h e.symm), ← List.getD_eq_getElem?_getD])
  have FIN := Lib.hid (refFind_any l s A n c w HR.out (by omega))
  rw [hp] at FIN
  clear hz hq hp hk hL
  go_enter Try.func24, Try.ntmps24
  go_wp2_with fail
  refine FIN.out.mono ?_
  rintro e w' ⟨rfl, rfl⟩
  go_wp2_with fail
  go_loopw [13, 14, 16] (fun s13 s14 s16 wr => ∃ (i : Nat) (O : Option Addr) (cap : Nat), i ≤ n ∧ s13 = .slice O i cap ∧ s14 = .bool (decide (k < i) && qt) ∧ s16 = .int .i64 i ∧ wr.ownsRow w.heap.size 23 3 (.slice O i cap) i (cellsH (L.take i)) ∧ Below w.heap.size w wr) (fun _ _ s16 _ => n - (intOf s16).toNat)
  case atStart => exact ⟨0, none, 0, by omega, rfl, by simp, rfl, World.ownsRow_nil _ _ _ _, Below.refl _ _⟩
  case round =>
    obtain ⟨i, O, cap, hin, rfl, rfl, rfl, ho, hb⟩ := hrel
    have HB := Lib.hid hb
    have HO := Lib.hid ho
    have hsz := hb.size
    clear hb ho
    by_cases hlt : i < n
    · have hi : (i : Int) < n := by omega
      obtain ⟨b, o, rfl, hbb, hh, hc, _, _⟩ := (HR.out.below HB.out).hl hlt
      obtain ⟨x, hx⟩ : ∃ x, x = l.getD i noHl := ⟨_, rfl⟩
      rw [← hx] at hc
      have HX := Lib.hid hx
      have hbs : b < wr.heap.size := by omega
      clear hx hbb
      have H63 := Lib.hid (show i + 1 ≤ maxLen by unfold maxLen; omega)
      have HBY := Lib.hid (show (i + 1) * i0.bytes ≤ 140737488355328 from Nat.le_trans (Nat.mul_le_mul (show i + 1 ≤ 100002 by omega) hzb) (by omega))
      have SN := Lib.hid (fun y (h : L.getD i noHl = y) => show cellsH (L.take i) ++ y.arr.toList = cellsH (L.take (i + 1)) by rw [cellsH_snoc, ← h, take_snocR noHl L i (by rw [HLN.out]; exact hlt)])
      by_cases him : i = k
      · subst him
        have hee : ((i : Int) == (i : Int)) = true := by simp
        have hxz : x = z := by rw [HX.out, HZ.out]
        subst hxz
        have BX := Lib.hid (Box.new wr x.arr 23)
        go_wp2_with fail
        refine (ST.out _).mono ?_
        rintro e w2 ⟨rfl, hb2⟩
        have BX := Lib.hid (BX.out.go hb2)
        have BXA := Lib.hid (BX.out.alloc (.cells qx.arr 23))
        have th := BXA.out.there 0 3 (by rw [Hl.arr_size]; omega)
        have BY := Lib.hid (BXA.out.putHl (Hl.arr_size _) qx)
        obtain ⟨y1, y2, y3, y4⟩ := BY.out.facts
        have hne : ∀ ob, (w2.alloc ob).heap.size = w2.heap.size + 1 := fun ob => by simp
        have hsz2 : wr.heap.size + 1 ≤ w2.heap.size := by have := hb2.size; simpa using this
        have hbr : (Value.slice O i cap).ownBlock ≠ some wr.heap.size := fun e => absurd (HO.out.lt _ e).2 (Nat.lt_irrefl _)
        have OW := Lib.hid (show ((setHl (w2.alloc (.cells qx.arr 23)) wr.heap.size 0 qx).alloc (.cells qx.arr 23)).ownsRow w.heap.size 23 3 (.slice O i cap) i (cellsH (L.take i)) from
          own_alloc (own_setHl_ne (own_alloc (own_below (own_alloc HO.out _) hb2) _) hbr 0 qx) _)
        have B3 := Lib.hid (show Below w.heap.size w (setHl (w2.alloc (.cells qx.arr 23)) wr.heap.size 0 qx) from
          setHl_below (((HB.out.alloc hsz _).trans (hb2.mono (by simp; omega))).alloc (by omega) _) wr.heap.size 0 qx hsz)
        have hsz3 : w2.heap.size + 1 ≤ (setHl (w2.alloc (.cells qx.arr 23)) wr.heap.size 0 qx).heap.size := by
          have h := (setHl_grown (w := w2.alloc (.cells qx.arr 23)) (g := wr.heap.size) (World.grownBy.refl _ _) 0 qx).size
          simpa using h
        have W4 := Lib.hid (row_rdR (setHl (w2.alloc (.cells qx.arr 23)) wr.heap.size 0 qx) qx.arr 3 (Hl.arr_size qx) 23)
        have BS := Lib.hid (show w.heap.size ≤ ((setHl (w2.alloc (.cells qx.arr 23)) wr.heap.size 0 qx).alloc (.cells qx.arr 23)).heap.size by simp; omega)
        have HGR := Lib.hid (fun w1 (hg : ((setHl (w2.alloc (.cells qx.arr 23)) wr.heap.size 0 qx).alloc (.cells qx.arr 23)).grownBy w1 (Value.slice O i cap).ownBlock) => (B3.out.alloc (by omega) (.cells qx.arr 23)).grown hg BS.out (fun k hk => (HO.out.lt k hk).1))
        clear hb2 hh hc hsz3
        have hn0 : ∀ qt : Bool, (decide (i < i) && qt) = false := fun qt => by simp
        cases qt
        all_goals
          go_wp2_with (at_builtin; refine wpList_app_rd _ rfl (.tmp 46) (.tmp 48) _ rfl w.heap.size 23 i0 (.agg noHl.arr) 3 i0.bytes Try.underlying34 HI0.out HZ0.out HZ1.out rfl HZ2.out (Nat.succ_pos _) (.slice O i cap) i (cellsH (L.take i)) rfl OW.out ((setHl (w2.alloc (.cells qx.arr 23)) wr.heap.size 0 qx).heap.size + 1) (some ⟨(setHl (w2.alloc (.cells qx.arr 23)) wr.heap.size 0 qx).heap.size, 0, none⟩) 1 1 qx.arr.toList rfl W4.out (by simp [Hl.arr, Value.oneCell']) H63.out HBY.out BS.out ?_; intro v1 w1 hown1 hg1 hat1; have O1 := Lib.hid hown1; have G1 := Lib.hid (HGR.out _ hg1); clear hown1 hg1 hat1)
          obtain ⟨O', cap', rfl, _, _⟩ := own_form O1.out
          go_roundw
          case rel => exact ⟨i + 1, O', cap', by omega, rfl, by simp, by go_num, by have h1 := O1.out; rw [SN.out qx LK.out] at h1; exact h1, G1.out⟩
          case measure => simp [intOf] <;> omega
      · have hne : ((i : Int) == (k : Int)) = false := by rw [beq_eq_false_iff_ne]; omega
        have W2 := Lib.hid (show Rd ((wr.alloc (.cells x.arr 23)).alloc (.cells x.arr 23)) (wr.heap.size + 1 + 1) 3 (some ⟨wr.heap.size + 1, 0, none⟩) 1 x.arr.toList by
          have h := row_rdR (wr.alloc (.cells x.arr 23)) x.arr 3 (Hl.arr_size x) 23
          rwa [show (wr.alloc (.cells x.arr 23)).heap.size = wr.heap.size + 1 by simp] at h)
        have BS := Lib.hid (show w.heap.size ≤ ((wr.alloc (.cells x.arr 23)).alloc (.cells x.arr 23)).heap.size by simp; omega)
        have OW := Lib.hid (own_alloc (own_alloc HO.out (.cells x.arr 23)) (.cells x.arr 23))
        have HGR := Lib.hid (fun w1 (hg : ((wr.alloc (.cells x.arr 23)).alloc (.cells x.arr 23)).grownBy w1 (Value.slice O i cap).ownBlock) => ((HB.out.alloc hsz (.cells x.arr 23)).alloc (by simp; omega) (.cells x.arr 23)).grown hg BS.out (fun k hk => (HO.out.lt k hk).1))
        go_wp2_with (at_builtin; refine wpList_app_rd _ rfl (.tmp 46) (.tmp 48) _ rfl w.heap.size 23 i0 (.agg noHl.arr) 3 i0.bytes Try.underlying34 HI0.out HZ0.out HZ1.out rfl HZ2.out (Nat.succ_pos _) (.slice O i cap) i (cellsH (L.take i)) rfl OW.out (wr.heap.size + 1 + 1) (some ⟨wr.heap.size + 1, 0, none⟩) 1 1 x.arr.toList rfl W2.out (by simp [Hl.arr, Value.oneCell']) H63.out HBY.out BS.out ?_; intro v1 w1 hown1 hg1 hat1; have O1 := Lib.hid hown1; have G1 := Lib.hid (HGR.out _ hg1); clear hown1 hg1 hat1)
        obtain ⟨O', cap', rfl, _, _⟩ := own_form O1.out
        go_roundw
        case rel => exact ⟨i + 1, O', cap', by omega, rfl, by congr 1; congr 1; rw [decide_eq_decide]; omega, by go_num, by have h1 := O1.out; rw [SN.out x (by rw [LO.out i him, ← HX.out])] at h1; exact h1, G1.out⟩
        case measure => simp [intOf] <;> omega
    · obtain rfl : i = n := by omega
      have hd : decide ((i : Int) < i) = false := by simp
      have OF := Lib.hid (show wr.ownsRow w.heap.size 23 3 (.slice O i cap) i (cellsH L) by have := HO.out; rwa [List.take_of_length_le (by rw [HLN.out]; omega)] at this)
      have hb2 : decide (k < i) = true := by simp; omega
      have hk0 : decide ((k : Int) < 0) = false := by simp
      go_wp2_with fail
      go_ret3
      refine ⟨O, cap, by rw [HS.out]; simp; intro _; omega, by rw [HS.out, ← HL.out]; exact OF.out, HB.out⟩
end Go.Proofs.Ytjeeigdbfngjaaa
