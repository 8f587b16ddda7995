/- Tuples, flows, counts: equality by value. The document's flows and states: whether they are few, and alike. -/
import Derived.Test.YtmpemeemlhmaaaaGreatQ30
import Derived.Test.YtmpemeemlhmaaaaGreatQ27
set_option linter.unusedSimpArgs false
set_option linter.unusedVariables false
set_option maxRecDepth 100000
namespace Go.Proofs.YtmpemeemlhmaaaaGreat
open Go.RowKit

theorem eqItems_ints (d : Nat) (l m : List Int) (W : World) : ∀ is : List Nat, (∀ i ∈ is, i < l.length ∧ i < m.length) → (Op.eqItems (d + 1) 3 1 (intsC l) (intsC m) is).run Tryz.prog W = .ok (is.all fun i => l.getD i 0 == m.getD i 0) W
  | [], _ => by simp [Op.eqItems]
  | i :: is, h => by
    have hi := h i (by simp)
    have ih := eqItems_ints d l m W is (fun j hj => h j (by simp [hj]))
    have p1 : ∀ l : List Int, i < l.length → (part 3 (intsC l) (i * 1)).run Tryz.prog W = .ok (.int .i64 (l.getD i 0)) W := fun l hl =>
      part_one (by simp only [Tryz.underlying3]) (by rw [Nat.mul_one]; have := intsC_get l i hl; rwa [Nat.zero_add] at this) W
    simp only [Op.eqItems, Sem.run_bind, p1 l hi.1, p1 m hi.2, Result.andThen_ok, eq_int, List.all_cons]
    cases hb : (l.getD i 0 == m.getD i 0)
    · simp
    · simpa using ih
theorem cntC_ints (v : Vector Int 11) : cntC v = intsC v.toList := rfl
theorem vec_all (a b : Vector Int 11) : ((List.range 11).all fun i => a.toList.getD i 0 == b.toList.getD i 0) = decide (a = b) := by
  rw [Bool.eq_iff_iff]
  simp only [List.all_eq_true, List.mem_range, beq_iff_eq, decide_eq_true_eq]
  constructor
  · intro h
    apply Vector.ext
    intro i hi
    have := h i hi
    simpa [List.getD_eq_getElem?_getD, hi] using this
  · rintro rfl i _
    rfl
theorem run_eq_cnt (a b : Vector Int 11) (d : Nat) (W : World) : (Op.equalIn (d + 2) 27 (.agg (cntC a)) (.agg (cntC b))).run Tryz.prog W = .ok (decide (a = b)) W := by
  obtain ⟨i0, hi0, _, _⟩ := infoInt
  rw [run_equalIn_array W (d + 1) _ _ Tryz.underlying27 hi0, show Tryz.prog.cellsOf 3 = 1 by kernel_rfl, cntC_ints, cntC_ints, eqItems_ints d _ _ W _ (fun i hi => by simp at hi ⊢; exact hi), vec_all]
@[go_sem ↓] theorem eq_cnt (a b : Vector Int 11) (W : World) : (Op.equalIn 10000 27 (.agg (cntC a)) (.agg (cntC b))).run Tryz.prog W = .ok (decide (a = b)) W := run_eq_cnt a b 9998 W
theorem tu_fields : Tryz.prog.underlying 77 = some (.struct (Tryz.prog.fieldsOf 77)) := by
  simp only [Program.fieldsOf, Tryz.underlying77]
theorem tu_list : ∃ f1 f2 f3 f4 f5 : Field, (Tryz.prog.fieldsOf 77).toList = [f1, f2, f3, f4, f5] ∧ (f1.name ≠ "_" ∧ f2.name ≠ "_" ∧ f3.name ≠ "_" ∧ f4.name ≠ "_" ∧ f5.name ≠ "_") ∧ (f1.type = 56 ∧ f1.offset = 0) ∧ (f2.type = 56 ∧ f2.offset = 17) ∧ (f3.type = 3 ∧ f3.offset = 34) ∧ (f4.type = 3 ∧ f4.offset = 35) ∧ (f5.type = 3 ∧ f5.offset = 36) := by
  refine ⟨_, _, _, _, _, by simp only [Program.fieldsOf, Tryz.underlying77]; rfl, ⟨?_, ?_, ?_, ?_, ?_⟩, ⟨rfl, rfl⟩, ⟨rfl, rfl⟩, ⟨rfl, rfl⟩, ⟨rfl, rfl⟩, ⟨rfl, rfl⟩⟩ <;> decide
theorem run_eq_tu (x y : Tu) (d : Nat) (W : World) : (Op.equalIn (d + 4) 77 (.agg x.arr) (.agg y.arr)).run Tryz.prog W = .ok (decide (x = y)) W := by
  rw [run_equalIn_struct W (d + 3) _ _ _ tu_fields Tryz.stoodInHeld77]
  obtain ⟨f1, f2, f3, f4, f5, hl, ⟨n1, n2, n3, n4, n5⟩, ⟨t1, o1⟩, ⟨t2, o2⟩, ⟨t3, o3⟩, ⟨t4, o4⟩, ⟨t5, o5⟩⟩ := tu_list
  rw [hl]
  have p1 : ∀ z : Tu, (part f1.type z.arr f1.offset).run Tryz.prog W = .ok (.agg z.src.arr) W := fun z => by
    rw [t1, o1, part_row (n := 17) (by simp only [Tryz.underlying56]) (by kernel_rfl) z.arr 0 W, Tu.extract_s]
  have p2 : ∀ z : Tu, (part f2.type z.arr f2.offset).run Tryz.prog W = .ok (.agg z.dst.arr) W := fun z => by
    rw [t2, o2, part_row (n := 17) (by simp only [Tryz.underlying56]) (by kernel_rfl) z.arr 17 W, show 17 + 17 = 34 from rfl, Tu.extract_d]
  have p3 : ∀ z : Tu, (part f3.type z.arr f3.offset).run Tryz.prog W = .ok (.int .i64 z.proto) W := fun z => by
    rw [t3, o3]; exact part_one (by simp only [Tryz.underlying3]) (Tu.arr_34 z) W
  have p4 : ∀ z : Tu, (part f4.type z.arr f4.offset).run Tryz.prog W = .ok (.int .i64 z.sport) W := fun z => by
    rw [t4, o4]; exact part_one (by simp only [Tryz.underlying3]) (Tu.arr_35 z) W
  have p5 : ∀ z : Tu, (part f5.type z.arr f5.offset).run Tryz.prog W = .ok (.int .i64 z.dport) W := fun z => by
    rw [t5, o5]; exact part_one (by simp only [Tryz.underlying3]) (Tu.arr_36 z) W
  rw [show decide (x = y) = (decide (x.src = y.src) && (decide (x.dst = y.dst) && ((x.proto == y.proto) && ((x.sport == y.sport) && ((x.dport == y.dport) && true))))) by
    rw [Bool.eq_iff_iff]; cases x; cases y; simp]
  exact eqFields_cons _ _ _ _ _ n1 W _ _ _ _ (p1 x) (p1 y) (by rw [t1]; exact run_eq_adr _ _ d W)
    (eqFields_cons _ _ _ _ _ n2 W _ _ _ _ (p2 x) (p2 y) (by rw [t2]; exact run_eq_adr _ _ d W)
    (eqFields_cons _ _ _ _ _ n3 W _ _ _ _ (p3 x) (p3 y) (by rw [t3]; exact eq_int _ _ _ W)
    (eqFields_cons _ _ _ _ _ n4 W _ _ _ _ (p4 x) (p4 y) (by rw [t4]; exact eq_int _ _ _ W)
    (eqFields_cons _ _ _ _ _ n5 W _ _ _ _ (p5 x) (p5 y) (by rw [t5]; exact eq_int _ _ _ W) (by simp [Op.eqFields])))))
@[go_sem ↓] theorem eq_tu (x y : Tu) (W : World) : (Op.equalIn 10000 77 (.agg x.arr) (.agg y.arr)).run Tryz.prog W = .ok (decide (x = y)) W := run_eq_tu x y 9996 W
theorem fw_fields : Tryz.prog.underlying 79 = some (.struct (Tryz.prog.fieldsOf 79)) := by
  simp only [Program.fieldsOf, Tryz.underlying79]
theorem fw_list : ∃ f1 f2 f3 f4 f5 : Field, (Tryz.prog.fieldsOf 79).toList = [f1, f2, f3, f4, f5] ∧ (f1.name ≠ "_" ∧ f2.name ≠ "_" ∧ f3.name ≠ "_" ∧ f4.name ≠ "_" ∧ f5.name ≠ "_") ∧ (f1.type = 77 ∧ f1.offset = 0) ∧ (f2.type = 9 ∧ f2.offset = 37) ∧ (f3.type = 3 ∧ f3.offset = 38) ∧ (f4.type = 3 ∧ f4.offset = 39) ∧ (f5.type = 3 ∧ f5.offset = 40) := by
  refine ⟨_, _, _, _, _, by simp only [Program.fieldsOf, Tryz.underlying79]; rfl, ⟨?_, ?_, ?_, ?_, ?_⟩, ⟨rfl, rfl⟩, ⟨rfl, rfl⟩, ⟨rfl, rfl⟩, ⟨rfl, rfl⟩, ⟨rfl, rfl⟩⟩ <;> decide
theorem run_eq_fw (x y : Fw) (d : Nat) (W : World) : (Op.equalIn (d + 5) 79 (.agg x.arr) (.agg y.arr)).run Tryz.prog W = .ok (decide (x = y)) W := by
  rw [run_equalIn_struct W (d + 4) _ _ _ fw_fields Tryz.stoodInHeld79]
  obtain ⟨f1, f2, f3, f4, f5, hl, ⟨n1, n2, n3, n4, n5⟩, ⟨t1, o1⟩, ⟨t2, o2⟩, ⟨t3, o3⟩, ⟨t4, o4⟩, ⟨t5, o5⟩⟩ := fw_list
  rw [hl]
  have p1 : ∀ z : Fw, (part f1.type z.arr f1.offset).run Tryz.prog W = .ok (.agg z.key.arr) W := fun z => by
    rw [t1, o1, part_row (n := 37) (by simp only [Tryz.underlying77]) (by kernel_rfl) z.arr 0 W, Nat.zero_add, Fw.extract_key]
  have p2 : ∀ z : Fw, (part f2.type z.arr f2.offset).run Tryz.prog W = .ok (.string (textOf z.name)) W := fun z => by
    rw [t2, o2]; exact part_one (by simp only [Tryz.underlying9]) (Fw.arr_37 z) W
  have p3 : ∀ z : Fw, (part f3.type z.arr f3.offset).run Tryz.prog W = .ok (.int .i64 z.state) W := fun z => by
    rw [t3, o3]; exact part_one (by simp only [Tryz.underlying3]) (Fw.arr_38 z) W
  have p4 : ∀ z : Fw, (part f4.type z.arr f4.offset).run Tryz.prog W = .ok (.int .i64 z.seen) W := fun z => by
    rw [t4, o4]; exact part_one (by simp only [Tryz.underlying3]) (Fw.arr_39 z) W
  have p5 : ∀ z : Fw, (part f5.type z.arr f5.offset).run Tryz.prog W = .ok (.int .i64 z.no) W := fun z => by
    rw [t5, o5]; exact part_one (by simp only [Tryz.underlying3]) (Fw.arr_40 z) W
  rw [show decide (x = y) = (decide (x.key = y.key) && ((x.name == y.name) && ((x.state == y.state) && ((x.seen == y.seen) && ((x.no == y.no) && true))))) by
    rw [Bool.eq_iff_iff]; cases x; cases y; simp]
  exact eqFields_cons _ _ _ _ _ n1 W _ _ _ _ (p1 x) (p1 y) (by rw [t1]; exact run_eq_tu _ _ d W)
    (eqFields_cons _ _ _ _ _ n2 W _ _ _ _ (p2 x) (p2 y) (by rw [t2]; exact eq_string _ _ _ W)
    (eqFields_cons _ _ _ _ _ n3 W _ _ _ _ (p3 x) (p3 y) (by rw [t3]; exact eq_int _ _ _ W)
    (eqFields_cons _ _ _ _ _ n4 W _ _ _ _ (p4 x) (p4 y) (by rw [t4]; exact eq_int _ _ _ W)
    (eqFields_cons _ _ _ _ _ n5 W _ _ _ _ (p5 x) (p5 y) (by rw [t5]; exact eq_int _ _ _ W) (by simp [Op.eqFields])))))
@[go_sem ↓] theorem eq_fw (x y : Fw) (W : World) : (Op.equalIn 10000 79 (.agg x.arr) (.agg y.arr)).run Tryz.prog W = .ok (decide (x = y)) W := run_eq_fw x y 9995 W
def namesF2 (l : List Fw) : List (List UInt8) := l.map (·.name)
theorem namesF2_get (l : List Fw) (i : Nat) : (namesF2 l).getD i [] = (l.getD i noFw).name := by
  unfold namesF2
  rw [List.getD_eq_getElem?_getD, List.getD_eq_getElem?_getD, List.getElem?_map]
  cases l[i]? <;> rfl
def fewF (l : List Fw) : Bool := decide (l.length ≤ 80) && (List.range l.length).all (fun i => decide (((namesF2 l).getD i []).length ≤ 60))
set_option maxRecDepth 100000 in
theorem fewF_any (l : List Fw) (A : Option Addr) (n c : Nat) (w : World) (hR : RdR Fw.arr 41 w w.heap.size A n l) (hn : n ≤ 9223372036854775807) :
    Calls Tryz.prog 30 #[.slice A n c] w fun e w' => e = .returned (.bool (fewF l)) ∧ w = w' := by
  have HR := Lib.hid hR
  have HN := Lib.hid hR.1
  clear hR
  have HFW := Lib.hid (show fewF l = (decide (n ≤ 80) && (List.range n).all (fun i => decide (((namesF2 l).getD i []).length ≤ 60))) from by unfold fewF; rw [HN.out])
  go_enter Tryz.func30, Tryz.ntmps30
  go_wp2
  go_loop [3] (fun s3 => ∃ i : Nat, i ≤ n ∧ i ≤ 100 ∧ s3 = .int .i64 i ∧ ∀ k, k < i → ((namesF2 l).getD k []).length ≤ 60) (fun s3 => n - (intOf s3).toNat)
  case atStart => exact ⟨0, by omega, by omega, rfl, fun k hk => by omega⟩
  case round =>
    obtain ⟨i, hin, hi60, rfl, hall⟩ := hrel
    have HA := Lib.hid hall
    clear hall
    by_cases hlt : i < n
    · have hi : (i : Int) < n := by omega
      by_cases h6 : i < 100
      · have hi6 : (i : Int) < 100 := by omega
        obtain ⟨b, o, rfl, hbb, hc0⟩ := RdR.cell Fw.arr_size noFw HR.out hlt
        have hc := (hc0 37 (by omega)).trans (Fw.arr_37 _)
        clear hc0
        clear hbb
        obtain ⟨pn, hp⟩ : ∃ pn, pn = (namesF2 l).getD i [] := ⟨_, rfl⟩
        rw [← namesF2_get, ← hp] at hc
        have HP := Lib.hid hp
        clear hp
        by_cases hq : pn.length ≤ 60
        · have hq1 : (pn.length : Int) ≤ 60 := by omega
          go_wp2
          go_round
          case rel => exact ⟨i + 1, by omega, by omega, by go_num, fun k hk => by
            by_cases hki : k = i
            · rw [hki, ← HP.out]; exact hq
            · exact HA.out k (by omega)⟩
          case measure => simp [intOf] <;> omega
        · have hq1 : ¬ (pn.length : Int) ≤ 60 := by omega
          have hq2 : (60 : Int) < pn.length := by omega
          have HF := Lib.hid (show fewF l = false by rw [HFW.out, range_all_false _ i _ hlt (by rw [← HP.out]; simpa using hq)]; simp)
          go_wp2
          go_ret
          exact ⟨by rw [HF.out]; rfl, rfl⟩
      · have hd : decide ((i : Int) < 100) = false := by simp; omega
        have HF := Lib.hid (show fewF l = decide ((n : Int) ≤ 80) by
          rw [HFW.out, show decide (n ≤ 80) = false from decide_eq_false (by omega), show decide ((n : Int) ≤ 80) = false from decide_eq_false (by omega)]; rfl)
        go_wp2
        go_ret
        exact ⟨by rw [HF.out]; rfl, rfl⟩
    · obtain rfl : i = n := by omega
      have hd : decide ((i : Int) < i) = false := by simp
      have HF := Lib.hid (show fewF l = decide ((i : Int) ≤ 80) by
        rw [HFW.out, List.all_eq_true.2 (fun k hk => decide_eq_true (HA.out k (List.mem_range.1 hk))), Bool.and_true]
        rw [decide_eq_decide]; omega)
      go_wp2
      go_ret
      exact ⟨by rw [HF.out]; rfl, rfl⟩
set_option maxRecDepth 100000 in
theorem sameF_any (l m : List Fw) (A B : Option Addr) (n k c d : Nat) (w : World) (hR : RdR Fw.arr 41 w w.heap.size A n l) (hT : RdR Fw.arr 41 w w.heap.size B k m) (hn : n ≤ 4611686018427387904) (hk : k ≤ 4611686018427387904) :
    Calls Tryz.prog 61 #[.slice A n c, .slice B k d] w fun e w' => e = .returned (.bool (decide (l = m))) ∧ Below w.heap.size w w' := by
  have HR := Lib.hid hR
  have HT := Lib.hid hT
  have HN := Lib.hid hR.1
  have HK := Lib.hid hT.1
  clear hR hT
  by_cases hlm : n = k
  rotate_left
  · have hne : ((n : Int) != (k : Int)) = true := by rw [bne_iff_ne]; omega
    have HF := Lib.hid (show decide (l = m) = false from decide_eq_false (fun e => hlm (by rw [← HN.out, ← HK.out, e])))
    clear hlm
    go_enter Tryz.func61, Tryz.ntmps61
    go_wp2
    go_ret
    exact ⟨by rw [HF.out]; rfl, Below.refl _ _⟩
  subst hlm
  have hbn : ((n : Int) != (n : Int)) = false := by simp
  go_enter Tryz.func61, Tryz.ntmps61
  go_wp2
  go_loopw [5] (fun s5 wr => ∃ i : Nat, i ≤ n ∧ s5 = .int .i64 i ∧ l.take i = m.take i ∧ Below w.heap.size w wr) (fun s5 _ => n - (intOf s5).toNat)
  case atStart => exact ⟨0, by omega, rfl, rfl, Below.refl _ _⟩
  case round =>
    obtain ⟨i, hin, rfl, hall, hb⟩ := hrel
    have HA := Lib.hid hall
    have HB := Lib.hid hb
    clear hall hb
    by_cases hlt : i < n
    · have hi : (i : Int) < n := by omega
      obtain ⟨b, o, rfl, hbb, hh, hc⟩ := RdR.fw (HR.out.below HB.out) hlt
      obtain ⟨b2, o2, rfl, hbb2, hh2, hc2⟩ := RdR.fw (HT.out.below HB.out) hlt
      obtain ⟨x, hx⟩ : ∃ x, x = l.getD i noFw := ⟨_, rfl⟩
      obtain ⟨y, hy⟩ : ∃ y, y = m.getD i noFw := ⟨_, rfl⟩
      rw [← hx] at hc
      rw [← hy] at hc2
      have HX := Lib.hid hx
      have HY := Lib.hid hy
      clear hx hy hbb hbb2
      by_cases hq : x = y
      · have he : decide (x = y) = true := by simpa using hq
        have HS := Lib.hid (show l.take (i + 1) = m.take (i + 1) by
          rw [← take_snocR noFw l i (by rw [HN.out]; exact hlt), ← take_snocR noFw m i (by rw [HK.out]; exact hlt), HA.out, ← HX.out, ← HY.out, hq])
        clear hq
        go_wp2
        go_quiet (fail)
        go_wp2
        go_roundw
        case rel => exact ⟨i + 1, by omega, by go_num, HS.out, below_drewN HB.out _⟩
        case measure => simp [intOf] <;> omega
      · have he : decide (x = y) = false := by simpa using hq
        have HF := Lib.hid (show decide (l = m) = false from decide_eq_false (fun e => hq (by rw [HX.out, HY.out, e])))
        clear hq
        go_wp2
        go_quiet (fail)
        go_wp2
        go_ret
        exact ⟨by rw [HF.out]; rfl, below_drewN HB.out _⟩
    · obtain rfl : i = n := by omega
      have hd : decide ((i : Int) < i) = false := by simp
      have HT2 := Lib.hid (show decide (l = m) = true from decide_eq_true (by
        have := HA.out
        rwa [List.take_of_length_le (by rw [HN.out]; omega), List.take_of_length_le (by rw [HK.out]; omega)] at this))
      go_wp2
      go_ret
      exact ⟨by rw [HT2.out]; rfl, HB.out⟩
end Go.Proofs.YtmpemeemlhmaaaaGreat

namespace Go.Proofs.YtmpemeemlhmaaaaGreat
open Go.RowKit

theorem rFew_any (l : List Bk) (v : Int) (A : Option Addr) (n c : Nat) (w : World) (hR : RdR Bk.arr 27 w w.heap.size A n l) (hn : n ≤ 9223372036854775807) (K : Bool) (hK : few l = K) :
    Calls Tryz.prog 19 #[.agg #[.int .i64 v, .slice A n c]] w fun e w' => e = .returned (.bool K) ∧ Below w.heap.size w w' := by
  subst hK
  obtain rfl := hR.1
  exact fewBk_any l v A c w hR hn
theorem rSame_any (l m : List Bk) (hf : ∀ x ∈ l, x.fine) (hg : ∀ x ∈ m, x.fine) (v v' : Int) (A B : Option Addr) (n n' c d : Nat) (w : World) (hR : RdR Bk.arr 27 w w.heap.size A n l) (hT : RdR Bk.arr 27 w w.heap.size B n' m) (hn : n ≤ 4611686018427387903) (hm : n' ≤ 4611686018427387903) (K : Bool) (hK : twins v l v' m = K) :
    Calls Tryz.prog 24 #[.agg #[.int .i64 v, .slice A n c], .agg #[.int .i64 v', .slice B n' d]] w fun e w' => e = .returned (.bool K) ∧ Below w.heap.size w w' := by
  subst hK
  obtain rfl := hR.1
  obtain rfl := hT.1
  exact refSamePool_any l m hf hg v v' A B c d w hR hT (by omega) (by omega)
/-- a state's cells read as s, however long its rows are -/
structure StW (w : World) (B : Nat) (x : Sh) (s : Sta) : Prop where
  ver : x.ver = s.ver
  b : RdR Bk.arr 27 w B x.b.A x.b.n s.bks
  h : RdR Hl.arr 3 w B x.h.A x.h.n s.hls
  f : RdR Fw.arr 41 w B x.f.A x.f.n s.fws
  tick : x.tick = s.tick
  no : x.no = s.no
  cnt : x.cnt = s.cnt
  fine : ∀ y ∈ s.bks, y.fine
  fineh : ∀ y ∈ s.hls, y.name.length ≤ 9223372036854775807
  finef : ∀ y ∈ s.fws, y.name.length ≤ 9223372036854775807
  nb : x.b.n ≤ 9223372036854775807
  nh : x.h.n ≤ 9223372036854775807
  nf : x.f.n ≤ 9223372036854775807
theorem StW.go {w w' : World} {x : Sh} {s : Sta} (h : StW w w.heap.size x s) (hb : Below w.heap.size w w') : StW w' w'.heap.size x s := ⟨h.ver, h.b.go hb, h.h.go hb, h.f.go hb, h.tick, h.no, h.cnt, h.fine, h.fineh, h.finef, h.nb, h.nh, h.nf⟩
def fewSt (s : Sta) : Bool := few s.bks && fewT (namesH s.hls) && fewF s.fws
def sameSt (s t : Sta) : Bool := twins s.ver s.bks t.ver t.bks && decide (s.hls = t.hls) && decide (s.fws = t.fws) && (s.tick == t.tick) && (s.no == t.no) && decide (s.cnt = t.cnt)
set_option maxRecDepth 100000 in
set_option maxHeartbeats 4000000 in
theorem fewState_any (x : Sh) (s : Sta) (w : World) (h : StW w w.heap.size x s) (J : Bool) (hJ : fewSt s = J) :
    Calls Tryz.prog 11 #[.agg x.arr] w fun e w' => e = .returned (.bool J) ∧ Below w.heap.size w w' := by
  obtain ⟨vv, ⟨bA, bn, bc⟩, ⟨gA, gn, gc⟩, ⟨fA, fn, fc⟩, tk, nn, ct⟩ := x
  have B0 := Lib.hid (Box.new w (Sh.mk vv ⟨bA, bn, bc⟩ ⟨gA, gn, gc⟩ ⟨fA, fn, fc⟩ tk nn ct).arr 29)
  have HB0 := Lib.hid ((Below.refl w.heap.size w).alloc (Nat.le_refl _) (.cells (Sh.mk vv ⟨bA, bn, bc⟩ ⟨gA, gn, gc⟩ ⟨fA, fn, fc⟩ tk nn ct).arr 29))
  have HS := Lib.hid h
  obtain ⟨x1, x2, x3, x4⟩ := B0.out.facts
  have hl0 := B0.out.lt
  have hbn : bn ≤ 9223372036854775807 := h.nb
  have hgn : gn ≤ 9223372036854775807 := h.nh
  have hfn : fn ≤ 9223372036854775807 := h.nf
  obtain ⟨K1, hK1⟩ : ∃ K, few s.bks = K := ⟨_, rfl⟩
  obtain ⟨K2, hK2⟩ : ∃ K, fewT (namesH s.hls) = K := ⟨_, rfl⟩
  obtain ⟨K3, hK3⟩ : ∃ K, fewF s.fws = K := ⟨_, rfl⟩
  have HJ := Lib.hid (show J = (K1 && K2 && K3) by rw [← hJ, ← hK1, ← hK2, ← hK3]; rfl)
  have P1 := Lib.hid (rFew_any s.bks vv bA bn bc _ ((h.go HB0.out).b) (by omega) K1 hK1)
  have P2 := Lib.hid (fun W (hb : Below w.heap.size w W) => few_any s.hls gA gn gc W (HS.out.h.go hb) (by omega))
  have P3 := Lib.hid (fun W (hb : Below w.heap.size w W) => fewF_any s.fws fA fn fc W (HS.out.f.go hb) (by omega))
  rw [hK2] at P2
  rw [hK3] at P3
  clear h hK1 hK2 hK3 hJ hbn hgn hfn
  go_enter Tryz.func11, Tryz.ntmps11
  go_wp2_with fail
  (with_reducible refine P1.out.mono ?_)
  rintro e w1 ⟨rfl, hb1⟩
  have HB1 := Lib.hid (below2 HB0.out hb1)
  have B1 := Lib.hid (B0.out.go hb1)
  clear hb1 x1 x2 x3 x4 hl0
  obtain ⟨x1, x2, x3, x4⟩ := B1.out.facts
  have hl0 := B1.out.lt
  cases K1
  · go_wp2
    go_ret
    exact ⟨by rw [HJ.out]; rfl, HB1.out⟩
  go_wp2_with fail
  (with_reducible refine (P2.out _ HB1.out).mono ?_)
  rintro e w2 ⟨rfl, rfl⟩
  cases K2
  · go_wp2
    go_ret
    exact ⟨by rw [HJ.out]; rfl, HB1.out⟩
  go_wp2_with fail
  (with_reducible refine (P3.out _ HB1.out).mono ?_)
  rintro e w3 ⟨rfl, rfl⟩
  go_wp2
  go_ret
  exact ⟨by rw [HJ.out]; rfl, HB1.out⟩
theorem few_small {s : Sta} (h : fewSt s = true) : s.bks.length ≤ 40 ∧ s.hls.length ≤ 50 ∧ s.fws.length ≤ 80 := by
  unfold fewSt at h
  simp only [Bool.and_eq_true] at h
  obtain ⟨⟨h1, h2⟩, h3⟩ := h
  refine ⟨?_, ?_, ?_⟩
  · unfold few at h1; simp at h1; exact h1.2
  · have := fewT_le h2; rwa [namesH_len] at this
  · unfold fewF at h3; simp at h3; exact h3.1
theorem StW.strong {w : World} {B : Nat} {x : Sh} {s : Sta} (h : StW w B x s) (hf : fewSt s = true) : StR w B x s := by
  obtain ⟨h1, h2, h3⟩ := few_small hf
  have e1 := h.b.1
  have e2 := h.h.1
  have e3 := h.f.1
  exact ⟨h.ver, h.b, h.h, h.f, h.tick, h.no, h.cnt, h.fine, h.fineh, h.finef, by omega, by omega, by omega⟩
set_option maxRecDepth 100000 in
set_option maxHeartbeats 4000000 in
theorem sameState_any (x y : Sh) (s t : Sta) (w : World) (h : StR w w.heap.size x s) (k : StR w w.heap.size y t) (J : Bool) (hJ : sameSt s t = J) :
    Calls Tryz.prog 18 #[.agg x.arr, .agg y.arr] w fun e w' => e = .returned (.bool J) ∧ Below w.heap.size w w' := by
  obtain ⟨v1, ⟨bA, bn, bc⟩, ⟨gA, gn, gc⟩, ⟨fA, fn, fc⟩, tk, nn, ct⟩ := x
  obtain ⟨v2, ⟨bA2, bn2, bc2⟩, ⟨gA2, gn2, gc2⟩, ⟨fA2, fn2, fc2⟩, tk2, nn2, ct2⟩ := y
  obtain rfl : v1 = s.ver := h.ver
  obtain rfl : tk = s.tick := h.tick
  obtain rfl : nn = s.no := h.no
  obtain rfl : ct = s.cnt := h.cnt
  obtain rfl : v2 = t.ver := k.ver
  obtain rfl : tk2 = t.tick := k.tick
  obtain rfl : nn2 = t.no := k.no
  obtain rfl : ct2 = t.cnt := k.cnt
  obtain ⟨W1, hW1⟩ : ∃ W1, W1 = (w.alloc (.cells (Sh.mk s.ver ⟨bA, bn, bc⟩ ⟨gA, gn, gc⟩ ⟨fA, fn, fc⟩ s.tick s.no s.cnt).arr 29)).alloc (.cells (Sh.mk t.ver ⟨bA2, bn2, bc2⟩ ⟨gA2, gn2, gc2⟩ ⟨fA2, fn2, fc2⟩ t.tick t.no t.cnt).arr 29) := ⟨_, rfl⟩
  have HB0 := Lib.hid (show Below w.heap.size w W1 by rw [hW1]; exact ((Below.refl w.heap.size w).alloc (Nat.le_refl _) _).alloc (by simp) _)
  have B0 := Lib.hid (show Box W1 w.heap.size (Sh.mk s.ver ⟨bA, bn, bc⟩ ⟨gA, gn, gc⟩ ⟨fA, fn, fc⟩ s.tick s.no s.cnt).arr by rw [hW1]; exact (Box.new w _ _).alloc _)
  have C0 := Lib.hid (show Box W1 (w.heap.size + 1) (Sh.mk t.ver ⟨bA2, bn2, bc2⟩ ⟨gA2, gn2, gc2⟩ ⟨fA2, fn2, fc2⟩ t.tick t.no t.cnt).arr by rw [hW1]; exact Box.new1 w _ _ _)
  have HS := Lib.hid h
  have HT := Lib.hid k
  obtain ⟨x1, x2, x3, x4⟩ := B0.out.facts
  have hl0 := B0.out.lt
  obtain ⟨y1, y2, y3, y4⟩ := C0.out.facts
  have hl1 := C0.out.lt
  obtain ⟨K1, hK1⟩ : ∃ K, twins s.ver s.bks t.ver t.bks = K := ⟨_, rfl⟩
  obtain ⟨K2, hK2⟩ : ∃ K, decide (s.hls = t.hls) = K := ⟨_, rfl⟩
  obtain ⟨K3, hK3⟩ : ∃ K, decide (s.fws = t.fws) = K := ⟨_, rfl⟩
  have HJ := Lib.hid (show J = (K1 && K2 && K3 && (s.tick == t.tick) && (s.no == t.no) && decide (s.cnt = t.cnt)) by rw [← hJ, ← hK1, ← hK2, ← hK3]; rfl)
  have P1 := Lib.hid (rSame_any s.bks t.bks h.fine k.fine s.ver t.ver bA bA2 bn bn2 bc bc2 W1 ((h.go HB0.out).b) ((k.go HB0.out).b) h.nb k.nb K1 hK1)
  have P2 := Lib.hid (fun W (hb : Below w.heap.size w W) => sameH_any s.hls t.hls gA gA2 gn gn2 gc gc2 W (HS.out.h.go hb) (HT.out.h.go hb) (Nat.le_succ_of_le HS.out.nh) (Nat.le_succ_of_le HT.out.nh))
  have P3 := Lib.hid (fun W (hb : Below w.heap.size w W) => sameF_any s.fws t.fws fA fA2 fn fn2 fc fc2 W (HS.out.f.go hb) (HT.out.f.go hb) (Nat.le_succ_of_le HS.out.nf) (Nat.le_succ_of_le HT.out.nf))
  rw [hK2] at P2
  rw [hK3] at P3
  clear h k hK1 hK2 hK3 hJ
  subst hW1
  go_enter Tryz.func18, Tryz.ntmps18
  go_wp2_with fail
  (with_reducible refine P1.out.mono ?_)
  rintro e w1 ⟨rfl, hb1⟩
  have HB1 := Lib.hid (below2 HB0.out hb1)
  have B1 := Lib.hid (B0.out.go hb1)
  have C1 := Lib.hid (C0.out.go hb1)
  clear hb1 x1 x2 x3 x4 hl0 y1 y2 y3 y4 hl1
  obtain ⟨x1, x2, x3, x4⟩ := B1.out.facts
  have hl0 := B1.out.lt
  obtain ⟨y1, y2, y3, y4⟩ := C1.out.facts
  have hl1 := C1.out.lt
  cases K1
  · go_wp2
    go_ret
    exact ⟨by rw [HJ.out]; rfl, HB1.out⟩
  go_wp2_with fail
  (with_reducible refine (P2.out _ HB1.out).mono ?_)
  rintro e w2 ⟨rfl, hb2⟩
  have HB2 := Lib.hid (below2 HB1.out hb2)
  have B2 := Lib.hid (B1.out.go hb2)
  have C2 := Lib.hid (C1.out.go hb2)
  clear hb2 x1 x2 x3 x4 hl0 y1 y2 y3 y4 hl1
  obtain ⟨x1, x2, x3, x4⟩ := B2.out.facts
  have hl0 := B2.out.lt
  obtain ⟨y1, y2, y3, y4⟩ := C2.out.facts
  have hl1 := C2.out.lt
  cases K2
  · go_wp2
    go_ret
    exact ⟨by rw [HJ.out]; rfl, HB2.out⟩
  go_wp2_with fail
  (with_reducible refine (P3.out _ HB2.out).mono ?_)
  rintro e w3 ⟨rfl, hb3⟩
  have HB3 := Lib.hid (below2 HB2.out hb3)
  have B3 := Lib.hid (B2.out.go hb3)
  have C3 := Lib.hid (C2.out.go hb3)
  clear hb3 x1 x2 x3 x4 hl0 y1 y2 y3 y4 hl1
  obtain ⟨x1, x2, x3, x4⟩ := B3.out.facts
  have hl0 := B3.out.lt
  obtain ⟨y1, y2, y3, y4⟩ := C3.out.facts
  have hl1 := C3.out.lt
  cases K3
  · go_wp2
    go_ret
    exact ⟨by rw [HJ.out]; rfl, HB3.out⟩
  obtain ⟨K4, hK4⟩ : ∃ K, (s.tick == t.tick) = K := ⟨_, rfl⟩
  have HK4 := Lib.hid hK4
  cases K4
  · go_wp2
    go_ret
    exact ⟨by rw [HJ.out, HK4.out]; rfl, HB3.out⟩
  obtain ⟨K5, hK5⟩ : ∃ K, (s.no == t.no) = K := ⟨_, rfl⟩
  have HK5 := Lib.hid hK5
  cases K5
  · go_wp2
    go_ret
    exact ⟨by rw [HJ.out, HK4.out, HK5.out]; rfl, HB3.out⟩
  go_wp2
  go_ret
  exact ⟨by rw [HJ.out, HK4.out, HK5.out]; rfl, HB3.out⟩
end Go.Proofs.YtmpemeemlhmaaaaGreat
