/- A health behind a result: the program's way and the document's. -/
import Derived.Test.YtmpemeemlhmaaaaGreatQ7
import Derived.Deep.CutRange
import Derived.Test.YtmpemeemlhmaaaaGreatQ11
import Derived.Deep.QuietTactic
import Derived.BigQuiet
import Derived.Test.YtmpemeemlhmaaaaGreatQ16
set_option linter.unusedSimpArgs false
set_option linter.unusedVariables false
set_option maxRecDepth 100000
namespace Go.Proofs.YtmpemeemlhmaaaaGreat
open Go.RowKit

def bringN (n : Int) : Int := if n < 1 then 1 else if 100 < n then 100 else n
theorem bringN_bd (n : Int) : 1 ≤ bringN n ∧ bringN n ≤ 100 := by unfold bringN; split <;> (try split) <;> omega
/-- a health behind a result; whether it turned -/
def stepH (h : Hl) (well : Bool) (rise fall : Int) : Hl × Bool :=
  if well != h.down then ({ h with run := 0 }, false)
  else if bringN (if h.down then rise else fall) - 1 ≤ max h.run 0 then (⟨h.name, !h.down, 0⟩, true)
  else ({ h with run := max h.run 0 + 1 }, false)
def StepP (w : World) (r : Hl × Bool) (e : Ending) (w' : World) : Prop := e = .returned (.tuple #[.agg r.1.arr, .bool r.2]) ∧ Below w.heap.size w w'
theorem stepP_of {w W : World} {x : Hl} {r : Bool} {h : Hl} {well : Bool} {rise fall : Int} (hs : stepH h well rise fall = (x, r)) (hb : Below w.heap.size w W) :
    StepP w (stepH h well rise fall) (.returned (.tuple #[.agg x.arr, .bool r])) W := by rw [hs]; exact ⟨rfl, hb⟩

theorem stepH_b {h : Hl} {well : Bool} {rise fall k m : Int} (hw : well = h.down) (hk : bringN (if h.down then rise else fall) = k) (hm : max h.run 0 = m) (hle : k - 1 ≤ m) : stepH h well rise fall = (⟨h.name, !h.down, 0⟩, true) := by
  unfold stepH; rw [if_neg (by simp [hw]), hk, hm, if_pos hle]
theorem stepH_c {h : Hl} {well : Bool} {rise fall k m : Int} (hw : well = h.down) (hk : bringN (if h.down then rise else fall) = k) (hm : max h.run 0 = m) (hlt : m < k - 1) : stepH h well rise fall = (⟨h.name, h.down, m + 1⟩, false) := by
  unfold stepH; rw [if_neg (by simp [hw]), hk, hm, if_neg (by omega)]
end Go.Proofs.YtmpemeemlhmaaaaGreat

namespace Go.Proofs.YtmpemeemlhmaaaaGreat
open Go.RowKit

theorem rangeH_succ (p : Nat → Bool) (i : Nat) : (List.range (i + 1)).all p = ((List.range i).all p && p i) := by
  rw [List.range_succ, List.all_append]; simp
theorem rangeH_false (p : Nat → Bool) (i n : Nat) (h : i < n) (hp : p i = false) : (List.range n).all p = false := by
  rw [List.all_eq_false]; exact ⟨i, List.mem_range.2 h, by rw [hp]; simp⟩
abbrev RdH := RdR Hl.arr 3
theorem RdR.hl {W : World} {B n : Nat} {A : Option Addr} {l : List Hl} {k : Nat} (h : RdH W B A n l) (hk : k < n) : ∃ b o, A = some ⟨b, o, none⟩ ∧ b < B ∧ Has W b (o + k * 3) 3 ∧ cellsAt W b (o + k * 3) 3 = (l.getD k noHl).arr ∧
    W.cell? ⟨b, o + k * 3, none⟩ = some (.string (textOf (l.getD k noHl).name)) ∧ W.cell? ⟨b, o + k * 3 + 1, none⟩ = some (.bool (l.getD k noHl).down) := by
  obtain ⟨b, o, hA, hb, hc⟩ := RdR.cell Hl.arr_size noHl h hk
  obtain ⟨h1, h2⟩ := cellsAt_eq (Hl.arr_size _) hc
  exact ⟨b, o, hA, hb, h1, h2, by have := hc 0 (by omega); rw [Nat.add_zero] at this; exact this, hc 1 (by omega)⟩
theorem Has.below {w W : World} {b o k B : Nat} (h : Has w b o k) (hb : Below B w W) (hlt : b < B) : Has W b o k := fun j hj => by
  obtain ⟨u, hu⟩ := h j hj
  exact ⟨u, by rw [hb.cell hlt]; exact hu⟩
theorem cellsAt_below {w W : World} {b o k B : Nat} (hb : Below B w W) (hlt : b < B) : cellsAt W b o k = cellsAt w b o k := cellsAt_of fun j _ => hb.cell hlt
def fewT (ls : List (List UInt8)) : Bool := decide (ls.length ≤ 50) && (List.range ls.length).all (fun i => decide ((ls.getD i []).length ≤ 60))
theorem fewT_le {ls : List (List UInt8)} (h : fewT ls = true) : ls.length ≤ 50 := by unfold fewT at h; simp at h; exact h.1
def namesH (l : List Hl) : List (List UInt8) := l.map (·.name)
theorem namesH_len (l : List Hl) : (namesH l).length = l.length := by simp [namesH]
theorem namesH_get (l : List Hl) (i : Nat) : (namesH l).getD i [] = (l.getD i noHl).name := by
  unfold namesH
  rw [List.getD_eq_getElem?_getD, List.getD_eq_getElem?_getD, List.getElem?_map]
  cases l[i]? <;> rfl
set_option maxRecDepth 100000 in
theorem few_any (l : List Hl) (A : Option Addr) (n c : Nat) (w : World) (hR : RdH w w.heap.size A n l) (hn : n ≤ 9223372036854775807) :
    Calls Tryz.prog 29 #[.slice A n c] w fun e w' => e = .returned (.bool (fewT (namesH l))) ∧ w = w' := by
  have HR := Lib.hid hR
  have HN := Lib.hid hR.1
  clear hR
  have HFW := Lib.hid (show fewT (namesH l) = (decide (n ≤ 50) && (List.range n).all (fun i => decide (((namesH l).getD i []).length ≤ 60))) from by unfold fewT; rw [namesH_len, HN.out])
  go_enter Tryz.func29, Tryz.ntmps29
  go_wp2
  go_loop [3] (fun s3 => ∃ i : Nat, i ≤ n ∧ i ≤ 60 ∧ s3 = .int .i64 i ∧ ∀ k, k < i → ((namesH l).getD k []).length ≤ 60) (fun s3 => n - (intOf s3).toNat)
  case atStart => exact ⟨0, by omega, by omega, rfl, fun k hk => by omega⟩
  case round =>
    obtain ⟨i, hin, hi60, rfl, hall⟩ := hrel
    have HA := Lib.hid hall
    clear hall
    by_cases hlt : i < n
    · have hi : (i : Int) < n := by omega
      by_cases h6 : i < 60
      · have hi6 : (i : Int) < 60 := by omega
        obtain ⟨b, o, rfl, hbb, hh, hcl, hc, _⟩ := HR.out.hl hlt
        clear hbb
        obtain ⟨pn, hp⟩ : ∃ pn, pn = (namesH l).getD i [] := ⟨_, rfl⟩
        rw [← namesH_get, ← hp] at hc
        have HP := Lib.hid hp
        clear hp
        by_cases hq : pn.length ≤ 60
        · have hq1 : (pn.length : Int) ≤ 60 := by omega
          go_wp2
          go_round
          case rel => exact ⟨i + 1, by omega, by omega, by go_num, fun k hk => by
            by_cases hki : k = i
            · rw [hki, ← HP.out]; exact hq
            · exact HA.out k (by omega)⟩
          case measure => simp [intOf] <;> omega
        · have hq1 : ¬ (pn.length : Int) ≤ 60 := by omega
          have hq2 : (60 : Int) < pn.length := by omega
          have HF := Lib.hid (show fewT (namesH l) = false by rw [HFW.out, rangeH_false _ i _ hlt (by rw [← HP.out]; simpa using hq)]; simp)
          go_wp2
          go_ret
          exact ⟨by rw [HF.out]; rfl, rfl⟩
      · have hd : decide ((i : Int) < 60) = false := by simp; omega
        have HF := Lib.hid (show fewT (namesH l) = decide ((n : Int) ≤ 50) by
          rw [HFW.out, show decide (n ≤ 50) = false from decide_eq_false (by omega), show decide ((n : Int) ≤ 50) = false from decide_eq_false (by omega)]; rfl)
        go_wp2
        go_ret
        exact ⟨by rw [HF.out]; rfl, rfl⟩
    · obtain rfl : i = n := by omega
      have hd : decide ((i : Int) < i) = false := by simp
      have HF := Lib.hid (show fewT (namesH l) = decide ((i : Int) ≤ 50) by
        rw [HFW.out, List.all_eq_true.2 (fun k hk => decide_eq_true (HA.out k (List.mem_range.1 hk))), Bool.and_true]
        rw [decide_eq_decide]; omega)
      go_wp2
      go_ret
      exact ⟨by rw [HF.out]; rfl, rfl⟩
/-- the place of a name -/
def posH (l : List Hl) (s : List UInt8) : Int := match l.findIdx? (fun x => x.name == s) with | some i => (i : Nat) | none => -1
theorem posH_at {l : List Hl} {s : List UInt8} {i : Nat} (hi : i < l.length) (h : (l.getD i noHl).name = s) (hno : ∀ k, k < i → (l.getD k noHl).name ≠ s) : posH l s = i := by
  have : l.findIdx? (fun x => x.name == s) = some i := by
    rw [List.findIdx?_eq_some_iff_getElem]
    refine ⟨hi, ?_, fun j hj => ?_⟩
    · rw [List.getD_eq_getElem?_getD, List.getElem?_eq_getElem hi] at h
      simpa using h
    · have := hno j hj
      rw [List.getD_eq_getElem?_getD, List.getElem?_eq_getElem (by omega)] at this
      simpa using this
  unfold posH; rw [this]
theorem posH_no {l : List Hl} {s : List UInt8} (hno : ∀ k, k < l.length → (l.getD k noHl).name ≠ s) : posH l s = -1 := by
  have : l.findIdx? (fun x => x.name == s) = none := by
    rw [List.findIdx?_eq_none_iff]
    intro x hx
    obtain ⟨k, hk, rfl⟩ := List.getElem_of_mem hx
    have := hno k hk
    rw [List.getD_eq_getElem?_getD, List.getElem?_eq_getElem hk] at this
    simpa using this
  unfold posH; rw [this]
theorem posH_lt (l : List Hl) (s : List UInt8) : posH l s < l.length := by
  unfold posH
  split
  · rename_i i h
    have := (List.findIdx?_eq_some_iff_getElem.1 h).1
    omega
  · omega
theorem posH_cases (l : List Hl) (s : List UInt8) : posH l s = -1 ∨ ∃ i : Nat, posH l s = i ∧ i < l.length := by
  have := posH_lt l s
  unfold posH at this ⊢
  split
  · rename_i i h; rw [h] at this; exact .inr ⟨i, rfl, by simpa using this⟩
  · exact .inl rfl
set_option maxHeartbeats 1000000 in
set_option maxRecDepth 100000 in
theorem sameH_any (l m : List Hl) (A B : Option Addr) (n k c d : Nat) (w : World) (hR : RdH w w.heap.size A n l) (hT : RdH w w.heap.size B k m) (hn : n ≤ 4611686018427387904) (hk : k ≤ 4611686018427387904) :
    Calls Tryz.prog 60 #[.slice A n c, .slice B k d] w fun e w' => e = .returned (.bool (decide (l = m))) ∧ Below w.heap.size w w' := by
  have HR := Lib.hid hR
  have HT := Lib.hid hT
  have HN := Lib.hid hR.1
  have HK := Lib.hid hT.1
  clear hR hT
  by_cases hlm : n = k
  rotate_left
  · have hne : ((n : Int) != (k : Int)) = true := by rw [bne_iff_ne]; omega
    have HF := Lib.hid (show decide (l = m) = false from decide_eq_false (fun e => hlm (by rw [← HN.out, ← HK.out, e])))
    clear hlm
    go_enter Tryz.func60, Tryz.ntmps60
    go_wp2
    go_ret
    exact ⟨by rw [HF.out]; rfl, Below.refl _ _⟩
  subst hlm
  have hbn : ((n : Int) != (n : Int)) = false := by simp
  go_enter Tryz.func60, Tryz.ntmps60
  go_wp2
  go_loopw [5] (fun s5 wr => ∃ i : Nat, i ≤ n ∧ s5 = .int .i64 i ∧ l.take i = m.take i ∧ Below w.heap.size w wr) (fun s5 _ => n - (intOf s5).toNat)
  case atStart => exact ⟨0, by omega, rfl, rfl, Below.refl _ _⟩
  case round =>
    obtain ⟨i, hin, rfl, hall, hb⟩ := hrel
    have HA := Lib.hid hall
    have HB := Lib.hid hb
    clear hall hb
    by_cases hlt : i < n
    · have hi : (i : Int) < n := by omega
      obtain ⟨b, o, rfl, hbb, hh, hc, _, _⟩ := (HR.out.below HB.out).hl hlt
      obtain ⟨b2, o2, rfl, hbb2, hh2, hc2, _, _⟩ := (HT.out.below HB.out).hl hlt
      obtain ⟨x, hx⟩ : ∃ x, x = l.getD i noHl := ⟨_, rfl⟩
      obtain ⟨y, hy⟩ : ∃ y, y = m.getD i noHl := ⟨_, rfl⟩
      rw [← hx] at hc
      rw [← hy] at hc2
      have HX := Lib.hid hx
      have HY := Lib.hid hy
      clear hx hy hbb hbb2
      by_cases hq : x = y
      · have he : hlEq x y = true := by rw [hlEq_is]; simpa using hq
        have HS := Lib.hid (show l.take (i + 1) = m.take (i + 1) by
          rw [← take_snocR noHl l i (by rw [HN.out]; exact hlt), ← take_snocR noHl m i (by rw [HK.out]; exact hlt), HA.out, ← HX.out, ← HY.out, hq])
        clear hq
        go_wp2
        go_quiet (fail)
        go_wp2
        go_roundw
        case rel => exact ⟨i + 1, by omega, by go_num, HS.out, below_drewN HB.out _⟩
        case measure => simp [intOf] <;> omega
      · have he : hlEq x y = false := by rw [hlEq_is]; simpa using hq
        have HF := Lib.hid (show decide (l = m) = false from decide_eq_false (fun e => hq (by rw [HX.out, HY.out, e])))
        clear hq
        go_wp2
        go_quiet (fail)
        go_wp2
        go_ret
        exact ⟨by rw [HF.out]; rfl, below_drewN HB.out _⟩
    · obtain rfl : i = n := by omega
      have hd : decide ((i : Int) < i) = false := by simp
      have HT2 := Lib.hid (show decide (l = m) = true from decide_eq_true (by
        have := HA.out
        rwa [List.take_of_length_le (by rw [HN.out]; omega), List.take_of_length_le (by rw [HK.out]; omega)] at this))
      go_wp2
      go_ret
      exact ⟨by rw [HT2.out]; rfl, HB.out⟩
end Go.Proofs.YtmpemeemlhmaaaaGreat

namespace Go.Proofs.YtmpemeemlhmaaaaGreat
open Go.RowKit

def loadCt (v : Value) : Sem Value := Instr.loadAt 27 v
@[go_sem ↓] theorem loadCt_is (v : Value) : Instr.loadAt 27 v = loadCt v := rfl
@[go_sem] theorem load_ct (W : World) (b o : Nat) (h : Has W b o 11) : (loadCt (.pointer (some ⟨b, o, none⟩))).run Tryz.prog W = .ok (.agg (cellsAt W b o 11)) W :=
  run_loadAt_has W b o 11 _ _ Tryz.underlying27 rfl (by kernel_rfl) h
theorem rightP_any (l : List Bk) (hf : ∀ x ∈ l, x.fine) (v : Int) (A : Option Addr) (n c : Nat) (w : World) (hR : RdR Bk.arr 27 w w.heap.size A n l) (hn : n ≤ 4611686018427387903) (K : Bool) (hK : pRight v l = K) :
    Calls Tryz.prog 37 #[.agg #[.int .i64 v, .slice A n c]] w fun e w' => e = .returned (.bool K) ∧ Below w.heap.size w w' := by
  subst hK
  obtain rfl := hR.1
  exact rightPool_any l hf v A c w hR (by omega)
theorem RdR.fw {W : World} {B n : Nat} {A : Option Addr} {l : List Fw} {k : Nat} (h : RdR Fw.arr 41 W B A n l) (hk : k < n) : ∃ b o, A = some ⟨b, o, none⟩ ∧ b < B ∧ Has W b (o + k * 41) 41 ∧ cellsAt W b (o + k * 41) 41 = (l.getD k noFw).arr := RdR.at_ Fw.arr_size noFw h hk
theorem all_take {α : Type} (p : α → Bool) (d : α) (l : List α) (i : Nat) (hi : i < l.length) : (l.take (i + 1)).all p = ((l.take i).all p && p (l.getD i d)) := by
  rw [← take_snocR d l i hi, List.all_append]; simp
theorem all_no {α : Type} (p : α → Bool) (d : α) (l : List α) (i : Nat) (hi : i < l.length) (h : p (l.getD i d) = false) : l.all p = false :=
  List.all_eq_false.2 ⟨_, getD_mem d l i hi, by rw [h]; simp⟩
theorem run_index_cnt (v : Vector Int 11) (i : Nat) (hi : i < 11) (W : World) : (Instr.index 27 (.agg (cntC v)) (.int .i64 (i : Nat))).run Tryz.prog W = .ok (.int .i64 (v.toList.getD i 0)) W := by
  have hp := part_one (P := Tryz.prog) (e := 3) (by simp only [Tryz.underlying3]) (cntC_get v i hi) W
  obtain ⟨i0, hi0, hs⟩ : ∃ i0, Tryz.prog.info? 3 = some i0 ∧ i0.size = 1 := by
    cases h : Tryz.prog.info? 3 with
    | none => exact absurd h (by have : (Tryz.prog.info? 3).isSome = true := by kernel_rfl
                                 intro e; rw [e] at this; cases this)
    | some i0 =>
      have h1 : (Tryz.prog.info? 3).map (·.size) = some 1 := by kernel_rfl
      rw [h] at h1
      exact ⟨i0, rfl, by simpa using h1⟩
  have h1 : (0 : Int) ≤ (i : Int) ∧ (i : Int) < ((11 : Nat) : Int) := by omega
  have hsz := run_sizeOf (P := Tryz.prog) W hi0
  have hc1 : Tryz.prog.cellsOf 3 = 1 := by simp [Program.cellsOf, hi0, hs]
  rw [hc1] at hsz
  simp only [Instr.index, asIntOf, Sem.run_bind, Sem.run_pure, Result.andThen_ok, run_underlying Tryz.underlying27, h1, and_self, if_true, hsz, Int.toNat_natCast, Nat.mul_one, hp]
def okCnt (s : Sta) : Bool := s.cnt.toList.all (inN · 1152921504606846976)
theorem okSta_is (s : Sta) : okSta s = (pRight s.ver s.bks && decide (s.hls.length ≤ 1024) && decide (s.fws.length ≤ 4096) && inN s.tick 1099511627776 && inN s.no 1152921504606846976 && okCnt s && s.hls.all okHl && s.fws.all okFw) := rfl
set_option maxRecDepth 100000 in
set_option maxHeartbeats 8000000 in
theorem snapRight_any (x : Sh) (s : Sta) (w : World) (h : StR w w.heap.size x s) :
    Calls Tryz.prog 14 #[.agg x.arr] w fun e w' => e = .returned (.bool (okSta s)) ∧ Below w.heap.size w w' := by
  obtain ⟨vv, ⟨bA, bn, bc⟩, ⟨gA, gn, gc⟩, ⟨fA, fn, fc⟩, tk, nn, ct⟩ := x
  have hver : vv = s.ver := h.ver
  have htick : tk = s.tick := h.tick
  have hno : nn = s.no := h.no
  have B0 := Lib.hid (Box.new w (Sh.mk vv ⟨bA, bn, bc⟩ ⟨gA, gn, gc⟩ ⟨fA, fn, fc⟩ tk nn ct).arr 29)
  have HB0 := Lib.hid ((Below.refl w.heap.size w).alloc (Nat.le_refl _) (.cells (Sh.mk vv ⟨bA, bn, bc⟩ ⟨gA, gn, gc⟩ ⟨fA, fn, fc⟩ tk nn ct).arr 29))
  have HR := Lib.hid h
  obtain ⟨x1, x2, x3, x4⟩ := B0.out.facts
  have hl0 := B0.out.lt
  obtain ⟨K1, hK1⟩ : ∃ K, pRight s.ver s.bks = K := ⟨_, rfl⟩
  have HK1 := Lib.hid hK1
  have PR := Lib.hid (rightP_any s.bks h.fine vv bA bn bc _ ((h.go HB0.out).b) h.nb K1 (by rw [hver]; exact hK1))
  obtain ⟨K4, hK4⟩ : ∃ K, inN s.tick 1099511627776 = K := ⟨_, rfl⟩
  obtain ⟨K5, hK5⟩ : ∃ K, inN s.no 1152921504606846976 = K := ⟨_, rfl⟩
  have HK4 := Lib.hid hK4
  have HK5 := Lib.hid hK5
  have W4 := Lib.hid (fun w' => within_any tk 1099511627776 w')
  have W5 := Lib.hid (fun w' => within_any nn 1152921504606846976 w')
  rw [show inN tk 1099511627776 = K4 by rw [htick]; exact hK4] at W4
  rw [show inN nn 1152921504606846976 = K5 by rw [hno]; exact hK5] at W5
  have HLH := Lib.hid (show s.hls.length = gn from h.h.1)
  have HLF := Lib.hid (show s.fws.length = fn from h.f.1)
  have hnh : gn ≤ 4611686018427387903 := h.nh
  have hnf : fn ≤ 4611686018427387903 := h.nf
  have HC := Lib.hid (show ct = s.cnt from h.cnt)
  clear hK1 hK4 hK5 h hver htick hno
  cases K1
  · skip
    go_enter Tryz.func14, Tryz.ntmps14
    go_wp2_with fail
    refine PR.out.mono ?_
    rintro e w1 ⟨rfl, hb1⟩
    have B1 := Lib.hid (B0.out.go hb1)
    have HB1 := Lib.hid (below2 HB0.out hb1)
    obtain ⟨y1, y2, y3, y4⟩ := B1.out.facts
    have hl1 := B1.out.lt
    clear hb1
    go_wp2
    go_ret
    exact ⟨by rw [okSta_is]; simp [HK1.out] <;> omega, HB1.out⟩
  by_cases p2 : gn ≤ 1024
  rotate_left
  · have p2' : ¬ s.hls.length ≤ 1024 := by rw [HLH.out]; exact p2
    go_enter Tryz.func14, Tryz.ntmps14
    go_wp2_with fail
    refine PR.out.mono ?_
    rintro e w1 ⟨rfl, hb1⟩
    have B1 := Lib.hid (B0.out.go hb1)
    have HB1 := Lib.hid (below2 HB0.out hb1)
    obtain ⟨y1, y2, y3, y4⟩ := B1.out.facts
    have hl1 := B1.out.lt
    clear hb1
    go_wp2
    go_ret
    exact ⟨by rw [okSta_is]; simp [HK1.out, p2'] <;> omega, HB1.out⟩
  by_cases p3 : fn ≤ 4096
  rotate_left
  · have p3' : ¬ s.fws.length ≤ 4096 := by rw [HLF.out]; exact p3
    go_enter Tryz.func14, Tryz.ntmps14
    go_wp2_with fail
    refine PR.out.mono ?_
    rintro e w1 ⟨rfl, hb1⟩
    have B1 := Lib.hid (B0.out.go hb1)
    have HB1 := Lib.hid (below2 HB0.out hb1)
    obtain ⟨y1, y2, y3, y4⟩ := B1.out.facts
    have hl1 := B1.out.lt
    clear hb1
    go_wp2
    go_ret
    exact ⟨by rw [okSta_is]; simp [HK1.out, p3'] <;> omega, HB1.out⟩
  cases K4
  · skip
    go_enter Tryz.func14, Tryz.ntmps14
    go_wp2_with fail
    refine PR.out.mono ?_
    rintro e w1 ⟨rfl, hb1⟩
    have B1 := Lib.hid (B0.out.go hb1)
    have HB1 := Lib.hid (below2 HB0.out hb1)
    obtain ⟨y1, y2, y3, y4⟩ := B1.out.facts
    have hl1 := B1.out.lt
    clear hb1
    go_wp2_with fail
    refine (W4.out _).mono ?_
    rintro e w2 ⟨rfl, rfl⟩
    go_wp2
    go_ret
    exact ⟨by rw [okSta_is]; simp [HK1.out, HK4.out] <;> omega, HB1.out⟩
  cases K5
  · skip
    go_enter Tryz.func14, Tryz.ntmps14
    go_wp2_with fail
    refine PR.out.mono ?_
    rintro e w1 ⟨rfl, hb1⟩
    have B1 := Lib.hid (B0.out.go hb1)
    have HB1 := Lib.hid (below2 HB0.out hb1)
    obtain ⟨y1, y2, y3, y4⟩ := B1.out.facts
    have hl1 := B1.out.lt
    clear hb1
    go_wp2_with fail
    refine (W4.out _).mono ?_
    rintro e w2 ⟨rfl, rfl⟩
    go_wp2_with fail
    refine (W5.out _).mono ?_
    rintro e w2 ⟨rfl, rfl⟩
    go_wp2
    go_ret
    exact ⟨by rw [okSta_is]; simp [HK1.out, HK4.out, HK5.out] <;> omega, HB1.out⟩
  have HP2 := Lib.hid (show s.hls.length ≤ 1024 by rw [HLH.out]; exact p2)
  have HP3 := Lib.hid (show s.fws.length ≤ 4096 by rw [HLF.out]; exact p3)
  go_enter Tryz.func14, Tryz.ntmps14
  go_wp2_with fail
  refine PR.out.mono ?_
  rintro e w1 ⟨rfl, hb1⟩
  have B1 := Lib.hid (B0.out.go hb1)
  have HB1 := Lib.hid (below2 HB0.out hb1)
  obtain ⟨y1, y2, y3, y4⟩ := B1.out.facts
  have hl1 := B1.out.lt
  clear hb1
  go_wp2_with fail
  refine (W4.out _).mono ?_
  rintro e w2 ⟨rfl, rfl⟩
  go_wp2_with fail
  refine (W5.out _).mono ?_
  rintro e w2 ⟨rfl, rfl⟩
  have hhc : Has w1 w.heap.size 6 11 := by rw [y3 6 11 (by rw [Sh.csize]; omega)]; trivial
  have hcc : cellsAt w1 w.heap.size 6 11 = cntC ct := (y4 6 11 (by rw [Sh.csize]; omega)).trans (Sh.extract_cnt _)
  go_wp2
  go_loopw [39] (fun s39 wr => ∃ i : Nat, i ≤ 11 ∧ s39 = .int .i64 i ∧ wr = w1 ∧ (ct.toList.take i).all (inN · 1152921504606846976) = true) (fun s39 _ => 11 - (intOf s39).toNat)
  case atStart => exact ⟨0, by omega, rfl, rfl, rfl⟩
  case round =>
    obtain ⟨i, hi, rfl, rfl, hall⟩ := hrel
    have HA := Lib.hid hall
    clear hall
    by_cases hlt : i < 11
    · have hlt2 : (i : Int) < 11 := by omega
      have hix := run_index_cnt ct i hlt
      have HT1 := Lib.hid (all_take (inN · 1152921504606846976) 0 ct.toList i (by simpa using hlt))
      have HT2 := Lib.hid (all_no (inN · 1152921504606846976) 0 ct.toList i (by simpa using hlt))
      obtain ⟨z, hz⟩ : ∃ z, ct.toList.getD i 0 = z := ⟨_, rfl⟩
      rw [hz] at hix HT1 HT2
      clear hz
      have WI := Lib.hid (within_any z 1152921504606846976 wr)
      cases hk : inN z 1152921504606846976
      · rw [hk] at WI
        have HF := Lib.hid (show okCnt s = false by unfold okCnt; rw [← HC.out]; exact HT2.out hk)
        clear hk
        go_wp2_with fail
        refine WI.out.mono ?_
        rintro e w2 ⟨rfl, rfl⟩
        go_wp2
        go_ret
        exact ⟨by rw [okSta_is, HF.out]; simp, HB1.out⟩
      · rw [hk] at WI
        have HK := Lib.hid (show (ct.toList.take (i + 1)).all (inN · 1152921504606846976) = true by rw [HT1.out, HA.out, hk]; rfl)
        clear hk
        go_wp2_with fail
        refine WI.out.mono ?_
        rintro e w2 ⟨rfl, rfl⟩
        go_wp2
        go_roundw
        case rel => exact ⟨i + 1, by omega, by go_num, trivial, HK.out⟩
        case measure => simp [intOf] <;> omega
    · obtain rfl : i = 11 := by omega
      have HCN := Lib.hid (show okCnt s = true by unfold okCnt; rw [← HC.out]; have := HA.out; rwa [List.take_of_length_le (by simp)] at this)
      have HH0 := Lib.hid (fun W (h : Below w.heap.size w W) => show RdR Hl.arr 3 W W.heap.size gA gn s.hls from (HR.out.go h).h)
      have HF0 := Lib.hid (fun W (h : Below w.heap.size w W) => show RdR Fw.arr 41 W W.heap.size fA fn s.fws from (HR.out.go h).f)
      go_wp2
      go_loopw [49] (fun s49 wr2 => ∃ i : Nat, i ≤ gn ∧ s49 = .int .i64 i ∧ Below wr.heap.size wr wr2 ∧ (s.hls.take i).all okHl = true) (fun s49 _ => gn - (intOf s49).toNat)
      case atStart => exact ⟨0, by omega, rfl, Below.refl _ _, rfl⟩
      case round =>
        obtain ⟨i, hin, rfl, hbr, hall⟩ := hrel
        have HA2 := Lib.hid hall
        have HBR := Lib.hid hbr
        have HBW := Lib.hid (below2 HB1.out hbr)
        clear hall hbr
        by_cases hlt : i < gn
        · have hlt2 : (i : Int) < gn := by omega
          obtain ⟨b, o, rfl, hbb, hh, hcl, hq1, hq2⟩ := (HH0.out _ HBW.out).hl hlt
          have HT1 := Lib.hid (all_take okHl noHl s.hls i (by rw [HLH.out]; exact hlt))
          have HT2 := Lib.hid (all_no okHl noHl s.hls i (by rw [HLH.out]; exact hlt))
          have HY := Lib.hid (HR.out.fineh _ (getD_mem noHl s.hls i (by rw [HLH.out]; exact hlt)))
          obtain ⟨y, hy⟩ : ∃ y, s.hls.getD i noHl = y := ⟨_, rfl⟩
          rw [hy] at hcl HT1 HT2 HY hq1 hq2
          clear hy
          have hyn := HY.out
          have WI := Lib.hid (fun W => within_any y.run 99 W)
          by_cases p1 : y.name.length ≤ 255
          rotate_left
          · have HF := Lib.hid (show s.hls.all okHl = false from HT2.out (by simp [okHl]; omega))
            have p1' : (255 : Int) < y.name.length := by omega
            clear p1
            go_wp2
            go_ret
            exact ⟨by rw [okSta_is, HF.out]; simp, HBW.out.alloc HBW.out.size _⟩
          · cases hk : inN y.run 99
            · rw [hk] at WI
              have HF := Lib.hid (show s.hls.all okHl = false from HT2.out (by simp [okHl, hk]))
              clear hk
              go_wp2_with fail
              refine (WI.out _).mono ?_
              rintro e w2 ⟨rfl, rfl⟩
              go_wp2
              go_ret
              exact ⟨by rw [okSta_is, HF.out]; simp, HBW.out.alloc HBW.out.size _⟩
            · rw [hk] at WI
              have HK := Lib.hid (show (s.hls.take (i + 1)).all okHl = true by rw [HT1.out, HA2.out]; simp [okHl, hk, p1])
              clear hk
              go_wp2_with fail
              refine (WI.out _).mono ?_
              rintro e w2 ⟨rfl, rfl⟩
              go_wp2
              go_roundw
              case rel =>
                refine ⟨_, _, _, _, _, _, _, _, _, _, _, _, _, _, _, _, _, ⟨i + 1, by omega, ?_, HBR.out.alloc HBR.out.size _, HK.out⟩, rfl⟩
                go_num
              case measure => simp [intOf] <;> omega
        · have hnl : ¬ (i : Int) < gn := by omega
          have HHL := Lib.hid (show s.hls.all okHl = true by have := HA2.out; rwa [List.take_of_length_le (by rw [HLH.out]; omega)] at this)
          have B2 := Lib.hid (B1.out.go HBR.out)
          obtain ⟨z1, z2, z3, z4⟩ := B2.out.facts
          have hl2 := B2.out.lt
          go_wp2
          go_loopw [67] (fun s67 wr3 => ∃ i : Nat, i ≤ fn ∧ s67 = .int .i64 i ∧ Below w.heap.size w wr3 ∧ (s.fws.take i).all okFw = true) (fun s67 _ => fn - (intOf s67).toNat)
          case atStart => exact ⟨0, by omega, rfl, HBW.out, rfl⟩
          case round =>
            obtain ⟨i, hin, rfl, hbr, hall⟩ := hrel
            have HA3 := Lib.hid hall
            have HB3 := Lib.hid hbr
            clear hall hbr
            by_cases hlt : i < fn
            · have hlt2 : (i : Int) < fn := by omega
              obtain ⟨b, o, rfl, hbb, hh, hcl⟩ := (HF0.out _ HB3.out).fw hlt
              have HT1 := Lib.hid (all_take okFw noFw s.fws i (by rw [HLF.out]; exact hlt))
              have HT2 := Lib.hid (all_no okFw noFw s.fws i (by rw [HLF.out]; exact hlt))
              have HY := Lib.hid (HR.out.finef _ (getD_mem noFw s.fws i (by rw [HLF.out]; exact hlt)))
              obtain ⟨y, hy⟩ : ∃ y, s.fws.getD i noFw = y := ⟨_, rfl⟩
              rw [hy] at hcl HT1 HT2 HY
              clear hy
              have FR := Lib.hid (fun W => flowRight_any y W HY.out)
              cases hk : okFw y
              all_goals rw [hk] at FR
              · have HF := Lib.hid (show s.fws.all okFw = false from HT2.out hk)
                clear hk
                go_wp2_with fail
                refine (FR.out _).mono ?_
                rintro e w2 ⟨rfl, hb2⟩
                have FIN := Lib.hid (below2 (HB3.out.alloc HB3.out.size (.cells y.arr 79)) hb2)
                clear hb2
                go_wp2
                go_ret
                exact ⟨by rw [okSta_is, HF.out]; simp, FIN.out⟩
              · have HK := Lib.hid (show (s.fws.take (i + 1)).all okFw = true by rw [HT1.out, HA3.out, hk]; rfl)
                clear hk
                go_wp2_with fail
                refine (FR.out _).mono ?_
                rintro e w2 ⟨rfl, hb2⟩
                have FIN := Lib.hid (below2 (HB3.out.alloc HB3.out.size (.cells y.arr 79)) hb2)
                clear hb2
                go_wp2
                go_roundw
                case rel => exact ⟨i + 1, by omega, by go_num, FIN.out, HK.out⟩
                case measure => simp [intOf] <;> omega
            · have hnl : ¬ (i : Int) < fn := by omega
              have HFL := Lib.hid (show s.fws.all okFw = true by have := HA3.out; rwa [List.take_of_length_le (by rw [HLF.out]; omega)] at this)
              go_wp2
              go_ret
              exact ⟨by rw [okSta_is, HK1.out, HK4.out, HK5.out, HCN.out, HHL.out, HFL.out]; simp [HP2.out, HP3.out], HB3.out⟩
end Go.Proofs.YtmpemeemlhmaaaaGreat

namespace Go.Proofs.YtmpemeemlhmaaaaGreat
open Go.RowKit

/-! ### a state's cells, one by one -/
theorem Sh.set_0 (x : Sh) (u : Int) : x.arr.setIfInBounds 0 (.int .i64 u) = ({ x with ver := u } : Sh).arr := by
  refine Sh.ext_arr (by simp [Sh.arr_size]) ?_ ?_ <;> intro j hj <;> rw [set_get _ _ _ _ (by rw [Sh.arr_size]; omega)]
  · rcases (show j = 0 ∨ j = 1 ∨ j = 2 ∨ j = 3 ∨ j = 4 ∨ j = 5 by omega) with rfl | rfl | rfl | rfl | rfl | rfl
    · rw [if_pos rfl]; rfl
    · rw [if_neg (by omega), Sh.arr_1]; rfl
    · rw [if_neg (by omega), Sh.arr_2]; rfl
    · rw [if_neg (by omega), Sh.arr_3]; rfl
    · rw [if_neg (by omega), Sh.arr_4]; rfl
    · rw [if_neg (by omega), Sh.arr_5]; rfl
  · rw [if_neg (by omega), Sh.arr_c x j hj]
theorem Sh.set_4 (x : Sh) (u : Int) : x.arr.setIfInBounds 4 (.int .i64 u) = ({ x with tick := u } : Sh).arr := by
  refine Sh.ext_arr (by simp [Sh.arr_size]) ?_ ?_ <;> intro j hj <;> rw [set_get _ _ _ _ (by rw [Sh.arr_size]; omega)]
  · rcases (show j = 0 ∨ j = 1 ∨ j = 2 ∨ j = 3 ∨ j = 4 ∨ j = 5 by omega) with rfl | rfl | rfl | rfl | rfl | rfl
    · rw [if_neg (by omega), Sh.arr_0]; rfl
    · rw [if_neg (by omega), Sh.arr_1]; rfl
    · rw [if_neg (by omega), Sh.arr_2]; rfl
    · rw [if_neg (by omega), Sh.arr_3]; rfl
    · rw [if_pos rfl]; rfl
    · rw [if_neg (by omega), Sh.arr_5]; rfl
  · rw [if_neg (by omega), Sh.arr_c x j hj]
theorem Sh.set_5 (x : Sh) (u : Int) : x.arr.setIfInBounds 5 (.int .i64 u) = ({ x with no := u } : Sh).arr := by
  refine Sh.ext_arr (by simp [Sh.arr_size]) ?_ ?_ <;> intro j hj <;> rw [set_get _ _ _ _ (by rw [Sh.arr_size]; omega)]
  · rcases (show j = 0 ∨ j = 1 ∨ j = 2 ∨ j = 3 ∨ j = 4 ∨ j = 5 by omega) with rfl | rfl | rfl | rfl | rfl | rfl
    · rw [if_neg (by omega), Sh.arr_0]; rfl
    · rw [if_neg (by omega), Sh.arr_1]; rfl
    · rw [if_neg (by omega), Sh.arr_2]; rfl
    · rw [if_neg (by omega), Sh.arr_3]; rfl
    · rw [if_neg (by omega), Sh.arr_4]; rfl
    · rw [if_pos rfl]; rfl
  · rw [if_neg (by omega), Sh.arr_c x j hj]
theorem Sh.set_1 (x : Sh) (A : Option Addr) (n c : Nat) : x.arr.setIfInBounds 1 (.slice A n c) = ({ x with b := ⟨A, n, c⟩ } : Sh).arr := by
  refine Sh.ext_arr (by simp [Sh.arr_size]) ?_ ?_ <;> intro j hj <;> rw [set_get _ _ _ _ (by rw [Sh.arr_size]; omega)]
  · rcases (show j = 0 ∨ j = 1 ∨ j = 2 ∨ j = 3 ∨ j = 4 ∨ j = 5 by omega) with rfl | rfl | rfl | rfl | rfl | rfl
    · rw [if_neg (by omega), Sh.arr_0]; rfl
    · rw [if_pos rfl]; rfl
    · rw [if_neg (by omega), Sh.arr_2]; rfl
    · rw [if_neg (by omega), Sh.arr_3]; rfl
    · rw [if_neg (by omega), Sh.arr_4]; rfl
    · rw [if_neg (by omega), Sh.arr_5]; rfl
  · rw [if_neg (by omega), Sh.arr_c x j hj]
theorem Sh.set_2 (x : Sh) (A : Option Addr) (n c : Nat) : x.arr.setIfInBounds 2 (.slice A n c) = ({ x with h := ⟨A, n, c⟩ } : Sh).arr := by
  refine Sh.ext_arr (by simp [Sh.arr_size]) ?_ ?_ <;> intro j hj <;> rw [set_get _ _ _ _ (by rw [Sh.arr_size]; omega)]
  · rcases (show j = 0 ∨ j = 1 ∨ j = 2 ∨ j = 3 ∨ j = 4 ∨ j = 5 by omega) with rfl | rfl | rfl | rfl | rfl | rfl
    · rw [if_neg (by omega), Sh.arr_0]; rfl
    · rw [if_neg (by omega), Sh.arr_1]; rfl
    · rw [if_pos rfl]; rfl
    · rw [if_neg (by omega), Sh.arr_3]; rfl
    · rw [if_neg (by omega), Sh.arr_4]; rfl
    · rw [if_neg (by omega), Sh.arr_5]; rfl
  · rw [if_neg (by omega), Sh.arr_c x j hj]
theorem Sh.set_3 (x : Sh) (A : Option Addr) (n c : Nat) : x.arr.setIfInBounds 3 (.slice A n c) = ({ x with f := ⟨A, n, c⟩ } : Sh).arr := by
  refine Sh.ext_arr (by simp [Sh.arr_size]) ?_ ?_ <;> intro j hj <;> rw [set_get _ _ _ _ (by rw [Sh.arr_size]; omega)]
  · rcases (show j = 0 ∨ j = 1 ∨ j = 2 ∨ j = 3 ∨ j = 4 ∨ j = 5 by omega) with rfl | rfl | rfl | rfl | rfl | rfl
    · rw [if_neg (by omega), Sh.arr_0]; rfl
    · rw [if_neg (by omega), Sh.arr_1]; rfl
    · rw [if_neg (by omega), Sh.arr_2]; rfl
    · rw [if_pos rfl]; rfl
    · rw [if_neg (by omega), Sh.arr_4]; rfl
    · rw [if_neg (by omega), Sh.arr_5]; rfl
  · rw [if_neg (by omega), Sh.arr_c x j hj]
/-- the numbers that are counted, so far -/
def cntV (l : List Nat) : Vector Int 11 := Vector.ofFn fun i => ((l.getD i 0 : Nat) : Int)
theorem cntV_get (l : List Nat) (j : Nat) (hj : j < 11) : (cntV l).toList.getD j 0 = ((l.getD j 0 : Nat) : Int) := by
  rw [List.getD_eq_getElem?_getD, List.getElem?_eq_getElem (by simpa using hj)]
  simp [cntV]
theorem Sh.set_cnt (x : Sh) (l : List Nat) (n : Nat) (hl : l.length < 11) (hx : x.cnt = cntV l) : x.arr.setIfInBounds (6 + l.length) (.int .i64 (n : Nat)) = ({ x with cnt := cntV (l ++ [n]) } : Sh).arr := by
  refine Sh.ext_arr (by simp [Sh.arr_size]) ?_ ?_ <;> intro j hj <;> rw [set_get _ _ _ _ (by rw [Sh.arr_size]; omega)]
  · rw [if_neg (by omega), Sh.arr_h x j hj]; rfl
  · show _ = some (Value.int .i64 ((cntV (l ++ [n])).toList.getD j 0))
    rw [cntV_get _ _ hj]
    by_cases h : j = l.length
    · subst h
      rw [if_pos rfl]
      simp [List.getD_eq_getElem?_getD]
    · rw [if_neg (by omega), Sh.arr_c x j hj, hx, cntV_get _ _ hj]
      congr 2
      rcases Nat.lt_or_ge j l.length with h1 | h1
      · simp [List.getD_eq_getElem?_getD, List.getElem?_append, h1]
      · simp [List.getD_eq_getElem?_getD, List.getElem?_append]
        rw [if_neg (by omega), List.getElem?_eq_none (by omega), List.getElem?_eq_none (by simp; omega)]
theorem cntO_snoc : ∀ (k : Nat) (s : RS), cntO (k + 1) s = ((cntO k s).1 ++ [(numO (cntO k s).2).1], (numO (cntO k s).2).2)
  | 0, s => rfl
  | k + 1, s => by
    have ih := cntO_snoc k (numO s).2
    rw [show cntO (k + 1 + 1) s = ((numO s).1 :: (cntO (k + 1) (numO s).2).1, (cntO (k + 1) (numO s).2).2) from rfl, ih]
    rfl
theorem cntO_len : ∀ (k : Nat) (s : RS), (cntO k s).1.length = k
  | 0, s => rfl
  | k + 1, s => by rw [show (cntO (k + 1) s).1 = (numO s).1 :: (cntO k (numO s).2).1 from rfl, List.length_cons, cntO_len k]
/-! ### the state that is read -/
def getS (b : List UInt8) : Sta × Bool :=
  let a1 := numO (some b)
  let a2 := numO a1.2
  let a3 := cntO 11 a2.2
  let a4 := numO a3.2
  let a5 := listO bkO 1024 a4.2
  let a6 := listO hlO 1024 a5.2
  let a7 := listO fwO 4096 a6.2
  (⟨a4.1, a5.1.getD [], a6.1.getD [], a7.1.getD [], a1.1, a2.1, cntV a3.1⟩, a5.1.isSome && a6.1.isSome && a7.1.isSome && (endO a7.2).isSome)
/-- the state whose bytes they are; none: there is none -/
def getV (b : List UInt8) : Option Sta := if (getS b).2 && okSta (getS b).1 then some (getS b).1 else none
/-- in world w' lies, in memory that is new since w, what reads as s -/
def NewS (w w' : World) (x : Sh) (s : Sta) : Prop := StR w' w'.heap.size x s ∧ (∀ a, x.b.A = some a → w.heap.size ≤ a.block) ∧ (∀ a, x.h.A = some a → w.heap.size ≤ a.block) ∧ (∀ a, x.f.A = some a → w.heap.size ≤ a.block)
def GetP (w : World) (r : Option Sta) (e : Ending) (w' : World) : Prop := Below w.heap.size w w' ∧ match r with
  | some s => ∃ x : Sh, e = .returned (.tuple #[.agg x.arr, .int .i64 0]) ∧ NewS w w' x s
  | none => e = .returned (.tuple #[.agg noSh.arr, .int .i64 3])
/-- since world w: the reader, the state so far at y, the answer's place -/
structure Gst (w W : World) (p g N : Nat) (r : RS) (y : Nat) (x : Sh) : Prop where
  rdr : RdrS W p g N r
  bk : Box W y x.arr
  res : Box W w.heap.size noSh.arr
  bel : Below w.heap.size w W
  ne : y = w.heap.size + 1 ∧ y < p ∧ y < g ∧ g < W.heap.size
section
variable {w W W' : World} {p g N y : Nat} {r r' : RS} {x x' : Sh}
theorem Gst.read (h : Gst w W p g N r y x) (k : RdrS W' p g N r') (hg : W.grownBy W' (some p)) : Gst w W' p g N r' y x := by
  obtain ⟨n1, n2, n3, n4⟩ := h.ne
  exact ⟨k, h.bk.grown hg (fun e => by injection e; omega), h.res.grown hg (fun e => by injection e; omega), h.bel.grown hg h.bel.size (fun j hj => by injection hj; omega), n1, n2, n3, Nat.lt_of_lt_of_le n4 hg.size⟩
theorem Gst.go (h : Gst w W p g N r y x) (hb : Below W.heap.size W W') : Gst w W' p g N r y x := by
  obtain ⟨n1, n2, n3, n4⟩ := h.ne
  exact ⟨h.rdr.go hb, h.bk.go hb, h.res.go hb, below2 h.bel hb, n1, n2, n3, Nat.lt_of_lt_of_le n4 hb.size⟩
theorem Gst.set (h : Gst w W p g N r y x) (j : Nat) (u : Value) (hb : x.arr.setIfInBounds j u = x'.arr) : Gst w (W.setCell ⟨y, j, none⟩ u) p g N r y x' := by
  obtain ⟨n1, n2, n3, n4⟩ := h.ne
  have hg : W.grownBy (W.setCell ⟨y, j, none⟩ u) (some y) := gb_set (World.grownBy.refl _ _) (.inl rfl) _
  exact ⟨h.rdr.grown hg (by omega) (by omega), by rw [← hb]; exact h.bk.set_same j u, h.res.grown hg (fun e => by injection e; omega), h.bel.grown hg h.bel.size (fun j hj => by injection hj; omega), n1, n2, n3, Nat.lt_of_lt_of_le n4 hg.size⟩
theorem Gst.fin (h : Gst w W p g N r y x) (x2 : Sh) : Box (setSh W w.heap.size 0 x2) w.heap.size x2.arr ∧ Below w.heap.size w (setSh W w.heap.size 0 x2) := by
  exact ⟨h.res.putSh (Sh.arr_size _) x2, setSh_below h.bel _ _ _ (Nat.le_refl _)⟩
end
/-- a row that was read in: off the reader's and the state's blocks -/
def RowN {α : Type} (f : α → Array Value) (sz : Nat) (w W : World) (p : Nat) (A : Option Addr) (n : Nat) (l : List α) : Prop := RdR f sz W W.heap.size A n l ∧ ∀ a, A = some a → w.heap.size + 1 < a.block ∧ a.block ≠ p
theorem RowN.grown {α : Type} {f : α → Array Value} {sz : Nat} {w W W' : World} {p k : Nat} {A : Option Addr} {n : Nat} {l : List α} (h : RowN f sz w W p A n l) (hg : W.grownBy W' (some k)) (hk : k = p ∨ k ≤ w.heap.size + 1) : RowN f sz w W' p A n l :=
  ⟨(h.1.grownO hg (fun a ha e => by injection e with e; have := h.2 a ha; omega)).more hg.size, h.2⟩
theorem RowN.go {α : Type} {f : α → Array Value} {sz : Nat} {w W W' : World} {p : Nat} {A : Option Addr} {n : Nat} {l : List α} (h : RowN f sz w W p A n l) (hb : Below W.heap.size W W') : RowN f sz w W' p A n l := ⟨h.1.go hb, h.2⟩
theorem RowN.of {α : Type} {f : α → Array Value} {sz : Nat} {E : TypeId} {w W W' : World} {p g N y : Nat} {r : RS} {x : Sh} {A : Option Addr} {n c : Nat} {l : List α} (h : Gst w W p g N r y x) (ho : W'.ownsRow W.heap.size E sz (.slice A n c) n (l.flatMap fun x => (f x).toList)) (hl : l.length = n) : RowN f sz w W' p A n l :=
  ⟨RdR.of_own hl ho, fun a ha => by
    have h1 := (ho.lt a.block (by rw [ha]; rfl)).1
    have h2 := h.rdr.lt
    obtain ⟨n1, n2, n3, n4⟩ := h.ne
    omega⟩
theorem textO_len (m : Nat) (s : RS) : (textO m s).1.length ≤ m := by
  rw [textO_peek]
  split
  · have := takeO_len (k := (peekO s).1) (s := (peekO s).2.2.map (List.drop (peekO s).2.1)); omega
  · simp
theorem wGet_lt (l : List UInt8) : wGet l < 18446744073709551616 := by
  unfold wGet
  split
  · exact bigNum_lt64 _ (by rw [List.length_take]; omega)
  · omega
theorem bkO_fine (s : RS) : (bkO s).1.1.fine := by
  unfold bkO
  simp only
  split
  · exact ⟨Nat.le_trans (textO_len _ _) (by omega), wGet_lt _⟩
  · exact ⟨by simp [noBk], by simp [noBk]⟩
theorem listGo_all {α : Type} {P : α → Prop} {one : RS → (α × Bool) × RS} (h : ∀ s, P (one s).1.1) : ∀ (k : Nat) (s : RS), (∀ x ∈ (listGo one k s).1.getD [], P x) ∧ ((listGo one k s).1.getD []).length ≤ k
  | 0, s => by simp [listGo]
  | k + 1, s => by
    have ih := listGo_all h k (one s).2
    have hx := h s
    simp only [listGo]
    split
    · cases hl : listGo one k (one s).2 with
      | mk a t =>
        rw [hl] at ih
        cases a with
        | none => simp
        | some l =>
          simp at ih ⊢
          exact ⟨⟨hx, ih.1⟩, by omega⟩
    · simp
theorem listO_all {α : Type} {P : α → Prop} {one : RS → (α × Bool) × RS} (h : ∀ s, P (one s).1.1) (most : Nat) (s : RS) : (∀ x ∈ (listO one most s).1.getD [], P x) ∧ ((listO one most s).1.getD []).length ≤ most := by
  unfold listO
  split
  · rename_i hm
    have := listGo_all h (numO s).1 (numO s).2
    exact ⟨this.1, by omega⟩
  · simp
set_option maxRecDepth 100000 in
set_option maxHeartbeats 8000000 in
theorem snapGet_any (A : Option Addr) (n c : Nat) (b : List UInt8) (w : World) (hR : RdB w w.heap.size A n b) (hn : n ≤ 1000000000) :
    Calls Tryz.prog 16 #[.slice A n c] w (GetP w (getV b)) := by
  obtain ⟨W1, hW1⟩ : ∃ W1, W1 = (w.alloc (.cells noSh.arr 29)).alloc (.cells noSh.arr 29) := ⟨_, rfl⟩
  have hb1 : Below w.heap.size w W1 := by rw [hW1]; exact ((Below.refl w.heap.size w).alloc (Nat.le_refl _) _).alloc (by simp) _
  have hs1 : W1.heap.size = w.heap.size + 2 := by rw [hW1]; simp
  have NE := Lib.hid (cursorNew_any b A n c W1 ((hR.to hb1 (Nat.le_refl _)).more hb1.size) hn)
  have Y0 := Lib.hid (show Box W1 (w.heap.size + 1) noSh.arr by rw [hW1]; exact Box.new1 w _ _ _)
  have Z0 := Lib.hid (show Box W1 w.heap.size noSh.arr by rw [hW1]; exact (Box.new w _ _).alloc _)
  have HB1 := Lib.hid hb1
  obtain ⟨⟨n1, r1⟩, e1⟩ : ∃ z, numO (some b) = z := ⟨_, rfl⟩
  obtain ⟨⟨n2, r2⟩, e2⟩ : ∃ z, numO r1 = z := ⟨_, rfl⟩
  obtain ⟨⟨l3, r3⟩, e3⟩ : ∃ z, cntO 11 r2 = z := ⟨_, rfl⟩
  obtain ⟨⟨n4, r4⟩, e4⟩ : ∃ z, numO r3 = z := ⟨_, rfl⟩
  obtain ⟨⟨l5, r5⟩, e5⟩ : ∃ z, listO bkO 1024 r4 = z := ⟨_, rfl⟩
  obtain ⟨⟨l6, r6⟩, e6⟩ : ∃ z, listO hlO 1024 r5 = z := ⟨_, rfl⟩
  obtain ⟨⟨l7, r7⟩, e7⟩ : ∃ z, listO fwO 4096 r6 = z := ⟨_, rfl⟩
  obtain ⟨S, hS⟩ : ∃ S : Sta, S = ⟨n4, l5.getD [], l6.getD [], l7.getD [], n1, n2, cntV l3⟩ := ⟨_, rfl⟩
  have hG : getS b = (S, l5.isSome && l6.isSome && l7.isSome && (endO r7).isSome) := by
    unfold getS
    simp only [e1, e2, e3, e4, e5, e6, e7, hS]
  have HG := Lib.hid hG
  have HS := Lib.hid hS
  have C1 := Lib.hid (fun p g W (k : RdrS W p g n (some b)) => number_any p g n (some b) W k)
  have C2 := Lib.hid (fun p g W (k : RdrS W p g n r1) => number_any p g n r1 W k)
  have C4 := Lib.hid (fun p g W (k : RdrS W p g n r3) => number_any p g n r3 W k)
  have C5 := Lib.hid (fun p g W (k : RdrS W p g n r4) (hg : g < W.heap.size) => list_bk p g n r4 1024 (by omega) W k hg)
  have C6 := Lib.hid (fun p g W (k : RdrS W p g n r5) (hg : g < W.heap.size) => list_hl p g n r5 1024 (by omega) W k hg)
  have C7 := Lib.hid (fun p g W (k : RdrS W p g n r6) (hg : g < W.heap.size) => list_fw p g n r6 4096 (by omega) W k hg)
  have C8 := Lib.hid (fun p g W (k : RdrS W p g n r7) => end_any p g n r7 W k)
  rw [e1] at C1
  rw [e2] at C2
  rw [e4] at C4
  rw [e5] at C5
  rw [e6] at C6
  rw [e7] at C7
  have E3 := Lib.hid e3
  have A5 := Lib.hid (show (∀ x ∈ l5.getD [], x.fine) ∧ (l5.getD []).length ≤ 1024 from by have := listO_all bkO_fine 1024 r4; rwa [e5] at this)
  have A6 := Lib.hid (show (∀ x ∈ l6.getD [], x.name.length ≤ 9223372036854775807) ∧ (l6.getD []).length ≤ 1024 from by have := listO_all (P := fun x : Hl => x.name.length ≤ 9223372036854775807) (fun s => Nat.le_trans (show (hlO s).1.1.name.length ≤ 255 from textO_len 255 s) (by omega)) 1024 r5; rwa [e6] at this)
  have A7 := Lib.hid (show (∀ x ∈ l7.getD [], x.name.length ≤ 9223372036854775807) ∧ (l7.getD []).length ≤ 4096 from by have := listO_all (P := fun x : Fw => x.name.length ≤ 9223372036854775807) (fun s => Nat.le_trans (show (fwO s).1.1.name.length ≤ 255 from textO_len 255 (tuO s).2) (by omega)) 4096 r6; rwa [e7] at this)
  have HW1 := Lib.hid hW1
  clear e1 e2 e3 e4 e5 e6 e7 hG hS hW1 hb1 hR
  obtain ⟨V, hV⟩ : ∃ V, getV b = V := ⟨_, rfl⟩
  rw [hV]
  have HV := Lib.hid hV
  clear hV
  go_enter Tryz.func16, Tryz.ntmps16
  go_wp2_with fail
  rw [← HW1.out]
  refine NE.out.mono ?_
  rintro e w1 ⟨p, g, rfl, k1, k2, k3, k4, k5⟩
  have G1 := Lib.hid (show Gst w w1 p g n (some b) (w.heap.size + 1) noSh from ⟨k1, Y0.out.go k5, Z0.out.go k5, HB1.out.trans (k5.mono HB1.out.size), rfl, by omega, by omega, k4⟩)
  clear k1 k2 k3 k4 k5
  go_wp2_with fail
  refine (C1.out _ _ _ G1.out.rdr).mono ?_
  rintro e w2 ⟨rfl, k1, k2⟩
  have G2 := Lib.hid (G1.out.read k1 k2)
  clear k1 k2
  go_wp2_with fail
  refine (C2.out _ _ _ G2.out.rdr).mono ?_
  rintro e w3 ⟨rfl, k1, k2⟩
  have G3 := Lib.hid (G2.out.read k1 k2)
  have G4 := Lib.hid ((G3.out.set 4 (.int .i64 (n1 : Int)) (Sh.set_4 _ _)).set 5 (.int .i64 (n2 : Int)) (Sh.set_5 _ _))
  obtain ⟨y1, y2, y3, y4⟩ := G3.out.bk.facts
  have hly := G3.out.bk.lt
  clear k1 k2
  go_wp2
  obtain ⟨v4, hv4⟩ : ∃ v, v = (w3.setCell ⟨w.heap.size + 1, 4, none⟩ (.int .i64 (n1 : Int))).setCell ⟨w.heap.size + 1, 5, none⟩ (.int .i64 (n2 : Int)) := ⟨_, rfl⟩
  rw [← hv4] at G4 ⊢
  clear hv4 y1 y2 y3 y4 hly
  go_loopw [18] (fun s18 wr => ∃ (i : Nat) (l : List Nat) (r' : RS), i ≤ 11 ∧ s18 = .int .i64 i ∧ l.length = i ∧ Gst w wr p g n r' (w.heap.size + 1) ⟨0, noSlc, noSlc, noSlc, n1, n2, cntV l⟩ ∧ cntO 11 r2 = (l ++ (cntO (11 - i) r').1, (cntO (11 - i) r').2)) (fun s18 _ => 11 - (intOf s18).toNat)
  case atStart => exact ⟨0, [], r2, by omega, rfl, rfl, G4.out, rfl⟩
  case round =>
    obtain ⟨i, l, r', hi, rfl, hl, hG, hc⟩ := hrel
    have GG := Lib.hid hG
    have HC := Lib.hid hc
    have HL := Lib.hid hl
    clear hG hc hl
    by_cases hlt : i < 11
    · have hlt2 : (i : Int) < 11 := by omega
      obtain ⟨⟨m, r''⟩, em⟩ : ∃ z, numO r' = z := ⟨_, rfl⟩
      have NU := Lib.hid (number_any p g n r' wr GG.out.rdr)
      rw [em] at NU
      have HC2 := Lib.hid (show cntO 11 r2 = ((l ++ [m]) ++ (cntO (11 - (i + 1)) r'').1, (cntO (11 - (i + 1)) r'').2) by
        rw [HC.out, show 11 - i = (11 - (i + 1)) + 1 by omega]
        show (l ++ ((numO r').1 :: (cntO (11 - (i + 1)) (numO r').2).1), (cntO (11 - (i + 1)) (numO r').2).2) = _
        rw [em]
        simp)
      clear em
      go_wp2_with fail
      refine NU.out.mono ?_
      rintro e w5 ⟨rfl, k1, k2⟩
      have G5 := Lib.hid (GG.out.read k1 k2)
      have G6 := Lib.hid (G5.out.set (6 + l.length) (.int .i64 (m : Int)) (Sh.set_cnt _ l m (by rw [HL.out]; exact hlt) rfl))
      rw [HL.out] at G6
      have hcell := G5.out.bk.facts.1 (6 + i)
      rw [Sh.arr_c _ i hlt] at hcell
      have hfr := G5.out.bk.facts.2.1 (6 + i)
      have hly := G5.out.bk.lt
      clear k1 k2
      go_wp2
      go_roundw
      case rel => exact ⟨i + 1, l ++ [m], r'', by omega, by go_num, by simp [HL.out], G6.out, HC2.out⟩
      case measure => simp [intOf] <;> omega
    · have hlt2 : ¬ (i : Int) < 11 := by omega
      have h3 := HC.out
      rw [E3.out, show 11 - i = 0 by omega, show (cntO 0 r') = ([], r') from rfl, List.append_nil] at h3
      injection h3 with h31 h32
      subst h31 h32
      go_wp2_with fail
      refine (C4.out _ _ _ GG.out.rdr).mono ?_
      rintro e w5 ⟨rfl, k1, k2⟩
      have G5 := Lib.hid (GG.out.read k1 k2)
      have G6 := Lib.hid (G5.out.set 0 (.int .i64 (n4 : Int)) (Sh.set_0 _ _))
      obtain ⟨y1, y2, y3, y4⟩ := G5.out.bk.facts
      have hly := G5.out.bk.lt
      clear k1 k2
      go_wp2_with fail
      obtain ⟨v6, hv6⟩ : ∃ v, v = w5.setCell ⟨w.heap.size + 1, 0, none⟩ (.int .i64 (n4 : Int)) := ⟨_, rfl⟩
      rw [← hv6] at G6 ⊢
      clear hv6 y1 y2 y3 y4 hly
      refine (C5.out _ _ _ G6.out.rdr G6.out.ne.2.2.2).mono ?_
      rintro e w7 ⟨A7', n7', c7', rfl, o7, q7, k1, k2⟩
      have R5 := Lib.hid (RowN.of G6.out o7 q7)
      have Q5 := Lib.hid q7
      have G7 := Lib.hid (G6.out.read k1 k2)
      have G8 := Lib.hid (G7.out.set 1 (.slice A7' n7' c7') (Sh.set_1 _ _ _ _))
      obtain ⟨y1, y2, y3, y4⟩ := G7.out.bk.facts
      have hly := G7.out.bk.lt
      clear k1 k2 o7 q7
      go_wp2_with fail
      obtain ⟨v8, hv8⟩ : ∃ v, v = w7.setCell ⟨w.heap.size + 1, 1, none⟩ (.slice A7' n7' c7') := ⟨_, rfl⟩
      have R5b := Lib.hid (show RowN Bk.arr 27 w v8 p A7' n7' (l5.getD []) by rw [hv8]; exact R5.out.grown (gb_set (World.grownBy.refl _ _) (.inl rfl) _) (.inr (Nat.le_refl _)))
      rw [← hv8] at G8 ⊢
      clear hv8 y1 y2 y3 y4 hly
      refine (C6.out _ _ _ G8.out.rdr G8.out.ne.2.2.2).mono ?_
      rintro e w9 ⟨A9, n9, c9, rfl, o7, q7, k1, k2⟩
      have R6 := Lib.hid (RowN.of G8.out o7 q7)
      have R5c := Lib.hid (R5b.out.grown k2 (.inl rfl))
      have Q6 := Lib.hid q7
      have G9 := Lib.hid (G8.out.read k1 k2)
      have G10 := Lib.hid (G9.out.set 2 (.slice A9 n9 c9) (Sh.set_2 _ _ _ _))
      obtain ⟨y1, y2, y3, y4⟩ := G9.out.bk.facts
      have hly := G9.out.bk.lt
      clear k1 k2 o7 q7
      go_wp2_with fail
      obtain ⟨v10, hv10⟩ : ∃ v, v = w9.setCell ⟨w.heap.size + 1, 2, none⟩ (.slice A9 n9 c9) := ⟨_, rfl⟩
      have R5d := Lib.hid (show RowN Bk.arr 27 w v10 p A7' n7' (l5.getD []) by rw [hv10]; exact R5c.out.grown (gb_set (World.grownBy.refl _ _) (.inl rfl) _) (.inr (Nat.le_refl _)))
      have R6b := Lib.hid (show RowN Hl.arr 3 w v10 p A9 n9 (l6.getD []) by rw [hv10]; exact R6.out.grown (gb_set (World.grownBy.refl _ _) (.inl rfl) _) (.inr (Nat.le_refl _)))
      rw [← hv10] at G10 ⊢
      clear hv10 y1 y2 y3 y4 hly
      refine (C7.out _ _ _ G10.out.rdr G10.out.ne.2.2.2).mono ?_
      rintro e w11 ⟨A11, n11, c11, rfl, o7, q7, k1, k2⟩
      have R7 := Lib.hid (RowN.of G10.out o7 q7)
      have R5e := Lib.hid (R5d.out.grown k2 (.inl rfl))
      have R6c := Lib.hid (R6b.out.grown k2 (.inl rfl))
      have Q7 := Lib.hid q7
      have G11 := Lib.hid (G10.out.read k1 k2)
      have G12 := Lib.hid (G11.out.set 3 (.slice A11 n11 c11) (Sh.set_3 _ _ _ _))
      obtain ⟨y1, y2, y3, y4⟩ := G11.out.bk.facts
      have hly := G11.out.bk.lt
      clear k1 k2 o7 q7
      go_wp2_with fail
      obtain ⟨v12, hv12⟩ : ∃ v, v = w11.setCell ⟨w.heap.size + 1, 3, none⟩ (.slice A11 n11 c11) := ⟨_, rfl⟩
      have R5f := Lib.hid (show RowN Bk.arr 27 w v12 p A7' n7' (l5.getD []) by rw [hv12]; exact R5e.out.grown (gb_set (World.grownBy.refl _ _) (.inl rfl) _) (.inr (Nat.le_refl _)))
      have R6d := Lib.hid (show RowN Hl.arr 3 w v12 p A9 n9 (l6.getD []) by rw [hv12]; exact R6c.out.grown (gb_set (World.grownBy.refl _ _) (.inl rfl) _) (.inr (Nat.le_refl _)))
      have R7b := Lib.hid (show RowN Fw.arr 41 w v12 p A11 n11 (l7.getD []) by rw [hv12]; exact R7.out.grown (gb_set (World.grownBy.refl _ _) (.inl rfl) _) (.inr (Nat.le_refl _)))
      rw [← hv12] at G12 ⊢
      clear hv12 y1 y2 y3 y4 hly
      refine (C8.out _ _ _ G12.out.rdr).mono ?_
      rintro e w13 ⟨rfl, k1, k2⟩
      have G13 := Lib.hid (G12.out.read k1 k2)
      have R5g := Lib.hid (R5f.out.grown k2 (.inl rfl))
      have R6e := Lib.hid (R6d.out.grown k2 (.inl rfl))
      have R7c := Lib.hid (R7b.out.grown k2 (.inl rfl))
      clear k1 k2
      cases hq5 : l5.isSome
      · have HN := Lib.hid (show V = none by rw [← HV.out]; unfold getV; rw [HG.out, hq5]; simp)
        have thz := G13.out.res.there 0 17 (by rw [Sh.arr_size]; omega)
        go_wp2
        obtain ⟨g1, g2⟩ := G13.out.fin noSh
        have hh := g1.facts
        refine bodyPost_ret (ret_sh rfl _ _ w.heap.size 0 rfl (by rw [hh.2.2.1 0 17 (by rw [Sh.csize]; omega)]; trivial)) rfl ?_
        rw [hh.2.2.2 0 17 (by rw [Sh.csize]; omega), Sh.extract_all, HN.out]
        exact ⟨g2, rfl⟩
      cases hq6 : l6.isSome
      · have HN := Lib.hid (show V = none by rw [← HV.out]; unfold getV; rw [HG.out, hq5, hq6]; simp)
        have thz := G13.out.res.there 0 17 (by rw [Sh.arr_size]; omega)
        go_wp2
        obtain ⟨g1, g2⟩ := G13.out.fin noSh
        have hh := g1.facts
        refine bodyPost_ret (ret_sh rfl _ _ w.heap.size 0 rfl (by rw [hh.2.2.1 0 17 (by rw [Sh.csize]; omega)]; trivial)) rfl ?_
        rw [hh.2.2.2 0 17 (by rw [Sh.csize]; omega), Sh.extract_all, HN.out]
        exact ⟨g2, rfl⟩
      cases hq7 : l7.isSome
      · have HN := Lib.hid (show V = none by rw [← HV.out]; unfold getV; rw [HG.out, hq5, hq6, hq7]; simp)
        have thz := G13.out.res.there 0 17 (by rw [Sh.arr_size]; omega)
        go_wp2
        obtain ⟨g1, g2⟩ := G13.out.fin noSh
        have hh := g1.facts
        refine bodyPost_ret (ret_sh rfl _ _ w.heap.size 0 rfl (by rw [hh.2.2.1 0 17 (by rw [Sh.csize]; omega)]; trivial)) rfl ?_
        rw [hh.2.2.2 0 17 (by rw [Sh.csize]; omega), Sh.extract_all, HN.out]
        exact ⟨g2, rfl⟩
      obtain ⟨AF, nF, cF, atF, faF, feF, hBF, hsF⟩ := G13.out.rdr.spot
      have FA := Lib.hid (fun W' (h : Below w13.heap.size w13 W') => fault_any p AF nF cF atF faF feF W' (hBF.go h))
      have HG2 := Lib.hid (show getS b = (S, (endO r7).isSome) by rw [HG.out, hq5, hq6, hq7]; rfl)
      obtain ⟨q8, hq8⟩ : ∃ q, (endO r7).isSome = q := ⟨_, rfl⟩
      rw [hq8] at hsF HG2
      clear hBF hq8
      have hzz : ({ at_ := 0, err := 0 } : Sp) = noSp := rfl
      go_wp2_with fail
      refine (FA.out _ (Below.refl _ _)).mono ?_
      rintro e w14 ⟨rfl, hb14⟩
      have G14 := Lib.hid (G13.out.go hb14)
      have R5h := Lib.hid (R5g.out.go hb14)
      have R6f := Lib.hid (R6e.out.go hb14)
      have R7d := Lib.hid (R7c.out.go hb14)
      clear hb14
      cases q8
      · have HN := Lib.hid (show V = none by rw [← HV.out]; unfold getV; rw [HG2.out]; simp)
        have thz := G14.out.res.there 0 17 (by rw [Sh.arr_size]; omega)
        go_wp2
        obtain ⟨g1, g2⟩ := G14.out.fin noSh
        have hh := g1.facts
        refine bodyPost_ret (ret_sh rfl _ _ w.heap.size 0 rfl (by rw [hh.2.2.1 0 17 (by rw [Sh.csize]; omega)]; trivial)) rfl ?_
        rw [hh.2.2.2 0 17 (by rw [Sh.csize]; omega), Sh.extract_all, HN.out]
        exact ⟨g2, rfl⟩
      obtain ⟨y1, y2, y3, y4⟩ := G14.out.bk.facts
      have hly := G14.out.bk.lt
      have hst : StR w14 w14.heap.size (Sh.mk n4 ⟨A7', n7', c7'⟩ ⟨A9, n9, c9⟩ ⟨A11, n11, c11⟩ n1 n2 (cntV l3)) S := by
        rw [HS.out]
        exact ⟨rfl, R5h.out.1, R6f.out.1, R7d.out.1, rfl, rfl, rfl, A5.out.1, A6.out.1, A7.out.1, by have := A5.out.2; have := Q5.out; show n7' ≤ _; omega, by have := A6.out.2; have := Q6.out; show n9 ≤ _; omega, by have := A7.out.2; have := Q7.out; show n11 ≤ _; omega⟩
      have SR := Lib.hid (snapRight_any _ S w14 hst)
      have HST := Lib.hid hst
      obtain ⟨K, hK⟩ : ∃ K, okSta S = K := ⟨_, rfl⟩
      rw [hK] at SR
      have HK := Lib.hid hK
      clear hK hst
      go_wp2_with fail
      refine SR.out.mono ?_
      rintro e w15 ⟨rfl, hb15⟩
      have G15 := Lib.hid (G14.out.go hb15)
      have R5i := Lib.hid (R5h.out.go hb15)
      have R6g := Lib.hid (R6f.out.go hb15)
      have R7e := Lib.hid (R7d.out.go hb15)
      clear hb15 y1 y2 y3 y4 hly
      cases K
      · have HN := Lib.hid (show V = none by rw [← HV.out]; unfold getV; rw [HG2.out]; simp [HK.out])
        have thz := G15.out.res.there 0 17 (by rw [Sh.arr_size]; omega)
        go_wp2
        obtain ⟨g1, g2⟩ := G15.out.fin noSh
        have hh := g1.facts
        refine bodyPost_ret (ret_sh rfl _ _ w.heap.size 0 rfl (by rw [hh.2.2.1 0 17 (by rw [Sh.csize]; omega)]; trivial)) rfl ?_
        rw [hh.2.2.2 0 17 (by rw [Sh.csize]; omega), Sh.extract_all, HN.out]
        exact ⟨g2, rfl⟩
      · have HN := Lib.hid (show V = some S by rw [← HV.out]; unfold getV; rw [HG2.out]; simp [HK.out])
        have thz := G15.out.res.there 0 17 (by rw [Sh.arr_size]; omega)
        obtain ⟨y1, y2, y3, y4⟩ := G15.out.bk.facts
        have hly := G15.out.bk.lt
        go_wp2
        obtain ⟨g1, g2⟩ := G15.out.fin (Sh.mk n4 ⟨A7', n7', c7'⟩ ⟨A9, n9, c9⟩ ⟨A11, n11, c11⟩ n1 n2 (cntV l3))
        have hh := g1.facts
        refine bodyPost_ret (ret_sh rfl _ _ w.heap.size 0 rfl (by rw [hh.2.2.1 0 17 (by rw [Sh.csize]; omega)]; trivial)) rfl ?_
        rw [hh.2.2.2 0 17 (by rw [Sh.csize]; omega), Sh.extract_all, HN.out]
        have hgz := grown_cells w15 w.heap.size 0 (Sh.mk n4 ⟨A7', n7', c7'⟩ ⟨A9, n9, c9⟩ ⟨A11, n11, c11⟩ n1 n2 (cntV l3)).arr.toList
        have Q1 := R5i.out.grown hgz (.inr (by omega))
        have Q2 := R6g.out.grown hgz (.inr (by omega))
        have Q3 := R7e.out.grown hgz (.inr (by omega))
        refine ⟨g2, _, rfl, ?_, fun a ha => ?_, fun a ha => ?_, fun a ha => ?_⟩
        · rw [HS.out]
          exact ⟨rfl, Q1.1, Q2.1, Q3.1, rfl, rfl, rfl, A5.out.1, A6.out.1, A7.out.1, by have := A5.out.2; have := Q5.out; show n7' ≤ _; omega, by have := A6.out.2; have := Q6.out; show n9 ≤ _; omega, by have := A7.out.2; have := Q7.out; show n11 ≤ _; omega⟩
        · have := Q1.2 a ha; omega
        · have := Q2.2 a ha; omega
        · have := Q3.2 a ha; omega
end Go.Proofs.YtmpemeemlhmaaaaGreat
