/- Healths: few, short, the same, found, who is down. -/
import Derived.Test.YtjeeigdbfngjaaaHeB
import Derived.Test.YtjeeigdbfngjaaaQr
import Derived.Deep.QuietTactic
import Derived.BigQuiet
set_option linter.unusedSimpArgs false
set_option linter.unusedVariables false
namespace Go.Proofs.Ytjeeigdbfngjaaa
open Go.RowKit

theorem range_all_succ (p : Nat → Bool) (i : Nat) : (List.range (i + 1)).all p = ((List.range i).all p && p i) := by
  rw [List.range_succ, List.all_append]; simp
theorem range_all_false (p : Nat → Bool) (i n : Nat) (h : i < n) (hp : p i = false) : (List.range n).all p = false := by
  rw [List.all_eq_false]; exact ⟨i, List.mem_range.2 h, by rw [hp]; simp⟩
abbrev RdH := RdR Hl.arr 3
theorem RdR.hl {W : World} {B n : Nat} {A : Option Addr} {l : List Hl} {k : Nat} (h : RdH W B A n l) (hk : k < n) : ∃ b o, A = some ⟨b, o, none⟩ ∧ b < B ∧ Has W b (o + k * 3) 3 ∧ cellsAt W b (o + k * 3) 3 = (l.getD k noHl).arr ∧
    W.cell? ⟨b, o + k * 3, none⟩ = some (.string (textOf (l.getD k noHl).name)) ∧ W.cell? ⟨b, o + k * 3 + 1, none⟩ = some (.bool (l.getD k noHl).down) := by
  obtain ⟨b, o, hA, hb, hc⟩ := RdR.cell Hl.arr_size noHl h hk
  obtain ⟨h1, h2⟩ := cellsAt_eq (Hl.arr_size _) hc
  exact ⟨b, o, hA, hb, h1, h2, by have := hc 0 (by omega); rw [Nat.add_zero] at this; exact this, hc 1 (by omega)⟩
theorem Has.below {w W : World} {b o k B : Nat} (h : Has w b o k) (hb : Below B w W) (hlt : b < B) : Has W b o k := fun j hj => by
  obtain ⟨u, hu⟩ := h j hj
  exact ⟨u, by rw [hb.cell hlt]; exact hu⟩
theorem cellsAt_below {w W : World} {b o k B : Nat} (hb : Below B w W) (hlt : b < B) : cellsAt W b o k = cellsAt w b o k := cellsAt_of fun j _ => hb.cell hlt
def fewT (ls : List (List UInt8)) : Bool := decide (ls.length ≤ 50) && (List.range ls.length).all (fun i => decide ((ls.getD i []).length ≤ 60))
theorem fewT_le {ls : List (List UInt8)} (h : fewT ls = true) : ls.length ≤ 50 := by unfold fewT at h; simp at h; exact h.1
def namesH (l : List Hl) : List (List UInt8) := l.map (·.name)
theorem namesH_len (l : List Hl) : (namesH l).length = l.length := by simp [namesH]
theorem namesH_get (l : List Hl) (i : Nat) : (namesH l).getD i [] = (l.getD i noHl).name := by
  unfold namesH
  rw [List.getD_eq_getElem?_getD, List.getD_eq_getElem?_getD, List.getElem?_map]
  cases l[i]? <;> rfl
set_option maxRecDepth 100000 in
theorem few_any (l : List Hl) (A : Option Addr) (n c : Nat) (w : World) (hR : RdH w w.heap.size A n l) (hn : n ≤ 9223372036854775807) :
    Calls Try.prog 15 #[.slice A n c] w fun e w' => e = .returned (.bool (fewT (namesH l))) ∧ w = w' := by
  have HR := Lib.hid hR
  have HN := Lib.hid hR.1
  clear hR
  have HFW := Lib.hid (show fewT (namesH l) = (decide (n ≤ 50) && (List.range n).all (fun i => decide (((namesH l).getD i []).length ≤ 60))) from by unfold fewT; rw [namesH_len, HN.out])
  go_enter Try.func15, Try.ntmps15
  go_wp2
  go_loop [3] (fun s3 => ∃ i : Nat, i ≤ n ∧ i ≤ 60 ∧ s3 = .int .i64 i ∧ ∀ k, k < i → ((namesH l).getD k []).length ≤ 60) (fun s3 => n - (intOf s3).toNat)
  case atStart => exact ⟨0, by omega, by omega, rfl, fun k hk => by omega⟩
  case round =>
    obtain ⟨i, hin, hi60, rfl, hall⟩ := hrel
    have HA := Lib.hid hall
    clear hall
    by_cases hlt : i < n
    · have hi : (i : Int) < n := by omega
      by_cases h6 : i < 60
      · have hi6 : (i : Int) < 60 := by omega
        obtain ⟨b, o, rfl, hbb, hh, hcl, hc, _⟩ := HR.out.hl hlt
        clear hbb
        obtain ⟨pn, hp⟩ : ∃ pn, pn = (namesH l).getD i [] := ⟨_, rfl⟩
        rw [← namesH_get, ← hp] at hc
        have HP := Lib.hid hp
        clear hp
        by_cases hq : pn.length ≤ 60
        · have hq1 : (pn.length : Int) ≤ 60 := by omega
          go_wp2
          go_round
          case rel => exact ⟨i + 1, by omega, by omega, by go_num, fun k hk => by
            by_cases hki : k = i
            · rw [hki, ← HP.out]; exact hq
            · exact HA.out k (by omega)⟩
          case measure => simp [intOf] <;> omega
        · have hq1 : ¬ (pn.length : Int) ≤ 60 := by omega
          have hq2 : (60 : Int) < pn.length := by omega
          have HF := Lib.hid (show fewT (namesH l) = false by rw [HFW.out, range_all_false _ i _ hlt (by rw [← HP.out]; simpa using hq)]; simp)
          go_wp2
          go_ret
          exact ⟨by rw [HF.out]; rfl, rfl⟩
      · have hd : decide ((i : Int) < 60) = false := by simp; omega
        have HF := Lib.hid (show fewT (namesH l) = decide ((n : Int) ≤ 50) by
          rw [HFW.out, show decide (n ≤ 50) = false from decide_eq_false (by omega), show decide ((n : Int) ≤ 50) = false from decide_eq_false (by omega)]; rfl)
        go_wp2
        go_ret
        exact ⟨by rw [HF.out]; rfl, rfl⟩
    · obtain rfl : i = n := by omega
      have hd : decide ((i : Int) < i) = false := by simp
      have HF := Lib.hid (show fewT (namesH l) = decide ((i : Int) ≤ 50) by
        rw [HFW.out, List.all_eq_true.2 (fun k hk => decide_eq_true (HA.out k (List.mem_range.1 hk))), Bool.and_true]
        rw [decide_eq_decide]; omega)
      go_wp2
      go_ret
      exact ⟨by rw [HF.out]; rfl, rfl⟩
set_option maxRecDepth 100000 in
theorem short_any (l : List (List UInt8)) (A : Option Addr) (n c : Nat) (w : World) (hR : RdT w w.heap.size A n l) (hn : n ≤ 9223372036854775807) :
    Calls Try.prog 16 #[.slice A n c] w fun e w' => e = .returned (.bool (fewT (l))) ∧ w = w' := by
  have HR := Lib.hid hR
  have HN := Lib.hid hR.1
  clear hR
  have HFW := Lib.hid (show fewT (l) = (decide (n ≤ 50) && (List.range n).all (fun i => decide (((l).getD i []).length ≤ 60))) from by unfold fewT; rw [HN.out])
  go_enter Try.func16, Try.ntmps16
  go_wp2
  go_loop [3] (fun s3 => ∃ i : Nat, i ≤ n ∧ i ≤ 60 ∧ s3 = .int .i64 i ∧ ∀ k, k < i → ((l).getD k []).length ≤ 60) (fun s3 => n - (intOf s3).toNat)
  case atStart => exact ⟨0, by omega, by omega, rfl, fun k hk => by omega⟩
  case round =>
    obtain ⟨i, hin, hi60, rfl, hall⟩ := hrel
    have HA := Lib.hid hall
    clear hall
    by_cases hlt : i < n
    · have hi : (i : Int) < n := by omega
      by_cases h6 : i < 60
      · have hi6 : (i : Int) < 60 := by omega
        obtain ⟨b, o, rfl, hbb, hc⟩ := HR.out.text hlt
        clear hbb
        obtain ⟨pn, hp⟩ : ∃ pn, pn = (l).getD i [] := ⟨_, rfl⟩
        rw [← hp] at hc
        have HP := Lib.hid hp
        clear hp
        by_cases hq : pn.length ≤ 60
        · have hq1 : (pn.length : Int) ≤ 60 := by omega
          go_wp2
          go_round
          case rel => exact ⟨i + 1, by omega, by omega, by go_num, fun k hk => by
            by_cases hki : k = i
            · rw [hki, ← HP.out]; exact hq
            · exact HA.out k (by omega)⟩
          case measure => simp [intOf] <;> omega
        · have hq1 : ¬ (pn.length : Int) ≤ 60 := by omega
          have hq2 : (60 : Int) < pn.length := by omega
          have HF := Lib.hid (show fewT (l) = false by rw [HFW.out, range_all_false _ i _ hlt (by rw [← HP.out]; simpa using hq)]; simp)
          go_wp2
          go_ret
          exact ⟨by rw [HF.out]; rfl, rfl⟩
      · have hd : decide ((i : Int) < 60) = false := by simp; omega
        have HF := Lib.hid (show fewT (l) = decide ((n : Int) ≤ 50) by
          rw [HFW.out, show decide (n ≤ 50) = false from decide_eq_false (by omega), show decide ((n : Int) ≤ 50) = false from decide_eq_false (by omega)]; rfl)
        go_wp2
        go_ret
        exact ⟨by rw [HF.out]; rfl, rfl⟩
    · obtain rfl : i = n := by omega
      have hd : decide ((i : Int) < i) = false := by simp
      have HF := Lib.hid (show fewT (l) = decide ((i : Int) ≤ 50) by
        rw [HFW.out, List.all_eq_true.2 (fun k hk => decide_eq_true (HA.out k (List.mem_range.1 hk))), Bool.and_true]
        rw [decide_eq_decide]; omega)
      go_wp2
      go_ret
      exact ⟨by rw [HF.out]; rfl, rfl⟩
/-- the place of a name -/
def posH (l : List Hl) (s : List UInt8) : Int := match l.findIdx? (fun x => x.name == s) with | some i => (i : Nat) | none => -1
theorem posH_at {l : List Hl} {s : List UInt8} {i : Nat} (hi : i < l.length) (h : (l.getD i noHl).name = s) (hno : ∀ k, k < i → (l.getD k noHl).name ≠ s) : posH l s = i := by
  have : l.findIdx? (fun x => x.name == s) = some i := by
    rw [List.findIdx?_eq_some_iff_getElem]
    refine ⟨hi, ?_, fun j hj => ?_⟩
    · rw [List.getD_eq_getElem?_getD, List.getElem?_eq_getElem hi] at h
      simpa using h
    · have := hno j hj
      rw [List.getD_eq_getElem?_getD, List.getElem?_eq_getElem (by omega)] at this
      simpa using this
  unfold posH; rw [this]
theorem posH_no {l : List Hl} {s : List UInt8} (hno : ∀ k, k < l.length → (l.getD k noHl).name ≠ s) : posH l s = -1 := by
  have : l.findIdx? (fun x => x.name == s) = none := by
    rw [List.findIdx?_eq_none_iff]
    intro x hx
    obtain ⟨k, hk, rfl⟩ := List.getElem_of_mem hx
    have := hno k hk
    rw [List.getD_eq_getElem?_getD, List.getElem?_eq_getElem hk] at this
    simpa using this
  unfold posH; rw [this]
theorem posH_lt (l : List Hl) (s : List UInt8) : posH l s < l.length := by
  unfold posH
  split
  · rename_i i h
    have := (List.findIdx?_eq_some_iff_getElem.1 h).1
    omega
  · omega
theorem posH_cases (l : List Hl) (s : List UInt8) : posH l s = -1 ∨ ∃ i : Nat, posH l s = i ∧ i < l.length := by
  have := posH_lt l s
  unfold posH at this ⊢
  split
  · rename_i i h; rw [h] at this; exact .inr ⟨i, rfl, by simpa using this⟩
  · exact .inl rfl
set_option maxRecDepth 100000 in
theorem refFind_any (l : List Hl) (s : List UInt8) (A : Option Addr) (n c : Nat) (w : World) (hR : RdH w w.heap.size A n l) (hn : n ≤ 4611686018427387904) :
    Calls Try.prog 31 #[.slice A n c, .string (textOf s)] w fun e w' => e = .returned (.int .i64 (posH l s)) ∧ w = w' := by
  have HR := Lib.hid hR
  have HN := Lib.hid hR.1
  clear hR
  go_enter Try.func31, Try.ntmps31
  go_wp2
  go_loop [5] (fun s8 => ∃ i : Nat, i ≤ n ∧ s8 = .int .i64 i ∧ ∀ k, k < i → (l.getD k noHl).name ≠ s) (fun s8 => n - (intOf s8).toNat)
  case atStart => exact ⟨0, by omega, rfl, fun k hk => by omega⟩
  case round =>
    obtain ⟨i, hin, rfl, hno⟩ := hrel
    have HNO := Lib.hid hno
    clear hno
    by_cases hlt : i < n
    · have hi : (i : Int) < n := by omega
      obtain ⟨b, o, rfl, hbb, hh, hcl, hc, _⟩ := HR.out.hl hlt
      clear hbb hh hcl
      obtain ⟨pn, hp⟩ : ∃ pn, pn = (l.getD i noHl).name := ⟨_, rfl⟩
      rw [← hp] at hc
      have HP := Lib.hid hp
      clear hp
      by_cases hq : pn = s
      · have hbq : (pn == s) = true := by rw [hq]; simp
        have HPOS := Lib.hid (posH_at (by rw [HN.out]; exact hlt) (by rw [← HP.out]; exact hq) HNO.out)
        clear hq
        go_wp2
        go_ret
        exact ⟨by rw [HPOS.out]; rfl, rfl⟩
      · have hbq : (pn == s) = false := by simpa using hq
        have HQ := Lib.hid hq
        clear hq
        go_wp2
        go_round
        case rel => exact ⟨i + 1, by omega, by go_num, fun k hk => by
          by_cases hki : k = i
          · rw [hki, ← HP.out]; exact HQ.out
          · exact HNO.out k (by omega)⟩
        case measure => simp [intOf] <;> omega
    · obtain rfl : i = n := by omega
      have HPOS := Lib.hid (posH_no (l := l) (s := s) (fun k hk => HNO.out k (by have := HN.out; omega)))
      have hd : decide ((i : Int) < i) = false := by simp
      go_wp2
      go_ret
      exact ⟨by rw [HPOS.out]; rfl, rfl⟩
set_option maxHeartbeats 1000000 in
set_option maxRecDepth 100000 in
theorem sameH_any (l m : List Hl) (A B : Option Addr) (n k c d : Nat) (w : World) (hR : RdH w w.heap.size A n l) (hT : RdH w w.heap.size B k m) (hn : n ≤ 4611686018427387904) (hk : k ≤ 4611686018427387904) :
    Calls Try.prog 18 #[.slice A n c, .slice B k d] w fun e w' => e = .returned (.bool (decide (l = m))) ∧ Below w.heap.size w w' := by
  have HR := Lib.hid hR
  have HT := Lib.hid hT
  have HN := Lib.hid hR.1
  have HK := Lib.hid hT.1
  clear hR hT
  by_cases hlm : n = k
  rotate_left
  · have hne : ((n : Int) != (k : Int)) = true := by rw [bne_iff_ne]; omega
    have HF := Lib.hid (show decide (l = m) = false from decide_eq_false (fun e => hlm (by rw [← HN.out, ← HK.out, e])))
    clear hlm
    go_enter Try.func18, Try.ntmps18
    go_wp2
    go_ret
    exact ⟨by rw [HF.out]; rfl, Below.refl _ _⟩
  subst hlm
  have hbn : ((n : Int) != (n : Int)) = false := by simp
  go_enter Try.func18, Try.ntmps18
  go_wp2
  go_loopw [5] (fun s5 wr => ∃ i : Nat, i ≤ n ∧ s5 = .int .i64 i ∧ l.take i = m.take i ∧ Below w.heap.size w wr) (fun s5 _ => n - (intOf s5).toNat)
  case atStart => exact ⟨0, by omega, rfl, rfl, Below.refl _ _⟩
  case round =>
    obtain ⟨i, hin, rfl, hall, hb⟩ := hrel
    have HA := Lib.hid hall
    have HB := Lib.hid hb
    clear hall hb
    by_cases hlt : i < n
    · have hi : (i : Int) < n := by omega
      obtain ⟨b, o, rfl, hbb, hh, hc, _, _⟩ := (HR.out.below HB.out).hl hlt
      obtain ⟨b2, o2, rfl, hbb2, hh2, hc2, _, _⟩ := (HT.out.below HB.out).hl hlt
      obtain ⟨x, hx⟩ : ∃ x, x = l.getD i noHl := ⟨_, rfl⟩
      obtain ⟨y, hy⟩ : ∃ y, y = m.getD i noHl := ⟨_, rfl⟩
      rw [← hx] at hc
      rw [← hy] at hc2
      have HX := Lib.hid hx
      have HY := Lib.hid hy
      clear hx hy hbb hbb2
      by_cases hq : x = y
      · have he : hlEq x y = true := by rw [hlEq_is]; simpa using hq
        have HS := Lib.hid (show l.take (i + 1) = m.take (i + 1) by
          rw [← take_snocR noHl l i (by rw [HN.out]; exact hlt), ← take_snocR noHl m i (by rw [HK.out]; exact hlt), HA.out, ← HX.out, ← HY.out, hq])
        clear hq
        go_wp2
        go_quiet (fail)
        go_wp2
        go_roundw
        case rel => exact ⟨i + 1, by omega, by go_num, HS.out, below_drewN HB.out _⟩
        case measure => simp [intOf] <;> omega
      · have he : hlEq x y = false := by rw [hlEq_is]; simpa using hq
        have HF := Lib.hid (show decide (l = m) = false from decide_eq_false (fun e => hq (by rw [HX.out, HY.out, e])))
        clear hq
        go_wp2
        go_quiet (fail)
        go_wp2
        go_ret
        exact ⟨by rw [HF.out]; rfl, below_drewN HB.out _⟩
    · obtain rfl : i = n := by omega
      have hd : decide ((i : Int) < i) = false := by simp
      have HT2 := Lib.hid (show decide (l = m) = true from decide_eq_true (by
        have := HA.out
        rwa [List.take_of_length_le (by rw [HN.out]; omega), List.take_of_length_le (by rw [HK.out]; omega)] at this))
      go_wp2
      go_ret
      exact ⟨by rw [HT2.out]; rfl, HB.out⟩
set_option maxHeartbeats 1000000 in
set_option maxRecDepth 100000 in
theorem texts_any (l m : List (List UInt8)) (A B : Option Addr) (n k c d : Nat) (w : World) (hR : RdT w w.heap.size A n l) (hT : RdT w w.heap.size B k m) (hn : n ≤ 4611686018427387904) (hk : k ≤ 4611686018427387904) :
    Calls Try.prog 20 #[.slice A n c, .slice B k d] w fun e w' => e = .returned (.bool (decide (l = m))) ∧ Below w.heap.size w w' := by
  have HR := Lib.hid hR
  have HT := Lib.hid hT
  have HN := Lib.hid hR.1
  have HK := Lib.hid hT.1
  clear hR hT
  by_cases hlm : n = k
  rotate_left
  · have hne : ((n : Int) != (k : Int)) = true := by rw [bne_iff_ne]; omega
    have HF := Lib.hid (show decide (l = m) = false from decide_eq_false (fun e => hlm (by rw [← HN.out, ← HK.out, e])))
    clear hlm
    go_enter Try.func20, Try.ntmps20
    go_wp2
    go_ret
    exact ⟨by rw [HF.out]; rfl, Below.refl _ _⟩
  subst hlm
  have hbn : ((n : Int) != (n : Int)) = false := by simp
  go_enter Try.func20, Try.ntmps20
  go_wp2
  go_loopw [5] (fun s5 wr => ∃ i : Nat, i ≤ n ∧ s5 = .int .i64 i ∧ l.take i = m.take i ∧ Below w.heap.size w wr) (fun s5 _ => n - (intOf s5).toNat)
  case atStart => exact ⟨0, by omega, rfl, rfl, Below.refl _ _⟩
  case round =>
    obtain ⟨i, hin, rfl, hall, hb⟩ := hrel
    have HA := Lib.hid hall
    have HB := Lib.hid hb
    clear hall hb
    by_cases hlt : i < n
    · have hi : (i : Int) < n := by omega
      obtain ⟨b, o, rfl, hbb, hc⟩ := (HR.out.below HB.out).text hlt
      obtain ⟨b2, o2, rfl, hbb2, hc2⟩ := (HT.out.below HB.out).text hlt
      obtain ⟨x, hx⟩ : ∃ x, x = l.getD i [] := ⟨_, rfl⟩
      obtain ⟨y, hy⟩ : ∃ y, y = m.getD i [] := ⟨_, rfl⟩
      rw [← hx] at hc
      rw [← hy] at hc2
      have HX := Lib.hid hx
      have HY := Lib.hid hy
      clear hx hy hbb hbb2
      by_cases hq : x = y
      · have hn1 : (x != y) = false := by simpa using hq
        have hn2 : (x == y) = true := by simpa using hq
        have hn3 : decide (x = y) = true := by simpa using hq
        have hn4 : decide (x ≠ y) = false := by simpa using hq
        have hn5 : (!decide (x = y)) = false := by simpa using hq
        have HS := Lib.hid (show l.take (i + 1) = m.take (i + 1) by
          rw [← take_snocR [] l i (by rw [HN.out]; exact hlt), ← take_snocR [] m i (by rw [HK.out]; exact hlt), HA.out, ← HX.out, ← HY.out, hq])
        clear hq
        go_wp2
        go_quiet (fail)
        go_wp2
        go_roundw
        case rel => exact ⟨i + 1, by omega, by go_num, HS.out, below_drewN HB.out _⟩
        case measure => simp [intOf] <;> omega
      · have hn1 : (x != y) = true := by simpa using hq
        have hn2 : (x == y) = false := by simpa using hq
        have hn3 : decide (x = y) = false := by simpa using hq
        have hn4 : decide (x ≠ y) = true := by simpa using hq
        have hn5 : (!decide (x = y)) = true := by simpa using hq
        have HF := Lib.hid (show decide (l = m) = false from decide_eq_false (fun e => hq (by rw [HX.out, HY.out, e])))
        clear hq
        go_wp2
        go_quiet (fail)
        go_wp2
        go_ret
        exact ⟨by rw [HF.out]; rfl, below_drewN HB.out _⟩
    · obtain rfl : i = n := by omega
      have hd : decide ((i : Int) < i) = false := by simp
      have HT2 := Lib.hid (show decide (l = m) = true from decide_eq_true (by
        have := HA.out
        rwa [List.take_of_length_le (by rw [HN.out]; omega), List.take_of_length_le (by rw [HK.out]; omega)] at this))
      go_wp2
      go_ret
      exact ⟨by rw [HT2.out]; rfl, HB.out⟩
end Go.Proofs.Ytjeeigdbfngjaaa
