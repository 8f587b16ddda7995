/- Whether a backend is right: the program's way and the document's. -/
import Derived.Test.YtgcahcjffoehfaaPoA
import Derived.Test.YtgcahcjffoehfaaBk
import Derived.Test.YtgcahcjffoehfaaWgD
set_option linter.unusedSimpArgs false
set_option linter.unusedVariables false
namespace Go.Proofs.Ytgcahcjffoehfaa
open Go.RowKit

theorem strAt (s : List UInt8) (i : Nat) (h : i < (textOf s).size) : (textOf s)[i]'h = s.getD i 0 := by
  have hi : i < s.length := by rw [textOf_size] at h; exact h
  rw [List.getD_eq_getElem?_getD, List.getElem?_eq_getElem hi]
  rfl

set_option maxRecDepth 100000 in
theorem refName_any (s : List UInt8) (w : World) (hs : s.length ≤ 9223372036854775807) :
    Calls Try.prog 13 #[.string (textOf s)] w fun e w' => e = .returned (.bool (okName s)) ∧ w = w' := by
  by_cases h1 : 1 ≤ s.length
  rotate_left
  · have hk : okName s = false := by simp [okName]; omega
    have HK := Lib.hid hk
    clear hk
    go_enter Try.func13, Try.ntmps13
    go_wp2
    go_ret
    exact ⟨by rw [HK.out]; rfl, rfl⟩
  by_cases h2 : s.length ≤ 24
  rotate_left
  · have hk : okName s = false := by simp [okName]; omega
    have HK := Lib.hid hk
    clear hk
    go_enter Try.func13, Try.ntmps13
    go_wp2
    go_ret
    exact ⟨by rw [HK.out]; rfl, rfl⟩
  go_enter Try.func13, Try.ntmps13
  go_wp2
  go_loop [3] (fun s3 => ∃ i : Nat, i ≤ s.length ∧ s3 = .int .i64 i ∧ (s.take i).all okCh = true) (fun s3 => s.length - (intOf s3).toNat)
  case atStart => exact ⟨0, by omega, rfl, rfl⟩
  case round =>
    obtain ⟨i, hi, rfl, hall⟩ := hrel
    have HA := Lib.hid hall
    clear hall
    by_cases hlt : i < s.length
    · have hin : (i : Int) < s.length := by omega
      have hsn := all_take_succ s okCh i hlt
      have hno := all_false_of s okCh i hlt
      have HS := Lib.hid hsn
      have HN := Lib.hid hno
      clear hsn hno
      have hcell : ∀ h : i < (textOf s).size, ((textOf s)[i]'h).toNat = (s.getD i 0).toNat := fun h => by rw [strAt]
      have hlt8 := (s.getD i 0).toNat_lt
      obtain ⟨c, hcc⟩ : ∃ c, c = s.getD i 0 := ⟨_, rfl⟩
      rw [← hcc] at hcell HS HN hlt8
      clear hcc
      have hok : okCh c = ((decide (97 ≤ c.toNat) && decide (c.toNat ≤ 122)) || (decide (48 ≤ c.toNat) && decide (c.toNat ≤ 57)) || decide (c.toNat = 45) || decide (c.toNat = 46)) := rfl
      have HOK := Lib.hid hok
      clear hok
      generalize c.toNat = n at hcell hlt8 HOK
      rcases (show n < 45 ∨ n = 45 ∨ n = 46 ∨ n = 47 ∨ (48 ≤ n ∧ n ≤ 57) ∨ (57 < n ∧ n < 97) ∨ (97 ≤ n ∧ n ≤ 122) ∨ 122 < n by omega) with h | rfl | rfl | rfl | ⟨h, h'⟩ | ⟨h, h'⟩ | ⟨h, h'⟩ | h
      all_goals
        try (have h45 : ((n : Int) == 45) = false := by rw [beq_eq_false_iff_ne]; omega)
        try (have h46 : ((n : Int) == 46) = false := by rw [beq_eq_false_iff_ne]; omega)
        first | (have : decide ((n : Int) ≤ 57) = true := by simp <;> omega) | (have : decide ((n : Int) ≤ 57) = false := by simp <;> omega) | skip
        first | (have : decide ((n : Int) ≤ 122) = true := by simp <;> omega) | (have : decide ((n : Int) ≤ 122) = false := by simp <;> omega) | skip
      all_goals
        first
          | (have hk : okCh c = true := by rw [HOK.out]; simp <;> omega
             have HK := Lib.hid hk
             clear hk
             go_wp2
             go_round
             case rel => exact ⟨i + 1, by omega, by go_num, by rw [HS.out, HA.out, HK.out]; rfl⟩
             case measure => simp [intOf] <;> omega
             done)
          | (have hk : okCh c = false := by rw [HOK.out]; simp <;> omega
             have HK := Lib.hid hk
             clear hk
             go_wp2
             go_ret
             exact ⟨by simp [okName, HN.out HK.out], rfl⟩)
    · obtain rfl : i = s.length := by omega
      have hall := HA.out
      rw [List.take_of_length_le (Nat.le_refl _)] at hall
      have hok : okName s = true := by simp [okName, hall, h1, h2]
      have HK := Lib.hid hok
      clear hok hall
      have hd : decide ((s.length : Int) < (s.length : Int)) = false := by simp
      go_wp2
      go_ret
      exact ⟨by rw [HK.out]; rfl, rfl⟩

/-- the rest of an address behind its first four bytes is nought -/
def Adr.short (a : Adr) : Bool := (a.b.toList.drop 4).all (fun c => c == 0)
theorem Adr.blen (a : Adr) : a.b.toList.length = 16 := a.b.size_toArray
def Adr.ok4 (a : Adr) : Bool := !a.six && a.short
/-- a backend is right, but that its weight may be a nought with a sign -/
def Bk.fair (x : Bk) : Bool := (x.addr.six || x.addr.short) && okName x.name && decide (1 ≤ x.port) && decide (x.port ≤ 65535) && wOk x.w

def Adr.at_ (a : Adr) (i : Nat) : UInt8 := a.b.toList.getD i 0
theorem Adr.short_iff (a : Adr) : a.short = true ↔ ∀ i, 4 ≤ i → i < 16 → a.at_ i = 0 := by
  unfold Adr.short Adr.at_
  rw [List.all_eq_true]
  have hl := a.blen
  constructor
  · intro h i h4 h16
    have : a.b.toList.getD i 0 ∈ a.b.toList.drop 4 := by
      rw [List.getD_eq_getElem?_getD, List.getElem?_eq_getElem (by omega)]
      exact List.mem_drop_iff_getElem.2 ⟨i - 4, by omega, by simp [show 4 + (i - 4) = i by omega]⟩
    simpa using h _ this
  · intro h x hx
    obtain ⟨j, hj, rfl⟩ := List.mem_drop_iff_getElem.1 hx
    have := h (4 + j) (by omega) (by omega)
    rw [List.getD_eq_getElem?_getD, List.getElem?_eq_getElem (by omega)] at this
    simpa using this
theorem Adr.short_no {a : Adr} {i : Nat} (h4 : 4 ≤ i) (h16 : i < 16) (h : a.at_ i ≠ 0) : a.short = false := by
  cases hs : a.short
  · rfl
  · exact absurd (a.short_iff.1 hs i h4 h16) h

set_option maxRecDepth 100000 in
theorem short_any (a : Adr) (w : World) : Calls Try.prog 53 #[.agg a.arr] w fun e w' => e = .returned (.bool (a.short && !a.six)) ∧ Below w.heap.size w w' := by
  go_enter Try.func53, Try.ntmps53
  go_wp2
  have hb : Below w.heap.size w (w.alloc (.cells a.arr 32)) := (Below.refl _ _).alloc (Nat.le_refl _) _
  have HB := Lib.hid hb
  clear hb
  go_loop [3] (fun s3 => ∃ i : Nat, i ≤ 16 ∧ 4 ≤ i ∧ s3 = .int .i64 i ∧ ∀ j, 4 ≤ j → j < i → a.at_ j = 0) (fun s3 => 16 - (intOf s3).toNat)
  case atStart => exact ⟨4, by omega, by omega, rfl, fun j h1 h2 => by omega⟩
  case round =>
    obtain ⟨i, hi, hi4, rfl, hall⟩ := hrel
    have HA := Lib.hid hall
    clear hall
    by_cases hlt : i < 16
    · have hin : (i : Int) < 16 := by omega
      have hcell : (w.alloc (.cells a.arr 32)).cell? ⟨w.heap.size, 1 + i, none⟩ = some (.int .u8 ((a.at_ i).toNat : Nat)) := by
        rw [cell_new, Nat.add_comm]; exact Adr.arr_b a i hlt
      have hz : ((a.at_ i).toNat : Int) = 0 ↔ a.at_ i = 0 := by
        constructor
        · intro h; apply UInt8.toNat_inj.1; have : (0 : UInt8).toNat = 0 := rfl; omega
        · intro h; rw [h]; rfl
      have HZ := Lib.hid hz
      clear hz
      obtain ⟨n, hn⟩ : ∃ n : Nat, n = (a.at_ i).toNat := ⟨_, rfl⟩
      rw [← hn] at hcell HZ
      clear hn
      by_cases h0 : n = 0
      · have h1 : ((n : Int) != 0) = false := by rw [h0]; rfl
        have hz0 : a.at_ i = 0 := HZ.out.1 (by omega)
        have HZ0 := Lib.hid hz0
        clear hz0 h0
        go_wp2
        go_round
        case rel => exact ⟨i + 1, by omega, by omega, by go_num, fun j h1 h2 => by
          by_cases hji : j = i
          · rw [hji]; exact HZ0.out
          · exact HA.out j h1 (by omega)⟩
        case measure => simp [intOf] <;> omega
      · have h1 : ((n : Int) != 0) = true := by rw [bne_iff_ne]; omega
        have hno : a.short = false := Adr.short_no hi4 hlt (fun h => h0 (by have := HZ.out.2 h; omega))
        have HNO := Lib.hid hno
        clear hno h0
        go_wp2
        go_ret
        exact ⟨by rw [HNO.out]; rfl, HB.out⟩
    · obtain rfl : i = 16 := by omega
      have hs : a.short = true := a.short_iff.2 HA.out
      have HS := Lib.hid hs
      clear hs
      go_wp2
      go_ret
      exact ⟨by rw [HS.out]; rfl, HB.out⟩

theorem notZero_any (c : Nat) (w : World) : Calls Try.prog 50 #[.int .u8 c] w fun e w' => e = .returned (.bool ((c : Int) != 0)) ∧ w = w' := by
  go_enter Try.func50, Try.ntmps50
  go_wp2
  go_ret
  exact ⟨rfl, rfl⟩
theorem enter_notZero (args : Array Value) (w : World) : (callFunc 50 args).run Try.prog w = .ok (.enter 50 args) w := by kernel_rfl

set_option maxRecDepth 100000 in
/-- the tail of an address, as a slice: is any byte not nought? -/
theorem idxTail_any (a : Adr) (b o c : Nat) (w : World) (hc : ∀ j, j < 12 → w.cell? ⟨b, o + j, none⟩ = some (.int .u8 ((a.at_ (4 + j)).toNat : Nat))) :
    Calls Try.prog 64 #[.slice (some ⟨b, o, none⟩) 12 c, .func (.func 50) #[] #[]] w fun e w' => ∃ r : Int, e = .returned (.int .i64 r) ∧ (decide (0 ≤ r) = !a.short) ∧ w = w' := by
  have hen := enter_notZero
  have HC := Lib.hid hc
  clear hc
  go_enter Try.func64, Try.ntmps64
  go_wp2
  go_loop [8] (fun s8 => ∃ i : Nat, i ≤ 12 ∧ s8 = .int .i64 i ∧ ∀ j, 4 ≤ j → j < 4 + i → a.at_ j = 0) (fun s8 => 12 - (intOf s8).toNat)
  case atStart => exact ⟨0, by omega, rfl, fun j h1 h2 => by omega⟩
  case round =>
    obtain ⟨i, hi, rfl, hall⟩ := hrel
    have HA := Lib.hid hall
    clear hall
    by_cases hlt : i < 12
    · have hin : (i : Int) < 12 := by omega
      have hcell := HC.out i hlt
      have hz : ((a.at_ (4 + i)).toNat : Int) = 0 ↔ a.at_ (4 + i) = 0 := by
        constructor
        · intro h; apply UInt8.toNat_inj.1; have : (0 : UInt8).toNat = 0 := rfl; omega
        · intro h; rw [h]; rfl
      have HZ := Lib.hid hz
      clear hz
      obtain ⟨n, hn⟩ : ∃ n : Nat, n = (a.at_ (4 + i)).toNat := ⟨_, rfl⟩
      rw [← hn] at hcell HZ
      clear hn
      by_cases h0 : n = 0
      · have h1 : ((n : Int) != 0) = false := by rw [h0]; rfl
        have hz0 : a.at_ (4 + i) = 0 := HZ.out.1 (by omega)
        have HZ0 := Lib.hid hz0
        clear hz0 h0
        go_wp2_with (go_at_call 50; refine (notZero_any n _).mono ?_; rintro e w' ⟨rfl, rfl⟩)
        go_round
        case rel => exact ⟨i + 1, by omega, by go_num, fun j h1 h2 => by
          by_cases hji : j = 4 + i
          · rw [hji]; exact HZ0.out
          · exact HA.out j h1 (by omega)⟩
        case measure => simp [intOf] <;> omega
      · have h1 : ((n : Int) != 0) = true := by rw [bne_iff_ne]; omega
        have hno : a.short = false := Adr.short_no (i := 4 + i) (by omega) (by omega) (fun h => h0 (by have := HZ.out.2 h; omega))
        have HNO := Lib.hid hno
        clear hno h0
        go_wp2_with (go_at_call 50; refine (notZero_any n _).mono ?_; rintro e w' ⟨rfl, rfl⟩)
        go_ret
        exact ⟨_, rfl, by rw [HNO.out]; simp, rfl⟩
    · obtain rfl : i = 12 := by omega
      have hs : a.short = true := a.short_iff.2 HA.out
      have HS := Lib.hid hs
      clear hs
      go_wp2
      go_ret
      exact ⟨_, rfl, by rw [HS.out]; simp, rfl⟩
theorem anyTail_any (a : Adr) (b o c : Nat) (w : World) (hc : ∀ j, j < 12 → w.cell? ⟨b, o + j, none⟩ = some (.int .u8 ((a.at_ (4 + j)).toNat : Nat))) :
    Calls Try.prog 49 #[.slice (some ⟨b, o, none⟩) 12 c, .func (.func 50) #[] #[]] w fun e w' => e = .returned (.bool (!a.short)) ∧ w = w' := by
  have HC := Lib.hid hc
  clear hc
  go_enter Try.func49, Try.ntmps49
  go_wp2_with (go_at_call 64; refine (idxTail_any a b o c _ HC.out).mono ?_; rintro e w' ⟨r, rfl, hr, rfl⟩)
  go_ret
  exact ⟨by simp, rfl⟩

theorem tail_cells (w : World) (x : Bk) (t : TypeId) : ∀ j, j < 12 → (w.alloc (.cells x.arr t)).cell? ⟨w.heap.size, 6 + j, none⟩ = some (.int .u8 ((x.addr.at_ (4 + j)).toNat : Nat)) := fun j hj => by
  rw [cell_new, show 6 + j = (4 + j) + 2 by omega]; exact Bk.arr_b x (4 + j) (by omega)

set_option maxRecDepth 100000 in
theorem right_bk (x : Bk) (w : World) (hn : x.name.length ≤ 9223372036854775807) (hw : x.w < 18446744073709551616) :
    Calls Try.prog 28 #[.agg x.arr] w fun e w' => e = .returned (.bool x.fair) ∧ Below w.heap.size w w' := by
  have ht := tail_cells w x 36
  have HT := Lib.hid ht
  clear ht
  have hr := wRight_eq hw
  have HR := Lib.hid hr
  clear hr
  have hf : x.fair = ((x.addr.six || x.addr.short) && okName x.name && decide (1 ≤ x.port) && decide (x.port ≤ 65535) && wOk x.w) := rfl
  have HF := Lib.hid hf
  clear hf
  have hb0 : Below w.heap.size w (w.alloc (.cells x.arr 36)) := (Below.refl _ _).alloc (Nat.le_refl _) _
  have HB0 := Lib.hid hb0
  clear hb0
  cases hs : (x.addr.six || x.addr.short)
  · have h6 : x.addr.six = false := by cases h : x.addr.six <;> simp_all
    have hsh : x.addr.short = false := by cases h : x.addr.short <;> simp_all
    have HS := Lib.hid hs
    clear hs
    go_enter Try.func28, Try.ntmps28
    go_wp2_with fail
    refine (anyTail_any x.addr _ 6 _ _ HT.out).mono ?_
    rintro e w' ⟨rfl, rfl⟩
    rw [hsh]
    go_wp2_with fail
    go_ret
    exact ⟨by rw [HF.out, HS.out]; rfl, HB0.out⟩
  · have HS := Lib.hid hs
    have hk : okName x.name = true ∨ okName x.name = false := by cases okName x.name <;> simp
    clear hs
    have main : ∀ (K : Bool), okName x.name = K → x.addr.six = true ∨ (x.addr.six = false ∧ x.addr.short = true) →
        Calls Try.prog 28 #[.agg x.arr] w fun e w' => e = .returned (.bool x.fair) ∧ Below w.heap.size w w' := by
      intro K hK h6
      have HK := Lib.hid hK
      clear hK hk
      rcases h6 with h6 | ⟨h6, hsh⟩
      all_goals
        go_enter Try.func28, Try.ntmps28
        go_wp2_with fail
        try (refine (anyTail_any x.addr _ 6 _ _ HT.out).mono ?_; rintro e w' ⟨rfl, rfl⟩; rw [hsh]; go_wp2_with fail)
        refine (name_any _ _ hn).mono ?_
        rintro e w1 ⟨rfl, hb1⟩
        rw [HK.out]
        have hcl := box_later hb1
        have hB1 : Below w.heap.size w w1 := HB0.out.trans (hb1.mono (by simp))
        have HB1 := Lib.hid hB1
        clear hb1 hB1
        cases K
        · go_wp2_with fail
          go_ret
          exact ⟨by rw [HF.out, HS.out, HK.out]; rfl, HB1.out⟩
        · by_cases p1 : 1 ≤ x.port
          · by_cases p2 : x.port ≤ 65535
            · go_wp2_with fail
              refine (right_any _ _).mono ?_
              rintro e w' ⟨rfl, rfl⟩
              rw [HR.out]
              go_wp2_with fail
              go_ret
              exact ⟨by rw [HF.out, HS.out, HK.out]; simp [p1, p2] <;> intros <;> omega, HB1.out⟩
            · go_wp2_with fail
              go_ret
              exact ⟨by rw [HF.out, HS.out, HK.out]; simp [p1, p2] <;> intros <;> omega, HB1.out⟩
          · go_wp2_with fail
            go_ret
            exact ⟨by rw [HF.out, HS.out, HK.out]; simp [p1] <;> intros <;> omega, HB1.out⟩
    refine main _ rfl ?_
    have := HS.out
    cases h : x.addr.six
    · right; rw [h] at this; exact ⟨rfl, by simpa using this⟩
    · left; rfl

theorem ref14right_any (x : Nat) (hx : x < 18446744073709551616) (w : World) : Calls Try.prog 41 #[.float .f64 x] w fun e w' => e = .returned (.bool (wOk x)) ∧ w = w' := by
  go_enter Try.func41, Try.ntmps41
  go_wp2_with (first | (go_at_call 25; refine (refQ_any _ hx _).mono ?_; rintro e w' ⟨rfl, rfl⟩))
  go_ret
  exact ⟨rfl, rfl⟩

set_option maxRecDepth 100000 in
theorem fair_bk (x : Bk) (w : World) (hn : x.name.length ≤ 9223372036854775807) (hw : x.w < 18446744073709551616) :
    Calls Try.prog 31 #[.agg x.arr] w fun e w' => e = .returned (.bool x.fair) ∧ Below w.heap.size w w' := by
  have hf : x.fair = ((x.addr.six || x.addr.short) && okName x.name && decide (1 ≤ x.port) && decide (x.port ≤ 65535) && wOk x.w) := rfl
  have HF := Lib.hid hf
  clear hf
  have hb0 : Below w.heap.size w (w.alloc (.cells x.arr 36)) := (Below.refl _ _).alloc (Nat.le_refl _) _
  have HB0 := Lib.hid hb0
  clear hb0
  obtain ⟨K, hK⟩ : ∃ K, okName x.name = K := ⟨_, rfl⟩
  have HK := Lib.hid hK
  clear hK
  obtain ⟨S, hS⟩ : ∃ S, x.addr.short = S := ⟨_, rfl⟩
  have HS := Lib.hid hS
  clear hS
  cases K
  · go_enter Try.func31, Try.ntmps31
    go_wp2_with fail
    refine (refName_any _ _ hn).mono ?_
    rintro e w' ⟨rfl, rfl⟩
    rw [HK.out]
    go_wp2_with fail
    go_ret
    exact ⟨by rw [HF.out, HK.out]; simp, HB0.out⟩
  · have tail : ∀ (w1 : World), Below w.heap.size w w1 → (∀ k, w1.cell? ⟨w.heap.size, k, none⟩ = x.arr[k]?) → True := fun _ _ _ => trivial
    clear tail
    cases h6 : x.addr.six
    · cases S
      · go_enter Try.func31, Try.ntmps31
        go_wp2_with fail
        refine (refName_any _ _ hn).mono ?_
        rintro e w' ⟨rfl, rfl⟩
        rw [HK.out]
        go_wp2_with fail
        refine (short_any _ _).mono ?_
        rintro e w1 ⟨rfl, hb1⟩
        rw [HS.out, h6]
        have hcl := box_later hb1
        have hB1 : Below w.heap.size w w1 := HB0.out.trans (hb1.mono (by simp))
        have HB1 := Lib.hid hB1
        clear hb1 hB1
        go_wp2_with fail
        go_ret
        exact ⟨by rw [HF.out, HS.out, h6]; rfl, HB1.out⟩
      · by_cases p1 : 1 ≤ x.port
        · by_cases p2 : x.port ≤ 65535
          all_goals
            go_enter Try.func31, Try.ntmps31
            go_wp2_with fail
            refine (refName_any _ _ hn).mono ?_
            rintro e w' ⟨rfl, rfl⟩
            rw [HK.out]
            go_wp2_with fail
            refine (short_any _ _).mono ?_
            rintro e w1 ⟨rfl, hb1⟩
            rw [HS.out, h6]
            have hcl := box_later hb1
            have hB1 : Below w.heap.size w w1 := HB0.out.trans (hb1.mono (by simp))
            have HB1 := Lib.hid hB1
            clear hb1 hB1
            go_wp2_with (first | (go_at_call 41; refine (ref14right_any _ hw _).mono ?_; rintro e w' ⟨rfl, rfl⟩))
            go_ret
            exact ⟨by rw [HF.out, HS.out, HK.out, h6]; simp [p1, p2] <;> intros <;> omega, HB1.out⟩
        · go_enter Try.func31, Try.ntmps31
          go_wp2_with fail
          refine (refName_any _ _ hn).mono ?_
          rintro e w' ⟨rfl, rfl⟩
          rw [HK.out]
          go_wp2_with fail
          refine (short_any _ _).mono ?_
          rintro e w1 ⟨rfl, hb1⟩
          rw [HS.out, h6]
          have hcl := box_later hb1
          have hB1 : Below w.heap.size w w1 := HB0.out.trans (hb1.mono (by simp))
          have HB1 := Lib.hid hB1
          clear hb1 hB1
          go_wp2_with fail
          go_ret
          exact ⟨by rw [HF.out, HS.out, HK.out, h6]; simp [p1] <;> intros <;> omega, HB1.out⟩
    · by_cases p1 : 1 ≤ x.port
      · by_cases p2 : x.port ≤ 65535
        all_goals
          go_enter Try.func31, Try.ntmps31
          go_wp2_with fail
          refine (refName_any _ _ hn).mono ?_
          rintro e w' ⟨rfl, rfl⟩
          rw [HK.out]
          go_wp2_with (first | (go_at_call 41; refine (ref14right_any _ hw _).mono ?_; rintro e w' ⟨rfl, rfl⟩))
          go_ret
          exact ⟨by rw [HF.out, HK.out, h6]; simp [p1, p2] <;> intros <;> omega, HB0.out⟩
      · go_enter Try.func31, Try.ntmps31
        go_wp2_with fail
        refine (refName_any _ _ hn).mono ?_
        rintro e w' ⟨rfl, rfl⟩
        rw [HK.out]
        go_wp2_with fail
        go_ret
        exact ⟨by rw [HF.out, HK.out, h6]; simp [p1] <;> intros <;> omega, HB0.out⟩
end Go.Proofs.Ytgcahcjffoehfaa
