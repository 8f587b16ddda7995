/- Whether a backend is right: the program's way and the document's. -/
import Derived.Test.YtmpemeemlhmaaaaGreatQ7
import Derived.Test.YtmpemeemlhmaaaaGreatQ8
import Derived.Test.YtmpemeemlhmaaaaGreatQ9
import Derived.Lib.Bytealg
set_option linter.unusedSimpArgs false
set_option linter.unusedVariables false
set_option maxRecDepth 100000
namespace Go.Proofs.YtmpemeemlhmaaaaGreat
open Go.RowKit

theorem strAt (s : List UInt8) (i : Nat) (h : i < (textOf s).size) : (textOf s)[i]'h = s.getD i 0 := by
  have hi : i < s.length := by rw [textOf_size] at h; exact h
  rw [List.getD_eq_getElem?_getD, List.getElem?_eq_getElem hi]
  rfl

set_option maxRecDepth 100000 in
theorem refName_any (s : List UInt8) (w : World) (hs : s.length ≤ 9223372036854775807) :
    Calls Tryz.prog 87 #[.string (textOf s)] w fun e w' => e = .returned (.bool (okName s)) ∧ w = w' := by
  by_cases h1 : 1 ≤ s.length
  rotate_left
  · have hk : okName s = false := by simp [okName]; omega
    have HK := Lib.hid hk
    clear hk
    go_enter Tryz.func87, Tryz.ntmps87
    go_wp2
    go_ret
    exact ⟨by rw [HK.out]; rfl, rfl⟩
  by_cases h2 : s.length ≤ 24
  rotate_left
  · have hk : okName s = false := by simp [okName]; omega
    have HK := Lib.hid hk
    clear hk
    go_enter Tryz.func87, Tryz.ntmps87
    go_wp2
    go_ret
    exact ⟨by rw [HK.out]; rfl, rfl⟩
  go_enter Tryz.func87, Tryz.ntmps87
  go_wp2
  go_loop [3] (fun s3 => ∃ i : Nat, i ≤ s.length ∧ s3 = .int .i64 i ∧ (s.take i).all okCh = true) (fun s3 => s.length - (intOf s3).toNat)
  case atStart => exact ⟨0, by omega, rfl, rfl⟩
  case round =>
    obtain ⟨i, hi, rfl, hall⟩ := hrel
    have HA := Lib.hid hall
    clear hall
    by_cases hlt : i < s.length
    · have hin : (i : Int) < s.length := by omega
      have hsn := all_take_succ s okCh i hlt
      have hno := all_false_of s okCh i hlt
      have HS := Lib.hid hsn
      have HN := Lib.hid hno
      clear hsn hno
      have hcell : ∀ h : i < (textOf s).size, ((textOf s)[i]'h).toNat = (s.getD i 0).toNat := fun h => by rw [strAt]
      have hlt8 := (s.getD i 0).toNat_lt
      obtain ⟨c, hcc⟩ : ∃ c, c = s.getD i 0 := ⟨_, rfl⟩
      rw [← hcc] at hcell HS HN hlt8
      clear hcc
      have hok : okCh c = ((decide (97 ≤ c.toNat) && decide (c.toNat ≤ 122)) || (decide (48 ≤ c.toNat) && decide (c.toNat ≤ 57)) || decide (c.toNat = 45) || decide (c.toNat = 46)) := rfl
      have HOK := Lib.hid hok
      clear hok
      generalize c.toNat = n at hcell hlt8 HOK
      rcases (show n < 45 ∨ n = 45 ∨ n = 46 ∨ n = 47 ∨ (48 ≤ n ∧ n ≤ 57) ∨ (57 < n ∧ n < 97) ∨ (97 ≤ n ∧ n ≤ 122) ∨ 122 < n by omega) with h | rfl | rfl | rfl | ⟨h, h'⟩ | ⟨h, h'⟩ | ⟨h, h'⟩ | h
      all_goals
        try (have h45 : ((n : Int) == 45) = false := by rw [beq_eq_false_iff_ne]; omega)
        try (have h46 : ((n : Int) == 46) = false := by rw [beq_eq_false_iff_ne]; omega)
        first | (have : decide ((n : Int) ≤ 57) = true := by simp <;> omega) | (have : decide ((n : Int) ≤ 57) = false := by simp <;> omega) | skip
        first | (have : decide ((n : Int) ≤ 122) = true := by simp <;> omega) | (have : decide ((n : Int) ≤ 122) = false := by simp <;> omega) | skip
      all_goals
        first
          | (have hk : okCh c = true := by rw [HOK.out]; simp <;> omega
             have HK := Lib.hid hk
             clear hk
             go_wp2
             go_round
             case rel => exact ⟨i + 1, by omega, by go_num, by rw [HS.out, HA.out, HK.out]; rfl⟩
             case measure => simp [intOf] <;> omega
             done)
          | (have hk : okCh c = false := by rw [HOK.out]; simp <;> omega
             have HK := Lib.hid hk
             clear hk
             go_wp2
             go_ret
             exact ⟨by simp [okName, HN.out HK.out], rfl⟩)
    · obtain rfl : i = s.length := by omega
      have hall := HA.out
      rw [List.take_of_length_le (Nat.le_refl _)] at hall
      have hok : okName s = true := by simp [okName, hall, h1, h2]
      have HK := Lib.hid hok
      clear hok hall
      have hd : decide ((s.length : Int) < (s.length : Int)) = false := by simp
      go_wp2
      go_ret
      exact ⟨by rw [HK.out]; rfl, rfl⟩

/-- the rest of an address behind its first four bytes is nought -/
def Adr.short (a : Adr) : Bool := (a.b.toList.drop 4).all (fun c => c == 0)
theorem Adr.blen (a : Adr) : a.b.toList.length = 16 := a.b.size_toArray
def Adr.ok4 (a : Adr) : Bool := !a.six && a.short
/-- a backend is right, but that its weight may be a nought with a sign -/
def Bk.fair (x : Bk) : Bool := (x.addr.six || x.addr.short) && okName x.name && decide (1 ≤ x.port) && decide (x.port ≤ 65535) && wOk x.w

def Adr.at_ (a : Adr) (i : Nat) : UInt8 := a.b.toList.getD i 0
theorem Adr.short_iff (a : Adr) : a.short = true ↔ ∀ i, 4 ≤ i → i < 16 → a.at_ i = 0 := by
  unfold Adr.short Adr.at_
  rw [List.all_eq_true]
  have hl := a.blen
  constructor
  · intro h i h4 h16
    have : a.b.toList.getD i 0 ∈ a.b.toList.drop 4 := by
      rw [List.getD_eq_getElem?_getD, List.getElem?_eq_getElem (by omega)]
      exact List.mem_drop_iff_getElem.2 ⟨i - 4, by omega, by simp [show 4 + (i - 4) = i by omega]⟩
    simpa using h _ this
  · intro h x hx
    obtain ⟨j, hj, rfl⟩ := List.mem_drop_iff_getElem.1 hx
    have := h (4 + j) (by omega) (by omega)
    rw [List.getD_eq_getElem?_getD, List.getElem?_eq_getElem (by omega)] at this
    simpa using this
theorem Adr.short_no {a : Adr} {i : Nat} (h4 : 4 ≤ i) (h16 : i < 16) (h : a.at_ i ≠ 0) : a.short = false := by
  cases hs : a.short
  · rfl
  · exact absurd (a.short_iff.1 hs i h4 h16) h

set_option maxRecDepth 100000 in
theorem short_any (a : Adr) (w : World) : Calls Tryz.prog 104 #[.agg a.arr] w fun e w' => e = .returned (.bool (a.short && !a.six)) ∧ Below w.heap.size w w' := by
  go_enter Tryz.func104, Tryz.ntmps104
  go_wp2
  have hb : Below w.heap.size w (w.alloc (.cells a.arr 56)) := (Below.refl _ _).alloc (Nat.le_refl _) _
  have HB := Lib.hid hb
  clear hb
  go_loop [3] (fun s3 => ∃ i : Nat, i ≤ 16 ∧ 4 ≤ i ∧ s3 = .int .i64 i ∧ ∀ j, 4 ≤ j → j < i → a.at_ j = 0) (fun s3 => 16 - (intOf s3).toNat)
  case atStart => exact ⟨4, by omega, by omega, rfl, fun j h1 h2 => by omega⟩
  case round =>
    obtain ⟨i, hi, hi4, rfl, hall⟩ := hrel
    have HA := Lib.hid hall
    clear hall
    by_cases hlt : i < 16
    · have hin : (i : Int) < 16 := by omega
      have hcell : (w.alloc (.cells a.arr 56)).cell? ⟨w.heap.size, 1 + i, none⟩ = some (.int .u8 ((a.at_ i).toNat : Nat)) := by
        rw [cell_new, Nat.add_comm]; exact Adr.arr_b a i hlt
      have hz : ((a.at_ i).toNat : Int) = 0 ↔ a.at_ i = 0 := by
        constructor
        · intro h; apply UInt8.toNat_inj.1; have : (0 : UInt8).toNat = 0 := rfl; omega
        · intro h; rw [h]; rfl
      have HZ := Lib.hid hz
      clear hz
      obtain ⟨n, hn⟩ : ∃ n : Nat, n = (a.at_ i).toNat := ⟨_, rfl⟩
      rw [← hn] at hcell HZ
      clear hn
      by_cases h0 : n = 0
      · have h1 : ((n : Int) != 0) = false := by rw [h0]; rfl
        have hz0 : a.at_ i = 0 := HZ.out.1 (by omega)
        have HZ0 := Lib.hid hz0
        clear hz0 h0
        go_wp2
        go_round
        case rel => exact ⟨i + 1, by omega, by omega, by go_num, fun j h1 h2 => by
          by_cases hji : j = i
          · rw [hji]; exact HZ0.out
          · exact HA.out j h1 (by omega)⟩
        case measure => simp [intOf] <;> omega
      · have h1 : ((n : Int) != 0) = true := by rw [bne_iff_ne]; omega
        have hno : a.short = false := Adr.short_no hi4 hlt (fun h => h0 (by have := HZ.out.2 h; omega))
        have HNO := Lib.hid hno
        clear hno h0
        go_wp2
        go_ret
        exact ⟨by rw [HNO.out]; rfl, HB.out⟩
    · obtain rfl : i = 16 := by omega
      have hs : a.short = true := a.short_iff.2 HA.out
      have HS := Lib.hid hs
      clear hs
      go_wp2
      go_ret
      exact ⟨by rw [HS.out]; rfl, HB.out⟩

theorem notZero_any (c : Nat) (w : World) : Calls Tryz.prog 127 #[.int .u8 c] w fun e w' => e = .returned (.bool ((c : Int) != 0)) ∧ w = w' := by
  go_enter Tryz.func127, Tryz.ntmps127
  go_wp2
  go_ret
  exact ⟨rfl, rfl⟩
theorem enter_notZero (args : Array Value) (w : World) : (callFunc 127 args).run Tryz.prog w = .ok (.enter 127 args) w := by kernel_rfl

set_option maxRecDepth 100000 in
/-- the tail of an address, as a slice: is any byte not nought? -/
theorem idxTail_any (a : Adr) (b o c : Nat) (w : World) (hc : ∀ j, j < 12 → w.cell? ⟨b, o + j, none⟩ = some (.int .u8 ((a.at_ (4 + j)).toNat : Nat))) :
    Calls Tryz.prog 155 #[.slice (some ⟨b, o, none⟩) 12 c, .func (.func 127) #[] #[]] w fun e w' => ∃ r : Int, e = .returned (.int .i64 r) ∧ (decide (0 ≤ r) = !a.short) ∧ w = w' := by
  have hen := enter_notZero
  have HC := Lib.hid hc
  clear hc
  go_enter Tryz.func155, Tryz.ntmps155
  go_wp2
  go_loop [8] (fun s8 => ∃ i : Nat, i ≤ 12 ∧ s8 = .int .i64 i ∧ ∀ j, 4 ≤ j → j < 4 + i → a.at_ j = 0) (fun s8 => 12 - (intOf s8).toNat)
  case atStart => exact ⟨0, by omega, rfl, fun j h1 h2 => by omega⟩
  case round =>
    obtain ⟨i, hi, rfl, hall⟩ := hrel
    have HA := Lib.hid hall
    clear hall
    by_cases hlt : i < 12
    · have hin : (i : Int) < 12 := by omega
      have hcell := HC.out i hlt
      have hz : ((a.at_ (4 + i)).toNat : Int) = 0 ↔ a.at_ (4 + i) = 0 := by
        constructor
        · intro h; apply UInt8.toNat_inj.1; have : (0 : UInt8).toNat = 0 := rfl; omega
        · intro h; rw [h]; rfl
      have HZ := Lib.hid hz
      clear hz
      obtain ⟨n, hn⟩ : ∃ n : Nat, n = (a.at_ (4 + i)).toNat := ⟨_, rfl⟩
      rw [← hn] at hcell HZ
      clear hn
      by_cases h0 : n = 0
      · have h1 : ((n : Int) != 0) = false := by rw [h0]; rfl
        have hz0 : a.at_ (4 + i) = 0 := HZ.out.1 (by omega)
        have HZ0 := Lib.hid hz0
        clear hz0 h0
        go_wp2_with (go_at_call 127; refine (notZero_any n _).mono ?_; rintro e w' ⟨rfl, rfl⟩)
        go_round
        case rel => exact ⟨i + 1, by omega, by go_num, fun j h1 h2 => by
          by_cases hji : j = 4 + i
          · rw [hji]; exact HZ0.out
          · exact HA.out j h1 (by omega)⟩
        case measure => simp [intOf] <;> omega
      · have h1 : ((n : Int) != 0) = true := by rw [bne_iff_ne]; omega
        have hno : a.short = false := Adr.short_no (i := 4 + i) (by omega) (by omega) (fun h => h0 (by have := HZ.out.2 h; omega))
        have HNO := Lib.hid hno
        clear hno h0
        go_wp2_with (go_at_call 127; refine (notZero_any n _).mono ?_; rintro e w' ⟨rfl, rfl⟩)
        go_ret
        exact ⟨_, rfl, by rw [HNO.out]; simp, rfl⟩
    · obtain rfl : i = 12 := by omega
      have hs : a.short = true := a.short_iff.2 HA.out
      have HS := Lib.hid hs
      clear hs
      go_wp2
      go_ret
      exact ⟨_, rfl, by rw [HS.out]; simp, rfl⟩
theorem anyTail_any (a : Adr) (b o c : Nat) (w : World) (hc : ∀ j, j < 12 → w.cell? ⟨b, o + j, none⟩ = some (.int .u8 ((a.at_ (4 + j)).toNat : Nat))) :
    Calls Tryz.prog 126 #[.slice (some ⟨b, o, none⟩) 12 c, .func (.func 127) #[] #[]] w fun e w' => e = .returned (.bool (!a.short)) ∧ w = w' := by
  have HC := Lib.hid hc
  clear hc
  go_enter Tryz.func126, Tryz.ntmps126
  go_wp2_with (go_at_call 155; refine (idxTail_any a b o c _ HC.out).mono ?_; rintro e w' ⟨r, rfl, hr, rfl⟩)
  go_ret
  exact ⟨by simp, rfl⟩

theorem tail_cells (w : World) (x : Bk) (t : TypeId) : ∀ j, j < 12 → (w.alloc (.cells x.arr t)).cell? ⟨w.heap.size, 6 + j, none⟩ = some (.int .u8 ((x.addr.at_ (4 + j)).toNat : Nat)) := fun j hj => by
  rw [cell_new, show 6 + j = (4 + j) + 2 by omega]; exact Bk.arr_b x (4 + j) (by omega)

set_option maxRecDepth 100000 in
theorem right_bk (x : Bk) (w : World) (hn : x.name.length ≤ 9223372036854775807) (hw : x.w < 18446744073709551616) :
    Calls Tryz.prog 88 #[.agg x.arr] w fun e w' => e = .returned (.bool x.fair) ∧ Below w.heap.size w w' := by
  have ht := tail_cells w x 60
  have HT := Lib.hid ht
  clear ht
  have hr := wRight_eq hw
  have HR := Lib.hid hr
  clear hr
  have hf : x.fair = ((x.addr.six || x.addr.short) && okName x.name && decide (1 ≤ x.port) && decide (x.port ≤ 65535) && wOk x.w) := rfl
  have HF := Lib.hid hf
  clear hf
  have hb0 : Below w.heap.size w (w.alloc (.cells x.arr 60)) := (Below.refl _ _).alloc (Nat.le_refl _) _
  have HB0 := Lib.hid hb0
  clear hb0
  cases hs : (x.addr.six || x.addr.short)
  · have h6 : x.addr.six = false := by cases h : x.addr.six <;> simp_all
    have hsh : x.addr.short = false := by cases h : x.addr.short <;> simp_all
    have HS := Lib.hid hs
    clear hs
    go_enter Tryz.func88, Tryz.ntmps88
    go_wp2_with fail
    refine (anyTail_any x.addr _ 6 _ _ HT.out).mono ?_
    rintro e w' ⟨rfl, rfl⟩
    rw [hsh]
    go_wp2_with fail
    go_ret
    exact ⟨by rw [HF.out, HS.out]; rfl, HB0.out⟩
  · have HS := Lib.hid hs
    have hk : okName x.name = true ∨ okName x.name = false := by cases okName x.name <;> simp
    clear hs
    have main : ∀ (K : Bool), okName x.name = K → x.addr.six = true ∨ (x.addr.six = false ∧ x.addr.short = true) →
        Calls Tryz.prog 88 #[.agg x.arr] w fun e w' => e = .returned (.bool x.fair) ∧ Below w.heap.size w w' := by
      intro K hK h6
      have HK := Lib.hid hK
      clear hK hk
      rcases h6 with h6 | ⟨h6, hsh⟩
      all_goals
        go_enter Tryz.func88, Tryz.ntmps88
        go_wp2_with fail
        try (refine (anyTail_any x.addr _ 6 _ _ HT.out).mono ?_; rintro e w' ⟨rfl, rfl⟩; rw [hsh]; go_wp2_with fail)
        refine (name_any _ _ hn).mono ?_
        rintro e w1 ⟨rfl, hb1⟩
        rw [HK.out]
        have hcl := box_later hb1
        have hB1 : Below w.heap.size w w1 := HB0.out.trans (hb1.mono (by simp))
        have HB1 := Lib.hid hB1
        clear hb1 hB1
        cases K
        · go_wp2_with fail
          go_ret
          exact ⟨by rw [HF.out, HS.out, HK.out]; rfl, HB1.out⟩
        · by_cases p1 : 1 ≤ x.port
          · by_cases p2 : x.port ≤ 65535
            · go_wp2_with fail
              refine (right_any _ _).mono ?_
              rintro e w' ⟨rfl, rfl⟩
              rw [HR.out]
              go_wp2_with fail
              go_ret
              exact ⟨by rw [HF.out, HS.out, HK.out]; simp [p1, p2] <;> intros <;> omega, HB1.out⟩
            · go_wp2_with fail
              go_ret
              exact ⟨by rw [HF.out, HS.out, HK.out]; simp [p1, p2] <;> intros <;> omega, HB1.out⟩
          · go_wp2_with fail
            go_ret
            exact ⟨by rw [HF.out, HS.out, HK.out]; simp [p1] <;> intros <;> omega, HB1.out⟩
    refine main _ rfl ?_
    have := HS.out
    cases h : x.addr.six
    · right; rw [h] at this; exact ⟨rfl, by simpa using this⟩
    · left; rfl

theorem ref14right_any (x : Nat) (hx : x < 18446744073709551616) (w : World) : Calls Tryz.prog 105 #[.float .f64 x] w fun e w' => e = .returned (.bool (wOk x)) ∧ w = w' := by
  go_enter Tryz.func105, Tryz.ntmps105
  go_wp2_with (first | (go_at_call 140; refine (refQ_any _ hx _).mono ?_; rintro e w' ⟨rfl, rfl⟩))
  go_ret
  exact ⟨rfl, rfl⟩

set_option maxRecDepth 100000 in
theorem fair_bk (x : Bk) (w : World) (hn : x.name.length ≤ 9223372036854775807) (hw : x.w < 18446744073709551616) :
    Calls Tryz.prog 64 #[.agg x.arr] w fun e w' => e = .returned (.bool x.fair) ∧ Below w.heap.size w w' := by
  have hf : x.fair = ((x.addr.six || x.addr.short) && okName x.name && decide (1 ≤ x.port) && decide (x.port ≤ 65535) && wOk x.w) := rfl
  have HF := Lib.hid hf
  clear hf
  have hb0 : Below w.heap.size w (w.alloc (.cells x.arr 60)) := (Below.refl _ _).alloc (Nat.le_refl _) _
  have HB0 := Lib.hid hb0
  clear hb0
  obtain ⟨K, hK⟩ : ∃ K, okName x.name = K := ⟨_, rfl⟩
  have HK := Lib.hid hK
  clear hK
  obtain ⟨S, hS⟩ : ∃ S, x.addr.short = S := ⟨_, rfl⟩
  have HS := Lib.hid hS
  clear hS
  cases K
  · go_enter Tryz.func64, Tryz.ntmps64
    go_wp2_with fail
    refine (refName_any _ _ hn).mono ?_
    rintro e w' ⟨rfl, rfl⟩
    rw [HK.out]
    go_wp2_with fail
    go_ret
    exact ⟨by rw [HF.out, HK.out]; simp, HB0.out⟩
  · have tail : ∀ (w1 : World), Below w.heap.size w w1 → (∀ k, w1.cell? ⟨w.heap.size, k, none⟩ = x.arr[k]?) → True := fun _ _ _ => trivial
    clear tail
    cases h6 : x.addr.six
    · cases S
      · go_enter Tryz.func64, Tryz.ntmps64
        go_wp2_with fail
        refine (refName_any _ _ hn).mono ?_
        rintro e w' ⟨rfl, rfl⟩
        rw [HK.out]
        go_wp2_with fail
        refine (short_any _ _).mono ?_
        rintro e w1 ⟨rfl, hb1⟩
        rw [HS.out, h6]
        have hcl := box_later hb1
        have hB1 : Below w.heap.size w w1 := HB0.out.trans (hb1.mono (by simp))
        have HB1 := Lib.hid hB1
        clear hb1 hB1
        go_wp2_with fail
        go_ret
        exact ⟨by rw [HF.out, HS.out, h6]; rfl, HB1.out⟩
      · by_cases p1 : 1 ≤ x.port
        · by_cases p2 : x.port ≤ 65535
          all_goals
            go_enter Tryz.func64, Tryz.ntmps64
            go_wp2_with fail
            refine (refName_any _ _ hn).mono ?_
            rintro e w' ⟨rfl, rfl⟩
            rw [HK.out]
            go_wp2_with fail
            refine (short_any _ _).mono ?_
            rintro e w1 ⟨rfl, hb1⟩
            rw [HS.out, h6]
            have hcl := box_later hb1
            have hB1 : Below w.heap.size w w1 := HB0.out.trans (hb1.mono (by simp))
            have HB1 := Lib.hid hB1
            clear hb1 hB1
            go_wp2_with (first | (go_at_call 105; refine (ref14right_any _ hw _).mono ?_; rintro e w' ⟨rfl, rfl⟩))
            go_ret
            exact ⟨by rw [HF.out, HS.out, HK.out, h6]; simp [p1, p2] <;> intros <;> omega, HB1.out⟩
        · go_enter Tryz.func64, Tryz.ntmps64
          go_wp2_with fail
          refine (refName_any _ _ hn).mono ?_
          rintro e w' ⟨rfl, rfl⟩
          rw [HK.out]
          go_wp2_with fail
          refine (short_any _ _).mono ?_
          rintro e w1 ⟨rfl, hb1⟩
          rw [HS.out, h6]
          have hcl := box_later hb1
          have hB1 : Below w.heap.size w w1 := HB0.out.trans (hb1.mono (by simp))
          have HB1 := Lib.hid hB1
          clear hb1 hB1
          go_wp2_with fail
          go_ret
          exact ⟨by rw [HF.out, HS.out, HK.out, h6]; simp [p1] <;> intros <;> omega, HB1.out⟩
    · by_cases p1 : 1 ≤ x.port
      · by_cases p2 : x.port ≤ 65535
        all_goals
          go_enter Tryz.func64, Tryz.ntmps64
          go_wp2_with fail
          refine (refName_any _ _ hn).mono ?_
          rintro e w' ⟨rfl, rfl⟩
          rw [HK.out]
          go_wp2_with (first | (go_at_call 105; refine (ref14right_any _ hw _).mono ?_; rintro e w' ⟨rfl, rfl⟩))
          go_ret
          exact ⟨by rw [HF.out, HK.out, h6]; simp [p1, p2] <;> intros <;> omega, HB0.out⟩
      · go_enter Tryz.func64, Tryz.ntmps64
        go_wp2_with fail
        refine (refName_any _ _ hn).mono ?_
        rintro e w' ⟨rfl, rfl⟩
        rw [HK.out]
        go_wp2_with fail
        go_ret
        exact ⟨by rw [HF.out, HK.out, h6]; simp [p1] <;> intros <;> omega, HB0.out⟩
end Go.Proofs.YtmpemeemlhmaaaaGreat

namespace Go.Proofs.YtmpemeemlhmaaaaGreat
open Go.RowKit

def cellsBk (l : List Bk) : List Value := l.flatMap (·.arr.toList)
theorem cellsBk_length (l : List Bk) : (cellsBk l).length = l.length * 27 := by
  induction l with
  | nil => rfl
  | cons x l ih =>
    have hx := Bk.arr_size x
    rw [cellsBk, List.flatMap_cons, List.length_append, Array.length_toList, hx, List.length_cons]
    rw [cellsBk] at ih
    rw [ih]; omega
theorem cellsBk_get (l : List Bk) (k j : Nat) (hk : k < l.length) (hj : j < 27) : (cellsBk l)[k * 27 + j]? = (l.getD k noBk).arr[j]? := by
  induction l generalizing k with
  | nil => simp at hk
  | cons x l ih =>
    have hx := Bk.arr_size x
    rw [cellsBk, List.flatMap_cons]
    rcases k with _ | k
    · rw [List.getElem?_append_left (by rw [Array.length_toList, hx]; omega), Array.getElem?_toList]
      simp
    · rw [List.getElem?_append_right (by rw [Array.length_toList, hx]; omega), Array.length_toList, hx, show (k + 1) * 27 + j - 27 = k * 27 + j by omega]
      rw [List.length_cons] at hk
      rw [List.getD_cons_succ]
      exact ih k (by omega)
/-- a slice of backends reads as l, and lies below block B -/
def RdK (w : World) (B : Nat) (A : Option Addr) (n : Nat) (l : List Bk) : Prop :=
  l.length = n ∧ Rd w B 27 A n (cellsBk l) ∧ ∀ a, A = some a → 0 < n → a = ⟨a.block, a.off, none⟩
section
variable {w w' : World} {B B' n : Nat} {A : Option Addr} {l : List Bk}
theorem RdK.nil (w : World) (B : Nat) : RdK w B none 0 [] := ⟨rfl, Rd.nil, fun a h _ => by cases h⟩
theorem RdK.len (h : RdK w B A n l) : l.length = n := h.1
theorem RdK.below (h : RdK w B A n l) (hb : Below B w w') : RdK w' B A n l := ⟨h.1, Rd.below h.2.1 hb, h.2.2⟩
theorem RdK.to {C : Nat} (h : RdK w B A n l) (hb : Below C w w') (hC : B ≤ C) : RdK w' B A n l := ⟨h.1, Rd.to h.2.1 hb hC, h.2.2⟩
theorem RdK.more (h : RdK w B A n l) (hB : B ≤ B') : RdK w B' A n l := ⟨h.1, Rd.more h.2.1 hB, h.2.2⟩
theorem RdK.drew (h : RdK w B A n l) : RdK w.drew B A n l := h
theorem RdK.alloc (h : RdK w B A n l) (hB : B ≤ w.heap.size) (o : Obj) : RdK (w.alloc o) B A n l := ⟨h.1, Rd.alloc h.2.1 hB o, h.2.2⟩
theorem RdK.cell {k : Nat} (h : RdK w B A n l) (hk : k < n) : ∃ b o, A = some ⟨b, o, none⟩ ∧ b < B ∧ ∀ j, j < 27 → w.cell? ⟨b, o + k * 27 + j, none⟩ = (l.getD k noBk).arr[j]? := by
  obtain ⟨h1, h2, h3⟩ := h
  obtain ⟨a, hA, hb, hc⟩ := h2.2 (by omega)
  have := h3 a hA (by omega)
  refine ⟨a.block, a.off, by rw [hA, ← this], hb, fun j hj => ?_⟩
  have hg := cellsBk_get l k j (by omega) hj
  have hs : ((l.getD k noBk).arr)[j]? = some ((l.getD k noBk).arr[j]'(by rw [Bk.arr_size]; exact hj)) := Array.getElem?_eq_getElem _
  rw [hs] at hg ⊢
  have := hc _ _ hg
  rw [h3 a hA (by omega), Addr.add_mid] at this
  rw [← this, Nat.add_assoc]
theorem RdK.at_ {k : Nat} (h : RdK w B A n l) (hk : k < n) : ∃ b o, A = some ⟨b, o, none⟩ ∧ b < B ∧ Has w b (o + k * 27) 27 ∧ cellsAt w b (o + k * 27) 27 = (l.getD k noBk).arr := by
  obtain ⟨b, o, hA, hb, hc⟩ := h.cell hk
  exact ⟨b, o, hA, hb, cellsAt_eq (Bk.arr_size _) hc⟩
end

/-! ### names in order -/
/-- how two names lie -/
def cmpS (a b : List UInt8) : Int := Lib.compareBytes a b
theorem cmpS_cases (a b : List UInt8) : cmpS a b = -1 ∨ cmpS a b = 0 ∨ cmpS a b = 1 := by
  unfold cmpS
  induction a generalizing b with
  | nil => cases b <;> simp [Lib.compareBytes]
  | cons x a ih =>
    cases b with
    | nil => simp [Lib.compareBytes]
    | cons y b =>
      unfold Lib.compareBytes
      split
      · simp
      · split
        · simp
        · exact ih b
theorem u8_tri (x y : UInt8) : x < y ∨ x = y ∨ y < x := by
  rcases Nat.lt_trichotomy x.toNat y.toNat with h | h | h
  · exact Or.inl (UInt8.lt_iff_toNat_lt.2 h)
  · exact Or.inr (Or.inl (UInt8.toNat_inj.1 h))
  · exact Or.inr (Or.inr (UInt8.lt_iff_toNat_lt.2 h))
theorem cmpS_zero {a b : List UInt8} : cmpS a b = 0 ↔ a = b := by
  unfold cmpS
  induction a generalizing b with
  | nil => cases b <;> simp [Lib.compareBytes]
  | cons x a ih =>
    cases b with
    | nil => simp [Lib.compareBytes]
    | cons y b =>
      unfold Lib.compareBytes
      rcases u8_tri x y with h | rfl | h
      · have : x ≠ y := fun e => by subst e; exact UInt8.lt_irrefl x h
        simp [h, this]
      · have := UInt8.lt_irrefl x
        simp [this, ih]
      · have h1 : ¬ x < y := fun h2 => UInt8.lt_irrefl x (UInt8.lt_trans h2 h)
        have : x ≠ y := fun e => by subst e; exact UInt8.lt_irrefl x h
        simp [h, h1, this]
theorem cmpS_swap (a b : List UInt8) : cmpS b a = - cmpS a b := by
  unfold cmpS
  induction a generalizing b with
  | nil => cases b <;> simp [Lib.compareBytes]
  | cons x a ih =>
    cases b with
    | nil => simp [Lib.compareBytes]
    | cons y b =>
      unfold Lib.compareBytes
      rcases u8_tri x y with h | rfl | h
      · have h1 : ¬ y < x := fun h2 => UInt8.lt_irrefl x (UInt8.lt_trans h h2)
        simp [h, h1]
      · have := UInt8.lt_irrefl x
        simp [this, ih]
      · have h1 : ¬ x < y := fun h2 => UInt8.lt_irrefl x (UInt8.lt_trans h2 h)
        simp [h, h1]
theorem cmpS_trans {a b c : List UInt8} (h1 : cmpS a b < 0) (h2 : cmpS b c < 0) : cmpS a c < 0 := by
  unfold cmpS at *
  induction a generalizing b c with
  | nil =>
    cases c with
    | nil => cases b <;> simp [Lib.compareBytes] at h1 h2
    | cons z c => simp [Lib.compareBytes]
  | cons x a ih =>
    cases b with
    | nil => simp [Lib.compareBytes] at h1
    | cons y b =>
      cases c with
      | nil => simp [Lib.compareBytes] at h2
      | cons z c =>
        unfold Lib.compareBytes at h1 h2 ⊢
        rcases u8_tri x y with h | rfl | h
        · rcases u8_tri y z with k | rfl | k
          · have := UInt8.lt_trans h k
            simp [this]
          · simp [h]
          · have k1 : ¬ y < z := fun k2 => UInt8.lt_irrefl z (UInt8.lt_trans k k2)
            simp [k, k1] at h2
        · have hx := UInt8.lt_irrefl x
          rcases u8_tri x z with k | rfl | k
          · simp [k]
          · simp [hx] at h1 h2 ⊢
            exact ih h1 h2
          · have k1 : ¬ x < z := fun k2 => UInt8.lt_irrefl z (UInt8.lt_trans k k2)
            simp [k, k1] at h2
        · have h3 : ¬ x < y := fun k2 => UInt8.lt_irrefl y (UInt8.lt_trans h k2)
          simp [h, h3] at h1
theorem bytesLess_is (a b : List UInt8) : Op.bytesLess a b = decide (cmpS a b < 0) := by
  unfold cmpS
  induction a generalizing b with
  | nil => cases b <;> simp [Lib.compareBytes, Op.bytesLess]
  | cons x a ih =>
    cases b with
    | nil => simp [Lib.compareBytes, Op.bytesLess]
    | cons y b =>
      unfold Lib.compareBytes Op.bytesLess
      rcases u8_tri x y with h | rfl | h
      · simp [h]
      · have := UInt8.lt_irrefl x
        simp [this, ih]
      · have h1 : ¬ x < y := fun h2 => UInt8.lt_irrefl x (UInt8.lt_trans h2 h)
        have : x ≠ y := fun e => by subst e; exact UInt8.lt_irrefl x h
        simp [h, h1, this]
/-- the names stand in order, each once -/
def Srt (l : List Bk) : Prop := l.Pairwise fun x y => cmpS x.name y.name < 0
def nm (l : List Bk) (i : Nat) : List UInt8 := (l.getD i noBk).name
theorem Srt.lt {l : List Bk} (h : Srt l) {i j : Nat} (hij : i < j) (hj : j < l.length) : cmpS (nm l i) (nm l j) < 0 := by
  have := List.pairwise_iff_getElem.1 h i j (by omega) hj hij
  unfold nm
  rw [List.getD_eq_getElem?_getD, List.getD_eq_getElem?_getD, List.getElem?_eq_getElem hj, List.getElem?_eq_getElem (by omega : i < l.length)]
  exact this
theorem Srt.down {l : List Bk} (h : Srt l) {i j : Nat} (s : List UInt8) (hij : i ≤ j) (hj : j < l.length) (hs : cmpS (nm l j) s < 0) : cmpS (nm l i) s < 0 := by
  rcases Nat.lt_or_ge i j with h1 | h1
  · exact cmpS_trans (h.lt h1 hj) hs
  · obtain rfl : i = j := by omega
    exact hs
theorem Srt.up {l : List Bk} (h : Srt l) {i j : Nat} (s : List UInt8) (hij : i ≤ j) (hj : j < l.length) (hs : ¬ cmpS (nm l i) s < 0) : ¬ cmpS (nm l j) s < 0 := fun h1 => hs (h.down s hij hj h1)
/-- how many names stand ahead of s -/
def lowN (l : List Bk) (s : List UInt8) : Nat := (l.takeWhile fun x => decide (cmpS x.name s < 0)).length
theorem lowN_of {l : List Bk} {s : List UInt8} {k : Nat} (hk : k ≤ l.length) (h1 : ∀ i, i < k → cmpS (nm l i) s < 0) (h2 : k < l.length → ¬ cmpS (nm l k) s < 0) : lowN l s = k := by
  unfold lowN
  induction l generalizing k with
  | nil => simp at hk ⊢; omega
  | cons x l ih =>
    rcases k with _ | k
    · have : ¬ cmpS x.name s < 0 := h2 (by simp)
      simp [this]
    · have h0 : cmpS x.name s < 0 := h1 0 (by omega)
      rw [List.takeWhile_cons]
      simp only [h0, decide_true, if_true, List.length_cons]
      rw [ih (k := k) (by simpa using hk) (fun i hi => h1 (i + 1) (by omega)) (fun hi => h2 (by simpa using hi))]

/-! ### comparing -/
theorem call_cmpstring (a b : List UInt8) (w : World) : (callFunc 165 #[.string (textOf a), .string (textOf b)]).run Tryz.prog w = .ok (.value (.int .i64 (cmpS a b))) w := by
  rw [run_callFunc_extern Tryz.func165 (by kernel_rfl) (by kernel_rfl) (by kernel_rfl) (e := Extern.BytealgCompare.compare) (by kernel_rfl), Lib.run_compareString]
  rfl
theorem compareString_any (a b : List UInt8) (w : World) : Calls Tryz.prog 145 #[.string (textOf a), .string (textOf b)] w fun e w' => e = .returned (.int .i64 (cmpS a b)) ∧ w = w' := by
  have h := call_cmpstring a b
  go_enter Tryz.func145, Tryz.ntmps145
  go_wp2
  go_ret
  exact ⟨rfl, rfl⟩
theorem compare_any (a b : List UInt8) (w : World) : Calls Tryz.prog 115 #[.string (textOf a), .string (textOf b)] w fun e w' => e = .returned (.int .i64 (cmpS a b)) ∧ w = w' := by
  go_enter Tryz.func115, Tryz.ntmps115
  go_wp2_with (go_at_call 145; refine (compareString_any _ _ _).mono ?_; rintro e w' ⟨rfl, rfl⟩)
  go_ret
  exact ⟨rfl, rfl⟩
theorem at1_any (x : Bk) (s : List UInt8) (w : World) : Calls Tryz.prog 114 #[.agg x.arr, .string (textOf s)] w fun e w' => e = .returned (.int .i64 (cmpS x.name s)) ∧ Below w.heap.size w w' := by
  have hb0 : Below w.heap.size w (w.alloc (.cells x.arr 60)) := (Below.refl _ _).alloc (Nat.le_refl _) _
  have HB0 := Lib.hid hb0
  clear hb0
  go_enter Tryz.func114, Tryz.ntmps114
  go_wp2_with (go_at_call 115; refine (compare_any _ _ _).mono ?_; rintro e w' ⟨rfl, rfl⟩)
  go_ret
  exact ⟨rfl, HB0.out⟩
end Go.Proofs.YtmpemeemlhmaaaaGreat

namespace Go.Proofs.YtmpemeemlhmaaaaGreat
open Go.RowKit

def hasN (l : List Bk) (s : List UInt8) : Bool := decide (lowN l s < l.length) && decide (cmpS (nm l (lowN l s)) s = 0)
/-- what is found of a name -/
def gotN (l : List Bk) (s : List UInt8) : Bk := if hasN l s then l.getD (lowN l s) noBk else noBk
theorem gotN_no {l : List Bk} {s : List UInt8} (h : hasN l s = false) : gotN l s = noBk := by simp [gotN, h]
theorem gotN_yes {l : List Bk} {s : List UInt8} (h : hasN l s = true) : gotN l s = l.getD (lowN l s) noBk := by simp [gotN, h]
theorem enter_at1 (args : Array Value) (w : World) : (callFunc 114 args).run Tryz.prog w = .ok (.enter 114 args) w := by kernel_rfl

set_option maxRecDepth 100000 in
theorem search_any (l : List Bk) (hs : Srt l) (s : List UInt8) (A : Option Addr) (c : Nat) (w : World) (hR : RdK w w.heap.size A l.length l) (hn : l.length < 4611686018427387904) :
    Calls Tryz.prog 113 #[.slice A l.length c, .string (textOf s), .func (.func 114) #[] #[]] w
      fun e w' => e = .returned (.tuple #[.int .i64 (lowN l s), .bool (hasN l s)]) ∧ Below w.heap.size w w' := by
  have hen := enter_at1
  have HR := Lib.hid hR
  clear hR
  have HS := Lib.hid hs
  clear hs
  obtain ⟨n, hnl⟩ : ∃ n, n = l.length := ⟨_, rfl⟩
  rw [← hnl] at HR hn ⊢
  have HN := Lib.hid hnl
  clear hnl
  go_enter Tryz.func113, Tryz.ntmps113
  go_wp2
  go_loopw [9, 10] (fun s9 s10 wr => ∃ i j : Nat, i ≤ j ∧ j ≤ n ∧ s9 = .int .i64 i ∧ s10 = .int .i64 j ∧ (∀ k, k < i → cmpS (nm l k) s < 0) ∧ (∀ k, j ≤ k → k < n → ¬ cmpS (nm l k) s < 0) ∧ Below w.heap.size w wr) (fun s9 s10 _ => (intOf s10 - intOf s9).toNat)
  case atStart => exact ⟨0, n, by omega, Nat.le_refl _, rfl, rfl, fun k hk => by omega, fun k h1 h2 => by omega, Below.refl _ _⟩
  case round =>
    obtain ⟨i, j, hij, hjn, rfl, rfl, hlo, hhi, hb⟩ := hrel
    have HLO := Lib.hid hlo
    have HHI := Lib.hid hhi
    have HB := Lib.hid hb
    clear hlo hhi hb
    by_cases hlt : i < j
    · have hin : (i : Int) < j := by omega
      have hmn : (i + j) / 2 < n := by omega
      have hR1 := HR.out.below HB.out
      obtain ⟨b, o, rfl, hbb, hh, hc⟩ := hR1.at_ hmn
      have HBB := Lib.hid hbb
      clear hR1 hbb
      have hdn : ∀ k, k ≤ (i + j) / 2 → cmpS (nm l ((i + j) / 2)) s < 0 → cmpS (nm l k) s < 0 := fun k hk h => HS.out.down s hk (by have := HN.out; omega) h
      have hup : ∀ k, (i + j) / 2 ≤ k → k < n → ¬ cmpS (nm l ((i + j) / 2)) s < 0 → ¬ cmpS (nm l k) s < 0 := fun k hk hkn h => HS.out.up s hk (by have := HN.out; omega) h
      have HDN := Lib.hid hdn
      have HUP := Lib.hid hup
      clear hdn hup
      unfold nm at HDN HUP
      obtain ⟨x, hx⟩ : ∃ x, x = l.getD ((i + j) / 2) noBk := ⟨_, rfl⟩
      rw [← hx] at hc HDN HUP
      clear hx
      by_cases ht : cmpS x.name s < 0
      · have hd : decide (cmpS x.name s < 0) = true := by simpa using ht
        go_wp2_with (go_at_call 114; refine (at1_any x s _).mono ?_; rintro e w1 ⟨rfl, hb1⟩; clear hh hc; have HB1 := Lib.hid hb1; clear hb1)
        go_roundw
        case rel => exact ⟨(i + j) / 2 + 1, j, by omega, by omega, by go_num, by go_num, fun k hk => HDN.out k (by omega) ht, fun k h1 h2 => by have := HHI.out k h1 h2; omega, below2 HB.out HB1.out⟩
        case measure => simp [intOf] <;> omega
      · have hd : decide (cmpS x.name s < 0) = false := by simpa using ht
        go_wp2_with (go_at_call 114; refine (at1_any x s _).mono ?_; rintro e w1 ⟨rfl, hb1⟩; clear hh hc; have HB1 := Lib.hid hb1; clear hb1)
        go_roundw
        case rel => exact ⟨i, (i + j) / 2, by omega, by omega, by go_num, by go_num, HLO.out, fun k h1 h2 => by have := HUP.out k h1 h2 ht; unfold nm; omega, below2 HB.out HB1.out⟩
        case measure => simp [intOf] <;> omega
    · obtain rfl : i = j := by omega
      have hlo : lowN l s = i := lowN_of (by have := HN.out; omega) HLO.out (fun h => by have := HHI.out i (Nat.le_refl _) (by have := HN.out; omega); omega)
      have HLOW := Lib.hid hlo
      clear hlo
      by_cases hlt2 : i < n
      · have hin : (i : Int) < n := by omega
        have hR1 := HR.out.below HB.out
        obtain ⟨b, o, rfl, hbb, hh, hc⟩ := hR1.at_ hlt2
        clear hR1 hbb
        have hf : hasN l s = decide (cmpS (l.getD i noBk).name s = 0) := by
          have h1 := HLOW.out
          have h2 := HN.out
          unfold hasN nm
          rw [h1]
          simp [show i < l.length by omega]
        have HF := Lib.hid hf
        clear hf
        obtain ⟨x, hx⟩ : ∃ x, x = l.getD i noBk := ⟨_, rfl⟩
        rw [← hx] at hc HF
        clear hx
        by_cases ht : cmpS x.name s = 0
        · have hd : (cmpS x.name s == 0) = true := by simpa using ht
          go_wp2_with (go_at_call 114; refine (at1_any x s _).mono ?_; rintro e w1 ⟨rfl, hb1⟩; clear hh hc; have HB1 := Lib.hid hb1; clear hb1)
          go_ret2
          exact ⟨by rw [HLOW.out, HF.out]; simp [ht], below2 HB.out HB1.out⟩
        · have hd : (cmpS x.name s == 0) = false := by simpa using ht
          go_wp2_with (go_at_call 114; refine (at1_any x s _).mono ?_; rintro e w1 ⟨rfl, hb1⟩; clear hh hc; have HB1 := Lib.hid hb1; clear hb1)
          go_ret2
          exact ⟨by rw [HLOW.out, HF.out]; simp [ht], below2 HB.out HB1.out⟩
      · have hf : hasN l s = false := by
          have h1 := HLOW.out
          have h2 := HN.out
          unfold hasN
          rw [h1]
          simp [show ¬ i < l.length by omega]
        have HF := Lib.hid hf
        clear hf
        have hd : decide ((i : Int) < n) = false := by simpa using hlt2
        go_wp2
        go_ret2
        exact ⟨by rw [HLOW.out, HF.out]; rfl, HB.out⟩

/-- a pool as a value -/
def poolV (v : Int) (A : Option Addr) (n c : Nat) : Value := .agg #[.int .i64 v, .slice A n c]
theorem at_any (l : List Bk) (hs : Srt l) (s : List UInt8) (v : Int) (A : Option Addr) (c : Nat) (w : World) (hR : RdK w w.heap.size A l.length l) (hn : l.length < 4611686018427387904) :
    Calls Tryz.prog 76 #[.agg #[.int .i64 v, .slice A l.length c], .string (textOf s)] w fun e w' => e = .returned (.tuple #[.int .i64 (lowN l s), .bool (hasN l s)]) ∧ Below w.heap.size w w' := by
  have hb0 : ∀ ob, Below w.heap.size w (w.alloc ob) := fun ob => (Below.refl _ _).alloc (Nat.le_refl _) _
  have HB0 := Lib.hid hb0
  clear hb0
  have HR1 := Lib.hid (fun ob => (hR.alloc (Nat.le_refl _) ob).more (B' := (w.alloc ob).heap.size) (by simp))
  clear hR
  go_enter Tryz.func76, Tryz.ntmps76
  go_wp2_with (go_at_call 113; refine (search_any l hs s A c _ (HR1.out _) hn).mono ?_; rintro e w1 ⟨rfl, hb1⟩; have HB1 := Lib.hid hb1; clear hb1)
  go_ret2
  exact ⟨rfl, below2 (HB0.out _) HB1.out⟩

set_option maxRecDepth 100000 in
theorem find_any (l : List Bk) (hs : Srt l) (s : List UInt8) (v : Int) (A : Option Addr) (c : Nat) (w : World) (hR : RdK w w.heap.size A l.length l) (hn : l.length < 4611686018427387904) :
    Calls Tryz.prog 62 #[.agg #[.int .i64 v, .slice A l.length c], .string (textOf s)] w fun e w' => e = .returned (.tuple #[.agg (gotN l s).arr, .bool (hasN l s)]) ∧ Below w.heap.size w w' := by
  have hb0 : ∀ ob ob', Below w.heap.size w ((w.alloc ob).alloc ob') := fun ob ob' => ((Below.refl _ _).alloc (Nat.le_refl _) _).alloc (by simp) _
  have HB0 := Lib.hid hb0
  clear hb0
  have HR1 := Lib.hid (fun ob ob' => ((hR.alloc (Nat.le_refl _) ob).alloc (by simp) ob').more (B' := ((w.alloc ob).alloc ob').heap.size) (by simp; omega))
  have HRB := Lib.hid hR
  clear hR
  obtain ⟨K, hK⟩ : ∃ K, hasN l s = K := ⟨_, rfl⟩
  have HK := Lib.hid hK
  clear hK
  cases K
  · go_enter Tryz.func62, Tryz.ntmps62
    go_wp2_with fail
    refine (at_any l hs s v A c _ (HR1.out _ _) hn).mono ?_
    rintro e w1 ⟨rfl, hb1⟩
    rw [HK.out]
    have hth := there_later (there_new (w.alloc (.cells #[.int .i64 v, .slice A l.length c] 24)) noBk.arr 60 (Bk.arr_size _)) hb1 (by simp)
    rw [show ∀ ob, (w.alloc ob).heap.size = w.heap.size + 1 from fun ob => by simp] at hth
    have hB := HB0.out (.cells #[.int .i64 v, .slice A l.length c] 24) (.cells noBk.arr 60)
    have HB1 := Lib.hid (hB.trans (hb1.mono (by simp; omega)))
    have HT := Lib.hid hth
    clear hb1 hB
    go_wp2_with fail
    (try simp only [Exit.inBlock, Exit.then])
    refine bodyPost_ret (ret_bk rfl _ _ _ _ rfl (setBk_at _ _ _ _ HT.out).1) rfl ⟨?_, setBk_below HB1.out _ _ _ (by omega)⟩
    rw [(setBk_at _ _ _ _ HT.out).2, gotN_no HK.out]
    try rw [HK.out]
    rfl
  · have hlt : lowN l s < l.length := by
      have := HK.out
      unfold hasN at this
      simp at this
      exact this.1
    have hin : ((lowN l s : Nat) : Int) < (l.length : Nat) := by omega
    go_enter Tryz.func62, Tryz.ntmps62
    go_wp2_with fail
    refine (at_any l hs s v A c _ (HR1.out _ _) hn).mono ?_
    rintro e w1 ⟨rfl, hb1⟩
    rw [HK.out]
    have hcl : w1.cell? ⟨w.heap.size, 1, none⟩ = some (.slice A l.length c) := by
      rw [hb1.cell (by simp; omega)]
      go_simp
    have hth := there_later (there_new (w.alloc (.cells #[.int .i64 v, .slice A l.length c] 24)) noBk.arr 60 (Bk.arr_size _)) hb1 (by simp)
    rw [show ∀ ob, (w.alloc ob).heap.size = w.heap.size + 1 from fun ob => by simp] at hth
    have hB := HB0.out (.cells #[.int .i64 v, .slice A l.length c] 24) (.cells noBk.arr 60)
    have hB1 := hB.trans (hb1.mono (by simp; omega))
    have HB1 := Lib.hid hB1
    have hR1 := HRB.out.below hB1
    have HT := Lib.hid hth
    clear hb1 hB hB1
    obtain ⟨b, o, rfl, hbb, hh, hc⟩ := hR1.at_ hlt
    clear hbb hR1
    obtain ⟨x, hx⟩ : ∃ x, x = l.getD (lowN l s) noBk := ⟨_, rfl⟩
    rw [← hx] at hc
    have HX := Lib.hid hx
    clear hx
    go_wp2_with fail
    (try simp only [Exit.inBlock, Exit.then])
    refine bodyPost_ret (ret_bk rfl _ _ _ _ rfl (setBk_at _ _ _ _ HT.out).1) rfl ⟨?_, setBk_below HB1.out _ _ _ (by omega)⟩
    rw [(setBk_at _ _ _ _ HT.out).2, gotN_yes HK.out, ← HX.out]
    try rw [HK.out]
    rfl
end Go.Proofs.YtmpemeemlhmaaaaGreat
