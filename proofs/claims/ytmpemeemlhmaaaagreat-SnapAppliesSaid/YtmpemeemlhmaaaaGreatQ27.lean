/- The document's way of finding; few backends. -/
import Derived.Test.YtmpemeemlhmaaaaGreatQ10
import Derived.Test.YtmpemeemlhmaaaaGreatQ23
import Derived.Test.YtmpemeemlhmaaaaGreatQ11
import Derived.Test.YtmpemeemlhmaaaaGreatQ26
set_option linter.unusedSimpArgs false
set_option linter.unusedVariables false
set_option maxRecDepth 100000
namespace Go.Proofs.YtmpemeemlhmaaaaGreat
open Go.RowKit

theorem RdK.name {w : World} {B n : Nat} {A : Option Addr} {l : List Bk} {k : Nat} (h : RdK w B A n l) (hk : k < n) : ∃ b o, A = some ⟨b, o, none⟩ ∧ b < B ∧ w.cell? ⟨b, o + k * 27, none⟩ = some (.string (textOf (nm l k))) := by
  obtain ⟨b, o, hA, hb, hc⟩ := h.cell hk
  refine ⟨b, o, hA, hb, ?_⟩
  have := hc 0 (by omega)
  rw [Bk.arr_0] at this
  simpa [nm] using this
theorem hasN_at {l : List Bk} (hs : Srt l) {s : List UInt8} {i : Nat} (hi : i < l.length) (h : nm l i = s) : lowN l s = i ∧ hasN l s = true := by
  have h0 : cmpS (nm l i) s = 0 := cmpS_zero.2 h
  have hl : lowN l s = i := lowN_of (by omega) (fun k hk => by rw [← h]; exact hs.lt hk hi) (fun _ => by omega)
  refine ⟨hl, ?_⟩
  unfold hasN
  rw [hl]
  simp [hi, h0]
theorem hasN_none {l : List Bk} {s : List UInt8} (h : ∀ k, k < l.length → nm l k ≠ s) : hasN l s = false := by
  unfold hasN
  by_cases hl : lowN l s < l.length
  · have : ¬ cmpS (nm l (lowN l s)) s = 0 := fun h0 => h _ hl (cmpS_zero.1 h0)
    simp [this]
  · simp [hl]
/-- where the document finds a name -/
def posN (l : List Bk) (s : List UInt8) : Int := if hasN l s then (lowN l s : Nat) else -1
theorem posN_at {l : List Bk} (hs : Srt l) {s : List UInt8} {i : Nat} (hi : i < l.length) (h : nm l i = s) : posN l s = i := by
  obtain ⟨h1, h2⟩ := hasN_at hs hi h
  simp [posN, h1, h2]
theorem posN_none {l : List Bk} {s : List UInt8} (h : ∀ k, k < l.length → nm l k ≠ s) : posN l s = -1 := by
  simp [posN, hasN_none h]

set_option maxRecDepth 100000 in
theorem refFindBk_any (l : List Bk) (hs : Srt l) (s : List UInt8) (v : Int) (A : Option Addr) (c : Nat) (w : World) (hR : RdK w w.heap.size A l.length l) (hn : l.length < 4611686018427387904) :
    Calls Tryz.prog 70 #[.agg #[.int .i64 v, .slice A l.length c], .string (textOf s)] w fun e w' => e = .returned (.int .i64 (posN l s)) ∧ Below w.heap.size w w' := by
  have hb0 : ∀ ob, Below w.heap.size w (w.alloc ob) := fun ob => (Below.refl _ _).alloc (Nat.le_refl _) _
  have HB0 := Lib.hid hb0
  clear hb0
  have HR := Lib.hid (fun ob => hR.alloc (Nat.le_refl _) ob)
  have HS := Lib.hid hs
  clear hR hs
  obtain ⟨n, hnl⟩ : ∃ n, n = l.length := ⟨_, rfl⟩
  rw [← hnl] at HR hn ⊢
  have HN := Lib.hid hnl
  clear hnl
  go_enter Tryz.func70, Tryz.ntmps70
  go_wp2
  go_loop [5] (fun s5 => ∃ i : Nat, i ≤ n ∧ s5 = .int .i64 i ∧ ∀ k, k < i → nm l k ≠ s) (fun s5 => n - (intOf s5).toNat)
  case atStart => exact ⟨0, by omega, rfl, fun k hk => by omega⟩
  case round =>
    obtain ⟨i, hin, rfl, hno⟩ := hrel
    have HNO := Lib.hid hno
    clear hno
    by_cases hlt : i < n
    · have hi : (i : Int) < n := by omega
      obtain ⟨b, o, rfl, hbb, hc⟩ := (HR.out (.cells #[.int .i64 v, .slice A n c] 24)).name hlt
      clear hbb
      have hpn : nm l i = nm l i := rfl
      obtain ⟨pn, hp⟩ : ∃ pn, pn = nm l i := ⟨_, rfl⟩
      rw [← hp] at hc
      clear hpn
      have HP := Lib.hid hp
      clear hp
      by_cases hq : pn = s
      · have hbq : (pn == s) = true := by simpa using hq
        have hpos : posN l s = i := posN_at HS.out (by have := HN.out; omega) (by rw [← HP.out, hq])
        have HPOS := Lib.hid hpos
        clear hpos hq
        go_wp2
        go_ret
        exact ⟨by rw [HPOS.out]; rfl, HB0.out _⟩
      · have hbq : (pn == s) = false := by simpa using hq
        have HQ := Lib.hid hq
        clear hq
        go_wp2
        go_round
        case rel => exact ⟨i + 1, by omega, by go_num, fun k hk => by
          by_cases hki : k = i
          · rw [hki, ← HP.out]; exact HQ.out
          · exact HNO.out k (by omega)⟩
        case measure => simp [intOf] <;> omega
    · obtain rfl : i = n := by omega
      have hpos : posN l s = -1 := posN_none (fun k hk => HNO.out k (by have := HN.out; omega))
      have HPOS := Lib.hid hpos
      clear hpos
      have hd : decide ((i : Int) < i) = false := by simp
      go_wp2
      go_ret
      exact ⟨by rw [HPOS.out]; rfl, HB0.out _⟩

theorem range_all_false0 (p : Nat → Bool) (i n : Nat) (h : i < n) (hp : p i = false) : (List.range n).all p = false := by
  rw [List.all_eq_false]; exact ⟨i, List.mem_range.2 h, by rw [hp]; simp⟩
/-- few backends, with short names -/
def few (l : List Bk) : Bool := (List.range (min l.length 60)).all (fun i => decide ((nm l i).length ≤ 60)) && decide (l.length ≤ 40)
set_option maxRecDepth 100000 in
theorem fewBk_any (l : List Bk) (v : Int) (A : Option Addr) (c : Nat) (w : World) (hR : RdK w w.heap.size A l.length l) (hn : l.length ≤ 9223372036854775807) :
    Calls Tryz.prog 19 #[.agg #[.int .i64 v, .slice A l.length c]] w fun e w' => e = .returned (.bool (few l)) ∧ Below w.heap.size w w' := by
  have hb0 : ∀ ob, Below w.heap.size w (w.alloc ob) := fun ob => (Below.refl _ _).alloc (Nat.le_refl _) _
  have HB0 := Lib.hid hb0
  clear hb0
  have HR := Lib.hid (fun ob => hR.alloc (Nat.le_refl _) ob)
  clear hR
  have hfew : few l = ((List.range (min l.length 60)).all (fun i => decide ((nm l i).length ≤ 60)) && decide (l.length ≤ 40)) := rfl
  have HFW := Lib.hid hfew
  clear hfew
  obtain ⟨n, hnl⟩ : ∃ n, n = l.length := ⟨_, rfl⟩
  rw [← hnl] at HR hn HFW ⊢
  clear hnl
  go_enter Tryz.func19, Tryz.ntmps19
  go_wp2
  go_loop [3] (fun s3 => ∃ i : Nat, i ≤ n ∧ i ≤ 60 ∧ s3 = .int .i64 i ∧ ∀ k, k < i → (nm l k).length ≤ 60) (fun s3 => n - (intOf s3).toNat)
  case atStart => exact ⟨0, by omega, by omega, rfl, fun k hk => by omega⟩
  case round =>
    obtain ⟨i, hin, hi60, rfl, hall⟩ := hrel
    have HA := Lib.hid hall
    clear hall
    by_cases hlt : i < n
    · have hi : (i : Int) < n := by omega
      by_cases h6 : i < 60
      · have hi6 : (i : Int) < 60 := by omega
        obtain ⟨b, o, rfl, hbb, hc⟩ := (HR.out (.cells #[.int .i64 v, .slice A n c] 24)).name hlt
        clear hbb
        obtain ⟨pn, hp⟩ : ∃ pn, pn = nm l i := ⟨_, rfl⟩
        rw [← hp] at hc
        have HP := Lib.hid hp
        clear hp
        by_cases hq : pn.length ≤ 60
        · have hq1 : (pn.length : Int) ≤ 60 := by omega
          go_wp2
          go_round
          case rel => exact ⟨i + 1, by omega, by omega, by go_num, fun k hk => by
            by_cases hki : k = i
            · rw [hki, ← HP.out]; exact hq
            · exact HA.out k (by omega)⟩
          case measure => simp [intOf] <;> omega
        · have hq1 : ¬ (pn.length : Int) ≤ 60 := by omega
          have hq2 : (60 : Int) < pn.length := by omega
          have hfw : few l = false := by
            rw [HFW.out, range_all_false0 _ i _ (by omega) (by rw [← HP.out]; simpa using hq)]; rfl
          have HF := Lib.hid hfw
          clear hfw
          go_wp2
          go_ret
          exact ⟨by rw [HF.out]; rfl, HB0.out _⟩
      · have hd : decide ((i : Int) < 60) = false := by simp; omega
        have hfw : few l = decide ((n : Int) ≤ 40) := by
          have h40 : ¬ n ≤ 40 := by omega
          rw [HFW.out]
          simp [h40]
          omega
        have HF := Lib.hid hfw
        clear hfw
        go_wp2
        go_ret
        exact ⟨by rw [HF.out]; rfl, HB0.out _⟩
    · obtain rfl : i = n := by omega
      have hd : decide ((i : Int) < i) = false := by simp
      have hfw : few l = decide ((i : Int) ≤ 40) := by
        rw [HFW.out]
        have : (List.range (min i 60)).all (fun i => decide ((nm l i).length ≤ 60)) = true := by
          rw [List.all_eq_true]
          intro k hk
          have := List.mem_range.1 hk
          simpa using HA.out k (by omega)
        rw [this, Bool.true_and, decide_eq_decide]
        omega
      have HF := Lib.hid hfw
      clear hfw
      go_wp2
      go_ret
      exact ⟨by rw [HF.out]; rfl, HB0.out _⟩
end Go.Proofs.YtmpemeemlhmaaaaGreat

namespace Go.Proofs.YtmpemeemlhmaaaaGreat
open Go.RowKit

def twinAt (l m : List Bk) (i : Nat) : Bool := sameOne (l.getD i noBk) (m.getD i noBk)
def twins (v : Int) (l : List Bk) (v' : Int) (m : List Bk) : Bool := (v == v') && decide (l.length = m.length) && (List.range l.length).all (twinAt l m)
theorem Has.belowP {w W : World} {b o k B : Nat} (h : Has w b o k) (hb : Below B w W) (hlt : b < B) : Has W b o k := fun j hj => by
  obtain ⟨u, hu⟩ := h j hj
  exact ⟨u, by rw [hb.cell hlt]; exact hu⟩
theorem cellsAt_belowP {w W : World} {b o k B : Nat} (hb : Below B w W) (hlt : b < B) : cellsAt W b o k = cellsAt w b o k := cellsAt_of fun j _ => hb.cell hlt
set_option maxHeartbeats 4000000 in
set_option maxRecDepth 100000 in
theorem refSamePool_any (l m : List Bk) (hf : ∀ x ∈ l, x.fine) (hg : ∀ x ∈ m, x.fine) (v v' : Int) (A B : Option Addr) (c d : Nat) (w : World) (hR : RdK w w.heap.size A l.length l) (hT : RdK w w.heap.size B m.length m) (hn : l.length < 4611686018427387904) (hm : m.length < 4611686018427387904) :
    Calls Tryz.prog 24 #[.agg #[.int .i64 v, .slice A l.length c], .agg #[.int .i64 v', .slice B m.length d]] w
      fun e w' => e = .returned (.bool (twins v l v' m)) ∧ Below w.heap.size w w' := by
  have hb0 : ∀ ob ob', Below w.heap.size w ((w.alloc ob).alloc ob') := fun ob ob' => ((Below.refl _ _).alloc (Nat.le_refl _) _).alloc (by simp) _
  have HB0 := Lib.hid hb0
  clear hb0
  have HR := Lib.hid hR
  have HT := Lib.hid hT
  have HF := Lib.hid hf
  have HG := Lib.hid hg
  clear hR hT hf hg
  have he : twins v l v' m = ((v == v') && decide (l.length = m.length) && (List.range l.length).all (twinAt l m)) := rfl
  have HE := Lib.hid he
  clear he
  by_cases hv : v = v'
  rotate_left
  · have hv1 : (v != v') = true := by rw [bne_iff_ne]; exact hv
    have hff : twins v l v' m = false := by rw [HE.out]; simp [hv]
    have HFF := Lib.hid hff
    clear hff hv
    go_enter Tryz.func24, Tryz.ntmps24
    go_wp2
    go_ret
    exact ⟨by rw [HFF.out]; rfl, HB0.out _ _⟩
  have hv1 : (v != v') = false := by simpa using hv
  by_cases hlm : l.length = m.length
  rotate_left
  · have hlm' : ((l.length : Int) != (m.length : Int)) = true := by rw [bne_iff_ne]; omega
    have hff : twins v l v' m = false := by rw [HE.out]; simp [hlm]
    have HFF := Lib.hid hff
    clear hff hlm hv
    go_enter Tryz.func24, Tryz.ntmps24
    go_wp2
    go_ret
    exact ⟨by rw [HFF.out]; rfl, HB0.out _ _⟩
  have HLM := Lib.hid hlm
  have HV := Lib.hid hv
  rw [← hlm] at HT hm ⊢
  clear hlm hv
  obtain ⟨n, hnl⟩ : ∃ n, n = l.length := ⟨_, rfl⟩
  rw [← hnl] at HR HT hn ⊢
  have HN := Lib.hid hnl
  clear hnl hm
  have hbn : ((n : Int) != (n : Int)) = false := by simp
  go_enter Tryz.func24, Tryz.ntmps24
  go_wp2
  go_loopw [5] (fun s5 wr => ∃ i : Nat, i ≤ n ∧ s5 = .int .i64 i ∧ (List.range i).all (twinAt l m) = true ∧ Below (w.heap.size + 2) ((w.alloc (.cells #[.int .i64 v, .slice A n c] 24)).alloc (.cells #[.int .i64 v', .slice B n d] 24)) wr) (fun s5 _ => n - (intOf s5).toNat)
  case atStart => exact ⟨0, by omega, rfl, rfl, Below.refl _ _⟩
  case round =>
    obtain ⟨i, hin, rfl, hall, hb⟩ := hrel
    have HA := Lib.hid hall
    have HB := Lib.hid hb
    have hcl : wr.cell? ⟨w.heap.size, 1, none⟩ = some (.slice A n c) := by
      rw [hb.cell (by simp)]
      go_simp
    have hBW := (HB0.out (.cells #[.int .i64 v, .slice A n c] 24) (.cells #[.int .i64 v', .slice B n d] 24)).trans (hb.mono (by simp))
    have HBW := Lib.hid hBW
    clear hall hb hBW
    by_cases hlt : i < n
    · have hsz := HB.out.size
      have hi : (i : Int) < n := by omega
      have hcl2 : wr.cell? ⟨w.heap.size + 1, 1, none⟩ = some (.slice B n d) := by
        rw [HB.out.cell (by simp)]
        go_simp
      obtain ⟨b, o, rfl, hbb, hh, hc⟩ := (HR.out.below HBW.out).at_ hlt
      obtain ⟨b2, o2, rfl, hbb2, hh2, hc2⟩ := (HT.out.below HBW.out).at_ hlt
      have hws : w.heap.size + 2 ≤ wr.heap.size := by simpa using hsz
      have hbs : b < wr.heap.size := by omega
      have hbs2 : b2 < wr.heap.size := by omega
      have hmem : l.getD i noBk ∈ l := by
        have := HN.out
        rw [List.getD_eq_getElem?_getD, List.getElem?_eq_getElem (by omega)]; simp
      have hmem2 : m.getD i noBk ∈ m := by
        have := HN.out
        have := HLM.out
        rw [List.getD_eq_getElem?_getD, List.getElem?_eq_getElem (by omega)]; simp
      obtain ⟨hx1, hx2⟩ := HF.out _ hmem
      obtain ⟨hy1, hy2⟩ := HG.out _ hmem2
      have hp : twinAt l m i = sameOne (l.getD i noBk) (m.getD i noBk) := rfl
      obtain ⟨x, hx⟩ : ∃ x, x = l.getD i noBk := ⟨_, rfl⟩
      obtain ⟨y, hy⟩ : ∃ y, y = m.getD i noBk := ⟨_, rfl⟩
      rw [← hx] at hc hp hx2
      rw [← hy] at hc2 hp hy2
      have HP := Lib.hid hp
      clear hx hy hp hbb hbb2 hmem hmem2 hx1 hy1
      have same_K : ∀ K, sameOne x y = K → ∀ W, Calls Tryz.prog 71 #[.agg x.arr, .agg y.arr] W fun e w' => e = .returned (.bool K) ∧ Below W.heap.size W w' := fun K h W => by
        have := sameOne_any x y hx2 hy2 W
        rw [h] at this
        exact this
      obtain ⟨T, f, n0, e0, eS, eT⟩ := class_of (fun W => Below wr.heap.size wr W) wr (Below.refl _ _).drew
      have es : ∀ q W1, Below (f q).heap.size (f q) W1 → ∃ q', W1 = f q' := fun q W1 hb => eT _ ((eS q).trans (hb.mono (eS q).size))
      have r1 : ∀ q, (loadBk (.pointer (some ⟨b, o + i * 27, none⟩))).run Tryz.prog (f q) = .ok (.agg x.arr) (f q) := fun q => by
        rw [load_bk _ _ _ (hh.belowP (eS q) hbs), cellsAt_belowP (eS q) hbs, hc]
      have r2 : ∀ q, (loadBk (.pointer (some ⟨b2, o2 + i * 27, none⟩))).run Tryz.prog (f q) = .ok (.agg y.arr) (f q) := fun q => by
        rw [load_bk _ _ _ (hh2.belowP (eS q) hbs2), cellsAt_belowP (eS q) hbs2, hc2]
      have r3 : ∀ q, (f q).cell? ⟨w.heap.size, 1, none⟩ = some (.slice (some ⟨b, o, none⟩) n c) := fun q => by rw [(eS q).cell (by simp; omega)]; exact hcl
      have r4 : ∀ q, (f q).cell? ⟨w.heap.size + 1, 1, none⟩ = some (.slice (some ⟨b2, o2, none⟩) n d) := fun q => by rw [(eS q).cell (by simp; omega)]; exact hcl2
      have hne : Nonempty T := ⟨n0⟩
      have E0 := Lib.hid e0
      have ES := Lib.hid es
      have EB := Lib.hid (fun q => HB.out.trans ((eS q).mono hws))
      have EW := Lib.hid (fun q => HBW.out.trans ((eS q).mono (by omega)))
      clear e0 es eS eT hh hc hh2 hc2
      cases k : sameOne x y
      · have hff : twins v l v' m = false := by
          rw [HE.out, ← HN.out, rangeAll_no (twinAt l m) i n hlt (by rw [HP.out, k])]; simp
        have HFF := Lib.hid hff
        have HSA := Lib.hid (same_K _ k)
        clear k same_K hff
        go_upto_region 6 with fail
        refine quiet_in f (by kernel_rfl) (by kernel_rfl) n0 E0.out ?_
        repeat (go_big_quiet_step ((first
          | (go_at_call 71; refine (HSA.out _).mono ?_; rintro e w1 ⟨rfl, hb1⟩; exact ⟨rfl, ES.out _ _ hb1⟩))))
        refine wpQuiet_nil ?_
        rintro _ ⟨q, rfl⟩
        go_wp2
        go_ret
        exact ⟨by rw [HFF.out]; rfl, EW.out _⟩
      · have hy' : (List.range (i + 1)).all (twinAt l m) = true := by rw [rangeAll_succ, HA.out, HP.out, k]; rfl
        have HY := Lib.hid hy'
        have HSA := Lib.hid (same_K _ k)
        clear k same_K hy'
        go_upto_region 6 with fail
        refine quiet_in f (by kernel_rfl) (by kernel_rfl) n0 E0.out ?_
        repeat (go_big_quiet_step ((first
          | (go_at_call 71; refine (HSA.out _).mono ?_; rintro e w1 ⟨rfl, hb1⟩; exact ⟨rfl, ES.out _ _ hb1⟩))))
        refine wpQuiet_nil ?_
        rintro _ ⟨q, rfl⟩
        go_wp2
        go_roundw
        case rel => exact ⟨i + 1, by omega, by go_num, HY.out, EB.out _⟩
        case measure => simp [intOf] <;> omega
    · obtain rfl : i = n := by omega
      have ht : twins v l v' m = true := by rw [HE.out, ← HN.out, HA.out]; have := HLM.out; have := HN.out; have := HV.out; simp; omega
      have HTR := Lib.hid ht
      clear ht
      have hd : decide ((i : Int) < i) = false := by simp
      go_wp2
      go_ret
      exact ⟨by rw [HTR.out]; rfl, HBW.out⟩
end Go.Proofs.YtmpemeemlhmaaaaGreat

namespace Go.Proofs.YtmpemeemlhmaaaaGreat
open Go.RowKit

theorem wSame_put {x y : Nat} (hx : x < 18446744073709551616) (hy : y < 18446744073709551616) : wSame x y = decide (wPut x = wPut y) := by
  rw [Bool.eq_iff_iff]
  simp only [wSame, beq_iff_eq, decide_eq_true_eq]
  constructor
  · intro h; simp only [wPut, h]
  · intro h; exact numPut_inj (wBits_lt hx) (wBits_lt hy) h
theorem float_zero : Op.floatEq .f64 0 0 = true := by decide +kernel
theorem same1_is {x y : Bk} (hx : x.w < 18446744073709551616) (hy : y.w < 18446744073709551616) : same1 x y = sameOne x y := by
  unfold same1 sameOne bkEq Bk.toW
  rw [float_zero, wSame_put hx hy]
  cases (decide (wPut x.w = wPut y.w)) <;> cases (x.name == y.name) <;> cases (decide (x.addr = y.addr)) <;> cases (x.port == y.port) <;> cases (decide (x.mac = y.mac)) <;> cases (x.drain == y.drain) <;> rfl
theorem eqPool_is {l m : List Bk} (v v' : Int) (hf : ∀ x ∈ l, x.fine) (hg : ∀ x ∈ m, x.fine) : eqPool v l v' m = twins v l v' m := by
  unfold eqPool twins eqRows
  rw [Bool.and_assoc]
  congr 1
  by_cases hlm : l.length = m.length
  · congr 1
    rw [Bool.eq_iff_iff, List.all_eq_true, List.all_eq_true]
    have key : ∀ i, i ∈ List.range l.length → pairAt l m i = twinAt l m i := fun i hi => by
      have hi := List.mem_range.1 hi
      unfold pairAt twinAt
      have h1 : l.getD i noBk ∈ l := by rw [List.getD_eq_getElem?_getD, List.getElem?_eq_getElem hi]; simp
      have h2 : m.getD i noBk ∈ m := by rw [List.getD_eq_getElem?_getD, List.getElem?_eq_getElem (by omega)]; simp
      exact same1_is (hf _ h1).2 (hg _ h2).2
    constructor
    · intro h i hi; rw [← key i hi]; exact h i hi
    · intro h i hi; rw [key i hi]; exact h i hi
  · simp [hlm]
theorem twins_self (v : Int) (l : List Bk) : twins v l v l = true := by
  unfold twins twinAt sameOne
  simp
end Go.Proofs.YtmpemeemlhmaaaaGreat

namespace Go.Proofs.YtmpemeemlhmaaaaGreat
open Go.RowKit

theorem nm_get (l : List Bk) (i : Nat) (hi : i < l.length) : nm l i = (l[i]'hi).name := by
  unfold nm; rw [List.getD_eq_getElem?_getD, List.getElem?_eq_getElem hi]; rfl
theorem cmpS_self (a : List UInt8) : cmpS a a = 0 := cmpS_zero.2 rfl
theorem pRight_iff {v : Int} {l : List Bk} : pRight v l = true ↔ 0 ≤ v ∧ v ≤ 1099511627776 ∧ l.length ≤ 1024 ∧ (∀ x ∈ l, x.fair = true ∧ wPos x.w = true) ∧ Srt l := by
  unfold pRight okAt
  simp only [Bool.and_eq_true, decide_eq_true_eq, List.all_eq_true, List.mem_range, Bool.or_eq_true]
  constructor
  · rintro ⟨⟨⟨h1, h2⟩, h3⟩, h4⟩
    refine ⟨h1, h2, h3, fun x hx => ?_, ?_⟩
    · obtain ⟨i, hi, rfl⟩ := List.getElem_of_mem hx
      have := (h4 i hi).1
      rw [List.getD_eq_getElem?_getD, List.getElem?_eq_getElem hi] at this
      exact this
    · unfold Srt
      have key : ∀ d i (hi : i + d + 1 < l.length), cmpS (nm l i) (nm l (i + d + 1)) < 0 := by
        intro d
        induction d with
        | zero =>
          intro i hi
          have := (h4 (i + 1) hi).2
          rcases this with h | h
          · omega
          · simpa using h
        | succ d ih =>
          intro i hi
          have h5 := ih i (by omega)
          have h6 := (h4 (i + d + 1 + 1) hi).2
          rcases h6 with h | h
          · omega
          · have h7 : cmpS (nm l (i + d + 1)) (nm l (i + (d + 1) + 1)) < 0 := by simpa [Nat.add_assoc] using h
            exact cmpS_trans h5 h7
      rw [List.pairwise_iff_getElem]
      intro i j hi hj hij
      have := key (j - i - 1) i (by omega)
      rw [show i + (j - i - 1) + 1 = j by omega, nm_get l i hi, nm_get l j hj] at this
      exact this
  · rintro ⟨h1, h2, h3, h4, h5⟩
    refine ⟨⟨⟨h1, h2⟩, h3⟩, fun i hi => ⟨?_, ?_⟩⟩
    · have := h4 (l[i]'hi) (List.getElem_mem hi)
      rw [List.getD_eq_getElem?_getD, List.getElem?_eq_getElem hi]
      exact this
    · rcases Nat.eq_zero_or_pos i with h | h
      · exact .inl h
      · exact .inr (h5.lt (by omega) hi)
/-- who is there, by membership -/
theorem hasN_iff {l : List Bk} (hs : Srt l) {s : List UInt8} : hasN l s = true ↔ ∃ x ∈ l, x.name = s := by
  constructor
  · intro h
    have hl := lowN_lt h
    unfold hasN at h
    simp at h
    refine ⟨l[lowN l s]'hl, List.getElem_mem hl, ?_⟩
    rw [← nm_get l _ hl]
    exact cmpS_zero.1 h.2
  · rintro ⟨x, hx, rfl⟩
    obtain ⟨i, hi, rfl⟩ := List.getElem_of_mem hx
    exact (hasN_at hs hi (nm_get l i hi)).2
theorem gotN_mem {l : List Bk} (hs : Srt l) {x : Bk} (hx : x ∈ l) : gotN l x.name = x := by
  obtain ⟨i, hi, rfl⟩ := List.getElem_of_mem hx
  obtain ⟨h1, h2⟩ := hasN_at hs hi (nm_get l i hi)
  rw [gotN_yes h2, h1, List.getD_eq_getElem?_getD, List.getElem?_eq_getElem hi]; rfl
theorem gotN_in {l : List Bk} {s : List UInt8} (h : hasN l s = true) : gotN l s ∈ l ∧ (gotN l s).name = s := by
  have hl := lowN_lt h
  rw [gotN_yes h, List.getD_eq_getElem?_getD, List.getElem?_eq_getElem hl]
  refine ⟨List.getElem_mem hl, ?_⟩
  unfold hasN at h
  simp at h
  show (l[lowN l s]).name = s
  rw [← nm_get l _ hl]
  exact cmpS_zero.1 h.2
theorem nm_low {l : List Bk} {s : List UInt8} (h : hasN l s = true) : nm l (lowN l s) = s := by
  unfold hasN at h; simp at h; exact cmpS_zero.1 h.2
theorem srt_name {l : List Bk} (hs : Srt l) {x y : Bk} (hx : x ∈ l) (hy : y ∈ l) (h : x.name = y.name) : x = y := by
  rw [← gotN_mem hs hx, h, gotN_mem hs hy]
/-- the names ahead of a place, and from it on -/
theorem low_split (l : List Bk) (s : List UInt8) : (∀ i, i < lowN l s → cmpS (nm l i) s < 0) ∧ (lowN l s < l.length → ¬ cmpS (nm l (lowN l s)) s < 0) := by
  induction l with
  | nil => exact ⟨fun i hi => absurd hi (by simp [lowN]), fun h => absurd h (by simp)⟩
  | cons x l ih =>
    by_cases hx : cmpS x.name s < 0
    · have e : lowN (x :: l) s = lowN l s + 1 := by unfold lowN; rw [List.takeWhile_cons]; simp [hx]
      rw [e]
      refine ⟨fun i hi => ?_, fun h => ?_⟩
      · rcases i with _ | i
        · exact hx
        · exact ih.1 i (by omega)
      · exact ih.2 (by simpa using h)
    · have e : lowN (x :: l) s = 0 := by unfold lowN; rw [List.takeWhile_cons]; simp [hx]
      rw [e]
      exact ⟨fun i hi => by omega, fun _ => hx⟩
theorem low_before {l : List Bk} (s : List UInt8) {x : Bk} (hx : x ∈ l.take (lowN l s)) : cmpS x.name s < 0 := by
  obtain ⟨i, hi, rfl⟩ := List.getElem_of_mem hx
  rw [List.length_take] at hi
  rw [List.getElem_take, ← nm_get l i (by omega)]
  exact (low_split l s).1 i (by omega)
theorem low_next {l : List Bk} (s : List UInt8) (h : lowN l s < l.length) : ¬ cmpS (nm l (lowN l s)) s < 0 := (low_split l s).2 h
theorem low_after {l : List Bk} (hs : Srt l) (s : List UInt8) (hno : hasN l s = false) {x : Bk} (hx : x ∈ l.drop (lowN l s)) : cmpS s x.name < 0 := by
  obtain ⟨i, hi, rfl⟩ := List.getElem_of_mem hx
  rw [List.length_drop] at hi
  rw [List.getElem_drop]
  have h0 := low_next s (show lowN l s < l.length by omega)
  have h1 : cmpS (nm l (lowN l s)) s ≠ 0 := by
    intro h
    unfold hasN at hno
    simp [show lowN l s < l.length by omega, h] at hno
  have h2 : cmpS s (nm l (lowN l s)) < 0 := by
    rw [cmpS_swap]
    have := cmpS_cases (nm l (lowN l s)) s
    omega
  rw [← nm_get l _ (by omega)]
  rcases Nat.eq_zero_or_pos i with h | h
  · subst h; simpa using h2
  · exact cmpS_trans h2 (hs.lt (by omega) (by omega))
theorem mem_ins {l : List Bk} {k : Nat} {x y : Bk} : y ∈ insAt l k x ↔ y = x ∨ y ∈ l := by
  unfold insAt
  rw [List.mem_append, List.mem_cons]
  have : y ∈ l ↔ y ∈ l.take k ∨ y ∈ l.drop k := by rw [← List.mem_append, List.take_append_drop]
  rw [this]
  constructor
  · rintro (h | h | h)
    · exact .inr (.inl h)
    · exact .inl h
    · exact .inr (.inr h)
  · rintro (h | h | h)
    · exact .inr (.inl h)
    · exact .inl h
    · exact .inr (.inr h)
theorem srt_ins {l : List Bk} (hs : Srt l) {x : Bk} (hno : hasN l x.name = false) : Srt (insAt l (lowN l x.name) x) := by
  unfold Srt insAt
  rw [List.pairwise_append]
  refine ⟨hs.sublist (List.take_sublist _ _), ?_, ?_⟩
  · rw [List.pairwise_cons]
    exact ⟨fun y hy => low_after hs x.name hno hy, hs.sublist (List.drop_sublist _ _)⟩
  · intro a ha b hb
    rcases List.mem_cons.1 hb with rfl | hb
    · exact low_before _ ha
    · exact cmpS_trans (low_before _ ha) (low_after hs x.name hno hb)
theorem srt_del {l : List Bk} (hs : Srt l) (i : Nat) : Srt (delAt l i) := by
  unfold delAt
  refine hs.sublist ?_
  conv => rhs; rw [← List.take_append_drop i l]
  exact List.Sublist.append_left (by rw [← List.drop_drop]; exact List.drop_sublist _ _) _
theorem mem_del {l : List Bk} (hs : Srt l) {i : Nat} (hi : i < l.length) {y : Bk} : y ∈ delAt l i ↔ y ∈ l ∧ y.name ≠ nm l i := by
  have e : l = l.take i ++ l[i] :: l.drop (i + 1) := by
    conv => lhs; rw [← List.take_append_drop i l, List.drop_eq_getElem_cons hi]
  unfold delAt
  constructor
  · intro h
    have hm : y ∈ l := by
      rw [e]
      rcases List.mem_append.1 h with h | h
      · exact List.mem_append_left _ h
      · exact List.mem_append_right _ (List.mem_cons_of_mem _ h)
    refine ⟨hm, fun hn => ?_⟩
    rw [nm_get l i hi] at hn
    have hs2 := hs
    unfold Srt at hs2
    rw [e, List.pairwise_append, List.pairwise_cons] at hs2
    rcases List.mem_append.1 h with h | h
    · have := hs2.2.2 y h l[i] (List.mem_cons_self ..)
      rw [hn, cmpS_self] at this; omega
    · have := hs2.2.1.1 y h
      rw [hn, cmpS_self] at this; omega
  · rintro ⟨hm, hn⟩
    rw [e] at hm
    rcases List.mem_append.1 hm with h | h
    · exact List.mem_append_left _ h
    · rcases List.mem_cons.1 h with rfl | h
      · exact absurd (nm_get l i hi).symm hn
      · exact List.mem_append_right _ h
theorem srt_set {l : List Bk} (hs : Srt l) {i : Nat} (hi : i < l.length) {z : Bk} (hz : z.name = nm l i) : Srt (l.set i z) := by
  unfold Srt
  rw [List.pairwise_iff_getElem]
  intro a b ha hb hab
  rw [List.length_set] at ha hb
  have hn : ∀ j (hj : j < (l.set i z).length), ((l.set i z)[j]).name = nm l j := by
    intro j hj
    rw [List.length_set] at hj
    rw [List.getElem_set]
    split
    · rename_i h; subst h; exact hz
    · exact (nm_get l j hj).symm
  rw [hn, hn]
  exact hs.lt hab hb
theorem mem_set {l : List Bk} (hs : Srt l) {i : Nat} (hi : i < l.length) {z y : Bk} (hz : z.name = nm l i) : y ∈ l.set i z ↔ y = z ∨ (y ∈ l ∧ y.name ≠ nm l i) := by
  have e : l = l.take i ++ l[i] :: l.drop (i + 1) := by
    conv => lhs; rw [← List.take_append_drop i l, List.drop_eq_getElem_cons hi]
  have e2 : l.set i z = l.take i ++ z :: l.drop (i + 1) := List.set_eq_take_append_cons_drop ▸ (by rw [if_pos hi])
  have hd := @mem_del l hs i hi y
  rw [e2, List.mem_append, List.mem_cons]
  unfold delAt at hd
  rw [List.mem_append] at hd
  rw [← hd]
  constructor
  · rintro (h | h | h)
    · exact .inr (.inl h)
    · exact .inl h
    · exact .inr (.inr h)
  · rintro (h | h | h)
    · exact .inr (.inl h)
    · exact .inl h
    · exact .inr (.inr h)
theorem insAt_get (l : List Bk) (k : Nat) (x : Bk) (hk : k ≤ l.length) (i : Nat) : (insAt l k x)[i]? = if i < k then l[i]? else if i = k then some x else l[i - 1]? := by
  unfold insAt
  have h1 : (l.take k).length = k := by rw [List.length_take]; omega
  by_cases h : i < k
  · rw [if_pos h, List.getElem?_append_left (by omega), List.getElem?_take_of_lt h]
  · rw [if_neg h, List.getElem?_append_right (by omega), h1]
    by_cases h2 : i = k
    · subst h2; simp
    · rw [if_neg h2]
      obtain ⟨d, hd⟩ : ∃ d, i - k = d + 1 := ⟨i - k - 1, by omega⟩
      rw [hd, List.getElem?_cons_succ, List.getElem?_drop]
      congr 1; omega
end Go.Proofs.YtmpemeemlhmaaaaGreat
