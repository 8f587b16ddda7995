/- WeightTotals: of whatever numbers (given by their bits) the sum of all quanta, or that one isn't a weight, is the document's, and in two parts it is both parts' sum. For every input, no condition. -/
import Derived.Test.YtobafaacojndiaaWgLaws4
set_option linter.unusedSimpArgs false
set_option linter.unusedVariables false
namespace Go.Proofs.Ytobafaacojndiaa
open Go.ChangeShapes Go.WideShapes Go.ChangeAt Go.RowKit

/-- a float64 as a cell -/
def fv (n : Nat) : Value := .float .f64 n
theorem fvs_one (l : List Nat) : ∀ u ∈ l.map fv, u.oneCell' = true := by
  intro u hu
  obtain ⟨b, _, rfl⟩ := List.mem_map.1 hu
  rfl
theorem infoF64 : (Try.prog.info? 24).map (fun i => (i.zero, i.size, i.bytes)) = some (some (.float .f64 0), 1, 8) := by kernel_rfl

/-- cell k of a slice of one-cell elements -/
theorem Rd.atv {w : World} {B n : Nat} {A : Option Addr} {l : List Nat} {g : Nat → Value} (h : Rd w B 1 A n (l.map g)) {k : Nat} (hk : k < n) : ∃ a, A = some a ∧ a.block < B ∧ w.cell? (a.add k) = some (g (l.getD k 0)) := by
  obtain ⟨a, u, e, hb, hu, hc⟩ := Rd.pick h hk
  refine ⟨a, e, hb, ?_⟩
  have hl : l.length = n := by have := h.1; simpa using this
  rw [hc]
  rw [List.getElem?_map, List.getElem?_eq_getElem (by omega)] at hu
  simp only [Option.map_some, Option.some.injEq] at hu
  rw [← hu, List.getD_eq_getElem?_getD, List.getElem?_eq_getElem (by omega)]
  rfl
theorem take_succ_nat (l : List Nat) (k : Nat) (h : k < l.length) : l.take (k + 1) = l.take k ++ [l.getD k 0] := by
  rw [List.take_succ_eq_append_getElem h, List.getD_eq_getElem?_getD, List.getElem?_eq_getElem h]
  rfl

set_option maxRecDepth 100000 in
theorem floats_any (A : Option Addr) (n c : Nat) (l : List Nat) (w : World) (hn : n ≤ 1000000) (hr : Rd w w.heap.size 1 A n (l.map qv)) :
    Calls Try.prog 23 #[.slice A n c] w fun e w' => ∃ v, e = .returned v ∧
      w'.ownsRow w.heap.size 24 1 v n (l.map fv) ∧ Below w.heap.size w w' := by
  obtain ⟨i0, hi0, hz0, hz1, hz2⟩ := info_parts infoF64
  have h1 := call_float64frombits
  have hlen : l.length = n := by have := hr.1; simpa using this
  have HLEN := Lib.hid hlen
  have HR := Lib.hid hr
  clear hlen hr
  go_enter Try.func23, Try.ntmps23
  go_wp2
  go_loopw [3, 4] (fun s3 s4 wr => ∃ (i : Nat) (O : Option Addr) (cap : Nat), i ≤ n ∧ s3 = .slice O i cap ∧ s4 = .int .i64 i ∧ wr.ownsRow w.heap.size 24 1 (.slice O i cap) i ((l.take i).map fv) ∧ Below w.heap.size w wr) (fun _ s4 _ => n - (intOf s4).toNat)
  case atStart => exact ⟨0, none, 0, by omega, rfl, rfl, World.ownsRow_nil _ _ _ _, Below.refl _ _⟩
  case round =>
    obtain ⟨i, O, cap, hi, rfl, rfl, hown, hb⟩ := hrel
    by_cases hlt : i < n
    · have hin : (i : Int) < n := by omega
      obtain ⟨a, rfl, hab, hcell⟩ := Rd.atv (HR.out.below hb) hlt
      have hsn := take_succ_nat l i (by have := HLEN.out; omega)
      have HSN := Lib.hid hsn
      unfold qv at hcell
      generalize l.getD i 0 = x at hcell HSN
      have o1 : (wr.alloc (.cells #[.float .f64 x] 24)).ownsRow w.heap.size 24 1 (.slice O i cap) i ((l.take i).map fv) := hown.alloc _
      have o2 : Rd (wr.alloc (.cells #[.float .f64 x] 24)) (wr.heap.size + 1) 1 (some ⟨wr.heap.size, 0, none⟩) 1 ([x].map fv) :=
        Rd.fresh wr #[.float .f64 x] 24 1 1 rfl
      have o3 : w.heap.size ≤ (wr.alloc (.cells #[.float .f64 x] 24)).heap.size := by have := hb.size; simp; omega
      have O1 := Lib.hid o1
      have O2 := Lib.hid o2
      have O3 := Lib.hid o3
      have HB := Lib.hid hb
      clear o1 o2 o3 hb hown hsn
      go_wp2_with (at_builtin; refine wpList_app_rd _ rfl (.tmp 11) (.tmp 17) _ rfl w.heap.size 24 i0 (.float .f64 0) 1 8 Try.underlying43 hi0 hz0 hz1 hz2 rfl (Nat.le_refl 1) (.slice O i cap) i ((l.take i).map fv) rfl O1.out (wr.heap.size + 1) (some ⟨wr.heap.size, 0, none⟩) 1 1 ([x].map fv) rfl O2.out (fvs_one _) (by unfold maxLen; omega) (by omega) O3.out ?_; intro v1 w1 hown1 hg1 hat1)
      go_roundw
      case rel =>
        obtain ⟨A', cap', hv, _, _⟩ := own_form hown1
        refine ⟨i + 1, A', cap', by omega, hv, by go_num, ?_, ?_⟩
        · rw [← hv, HSN.out, List.map_append]
          exact hown1
        · refine (HB.out.alloc HB.out.size _).grown hg1 O3.out (fun k hk => ?_)
          have := (O1.out.lt k hk)
          exact this.1
      case measure => simp [intOf] <;> omega
    · obtain rfl : i = n := by omega
      have hd : decide ((i : Int) < (i : Int)) = false := by simp
      have HO := Lib.hid hown
      have HB := Lib.hid hb
      clear hown hb
      go_wp2
      go_ret
      have h := HO.out
      rw [List.take_of_length_le (by have := HLEN.out; omega)] at h
      exact ⟨_, rfl, h, HB.out⟩

/-- the sum of all quanta, if all are weights -/
def totOk (l : List Nat) : Bool := l.all wOk
def totSum (l : List Nat) : Nat := (l.map wQ).sum
def tot (l : List Nat) : Nat := if totOk l then totSum l else 0
theorem totSum_snoc (l : List Nat) (x : Nat) : totSum (l ++ [x]) = totSum l + wQ x := by simp [totSum]
theorem totOk_snoc (l : List Nat) (x : Nat) : totOk (l ++ [x]) = (totOk l && wOk x) := by simp [totOk]
theorem totSum_le (l : List Nat) : totSum l ≤ 1024000 * l.length := by
  induction l with
  | nil => simp [totSum]
  | cons x l ih =>
    have h1 := wQ_le x
    have h2 : totSum (x :: l) = wQ x + totSum l := by simp [totSum]
    rw [h2, List.length_cons]
    omega
theorem totOk_prefix {l : List Nat} {k : Nat} (hk : k < l.length) (h : wOk (l.getD k 0) = false) : totOk l = false := by
  unfold totOk
  rw [List.all_eq_false]
  refine ⟨l.getD k 0, ?_, by rw [h]; simp⟩
  rw [List.getD_eq_getElem?_getD, List.getElem?_eq_getElem hk]
  exact List.getElem_mem hk

set_option maxRecDepth 100000 in
theorem total_any (A : Option Addr) (n c B : Nat) (l : List Nat) (w : World) (hn : n ≤ 1000000) (hl : ∀ x ∈ l, x < 18446744073709551616) (hr : Rd w B 1 A n (l.map fv)) :
    Calls Try.prog 24 #[.slice A n c] w fun e w' => e = .returned (.tuple #[.int .i64 (tot l), .bool (totOk l)]) ∧ w = w' := by
  have hlen : l.length = n := by have := hr.1; simpa using this
  have HLEN := Lib.hid hlen
  have HR := Lib.hid hr
  clear hlen hr
  go_enter Try.func24, Try.ntmps24
  go_wp2
  go_loop [4, 11] (fun s4 s11 => ∃ i : Nat, i ≤ n ∧ s11 = .int .i64 i ∧ s4 = .int .i64 (totSum (l.take i)) ∧ totOk (l.take i) = true) (fun _ s11 => n - (intOf s11).toNat)
  case atStart => exact ⟨0, by omega, rfl, rfl, rfl⟩
  case round =>
    obtain ⟨i, hi, rfl, rfl, hok⟩ := hrel
    by_cases hlt : i < n
    · have hin : (i : Int) < n := by omega
      obtain ⟨a, rfl, hab, hcell⟩ := Rd.atv HR.out hlt
      have hil : i < l.length := by have := HLEN.out; omega
      have hsn := take_succ_nat l i hil
      have hx : l.getD i 0 < 18446744073709551616 := hl _ (by rw [List.getD_eq_getElem?_getD, List.getElem?_eq_getElem hil]; exact List.getElem_mem hil)
      have hno := @totOk_prefix l i hil
      have hs := totSum_le (l.take i)
      have hs2 : totSum (l.take i) ≤ 1024000 * n := by rw [List.length_take] at hs; omega
      have hq := wQ_le (l.getD i 0)
      have HSN := Lib.hid hsn
      have HNO := Lib.hid hno
      have HOK := Lib.hid hok
      unfold fv at hcell
      clear hs hsn hno hok hl
      generalize l.getD i 0 = x at hcell HSN HNO hx hq
      generalize hS : totSum (l.take i) = S at hs2 ⊢
      have HS := Lib.hid hS
      clear hS
      cases hk : wOk x
      · have HK := Lib.hid (HNO.out hk)
        go_wp2_with fail
        refine (quanta_any _ hx _).mono ?_
        rintro e w' ⟨rfl, rfl⟩
        rw [hk]
        go_wp2_with fail
        go_ret2
        refine ⟨?_, rfl⟩
        unfold tot
        rw [HK.out]
        rfl
      · have HK := Lib.hid hk
        go_wp2_with fail
        refine (quanta_any _ hx _).mono ?_
        rintro e w' ⟨rfl, rfl⟩
        rw [hk]
        clear hk
        go_wp2_with fail
        go_round
        case rel => exact ⟨i + 1, by omega, by go_num, by rw [HSN.out, totSum_snoc, HS.out]; go_num, by rw [HSN.out, totOk_snoc, HOK.out, HK.out]; rfl⟩
        case measure => simp [intOf] <;> omega
    · obtain rfl : i = n := by omega
      have hd : decide ((i : Int) < (i : Int)) = false := by simp
      have e1 : l.take i = l := List.take_of_length_le (by have := HLEN.out; omega)
      rw [e1] at hok ⊢
      have HOK := Lib.hid hok
      clear hok e1
      go_wp2
      go_ret2
      refine ⟨?_, rfl⟩
      unfold tot
      rw [HOK.out]
      rfl

set_option maxRecDepth 100000 in
theorem refTotal_any (A : Option Addr) (n c B : Nat) (l : List Nat) (w : World) (hn : n ≤ 1000000) (hl : ∀ x ∈ l, x < 18446744073709551616) (hr : Rd w B 1 A n (l.map fv)) :
    Calls Try.prog 25 #[.slice A n c] w fun e w' => e = .returned (.tuple #[.int .i64 (tot l), .bool (totOk l)]) ∧ w = w' := by
  have hlen : l.length = n := by have := hr.1; simpa using this
  have HLEN := Lib.hid hlen
  have HR := Lib.hid hr
  clear hlen hr
  go_enter Try.func25, Try.ntmps25
  go_wp2
  go_loop [4, 5] (fun s4 s5 => ∃ i : Nat, i ≤ n ∧ s5 = .int .i64 i ∧ s4 = .int .i64 (totSum (l.take i)) ∧ totOk (l.take i) = true) (fun _ s5 => n - (intOf s5).toNat)
  case atStart => exact ⟨0, by omega, rfl, rfl, rfl⟩
  case round =>
    obtain ⟨i, hi, rfl, rfl, hok⟩ := hrel
    by_cases hlt : i < n
    · have hin : (i : Int) < n := by omega
      obtain ⟨a, rfl, hab, hcell⟩ := Rd.atv HR.out hlt
      have hil : i < l.length := by have := HLEN.out; omega
      have hsn := take_succ_nat l i hil
      have hx : l.getD i 0 < 18446744073709551616 := hl _ (by rw [List.getD_eq_getElem?_getD, List.getElem?_eq_getElem hil]; exact List.getElem_mem hil)
      have hno := @totOk_prefix l i hil
      have hs := totSum_le (l.take i)
      have hs2 : totSum (l.take i) ≤ 1024000 * n := by rw [List.length_take] at hs; omega
      have hq := wQ_le (l.getD i 0)
      have HSN := Lib.hid hsn
      have HNO := Lib.hid hno
      have HOK := Lib.hid hok
      unfold fv at hcell
      clear hs hsn hno hok hl
      generalize l.getD i 0 = x at hcell HSN HNO hx hq
      generalize hS : totSum (l.take i) = S at hs2 ⊢
      have HS := Lib.hid hS
      clear hS
      cases hk : wOk x
      · have HK := Lib.hid (HNO.out hk)
        go_wp2_with fail
        refine (refQ_any _ hx _).mono ?_
        rintro e w' ⟨rfl, rfl⟩
        rw [hk]
        go_wp2_with fail
        go_ret2
        refine ⟨?_, rfl⟩
        unfold tot
        rw [HK.out]
        rfl
      · have HK := Lib.hid hk
        go_wp2_with fail
        refine (refQ_any _ hx _).mono ?_
        rintro e w' ⟨rfl, rfl⟩
        rw [hk]
        clear hk
        go_wp2_with fail
        go_round
        case rel => exact ⟨i + 1, by omega, by go_num, by rw [HSN.out, totSum_snoc, HS.out]; go_num, by rw [HSN.out, totOk_snoc, HOK.out, HK.out]; rfl⟩
        case measure => simp [intOf] <;> omega
    · obtain rfl : i = n := by omega
      have hd : decide ((i : Int) < (i : Int)) = false := by simp
      have e1 : l.take i = l := List.take_of_length_le (by have := HLEN.out; omega)
      rw [e1] at hok ⊢
      have HOK := Lib.hid hok
      clear hok e1
      go_wp2
      go_ret2
      refine ⟨?_, rfl⟩
      unfold tot
      rw [HOK.out]
      rfl

theorem tot_split (l : List Nat) (k : Nat) : totOk l = (totOk (l.take k) && totOk (l.drop k)) ∧ (totOk l = true → tot l = tot (l.take k) + tot (l.drop k)) := by
  have e1 : totOk l = (totOk (l.take k) && totOk (l.drop k)) := by
    conv => lhs; rw [← List.take_append_drop k l]
    unfold totOk
    exact List.all_append ..
  refine ⟨e1, fun h => ?_⟩
  have h' := h
  rw [e1, Bool.and_eq_true] at h'
  unfold tot
  rw [h, h'.1, h'.2]
  simp only [if_true]
  unfold totSum
  rw [List.map_take, List.map_drop, ← List.sum_append, List.take_append_drop]

theorem weightTotals_long (A : Option Addr) (n c t : Nat) (w : World) (h : (100 : Int) < n) :
    Calls Try.prog 7 #[.slice A n c, .int .u8 t] w fun e w' => e = .returned (.bool true) ∧ Below w.heap.size w w' := by
  go_enter Try.func7, Try.ntmps7
  go_wp2_with fail
  refine (awake_any _).mono ?_
  rintro e w1 ⟨rfl, hb1⟩
  go_wp2_with fail
  refine (awake_any _).mono ?_
  rintro e w2 ⟨rfl, hb2⟩
  go_wp2_with fail
  go_ret
  exact ⟨rfl, below2 hb1 hb2⟩

set_option maxHeartbeats 1000000 in
theorem weightTotals_short (A : Option Addr) (n c t : Nat) (l : List Nat) (w : World) (ht : t < 256) (hr : Rd w w.heap.size 1 A n (l.map qv)) (hl : ∀ x ∈ l, x < 18446744073709551616) (h : (n : Int) ≤ 100) :
    Calls Try.prog 7 #[.slice A n c, .int .u8 t] w fun e w' => e = .returned (.bool true) ∧ Below w.heap.size w w' := by
  have hlen : l.length = n := by have := hr.1; simpa using this
  obtain ⟨k, hk, hkn⟩ : ∃ k : Nat, (t : Int) % ((n : Int) + 1) = k ∧ k ≤ n := ⟨t % (n + 1), by rw [Int.natCast_emod]; rfl, by have := Nat.mod_lt t (show 0 < n + 1 by omega); omega⟩
  have hs := tot_split l k
  have htl := totSum_le l
  have htl2 : tot l ≤ 200000000 := by unfold tot; split <;> omega
  have HTL := Lib.hid htl2
  have HS := Lib.hid hs
  have HR := Lib.hid hr
  have HL := Lib.hid hl
  have HLEN := Lib.hid hlen
  clear hr hl hlen hs htl htl2
  go_enter Try.func7, Try.ntmps7
  go_wp2_with fail
  refine (awake_any _).mono ?_
  rintro e w1 ⟨rfl, hb1⟩
  have HB1 := Lib.hid hb1
  clear hb1
  go_wp2_with fail
  refine (floats_any _ _ _ l _ (by omega) ((HR.out.below HB1.out).more HB1.out.size)).mono ?_
  rintro e w2 ⟨v, rfl, hown, hb2⟩
  obtain ⟨F, cap, hv, hnc, hcm⟩ := own_form hown
  subst hv
  have HF := Lib.hid (Rd.of_own hown)
  have HB2 := Lib.hid (below2 HB1.out hb2)
  clear hown hb2
  go_wp2_with fail
  refine (total_any _ _ _ _ l _ (by omega) HL.out HF.out).mono ?_
  rintro e w' ⟨rfl, rfl⟩
  go_wp2_with fail
  refine (refTotal_any _ _ _ _ l _ (by omega) HL.out HF.out).mono ?_
  rintro e w' ⟨rfl, rfl⟩
  have hcut := HF.out.cut hkn hnc
  obtain ⟨F2, hF2⟩ : ∃ F2, F2 = (if cap = k then F else F.map (·.add (k * 1))) := ⟨_, rfl⟩
  rw [← hF2, Nat.mul_one, ← List.map_drop] at hcut
  rw [Nat.mul_one] at hF2
  have hF2' : (if cap = k then F else Option.map (fun x => x.add k) F) = F2 := hF2.symm
  have hup := HF.out.upto hkn
  rw [Nat.mul_one, ← List.map_take] at hup
  have HC := Lib.hid hcut
  have HU := Lib.hid hup
  clear hcut hup hF2
  unfold maxLen at hcm
  go_wp2_with fail
  refine (total_any _ _ _ _ (l.take k) _ (by omega) (fun x hx => HL.out x (List.mem_of_mem_take hx)) HU.out).mono ?_
  rintro e w' ⟨rfl, rfl⟩
  go_wp2_with fail
  refine (total_any _ _ _ _ (l.drop k) _ (by omega) (fun x hx => HL.out x (List.mem_of_mem_drop hx)) HC.out).mono ?_
  rintro e w' ⟨rfl, rfl⟩
  have e1 := HS.out.1
  have e2 := HS.out.2
  have t1 := HTL.out
  clear HC HU HF HS HL HTL
  generalize tot l = N at *
  generalize tot (l.take k) = a at *
  generalize tot (l.drop k) = b at *
  generalize totOk (l.take k) = x at *
  generalize totOk (l.drop k) = y at *
  generalize totOk l = o at *
  subst e1
  have hno : ∀ n : Int, (n == n) = true := fun n => by simp
  cases x
  · have e3 := hno (N : Int)
    clear e2
    go_wp2_with fail
    go_ret
    exact ⟨by simp, HB2.out⟩
  · cases y
    · clear e2
      go_wp2_with fail
      go_ret
      exact ⟨by simp, HB2.out⟩
    · obtain rfl := e2 rfl
      have hle : a + b ≤ 200000000 := t1
      go_wp2_with fail
      go_ret
      exact ⟨by simp, HB2.out⟩

theorem weightTotals_walk (A : Option Addr) (n c t : Nat) (l : List Nat) (w : World) (ht : t < 256) (hr : Rd w w.heap.size 1 A n (l.map qv)) (hl : ∀ x ∈ l, x < 18446744073709551616) :
    Calls Try.prog 7 #[.slice A n c, .int .u8 t] w fun e w' => e = .returned (.bool true) ∧ Below w.heap.size w w' := by
  by_cases h : (100 : Int) < n
  · exact weightTotals_long A n c t w h
  · exact weightTotals_short A n c t l w ht hr hl (by omega)

set_option maxRecDepth 100000 in
theorem weightTotals_lifted (os : Os) (started : os.Started) (H : Type) (enc : TypeId × Value → H) :
    ReturnsInHanded {} Try.checked os 7 .any (Rows.weightTotalsSpec.pre6 enc Try.prog Try.f7 Rows.weightTotalsRow.domain false) (Rows.weightTotalsSpec.post enc Try.prog Try.f7 false true false false) := by
  refine returnsInHanded_of_change (C := Try.checked) own started (by kernel_rfl) Try.func7
    (ChangeSpec.witness6 (enc := enc) (C := Try.checked) false ⟨#[], #[.slice none 0 0, .int .u8 0], []⟩ 8 (by kernel_rfl) (by kernel_rfl) (by kernel_rfl) (by kernel_rfl)) ?_
  intro W base args ds gs before hval0 hW hcnd _
  have hval : ∀ (j : Nat) t v, Try.f7.params[j]? = some t → args[j]? = some v → Value.okWide Try.prog W .any base t v := hval0
  have hW' := hW
  obtain ⟨p, q, hA0, hV, rfl, hfz, hnd⟩ := hW
  have hA : DataW.TrodAll enc Try.prog W 0 (fun _ => true) true Try.f7.params.toList args.toList ds p := hA0
  rw [Try.params7] at hA hval
  obtain ⟨v0, vs0, d0, ds0, p0, q0, hargs, rfl, rfl, h0, r0⟩ := trodAll_cons hA
  obtain ⟨v1, vs1, d1, ds1, p1, q1, rfl, rfl, rfl, h1, r1⟩ := trodAll_cons r0
  obtain ⟨rfl, rfl, rfl⟩ := trodAll_nil r1
  obtain rfl : args = #[v0, v1] := by cases args; simp_all
  obtain ⟨Al, nl, cl, l, rfl, hnl, hcl, hl⟩ := open_u64s Try.underlying42 Try.underlying22 (by kernel_rfl) (hval 0 42 v0 rfl rfl) h0
  obtain ⟨t, rfl, ht⟩ := open_u8 Try.underlying5 (hval 1 5 v1 rfl rfl) h1
  clear hA0 hval0
  refine (weightTotals_walk Al nl cl t l W ht hl.1 hl.2).mono fun e W' ⟨he, hb⟩ => ?_
  subst he
  exact ⟨_, rfl, law_post laidOut rfl (by kernel_rfl) 4 Try.underlying4 rfl hW' rfl hb⟩
theorem weightTotals_holds : Rows.WeightTotalsSaid :=
  OpenClaim.holds_of_wide 7 Try.f7 rfl rfl rfl rfl rfl rfl rfl ⟨rfl, rfl, rfl, rfl, rfl⟩ rfl rfl rfl rfl rfl (by kernel_rfl) Try.func7 (by kernel_rfl)
    (of_decide_eq_true (by kernel_rfl)) (by unfold Func.isWrapper; first | (rw [if_pos (by decide +kernel)]; kernel_rfl) | (rw [if_neg (by decide +kernel)]; exact ⟨rfl, rfl⟩))
    (fun os started H enc _ => weightTotals_lifted os started H enc)
#print axioms weightTotals_holds
end Go.Proofs.Ytobafaacojndiaa
