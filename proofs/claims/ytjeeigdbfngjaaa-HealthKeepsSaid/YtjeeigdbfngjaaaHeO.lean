/- HealthSets, HealthSyncs: the program's way is the document's. -/
import Derived.Test.YtjeeigdbfngjaaaHeN
set_option linter.unusedSimpArgs false
set_option linter.unusedVariables false
namespace Go.Proofs.Ytjeeigdbfngjaaa
open Go.ChangeShapes Go.WideShapes Go.ChangeAt Go.RowKit

theorem setH_len (l : List Hl) (s : List UInt8) (a : Bool) (b c : Int) : (setH l s a b c).1.length = l.length := by
  unfold setH
  split
  · rfl
  · simp
theorem setC_any (l : List Hl) (s : List UInt8) (a : Bool) (b c : Int) (A : Option Addr) (n cap : Nat) (w : World) (hR : RdH w w.heap.size A n l) (hg : ∀ x ∈ l, okRun x) (hn : n ≤ 100000) :
    Calls Try.prog 23 #[.slice A n cap, .string (textOf s), .bool a, .int .i64 b, .int .i64 c] w (SetC w n (setH l s a b c).1 (setH l s a b c).2.1 (setH l s a b c).2.2) :=
  (set_any l s a b c A n cap w hR hg hn).mono fun e w' h => setC_of (by rw [setH_len, hR.1]) h
theorem refSetC_any (l : List Hl) (s : List UInt8) (a : Bool) (b c : Int) (A : Option Addr) (n cap : Nat) (w : World) (hR : RdH w w.heap.size A n l) (hg : ∀ x ∈ l, okRun x) (hn : n ≤ 100000) :
    Calls Try.prog 24 #[.slice A n cap, .string (textOf s), .bool a, .int .i64 b, .int .i64 c] w (SetC w n (setH l s a b c).1 (setH l s a b c).2.1 (setH l s a b c).2.2) := by
  rcases posH_cases l s with hp | ⟨k, hp, hk⟩
  · exact (refSet_no l s a b c A n cap w hR hg hn hp).mono fun e w' h => setC_of (by rw [setH_len, hR.1]) h
  · exact (refSet_yes l s a b c A n cap w hR hg hn k hp (by omega)).mono fun e w' h => setC_of (by rw [setH_len, hR.1]) h
theorem sameY_any (l : List Hl) (A B : Option Addr) (n k c d : Nat) (w : World) (hR : RdH w w.heap.size A n l) (hT : RdH w w.heap.size B k l) (hn : n ≤ 4611686018427387904) (hk : k ≤ 4611686018427387904) :
    Calls Try.prog 18 #[.slice A n c, .slice B k d] w fun e w' => e = .returned (.bool true) ∧ Below w.heap.size w w' :=
  (sameH_any l l A B n k c d w hR hT hn hk).mono fun e w' ⟨h1, h2⟩ => ⟨by rw [h1]; simp, h2⟩
theorem textsY_any (l : List (List UInt8)) (A B : Option Addr) (n k c d : Nat) (w : World) (hR : RdT w w.heap.size A n l) (hT : RdT w w.heap.size B k l) (hn : n ≤ 4611686018427387904) (hk : k ≤ 4611686018427387904) :
    Calls Try.prog 20 #[.slice A n c, .slice B k d] w fun e w' => e = .returned (.bool true) ∧ Below w.heap.size w w' :=
  (texts_any l l A B n k c d w hR hT hn hk).mono fun e w' ⟨h1, h2⟩ => ⟨by rw [h1]; simp, h2⟩
theorem okRuns {l : List Hl} (hg : ∀ x ∈ l, x.good) : ∀ x ∈ l, okRun x := fun x hx => (hg x hx).2

set_option maxHeartbeats 8000000 in
set_option maxRecDepth 100000 in
theorem healthSets_walk (l : List Hl) (s : List UInt8) (a : Bool) (b c : Int) (A : Option Addr) (n cap : Nat) (w : World) (hs : s.length ≤ 9223372036854775807) (hR : RdH w w.heap.size A n l) (hg : ∀ x ∈ l, x.good) (hn : n ≤ 9223372036854775807) :
    Calls Try.prog 8 #[.slice A n cap, .string (textOf s), .bool a, .int .i64 b, .int .i64 c] w fun e w' => e = .returned (.bool true) ∧ Below w.heap.size w w' := by
  have R0 := Lib.hid hR
  obtain ⟨q, hq⟩ : ∃ q, q = setH l s a b c := ⟨_, rfl⟩
  have S1 := Lib.hid (fun A n c2 W (hR : RdH W W.heap.size A n l) (hn : n ≤ 100000) => hq ▸ setC_any l s a b c A n c2 W hR (okRuns hg) hn)
  have S2 := Lib.hid (fun A n c2 W (hR : RdH W W.heap.size A n l) (hn : n ≤ 100000) => hq ▸ refSetC_any l s a b c A n c2 W hR (okRuns hg) hn)
  have EQ2 : (q.2.1 == q.2.1) = true := by simp
  have EQ3 : (q.2.2 == q.2.2) = true := by simp
  obtain ⟨K, hK⟩ : ∃ K, K = fewT (namesH l) := ⟨_, rfl⟩
  have FW := Lib.hid (fun A n c2 W (hR : RdH W W.heap.size A n l) (hn : n ≤ 9223372036854775807) => hK ▸ few_any l A n c2 W hR hn)
  have KN := Lib.hid (fun h : K = true => show n ≤ 50 by have := fewT_le (hK ▸ h); rw [namesH_len, hR.1] at this; exact this)
  clear hq hK hR hg
  cases K
  · go_enter Try.func8, Try.ntmps8
    go_wp2_with fail
    refine (awake_any _).mono ?_
    rintro e w1 ⟨rfl, hb1⟩
    have HB1 := Lib.hid hb1
    have R1 := Lib.hid (R0.out.go hb1)
    clear hb1
    go_wp2_with fail
    refine (FW.out A n _ _ R1.out hn).mono ?_
    rintro e w2 ⟨rfl, rfl⟩
    go_wp2_with fail
    refine (awake_any _).mono ?_
    rintro e w2 ⟨rfl, hb2⟩
    have HB2 := Lib.hid (below2 HB1.out hb2)
    clear hb2
    go_wp2
    go_ret
    exact ⟨rfl, HB2.out⟩
  have hn5 := KN.out rfl
  rcases Nat.lt_or_ge 60 s.length with hlen | hlen
  · have hd : decide ((60 : Int) < s.length) = true := decide_eq_true (by omega)
    clear hlen
    go_enter Try.func8, Try.ntmps8
    go_wp2_with fail
    refine (awake_any _).mono ?_
    rintro e w1 ⟨rfl, hb1⟩
    have HB1 := Lib.hid hb1
    have R1 := Lib.hid (R0.out.go hb1)
    clear hb1
    go_wp2_with fail
    refine (FW.out A n _ _ R1.out hn).mono ?_
    rintro e w2 ⟨rfl, rfl⟩
    go_wp2_with fail
    refine (awake_any _).mono ?_
    rintro e w2 ⟨rfl, hb2⟩
    have HB2 := Lib.hid (below2 HB1.out hb2)
    clear hb2
    go_wp2
    go_ret
    exact ⟨rfl, HB2.out⟩
  · have hd : decide ((60 : Int) < s.length) = false := decide_eq_false (by omega)
    clear hlen
    go_enter Try.func8, Try.ntmps8
    go_wp2_with fail
    refine (awake_any _).mono ?_
    rintro e w1 ⟨rfl, hb1⟩
    have HB1 := Lib.hid hb1
    have R1 := Lib.hid (R0.out.go hb1)
    clear hb1
    go_wp2_with fail
    refine (FW.out A n _ _ R1.out hn).mono ?_
    rintro e w2 ⟨rfl, rfl⟩
    go_wp2_with fail
    refine (S1.out A n _ _ R1.out (by omega)).mono ?_
    rintro e w3 ⟨A3, c3, rfl, hr3, hb3⟩
    have HB3 := Lib.hid (below2 HB1.out hb3)
    have R3 := Lib.hid (R1.out.go hb3)
    have Q3 := Lib.hid hr3
    clear hb3 hr3
    go_wp2_with fail
    refine (S2.out A n _ _ R3.out (by omega)).mono ?_
    rintro e w4 ⟨A4, c4, rfl, hr4, hb4⟩
    have HB4 := Lib.hid (below2 HB3.out hb4)
    have Q4 := Lib.hid (Q3.out.go hb4)
    have P4 := Lib.hid hr4
    clear hb4 hr4
    go_wp2_with fail
    refine (sameY_any q.1 A3 A4 n n c3 c4 _ Q4.out P4.out (by omega) (by omega)).mono ?_
    rintro e w5 ⟨rfl, hb5⟩
    have HB5 := Lib.hid (below2 HB4.out hb5)
    clear hb5
    go_wp2
    go_ret
    exact ⟨rfl, HB5.out⟩
theorem healthSets_walkB (l : List Hl) (s : ByteArray) (a : Bool) (b c : Int) (A : Option Addr) (n cap : Nat) (w : World) (hs : s.size ≤ maxLen) (hR : RdH w w.heap.size A n l) (hg : ∀ x ∈ l, x.good) (hn : n ≤ 9223372036854775807) :
    Calls Try.prog 8 #[.slice A n cap, .string s, .bool a, .int .i64 b, .int .i64 c] w fun e w' => e = .returned (.bool true) ∧ Below w.heap.size w w' := by
  have h1 : s.data.toList.length ≤ 9223372036854775807 := by
    have h0 : s.data.toList.length = s.size := Array.length_toList
    unfold maxLen at hs
    omega
  have h := healthSets_walk l s.data.toList a b c A n cap w h1 hR hg hn
  rwa [textOf_data] at h
set_option maxRecDepth 100000 in
theorem healthSets_lifted (os : Os) (started : os.Started) (H : Type) (enc : TypeId × Value → H) :
    ReturnsInHanded {} Try.checked os 8 .any (Rows.healthSetsSpec.pre6 enc Try.prog Try.f8 Rows.healthSetsRow.domain false) (Rows.healthSetsSpec.post enc Try.prog Try.f8 false true false false) := by
  refine returnsInHanded_of_change (C := Try.checked) own started (by kernel_rfl) Try.func8
    (ChangeSpec.witness6 (enc := enc) (C := Try.checked) false ⟨#[], #[.slice none 0 0, .string ⟨#[]⟩, .bool false, .int .i64 0, .int .i64 0], []⟩ 8 (by kernel_rfl) (by kernel_rfl) (by kernel_rfl) (by kernel_rfl)) ?_
  intro W base args ds gs before hval0 hW hcnd _
  have hval : ∀ (j : Nat) t v, Try.f8.params[j]? = some t → args[j]? = some v → Value.okWide Try.prog W .any base t v := hval0
  have hW' := hW
  obtain ⟨p, q, hA0, hV, rfl, hfz, hnd⟩ := hW
  have hA : DataW.TrodAll enc Try.prog W 0 (fun _ => true) true Try.f8.params.toList args.toList ds p := hA0
  rw [Try.params8] at hA hval
  obtain ⟨v0, vs0, d0, ds0, p0, q0, hargs, rfl, rfl, h0, r0⟩ := trodAll_cons hA
  obtain ⟨v1, vs1, d1, ds1, p1, q1, rfl, rfl, rfl, h1, r1⟩ := trodAll_cons r0
  obtain ⟨v2, vs2, d2, ds2, p2, q2, rfl, rfl, rfl, h2, r2⟩ := trodAll_cons r1
  obtain ⟨v3, vs3, d3, ds3, p3, q3, rfl, rfl, rfl, h3, r3⟩ := trodAll_cons r2
  obtain ⟨v4, vs4, d4, ds4, p4, q4, rfl, rfl, rfl, h4, r4⟩ := trodAll_cons r3
  obtain ⟨rfl, rfl, rfl⟩ := trodAll_nil r4
  obtain rfl : args = #[v0, v1, v2, v3, v4] := by cases args; simp_all
  obtain ⟨Al, nl, cl, ll, rfl, hRl, hgl, hml⟩ := open_hls (hval 0 34 v0 rfl rfl) h0
  obtain ⟨s, rfl, hs⟩ := open_str Try.underlying9 (hval 1 9 v1 rfl rfl) h1
  obtain ⟨a, rfl⟩ := open_bl Try.underlying4 (hval 2 4 v2 rfl rfl) h2
  obtain ⟨b, rfl, hb⟩ := open_i64 Try.underlying3 (hval 3 3 v3 rfl rfl) h3
  obtain ⟨c, rfl, hc⟩ := open_i64 Try.underlying3 (hval 4 3 v4 rfl rfl) h4
  clear hA0 hval0
  refine (healthSets_walkB ll s a b c Al nl cl W hs hRl hgl hml).mono fun e W' ⟨he, hb⟩ => ?_
  subst he
  exact ⟨_, rfl, law_post laidOut rfl (by kernel_rfl) 4 Try.underlying4 rfl hW' rfl hb⟩
theorem healthSets_holds : Rows.HealthSetsSaid :=
  OpenClaim.holds_of_wide 8 Try.f8 rfl rfl rfl rfl rfl rfl rfl ⟨rfl, rfl, rfl, rfl, rfl⟩ rfl rfl rfl rfl rfl (by kernel_rfl) Try.func8 (by kernel_rfl)
    (of_decide_eq_true (by kernel_rfl)) (by unfold Func.isWrapper; first | (rw [if_pos (by decide +kernel)]; kernel_rfl) | (rw [if_neg (by decide +kernel)]; exact ⟨rfl, rfl⟩))
    (fun os started H enc _ => healthSets_lifted os started H enc)
#print axioms healthSets_holds

/-! ### syncing twice is syncing once -/
theorem pick_sync (l : List Hl) (names : List (List UInt8)) (s : List UInt8) (hs : s ∈ names) : pickH (syncH l names) s = pickH l s := by
  have hm : s ∈ uniq names := (mem_uniq s names).2 hs
  have hf : (syncH l names).find? (fun x => x.name == s) = some (pickH l s) := by
    unfold syncH
    rw [List.find?_map]
    have : (uniq names).find? ((fun x => x.name == s) ∘ pickH l) = some s := by
      cases hq : (uniq names).find? ((fun x => x.name == s) ∘ pickH l) with
      | none =>
        have := List.find?_eq_none.1 hq s hm
        simp [pickH_name] at this
      | some t =>
        have := List.find?_some hq
        simp [pickH_name] at this
        rw [this]
    rw [this]; rfl
  rw [pickH_find, hf]
theorem sync_twice (l : List Hl) (names : List (List UInt8)) : syncH (syncH l names) names = syncH l names := by
  show (uniq names).map (pickH (syncH l names)) = (uniq names).map (pickH l)
  exact List.map_congr_left fun s hs => pick_sync l names s ((mem_uniq s names).1 hs)
theorem pick_ok (l : List Hl) (s : List UInt8) (b : Nat) (hl : ∀ x ∈ l, x.name.length ≤ b) (hs : s.length ≤ b) : (pickH l s).name.length ≤ b := by rw [pickH_name]; exact hs
theorem syncC_any (l : List Hl) (names : List (List UInt8)) (A : Option Addr) (n c : Nat) (A2 : Option Addr) (n2 c2 : Nat) (w : World) (hR : RdH w w.heap.size A n l) (hN : RdT w w.heap.size A2 n2 names) (hn : n ≤ 100000) (hn2 : n2 ≤ 100000) (hl : ∀ x ∈ l, x.name.length ≤ 100000) (hnm : ∀ s ∈ names, s.length ≤ 100000) (ul : Nat) (hul : ul = (syncH l names).length) (y : List Hl) (hy : y = syncH l names) :
    Calls Try.prog 17 #[.slice A n c, .slice A2 n2 c2] w (ClC w ul y) := by
  subst hul hy
  exact (sync_any l names A n c A2 n2 c2 w hR hN hn hn2 hl hnm).mono fun e w' h => clC_of rfl h
theorem refSyncC_any (l : List Hl) (names : List (List UInt8)) (A : Option Addr) (n c : Nat) (A2 : Option Addr) (n2 c2 : Nat) (w : World) (hR : RdH w w.heap.size A n l) (hN : RdT w w.heap.size A2 n2 names) (hn : n ≤ 100000) (hn2 : n2 ≤ 100000) (ul : Nat) (hul : ul = (syncH l names).length) (y : List Hl) (hy : y = syncH l names) :
    Calls Try.prog 19 #[.slice A n c, .slice A2 n2 c2] w (ClC w ul y) := by
  subst hul hy
  exact (refSync_any l names A A2 n n2 c c2 w hR hN hn hn2).mono fun e w' h => clC_of rfl h
theorem downC_any (l : List Hl) (A : Option Addr) (n c : Nat) (w : World) (hR : RdH w w.heap.size A n l) (hn : n ≤ 100000) (m : List (List UInt8)) (hm : m = downs l) (k : Nat) (hk : k = m.length) :
    Calls Try.prog 21 #[.slice A n c] w (TxC w k m) := by
  subst hk hm
  exact (down_any l A n c w hR hn).mono fun e w' h => txC_of rfl h
theorem refDownC_any (l : List Hl) (A : Option Addr) (n c : Nat) (w : World) (hR : RdH w w.heap.size A n l) (hn : n ≤ 100000) (m : List (List UInt8)) (hm : m = downs l) (k : Nat) (hk : k = m.length) :
    Calls Try.prog 22 #[.slice A n c] w (TxC w k m) := by
  subst hk hm
  exact (refDown_any l A n c w hR hn).mono fun e w' h => txC_of rfl h
theorem fewT_names {ls : List (List UInt8)} (h : fewT ls = true) : ∀ s ∈ ls, s.length ≤ 60 := by
  unfold fewT at h
  simp only [Bool.and_eq_true, List.all_eq_true, decide_eq_true_eq, List.mem_range] at h
  intro s hs
  obtain ⟨i, hi, rfl⟩ := List.mem_iff_getElem.1 hs
  have := h.2 i hi
  rw [List.getD_eq_getElem?_getD, List.getElem?_eq_getElem hi] at this
  exact this
theorem downs_len (l : List Hl) : (downs l).length ≤ l.length := by
  unfold downs; rw [List.length_map]; exact List.length_filter_le _ _

set_option maxHeartbeats 8000000 in
set_option maxRecDepth 100000 in
theorem healthSyncs_walk (l : List Hl) (m : List (List UInt8)) (A B : Option Addr) (n k ca cb : Nat) (w : World) (hR : RdH w w.heap.size A n l) (hg : ∀ x ∈ l, x.good) (hn : n ≤ 9223372036854775807) (hT : RdT w w.heap.size B k m) (hk : k ≤ 9223372036854775807) :
    Calls Try.prog 7 #[.slice A n ca, .slice B k cb] w fun e w' => e = .returned (.bool true) ∧ Below w.heap.size w w' := by
  have R0 := Lib.hid hR
  have T0 := Lib.hid hT
  obtain ⟨y, hy⟩ : ∃ y, y = syncH l m := ⟨_, rfl⟩
  obtain ⟨ul, hul⟩ : ∃ ul, ul = y.length := ⟨_, rfl⟩
  obtain ⟨dl, hdl⟩ : ∃ dl, dl = downs l := ⟨_, rfl⟩
  obtain ⟨dk, hdk⟩ : ∃ dk, dk = dl.length := ⟨_, rfl⟩
  obtain ⟨K, hK⟩ : ∃ K, K = fewT (namesH l) := ⟨_, rfl⟩
  obtain ⟨K2, hK2⟩ : ∃ K2, K2 = fewT m := ⟨_, rfl⟩
  have FW := Lib.hid (fun A n c2 W (hR : RdH W W.heap.size A n l) (hn : n ≤ 9223372036854775807) => hK ▸ few_any l A n c2 W hR hn)
  have SW := Lib.hid (fun A n c2 W (hR : RdT W W.heap.size A n m) (hn : n ≤ 9223372036854775807) => hK2 ▸ short_any m A n c2 W hR hn)
  cases K
  · clear hK hK2 hy hul hdl hdk hR hT hg
    go_enter Try.func7, Try.ntmps7
    go_wp2_with fail
    refine (awake_any _).mono ?_
    rintro e w1 ⟨rfl, hb1⟩
    have HB1 := Lib.hid hb1
    have R1 := Lib.hid (R0.out.go hb1)
    have T1 := Lib.hid (T0.out.go hb1)
    clear hb1
    go_wp2_with fail
    refine (FW.out A n _ _ R1.out hn).mono ?_
    rintro e w2 ⟨rfl, rfl⟩
    go_wp2_with fail
    refine (awake_any _).mono ?_
    rintro e w2 ⟨rfl, hb2⟩
    have HB2 := Lib.hid (below2 HB1.out hb2)
    clear hb2
    go_wp2
    go_ret
    exact ⟨rfl, HB2.out⟩
  have hn5 : n ≤ 50 := by have := fewT_le hK.symm; rw [namesH_len, hR.1] at this; exact this
  have HLN := Lib.hid (show ∀ x ∈ l, x.name.length ≤ 100000 from fun x hx => by have := fewT_names hK.symm x.name (by unfold namesH; exact List.mem_map_of_mem hx); omega)
  cases K2
  · clear hK hK2 hy hul hdl hdk hR hT hg HLN
    go_enter Try.func7, Try.ntmps7
    go_wp2_with fail
    refine (awake_any _).mono ?_
    rintro e w1 ⟨rfl, hb1⟩
    have HB1 := Lib.hid hb1
    have R1 := Lib.hid (R0.out.go hb1)
    have T1 := Lib.hid (T0.out.go hb1)
    clear hb1
    go_wp2_with fail
    refine (FW.out A n _ _ R1.out hn).mono ?_
    rintro e w2 ⟨rfl, rfl⟩
    go_wp2_with fail
    refine (SW.out B k _ _ T1.out hk).mono ?_
    rintro e w2 ⟨rfl, rfl⟩
    go_wp2_with fail
    refine (awake_any _).mono ?_
    rintro e w2 ⟨rfl, hb2⟩
    have HB2 := Lib.hid (below2 HB1.out hb2)
    clear hb2
    go_wp2
    go_ret
    exact ⟨rfl, HB2.out⟩
  · have hk5 : k ≤ 50 := by have := fewT_le hK2.symm; rw [hT.1] at this; exact this
    have HNM := Lib.hid (show ∀ s ∈ m, s.length ≤ 100000 from fun s hs => by have := fewT_names hK2.symm s hs; omega)
    have hlu := len_uniq m
    have hlm := hT.1
    have hll := hR.1
    have hul5 : ul ≤ 50 := by rw [hul, hy]; unfold syncH; rw [List.length_map]; omega
    have hdl5 : dk ≤ 50 := by have := downs_len l; rw [hdk, hdl]; omega
    have HYN := Lib.hid (show ∀ x ∈ y, x.name.length ≤ 100000 from fun x hx => by
      rw [hy] at hx
      unfold syncH at hx
      obtain ⟨s, hs, rfl⟩ := List.mem_map.1 hx
      rw [pickH_name]
      exact HNM.out s ((mem_uniq s m).1 hs))
    have S1 := Lib.hid (fun A n ca A2 n2 c2 W h1 h2 h3 h4 => syncC_any l m A n ca A2 n2 c2 W h1 h2 h3 h4 HLN.out HNM.out ul (by rw [hul, hy]) y hy)
    have S2 := Lib.hid (fun A n ca A2 n2 c2 W h1 h2 h3 h4 => refSyncC_any l m A n ca A2 n2 c2 W h1 h2 h3 h4 ul (by rw [hul, hy]) y hy)
    have S3 := Lib.hid (fun A n ca A2 n2 c2 W h1 h2 h3 h4 => syncC_any y m A n ca A2 n2 c2 W h1 h2 h3 h4 HYN.out HNM.out ul (by rw [hul, hy, sync_twice]) y (by rw [hy, sync_twice]))
    have D1 := Lib.hid (fun A n c W h1 h2 => downC_any l A n c W h1 h2 dl hdl dk hdk)
    have D2 := Lib.hid (fun A n c W h1 h2 => refDownC_any l A n c W h1 h2 dl hdl dk hdk)
    clear hK hK2 hy hul hdl hdk hR hT hg HLN hlu hlm hll
    go_enter Try.func7, Try.ntmps7
    go_wp2_with fail
    refine (awake_any _).mono ?_
    rintro e w1 ⟨rfl, hb1⟩
    have HB1 := Lib.hid hb1
    have R1 := Lib.hid (R0.out.go hb1)
    have T1 := Lib.hid (T0.out.go hb1)
    clear hb1
    go_wp2_with fail
    refine (FW.out A n _ _ R1.out hn).mono ?_
    rintro e w2 ⟨rfl, rfl⟩
    go_wp2_with fail
    refine (SW.out B k _ _ T1.out hk).mono ?_
    rintro e w2 ⟨rfl, rfl⟩
    go_wp2_with fail
    refine (S1.out A n _ B k _ _ R1.out T1.out (by omega) (by omega)).mono ?_
    rintro e w3 ⟨A3, c3, rfl, hr3, hb3⟩
    have HB3 := Lib.hid (below2 HB1.out hb3)
    have R3 := Lib.hid (R1.out.go hb3)
    have T3 := Lib.hid (T1.out.go hb3)
    have Y3 := Lib.hid hr3
    clear hb3 hr3
    go_wp2_with fail
    refine (S2.out A n _ B k _ _ R3.out T3.out (by omega) (by omega)).mono ?_
    rintro e w4 ⟨A4, c4, rfl, hr4, hb4⟩
    have HB4 := Lib.hid (below2 HB3.out hb4)
    have R4 := Lib.hid (R3.out.go hb4)
    have T4 := Lib.hid (T3.out.go hb4)
    have Y4 := Lib.hid (Y3.out.go hb4)
    have Z4 := Lib.hid hr4
    clear hb4 hr4
    go_wp2_with fail
    refine (sameY_any y A3 A4 ul ul c3 c4 _ Y4.out Z4.out (by omega) (by omega)).mono ?_
    rintro e w5 ⟨rfl, hb5⟩
    have HB5 := Lib.hid (below2 HB4.out hb5)
    have R5 := Lib.hid (R4.out.go hb5)
    have T5 := Lib.hid (T4.out.go hb5)
    have Y5 := Lib.hid (Y4.out.go hb5)
    clear hb5
    go_wp2_with fail
    refine (S3.out A3 ul _ B k _ _ Y5.out T5.out (by omega) (by omega)).mono ?_
    rintro e w6 ⟨A6, c6, rfl, hr6, hb6⟩
    have HB6 := Lib.hid (below2 HB5.out hb6)
    have R6 := Lib.hid (R5.out.go hb6)
    have Y6 := Lib.hid (Y5.out.go hb6)
    have Z6 := Lib.hid hr6
    clear hb6 hr6
    go_wp2_with fail
    refine (sameY_any y A6 A3 ul ul c6 c3 _ Z6.out Y6.out (by omega) (by omega)).mono ?_
    rintro e w7 ⟨rfl, hb7⟩
    have HB7 := Lib.hid (below2 HB6.out hb7)
    have R7 := Lib.hid (R6.out.go hb7)
    clear hb7
    go_wp2_with fail
    refine (D1.out A n _ _ R7.out (by omega)).mono ?_
    rintro e w8 ⟨A8, c8, rfl, hr8, hb8⟩
    have HB8 := Lib.hid (below2 HB7.out hb8)
    have R8 := Lib.hid (R7.out.go hb8)
    have Z8 := Lib.hid hr8
    clear hb8 hr8
    go_wp2_with fail
    refine (D2.out A n _ _ R8.out (by omega)).mono ?_
    rintro e w9 ⟨A9, c9, rfl, hr9, hb9⟩
    have HB9 := Lib.hid (below2 HB8.out hb9)
    have Z9 := Lib.hid (Z8.out.go hb9)
    have X9 := Lib.hid hr9
    clear hb9 hr9
    go_wp2_with fail
    refine (textsY_any dl A8 A9 dk dk c8 c9 _ Z9.out X9.out (by omega) (by omega)).mono ?_
    rintro e wA ⟨rfl, hbA⟩
    have HBA := Lib.hid (below2 HB9.out hbA)
    clear hbA
    go_wp2
    go_ret
    exact ⟨rfl, HBA.out⟩
set_option maxRecDepth 100000 in
theorem healthSyncs_lifted (os : Os) (started : os.Started) (H : Type) (enc : TypeId × Value → H) :
    ReturnsInHanded {} Try.checked os 7 .any (Rows.healthSyncsSpec.pre6 enc Try.prog Try.f7 Rows.healthSyncsRow.domain false) (Rows.healthSyncsSpec.post enc Try.prog Try.f7 false true false false) := by
  refine returnsInHanded_of_change (C := Try.checked) own started (by kernel_rfl) Try.func7
    (ChangeSpec.witness6 (enc := enc) (C := Try.checked) false ⟨#[], #[.slice none 0 0, .slice none 0 0], []⟩ 8 (by kernel_rfl) (by kernel_rfl) (by kernel_rfl) (by kernel_rfl)) ?_
  intro W base args ds gs before hval0 hW hcnd _
  have hval : ∀ (j : Nat) t v, Try.f7.params[j]? = some t → args[j]? = some v → Value.okWide Try.prog W .any base t v := hval0
  have hW' := hW
  obtain ⟨p, q, hA0, hV, rfl, hfz, hnd⟩ := hW
  have hA : DataW.TrodAll enc Try.prog W 0 (fun _ => true) true Try.f7.params.toList args.toList ds p := hA0
  rw [Try.params7] at hA hval
  obtain ⟨v0, vs0, d0, ds0, p0, q0, hargs, rfl, rfl, h0, r0⟩ := trodAll_cons hA
  obtain ⟨v1, vs1, d1, ds1, p1, q1, rfl, rfl, rfl, h1, r1⟩ := trodAll_cons r0
  obtain ⟨rfl, rfl, rfl⟩ := trodAll_nil r1
  obtain rfl : args = #[v0, v1] := by cases args; simp_all
  obtain ⟨Al, nl, cl, ll, rfl, hRl, hgl, hml⟩ := open_hls (hval 0 34 v0 rfl rfl) h0
  obtain ⟨Am, nm, cm, lm, rfl, hRm, hgm, hmm⟩ := open_txts (hval 1 35 v1 rfl rfl) h1
  clear hA0 hval0
  refine (healthSyncs_walk ll lm Al Am nl nm cl cm W hRl hgl hml hRm hmm).mono fun e W' ⟨he, hb⟩ => ?_
  subst he
  exact ⟨_, rfl, law_post laidOut rfl (by kernel_rfl) 4 Try.underlying4 rfl hW' rfl hb⟩
theorem healthSyncs_holds : Rows.HealthSyncsSaid :=
  OpenClaim.holds_of_wide 7 Try.f7 rfl rfl rfl rfl rfl rfl rfl ⟨rfl, rfl, rfl, rfl, rfl⟩ rfl rfl rfl rfl rfl (by kernel_rfl) Try.func7 (by kernel_rfl)
    (of_decide_eq_true (by kernel_rfl)) (by unfold Func.isWrapper; first | (rw [if_pos (by decide +kernel)]; kernel_rfl) | (rw [if_neg (by decide +kernel)]; exact ⟨rfl, rfl⟩))
    (fun os started H enc _ => healthSyncs_lifted os started H enc)
#print axioms healthSyncs_holds
end Go.Proofs.Ytjeeigdbfngjaaa
