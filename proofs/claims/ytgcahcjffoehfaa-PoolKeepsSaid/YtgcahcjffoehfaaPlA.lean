/- PoolRights: for every text, and every two pools, the program's Name, Right and Same answer as the document's. No condition. -/
import Derived.Test.YtgcahcjffoehfaaPoAw
import Derived.Test.YtgcahcjffoehfaaPoF
import Derived.Test.YtgcahcjffoehfaaQr
set_option linter.unusedSimpArgs false
set_option linter.unusedVariables false
namespace Go.Proofs.Ytgcahcjffoehfaa
open Go.ChangeShapes Go.WideShapes Go.ChangeAt Go.RowKit

theorem fine_of {l : List Bk} (h : ∀ b ∈ l, b.good) : ∀ b ∈ l, b.fine := fun b hb => (h b hb).1
theorem few_le {l : List Bk} (h : few l = true) : l.length ≤ 40 := by
  unfold few at h; simp at h; exact h.2
set_option maxHeartbeats 2000000 in
set_option maxRecDepth 100000 in
theorem poolRights_text (s : List UInt8) (hs : s.length ≤ 9223372036854775807) (v v' : Int) (l m : List Bk) (A B : Option Addr) (c d : Nat) (w : World) (hf : ∀ b ∈ l, b.fine) (hg : ∀ b ∈ m, b.fine)
    (hR : RdK w w.heap.size A l.length l) (hT : RdK w w.heap.size B m.length m) (hn : l.length ≤ 9223372036854775807) (hm : m.length ≤ 9223372036854775807) :
    Calls Try.prog 3 #[.string (textOf s), .agg #[.int .i64 v, .slice A l.length c], .agg #[.int .i64 v', .slice B m.length d]] w fun e w' => e = .returned (.bool true) ∧ Below w.heap.size w w' := by
  have HR := Lib.hid (fun ob ob' => (hR.up ob).up ob')
  have HT := Lib.hid (fun ob ob' => (hT.up ob).up ob')
  have HF := Lib.hid hf
  have HG := Lib.hid hg
  have HB0 := Lib.hid (fun ob ob' => (((Below.refl w.heap.size w).alloc (Nat.le_refl _) ob).alloc (by simp) ob' : Below w.heap.size w ((w.alloc ob).alloc ob')))
  clear hR hT hf hg
  by_cases h1 : s.length ≤ 200
  rotate_left
  · have h1' : (200 : Int) < s.length := by omega
    go_enter Try.func3, Try.ntmps3
    go_wp2_with fail
    refine (awake_any _).mono ?_
    rintro e w1 ⟨rfl, hb1⟩
    have HB1 := Lib.hid (call0 (HB0.out _ _) hb1)
    clear hb1
    go_wp2_with fail
    refine (awake_any _).mono ?_
    rintro e w2 ⟨rfl, hb1⟩
    have HB2 := Lib.hid (call0 HB1.out hb1)
    clear hb1
    go_wp2
    go_ret
    exact ⟨rfl, HB2.out⟩
  have h1' : decide ((200 : Int) < s.length) = false := by simp; omega
  obtain ⟨K1, hK1⟩ : ∃ K, few l = K := ⟨_, rfl⟩
  obtain ⟨K2, hK2⟩ : ∃ K, few m = K := ⟨_, rfl⟩
  have HF1 := Lib.hid (fun A c W (h : RdK W W.heap.size A l.length l) => hK1 ▸ few_any l v A c W h hn)
  have HF2 := Lib.hid (fun A c W (h : RdK W W.heap.size A m.length m) => hK2 ▸ few_any m v' A c W h hm)
  have HK1 := Lib.hid hK1
  have HK2 := Lib.hid hK2
  clear hK1 hK2
  go_enter Try.func3, Try.ntmps3
  go_wp2_with fail
  refine (awake_any _).mono ?_
  rintro e w1 ⟨rfl, hb1⟩
  have BP := Lib.hid (((Box.new w _ _).alloc _).go hb1)
  have BQ := Lib.hid ((Box.new1 w _ _ _).go hb1)
  have RP := Lib.hid ((HR.out _ _).go hb1)
  have RQ := Lib.hid ((HT.out _ _).go hb1)
  have HB1 := Lib.hid (call0 (HB0.out _ _) hb1)
  clear hb1
  obtain ⟨x1, x2, x3, x4⟩ := BP.out.facts
  obtain ⟨y1, y2, y3, y4⟩ := BQ.out.facts
  go_wp2_with fail
  refine (HF1.out A c _ RP.out).mono ?_
  rintro e w2 ⟨rfl, hb1⟩
  have BP := Lib.hid (BP.out.go hb1)
  have BQ := Lib.hid (BQ.out.go hb1)
  have RP := Lib.hid (RP.out.go hb1)
  have RQ := Lib.hid (RQ.out.go hb1)
  have HB1 := Lib.hid (call0 HB1.out hb1)
  clear hb1 x1 x2 x3 x4 y1 y2 y3 y4
  obtain ⟨x1, x2, x3, x4⟩ := BP.out.facts
  obtain ⟨y1, y2, y3, y4⟩ := BQ.out.facts
  cases K1
  · go_wp2_with fail
    refine (awake_any _).mono ?_
    rintro e w2 ⟨rfl, hb1⟩
    have HB2 := Lib.hid (call0 HB1.out hb1)
    clear hb1
    go_wp2
    go_ret
    exact ⟨rfl, HB2.out⟩
  go_wp2_with fail
  refine (HF2.out B d _ RQ.out).mono ?_
  rintro e w3 ⟨rfl, hb1⟩
  have BP := Lib.hid (BP.out.go hb1)
  have BQ := Lib.hid (BQ.out.go hb1)
  have RP := Lib.hid (RP.out.go hb1)
  have RQ := Lib.hid (RQ.out.go hb1)
  have HB1 := Lib.hid (call0 HB1.out hb1)
  clear hb1 x1 x2 x3 x4 y1 y2 y3 y4
  cases K2
  · go_wp2_with fail
    refine (awake_any _).mono ?_
    rintro e w2 ⟨rfl, hb1⟩
    have HB2 := Lib.hid (call0 HB1.out hb1)
    clear hb1
    go_wp2
    go_ret
    exact ⟨rfl, HB2.out⟩
  have hn2 : l.length < 4611686018427387904 := by have := few_le HK1.out; omega
  have hm2 : m.length < 4611686018427387904 := by have := few_le HK2.out; omega
  obtain ⟨T, f, n0, e0, eS, eT⟩ := class_of (fun W => Below w3.heap.size w3 W) w3 (Below.refl _ _).drew
  have es : ∀ q W1, Below (f q).heap.size (f q) W1 → ∃ q', W1 = f q' := fun q W1 hb => eT _ ((eS q).trans (hb.mono (eS q).size))
  have r1 : ∀ q j, (f q).cell? ⟨w.heap.size, j, none⟩ = _ := fun q j => ((BP.out.below (eS q) BP.out.lt).facts).1 j
  have r2 : ∀ q j, (f q).cell? ⟨w.heap.size + 1, j, none⟩ = _ := fun q j => ((BQ.out.below (eS q) BQ.out.lt).facts).1 j
  have hne : Nonempty T := ⟨n0⟩
  have E0 := Lib.hid e0
  have ES := Lib.hid es
  have EP := Lib.hid (fun q => (RP.out.below (eS q)).more (eS q).size)
  have EQ := Lib.hid (fun q => (RQ.out.below (eS q)).more (eS q).size)
  have EB := Lib.hid (fun q => call0 HB1.out (eS q))
  obtain ⟨k1, hk1⟩ : ∃ k, okName s = k := ⟨_, rfl⟩
  obtain ⟨k2, hk2⟩ : ∃ k, pRight v l = k := ⟨_, rfl⟩
  obtain ⟨k3, hk3⟩ : ∃ k, twins v l v' m = k := ⟨_, rfl⟩
  have c1 := fun W => hk1 ▸ name_any s W hs
  have c2 := fun W => hk1 ▸ refName_any s W hs
  have c3 := fun A c W (h : RdK W W.heap.size A l.length l) => hk2 ▸ rightPool_any l HF.out v A c W h hn2
  have c4 := fun A c W (h : RdK W W.heap.size A l.length l) => hk2 ▸ refRight_any l HF.out v A c W h hn2
  have c5 := fun A B c d W (h : RdK W W.heap.size A l.length l) (h' : RdK W W.heap.size B m.length m) => (hk3 ▸ (eqPool_is v v' HF.out HG.out)) ▸ poolSame_any l m v v' A B c d W h h' hn2 hm2
  have c6 := fun A B c d W (h : RdK W W.heap.size A l.length l) (h' : RdK W W.heap.size B m.length m) => hk3 ▸ refSamePool_any l m HF.out HG.out v v' A B c d W h h' hn2 hm2
  have c7 := fun A B c d W (h : RdK W W.heap.size A l.length l) (h' : RdK W W.heap.size B l.length l) => ((eqPool_is v v HF.out HF.out).trans (twins_self v l)) ▸ poolSame_any l l v v A B c d W h h' hn2 hn2
  have C1 := Lib.hid c1
  have C2 := Lib.hid c2
  have C3 := Lib.hid c3
  have C4 := Lib.hid c4
  have C5 := Lib.hid c5
  have C6 := Lib.hid c6
  have C7 := Lib.hid c7
  clear e0 es eS eT c1 c2 c3 c4 c5 c6 c7 hk1 hk2 hk3
  go_wp2_with fail
  refine quiet_in f (by kernel_rfl) (by kernel_rfl) n0 E0.out ?_
  repeat (go_big_quiet_step ((first
    | (go_at_call 12; refine (C1.out _).mono ?_; rintro e w1 ⟨rfl, hb1⟩; exact ⟨rfl, ES.out _ _ hb1⟩)
    | (go_at_call 13; refine (C2.out _).mono ?_; rintro e w1 ⟨rfl, rfl⟩; exact ⟨rfl, _, rfl⟩)
    | (go_at_call 14; refine (C3.out A c _ (EP.out _)).mono ?_; rintro e w1 ⟨rfl, hb1⟩; exact ⟨rfl, ES.out _ _ hb1⟩)
    | (go_at_call 15; refine (C4.out A c _ (EP.out _)).mono ?_; rintro e w1 ⟨rfl, hb1⟩; exact ⟨rfl, ES.out _ _ hb1⟩)
    | (go_at_call 16; (with_reducible refine (C5.out A B c d _ (EP.out _) (EQ.out _)).mono ?_); rintro e w1 ⟨rfl, hb1⟩; exact ⟨rfl, ES.out _ _ hb1⟩)
    | (go_at_call 16; (with_reducible refine (C7.out A A c c _ (EP.out _) (EP.out _)).mono ?_); rintro e w1 ⟨rfl, hb1⟩; exact ⟨rfl, ES.out _ _ hb1⟩)
    | (go_at_call 17; refine (C6.out A B c d _ (EP.out _) (EQ.out _)).mono ?_; rintro e w1 ⟨rfl, hb1⟩; exact ⟨rfl, ES.out _ _ hb1⟩))))
  refine wpQuiet_nil ?_
  rintro _ ⟨q, rfl⟩
  go_wp2
  go_ret
  exact ⟨rfl, EB.out _⟩
theorem poolRights_walk (s : ByteArray) (hs : s.size ≤ maxLen) (v v' : Int) (A B : Option Addr) (n n' c d : Nat) (l m : List Bk) (w : World) (hg : ∀ b ∈ l, b.good) (hg' : ∀ b ∈ m, b.good) (hR : RdK w w.heap.size A n l) (hT : RdK w w.heap.size B n' m) (hn : n ≤ 9223372036854775807) (hm : n' ≤ 9223372036854775807) :
    Calls Try.prog 3 #[.string s, .agg #[.int .i64 v, .slice A n c], .agg #[.int .i64 v', .slice B n' d]] w fun e w' => e = .returned (.bool true) ∧ Below w.heap.size w w' := by
  obtain rfl := hR.1
  obtain rfl := hT.1
  rw [textOf_of s]
  have h2 : s.size ≤ 9223372036854775807 := by unfold maxLen at hs; omega
  exact poolRights_text s.data.toList (by rw [Array.length_toList]; exact h2) v v' l m A B c d w (fine_of hg) (fine_of hg') hR hT hn hm

set_option maxRecDepth 100000 in
theorem poolRights_lifted (os : Os) (started : os.Started) (H : Type) (enc : TypeId × Value → H) :
    ReturnsInHanded {} Try.checked os 3 .any (Rows.poolRightsSpec.pre6 enc Try.prog Try.f3 Rows.poolRightsRow.domain false) (Rows.poolRightsSpec.post enc Try.prog Try.f3 false true false false) := by
  refine returnsInHanded_of_change (C := Try.checked) own started (by kernel_rfl) Try.func3
    (ChangeSpec.witness6 (enc := enc) (C := Try.checked) false ⟨#[], #[.string ⟨#[]⟩, .agg #[.int .i64 0, .slice none 0 0], .agg #[.int .i64 0, .slice none 0 0]], []⟩ 8 (by kernel_rfl) (by kernel_rfl) (by kernel_rfl) (by kernel_rfl)) ?_
  intro W base args ds gs before hval0 hW hcnd _
  have hval : ∀ (j : Nat) t v, Try.f3.params[j]? = some t → args[j]? = some v → Value.okWide Try.prog W .any base t v := hval0
  have hW' := hW
  obtain ⟨p, q, hA0, hV, rfl, hfz, hnd⟩ := hW
  have hA : DataW.TrodAll enc Try.prog W 0 (fun _ => true) true Try.f3.params.toList args.toList ds p := hA0
  rw [Try.params3] at hA hval
  obtain ⟨v0, vs0, d0, ds0, p0, q0, hargs, rfl, rfl, h0, r0⟩ := trodAll_cons hA
  obtain ⟨v1, vs1, d1, ds1, p1, q1, rfl, rfl, rfl, h1, r1⟩ := trodAll_cons r0
  obtain ⟨v2, vs2, d2, ds2, p2, q2, rfl, rfl, rfl, h2, r2⟩ := trodAll_cons r1
  obtain ⟨rfl, rfl, rfl⟩ := trodAll_nil r2
  obtain rfl : args = #[v0, v1, v2] := by cases args; simp_all
  obtain ⟨s, rfl, hs⟩ := open_str Try.underlying9 (hval 0 9 v0 rfl rfl) h0
  obtain ⟨zp, Ap, np, cp, lp, rfl, hzp, hRp, hgp, hmp⟩ := open_pool (hval 1 24 v1 rfl rfl) h1
  obtain ⟨zq, Aq, nq, cq, lq, rfl, hzq, hRq, hgq, hmq⟩ := open_pool (hval 2 24 v2 rfl rfl) h2
  clear hA0 hval0
  refine (poolRights_walk s hs zp zq Ap Aq np nq cp cq lp lq W hgp hgq hRp hRq hmp hmq).mono fun e W' ⟨he, hb⟩ => ?_
  subst he
  exact ⟨_, rfl, law_post laidOut rfl (by kernel_rfl) 4 Try.underlying4 rfl hW' rfl hb⟩
theorem poolRights_holds : Rows.PoolRightsSaid :=
  OpenClaim.holds_of_wide 3 Try.f3 rfl rfl rfl rfl rfl rfl rfl ⟨rfl, rfl, rfl, rfl, rfl⟩ rfl rfl rfl rfl rfl (by kernel_rfl) Try.func3 (by kernel_rfl)
    (of_decide_eq_true (by kernel_rfl)) (by unfold Func.isWrapper; first | (rw [if_pos (by decide +kernel)]; kernel_rfl) | (rw [if_neg (by decide +kernel)]; exact ⟨rfl, rfl⟩))
    (fun os started H enc _ => poolRights_lifted os started H enc)
#print axioms poolRights_holds
theorem RdK.few {w : World} {A : Option Addr} {n : Nat} {l : List Bk} (h : RdK w w.heap.size A n l) : l.length = n := h.1
end Go.Proofs.Ytgcahcjffoehfaa
