/- The program's store: Crash, walked. -/
import Derived.Test.YtejjobbgceoljaaStV
import Derived.Deep.CutRange
import Derived.Deep.RegionWith
set_option linter.unusedSimpArgs false
set_option linter.unusedVariables false
namespace Go.Proofs.Ytejjobbgceoljaa
open Go.RowKit

theorem RdR.frm {α : Type} {f : α → Array Value} {s : Nat} {F : List Nat} {w w' : World} {B n : Nat} {A : Option Addr} {l : List α} (h : RdR f s w B A n l) (hf : Frm F w w') (hB : B ≤ w.heap.size) (hA : 0 < n → ∀ a, A = some a → a.block ∉ F) : RdR f s w' B A n l :=
  ⟨h.1, ⟨h.2.1.1, fun hn => by
    obtain ⟨a, e, hb, hc⟩ := h.2.1.2 hn
    refine ⟨a, e, hb, fun j u hu => ?_⟩
    rw [← hc j u hu]
    refine World.cell?_of_block ?_
    rw [add_block]
    exact hf.block _ (by omega) (hA hn a e)⟩, h.2.2⟩
theorem RdR.int {W : World} {B n : Nat} {A : Option Addr} {l : List Int} {k : Nat} (h : RdZ W B A n l) (hk : k < n) : ∃ b o, A = some ⟨b, o, none⟩ ∧ b < B ∧ W.cell? ⟨b, o + k, none⟩ = some (.int .i64 (l.getD k 0)) := by
  obtain ⟨b, o, hA, hb, hc⟩ := RdR.cell i64A_size 0 h hk
  have := hc 0 (by omega)
  rw [Nat.mul_one, Nat.add_zero] at this
  exact ⟨b, o, hA, hb, this⟩
theorem PgX.agree {F : List Nat} {M : Nat} {l : List Pl} {W W' : World} {p : Nat} {q : Int} {L : List Fi} {sz fu : Int} {dn : Bool} (h : PgX F M l W p q L sz fu dn) (ha : ∀ g ∈ F, W'.heap[g]? = W.heap[g]?) : PgX F M l W' p q L sz fu dn := by
  obtain ⟨h1, h2, h3, ⟨t, h4⟩, h5, h6, h7⟩ := h
  subst h2
  refine ⟨h1, rfl, h3, ⟨t, by rw [ha p (by simp)]; exact h4⟩, h5.agree (ha M (by simp)), fun r hr => (h6 r hr).agree (fun g hg => ha g ?_), h7⟩
  exact List.mem_cons_of_mem _ (List.mem_cons_of_mem _ (List.mem_flatMap.2 ⟨r, hr, hg⟩))
theorem PgX.lts {F : List Nat} {M : Nat} {l : List Pl} {W : World} {p : Nat} {q : Int} {L : List Fi} {sz fu : Int} {dn : Bool} (h : PgX F M l W p q L sz fu dn) : ∀ g ∈ F, g < W.heap.size := by
  obtain ⟨h1, h2, h3, h4, h5, h6, h7⟩ := h
  subst h2
  intro g hg
  rcases List.mem_cons.1 hg with rfl | hg
  · exact h4.lt
  · rcases List.mem_cons.1 hg with rfl | hg
    · exact h5.lt
    · obtain ⟨r, hr, hg⟩ := List.mem_flatMap.1 hg
      exact (h6 r hr).lt g hg
theorem getD_some {α : Type} {l : List α} {k : Nat} (h : k < l.length) (d : α) : l[k]? = some (l.getD k d) := by
  rw [List.getD_eq_getElem?_getD, List.getElem?_eq_getElem h]; rfl
set_option maxRecDepth 100000 in
set_option maxHeartbeats 4000000 in
theorem crash_any (F : List Nat) (p : Nat) (q fu : Int) (dn : Bool) (L : List Fi) (ks : List Int) (A2 : Option Addr) (n2 c2 : Nat) (w : World) (hS : PgS F w p q L fu dn) (hL : L.length ≤ 10000) (hK : RdZ w w.heap.size A2 n2 ks) (hA2 : 0 < n2 → ∀ a, A2 = some a → a.block ∉ F) (hn2 : n2 ≤ 9223372036854775807) :
    Calls Try.prog 21 #[.pointer (some ⟨p, 0, none⟩), .slice A2 n2 c2] w (PgP F w p q (crL L ks) (-1) false (.tuple #[])) := by
  obtain ⟨M, l, hX⟩ := hS.open_
  have hG := hX.2.2.2.2.2.2.1
  have hlt := hX.fst
  have hpM : p ≠ M := by
    have := hX.2.2.1
    rw [hX.2.1] at this
    intro e; rw [e] at this; simp at this
  obtain ⟨f1, f2, f3, f4⟩ := hX.2.2.2.1.facts
  have B0 := hX.2.2.2.1.set_same 1 (.int .i64 0)
  rw [stC_set1] at B0
  have hX0 : PgX F M l (w.setCell ⟨p, 1, none⟩ (.int .i64 0)) p q L 0 fu dn := by
    obtain ⟨h1, h2, h3, h4, h5, h6, h7, h8⟩ := hX
    subst h2
    have hb : ∀ g ∈ M :: feet l, (w.setCell ⟨p, 1, none⟩ (.int .i64 0)).heap[g]? = w.heap[g]? := fun g hg => Below.heap_setCell _ _ _ _ (fun e => by
      simp only at e
      subst e
      exact (List.nodup_cons.1 h3).1 hg)
    exact ⟨h1, rfl, h3, B0, h5.agree (hb M (by simp)), fun r hr => (h6 r hr).agree fun g hg => hb g (List.mem_cons_of_mem _ (List.mem_flatMap.2 ⟨r, hr, hg⟩)), h7, h8⟩
  have FR0 := Lib.hid ((Frm.refl F w).set ⟨p, 1, none⟩ (.int .i64 0) (.inl hS.mem))
  have LS := Lib.hid (list_x F M l p q 0 fu dn L _ hX0 hL)
  have HX0 := Lib.hid hX0
  have HG := Lib.hid hG
  have HK := Lib.hid hK
  have HA2 := Lib.hid hA2
  have hp0 := hlt.1
  have hkl := hK.1
  clear hX hX0 hS hG hK hA2 B0 hlt
  go_enter Try.func21, Try.ntmps21
  go_wp2_with fail
  refine LS.out.mono ?_
  rintro e w1 ⟨A1, c1, rfl, ho1, hb1⟩
  have hnl : (namesF L).length = L.length := by simp [namesF]
  rw [hnl] at ho1
  rw [hnl]
  have HO1 := Lib.hid ho1
  have hs0 : (w.setCell ⟨p, 1, none⟩ (.int .i64 0)).heap.size = w.heap.size := by simp [World.setCell]
  have FR1 := Lib.hid (FR0.out.below hb1 (by omega))
  have RN1 := Lib.hid (show RdT w1 w1.heap.size A1 L.length (namesF L) from RdR.of_own hnl ho1)
  have HA1 := Lib.hid (show 0 < L.length → ∀ a, A1 = some a → a.block ∉ F from fun _ a ha hm => by
    have h1 := (ho1.lt a.block (by rw [ha]; rfl)).1
    have h2 := (HX0.out.lts a.block hm)
    omega)
  have RK1 := Lib.hid (HK.out.frm FR1.out (Nat.le_refl _) HA2.out)
  have hs1 : w.heap.size ≤ w1.heap.size := FR1.out.size
  obtain ⟨l', hX1⟩ : ∃ l', PgX F M l' w1 p q (crI L ks 0) (sumF ((crL L ks).take 0)) fu dn := ⟨l, by
    have e1 : crI L ks 0 = L := by simp [crI]
    have e2 : ((sumF ((crL L ks).take 0) : Nat) : Int) = 0 := rfl
    rw [e1, e2]
    exact HX0.out.agree fun g hg => hb1.block g (HX0.out.lts g hg)⟩
  have HX1 := Lib.hid hX1
  clear ho1 hb1 hX1 hs0 f1 f2 f3 f4
  obtain ⟨n, hn⟩ : ∃ n, L.length = n := ⟨_, rfl⟩
  rw [hn] at HO1 RN1 hL HA1 ⊢
  have HN := Lib.hid hn
  clear hn hnl
  go_wp2
  go_loopw [14] (fun s14 wr => ∃ (i : Nat) (F' : List Nat) (l' : List Pl), i ≤ n ∧ s14 = .int .i64 i ∧ PgX F' M l' wr p q (crI L ks i) (sumF ((crL L ks).take i)) fu dn ∧ Frm F w1 wr ∧ (∀ b ∈ F', b ∈ F ∨ w1.heap.size ≤ b)) (fun s14 _ => n - (intOf s14).toNat)
  case atStart => exact ⟨0, F, l', by omega, rfl, HX1.out, Frm.refl _ _, fun b hb => .inl hb⟩
  case round =>
    obtain ⟨i, F', l', hin, rfl, hX, hf, hsub⟩ := hrel
    obtain ⟨f1, f2, f3, f4⟩ := hX.2.2.2.1.facts
    have HX := Lib.hid hX
    have HF := Lib.hid hf
    have HSUB := Lib.hid hsub
    have hlt := hX.fst
    clear hf hsub
    by_cases hlt : i < n
    · have hi : (i : Int) < n := by omega
      have hiL : i < L.length := by rw [HN.out]; exact hlt
      obtain ⟨nb, no, rfl, hnb, hnc⟩ := (RN1.out.frm HF.out (Nat.le_refl _) HA1.out).text hlt
      obtain ⟨x, hx⟩ : ∃ x, x = L[i] := ⟨_, rfl⟩
      have hnm : (namesF L).getD i [] = x.name := by rw [hx]; simp [namesF, List.getD_eq_getElem?_getD, hiL]
      rw [hnm] at hnc
      have hxm : x ∈ L := by rw [hx]; exact List.getElem_mem hiL
      have hxb := HG.out.2.1 x hxm
      have hnl : x.name.length ≤ 100000 := hxb.1
      have hcI := crI_at L ks i hiL
      rw [← hx] at hcI
      have hmemI : x ∈ crI L ks i := by rw [hcI]; simp
      have hlkI := lookF_of_mem hX.2.2.2.2.2.2.1.1 hmemI
      obtain ⟨t, hlk, hlF, ha, ht⟩ : ∃ t, lookP l' x.name = some t ∧ t.x = x ∧ atP l' x.name = some t.fb ∧ t ∈ l' := by
        rcases look_whyAt hX.1 x.name with ⟨_, _, h, _⟩ | ⟨t, h1, _, h2, h3, h4⟩
        · rw [hlkI] at h; cases h
        · rw [hlkI] at h2; injection h2 with h2; exact ⟨t, h1, h2.symm, h3, h4⟩
      obtain ⟨l1, l2, rfl, hnm2⟩ := look_split hlk
      have HY := Lib.hid (show ptrV (atP (l1 ++ ([t] ++ l2)) x.name) = .pointer (some ⟨t.fb, 0, none⟩) by rw [ha]; rfl)
      have HM := Lib.hid hX.2.2.2.2.1
      have hT := hX.2.2.2.2.2.1 t ht
      have HT := Lib.hid hT
      have BT := Lib.hid hT.1
      have BP := Lib.hid hX.2.2.2.1
      obtain ⟨g1, g2, g3, g4⟩ := hT.1.facts
      have hfl := hT.1.lt
      have hplt := hX.fst.1
      obtain ⟨a1, a2, a3, a4, a5⟩ := hX.apart
      have hn1 : ¬ p = t.fb := fun e => a2 (by rw [e]; simp [Pl.foot])
      have hn2' : ¬ t.fb = p := fun e => hn1 e.symm
      have hbq : x.b.length ≤ sumF L := sumF_mem hxm
      have hq := HG.out.2.2
      have HLF := Lib.hid hlF
      have HNX := Lib.hid (crI_next L ks i hiL)
      have HSM := Lib.hid (cr_sum L ks i hiL (by rw [← hx]; exact hxb.2))
      have HCI := Lib.hid hcI
      have HXE := Lib.hid hx
      have hcap : t.x.b.length ≤ t.c := by
        obtain ⟨A', cap, e, h1, _⟩ := own_form hT.2
        injection e with _ _ e
        omega
      rw [hlF] at g1 g3 g4 hcap
      have hsm : (sumF ((crL L ks).take i) : Int) ≤ 1073741824 := by
        have h := hX.2.2.2.2.2.2.1.2.2
        unfold crI at h
        rw [sumF_app] at h
        omega
      obtain ⟨sm, hsme⟩ : ∃ sm, sumF ((crL L ks).take i) = sm := ⟨_, rfl⟩
      rw [hsme] at hsm f1 f3 f4 BP
      have HSE := Lib.hid hsme
      obtain ⟨mv, hmv⟩ : ∃ mv, moreF x ks[i]? = mv := ⟨_, rfl⟩
      have hmb := more_bd hxb.2 ks[i]?
      rw [hmv] at hmb
      obtain ⟨hm0, hm1⟩ := hmb
      obtain ⟨k, hk⟩ : ∃ k : Nat, x.syn + mv = k := ⟨(x.syn + mv).toNat, by omega⟩
      have HMV := Lib.hid hmv
      have HKK := Lib.hid hk
      obtain ⟨hx0, hx1⟩ := hxb.2
      have hkx : k ≤ x.b.length := by omega
      have hxl : x.b.length ≤ 1073741824 := by omega
      have CT := Lib.hid (fun w4 A4 c4 h1 h2 => crash_turn (A4 := A4) (c4 := c4) (k := k) (w4 := w4) HX.out (by rw [hlF]; exact hkx) h1 h2)
      have HO := Lib.hid hT.2
      have HNO := Lib.hid (show (Value.slice t.A x.b.length t.c).ownBlock ≠ some t.fb from fun e => by
        rw [foot_own t x.b.length t.c, e] at a4; simp at a4)
      rw [hlF] at HO BT CT
      have PUTE := Lib.hid (show putF ⟨x.name, x.b.take k, k⟩ (crI L ks i) = crI L ks (i + 1) by
        rw [HNX.out, hcI]
        rw [hcI] at hX
        rw [put_mid x (⟨x.name, x.b.take k, k⟩ : Fi) rfl _ _ hX.2.2.2.2.2.2.1.1, ← hx]
        unfold crX
        rw [hmv, hk]; rfl)
      have SUME := Lib.hid (show (sumF ((crL L ks).take (i + 1)) : Int) = (sm : Int) + k by
        have := HSM.out
        rw [← hx, hmv, hk, hsme] at this
        exact this)
      clear hX hnm hnm2 hcI hmemI hlkI hlk ha ht hT hxm hq hbq hsme hmv hlF hx hxb a1 a2 a3 a4 a5 hnb
      clear HLF
      by_cases hi2 : i < n2
      · have hii : (i : Int) < n2 := by omega
        obtain ⟨kb, ko, rfl, hkb, hkc⟩ := (RK1.out.frm HF.out hs1 HA2.out).int hi2
        obtain ⟨z, hz⟩ : ∃ z, z = ks.getD i 0 := ⟨_, rfl⟩
        rw [← hz] at hkc
        have hmn : min (max z 0) ((x.b.length : Int) - x.syn) = mv := by
          rw [← HMV.out, getD_some (by omega) 0, ← hz]; rfl
        clear hz hkb
        go_wp2_with (at_lookup; refine wpList_look rfl _ _ rfl M _ _ rfl HM.out x.name hnl rfl _ HY.out ?_)
        go_quiet (fail)
        go_wp2
        obtain ⟨w5, hw5⟩ : ∃ w5, (wr.drewN nq).setCell ⟨t.fb, 1, none⟩ (.int .i64 (k : Int)) = w5 := ⟨_, rfl⟩
        have h5s : w5.heap.size = wr.heap.size := by rw [← hw5]; simp [World.setCell, World.drewN]
        have BB := Lib.hid (show ∀ w4, Below w5.heap.size w5 w4 → Below wr.heap.size (wr.setCell ⟨t.fb, 1, none⟩ (.int .i64 (k : Int))) w4 from fun w4 h => by
          rw [h5s, ← hw5] at h
          exact ⟨h.os, h.tape, h.output, by have := h.size; simpa [World.setCell, World.drewN] using this, h.block⟩)
        have T5 := Lib.hid (show Box w5 t.fb (fbC t.A x.b.length t.c k) by
          have := (BT.out.drewN nq).set_same 1 (.int .i64 (k : Int))
          rw [fbC_set1] at this
          rw [← hw5]; exact this)
        have P5 := Lib.hid (show Box w5 p (stC q sm M fu dn) by rw [← hw5]; exact (BP.out.drewN nq).set_other _ _ hn2')
        have OO := Lib.hid (show w5.ownsRow 0 5 1 (.slice t.A x.b.length t.c) x.b.length (x.b.map bv) by
          rw [← hw5]
          exact own_set_ne (show (wr.drewN nq).ownsRow _ _ _ _ _ _ from HO.out) (p := ⟨t.fb, 1, none⟩) (fun e => HNO.out (by rw [e])) _)
        rw [hw5]
        clear hw5 f1 f2 f3 f4 g1 g2 g3 g4
        have hf5 := T5.out.lt
        have hp5 := P5.out.lt
        have hkl2 : (k : Int) ≤ x.b.length := by omega
        have hkc2 : (k : Int) ≤ t.c := by omega
        go_cut [63] from 53 to 65 (fun s63 wx => ∃ A4 c4 w4, s63 = .slice A4 k c4 ∧ wx = w4.setCell ⟨t.fb, 0, none⟩ (.slice A4 k c4) ∧ w4.ownsRow w5.heap.size 5 1 (.slice A4 k c4) k ((x.b.take k).map bv) ∧ Below w5.heap.size w5 w4)
        case first =>
          have KS := Lib.hid (show ∀ W', Below w5.heap.size w5 W' → W'.cell? ⟨t.fb, 0, none⟩ = some (.slice t.A x.b.length t.c) ∧ W'.cell? ⟨t.fb, 1, none⟩ = some (.int .i64 (k : Int)) from fun W' h => by
            obtain ⟨h1, _⟩ := (T5.out.below h hf5).facts
            exact ⟨by rw [h1]; rfl, by rw [h1]; rfl⟩)
          have TC := Lib.hid (fun W' (h : Below w5.heap.size w5 W') => T5.out.below h hf5)
          have CL := Lib.hid (fun W (h : Below w5.heap.size w5 W) => cloneY_any (x.b.take k) t.A k t.c W (by
            have := Rd.upto (RdB.of_own (own_below OO.out h)) hkx
            rw [Nat.mul_one, List.map_take.symm] at this
            exact this) (by omega))
          obtain ⟨s1, s2⟩ := KS.out _ (Below.refl _ _)
          go_region_with
            (first | (go_at_call 36; (with_reducible refine (CL.out w5.drew (Below.refl _ _).drew).mono ?_); rintro e w4 ⟨A4, c4, rfl, hr4, hb4⟩; have HB4 := Lib.hid (below1d hb4); have R4 := Lib.hid hr4; obtain ⟨z1, z2, z3, z4⟩ := (TC.out w4 HB4.out).facts; clear hb4 hr4))
          all_goals
            go_wp2_with fail
            go_meet
            case rel => exact ⟨A4, c4, w4, rfl, rfl, R4.out, HB4.out⟩
        case rest =>
          obtain ⟨A4, c4, w4, rfl, rfl, ho4, hb4⟩ := hcut
          have T6 := (T5.out.below hb4 hf5).set_same 0 (.slice A4 k c4)
          rw [fbC_set0] at T6
          have P6 := (P5.out.below hb4 hp5).set_other ⟨t.fb, 0, none⟩ (.slice A4 k c4) hn2'
          obtain ⟨F2, k1, k2, k3⟩ := CT.out w4 A4 c4 (BB.out w4 hb4) (by rw [← h5s]; exact ho4)
          rw [PUTE.out, HSE.out] at k1
          rw [HSE.out] at k2
          have K1 := Lib.hid k1
          have K2 := Lib.hid k2
          have K3 := Lib.hid k3
          clear k1 k2 k3 ho4 hb4 CT
          obtain ⟨f1, f2, f3, f4⟩ := P6.facts
          obtain ⟨g1, g2, g3, g4⟩ := T6.facts
          obtain ⟨w6, hw6⟩ : ∃ w6, w4.setCell ⟨t.fb, 0, none⟩ (.slice A4 k c4) = w6 := ⟨_, rfl⟩
          rw [hw6] at f1 f2 f3 f4 g1 g2 g3 g4 K1 K2 ⊢
          clear hw6 P6 T6
          go_wp2_with fail
          go_region
          go_wp2
          go_roundw
          case rel =>
            have hsz := HF.out.size
            exact ⟨i + 1, F2, _, by omega, by go_num, by rw [SUME.out]; exact K1.out.agree (fun _ _ => rfl), (HF.out.trans (K2.out.drewN 1) (fun g hg => HSUB.out g hg)), fun b hb => by
              rcases K3.out b hb with h | h
              · exact HSUB.out b h
              · exact .inr (by omega)⟩
          case measure => simp [intOf] <;> omega
      · have hd : decide ((i : Int) < n2) = false := by simp; omega
        have hmv0 : mv = 0 := by
          rw [← HMV.out, List.getElem?_eq_none (by omega)]; rfl
        replace hk : x.syn = k := by omega
        clear hmv0
        go_wp2_with (at_lookup; refine wpList_look rfl _ _ rfl M _ _ rfl HM.out x.name hnl rfl _ HY.out ?_)
        obtain ⟨w5, hw5⟩ : ∃ w5, wr.setCell ⟨t.fb, 1, none⟩ (.int .i64 (k : Int)) = w5 := ⟨_, rfl⟩
        have h5s : w5.heap.size = wr.heap.size := by rw [← hw5]; simp [World.setCell, World.drewN]
        have BB := Lib.hid (show ∀ w4, Below w5.heap.size w5 w4 → Below wr.heap.size (wr.setCell ⟨t.fb, 1, none⟩ (.int .i64 (k : Int))) w4 from fun w4 h => by
          rw [h5s, ← hw5] at h
          exact ⟨h.os, h.tape, h.output, by have := h.size; simpa [World.setCell, World.drewN] using this, h.block⟩)
        have T5 := Lib.hid (show Box w5 t.fb (fbC t.A x.b.length t.c k) by
          have := BT.out.set_same 1 (.int .i64 (k : Int))
          rw [fbC_set1] at this
          rw [← hw5]; exact this)
        have P5 := Lib.hid (show Box w5 p (stC q sm M fu dn) by rw [← hw5]; exact BP.out.set_other _ _ hn2')
        have OO := Lib.hid (show w5.ownsRow 0 5 1 (.slice t.A x.b.length t.c) x.b.length (x.b.map bv) by
          rw [← hw5]
          exact own_set_ne (show wr.ownsRow _ _ _ _ _ _ from HO.out) (p := ⟨t.fb, 1, none⟩) (fun e => HNO.out (by rw [e])) _)
        rw [hw5]
        clear hw5 f1 f2 f3 f4 g1 g2 g3 g4
        have hf5 := T5.out.lt
        have hp5 := P5.out.lt
        have hkl2 : (k : Int) ≤ x.b.length := by omega
        have hkc2 : (k : Int) ≤ t.c := by omega
        go_cut [63] from 53 to 65 (fun s63 wx => ∃ A4 c4 w4, s63 = .slice A4 k c4 ∧ wx = w4.setCell ⟨t.fb, 0, none⟩ (.slice A4 k c4) ∧ w4.ownsRow w5.heap.size 5 1 (.slice A4 k c4) k ((x.b.take k).map bv) ∧ Below w5.heap.size w5 w4)
        case first =>
          have KS := Lib.hid (show ∀ W', Below w5.heap.size w5 W' → W'.cell? ⟨t.fb, 0, none⟩ = some (.slice t.A x.b.length t.c) ∧ W'.cell? ⟨t.fb, 1, none⟩ = some (.int .i64 (k : Int)) from fun W' h => by
            obtain ⟨h1, _⟩ := (T5.out.below h hf5).facts
            exact ⟨by rw [h1]; rfl, by rw [h1]; rfl⟩)
          have TC := Lib.hid (fun W' (h : Below w5.heap.size w5 W') => T5.out.below h hf5)
          have CL := Lib.hid (fun W (h : Below w5.heap.size w5 W) => cloneY_any (x.b.take k) t.A k t.c W (by
            have := Rd.upto (RdB.of_own (own_below OO.out h)) hkx
            rw [Nat.mul_one, List.map_take.symm] at this
            exact this) (by omega))
          obtain ⟨s1, s2⟩ := KS.out _ (Below.refl _ _)
          go_region_with
            (first | (go_at_call 36; (with_reducible refine (CL.out w5.drew (Below.refl _ _).drew).mono ?_); rintro e w4 ⟨A4, c4, rfl, hr4, hb4⟩; have HB4 := Lib.hid (below1d hb4); have R4 := Lib.hid hr4; obtain ⟨z1, z2, z3, z4⟩ := (TC.out w4 HB4.out).facts; clear hb4 hr4))
          all_goals
            go_wp2_with fail
            go_meet
            case rel => exact ⟨A4, c4, w4, rfl, rfl, R4.out, HB4.out⟩
        case rest =>
          obtain ⟨A4, c4, w4, rfl, rfl, ho4, hb4⟩ := hcut
          have T6 := (T5.out.below hb4 hf5).set_same 0 (.slice A4 k c4)
          rw [fbC_set0] at T6
          have P6 := (P5.out.below hb4 hp5).set_other ⟨t.fb, 0, none⟩ (.slice A4 k c4) hn2'
          obtain ⟨F2, k1, k2, k3⟩ := CT.out w4 A4 c4 (BB.out w4 hb4) (by rw [← h5s]; exact ho4)
          rw [PUTE.out, HSE.out] at k1
          rw [HSE.out] at k2
          have K1 := Lib.hid k1
          have K2 := Lib.hid k2
          have K3 := Lib.hid k3
          clear k1 k2 k3 ho4 hb4 CT
          obtain ⟨f1, f2, f3, f4⟩ := P6.facts
          obtain ⟨g1, g2, g3, g4⟩ := T6.facts
          obtain ⟨w6, hw6⟩ : ∃ w6, w4.setCell ⟨t.fb, 0, none⟩ (.slice A4 k c4) = w6 := ⟨_, rfl⟩
          rw [hw6] at f1 f2 f3 f4 g1 g2 g3 g4 K1 K2 ⊢
          clear hw6 P6 T6
          go_wp2_with fail
          go_region
          go_wp2
          go_roundw
          case rel =>
            have hsz := HF.out.size
            exact ⟨i + 1, F2, _, by omega, by go_num, by rw [SUME.out]; exact K1.out.agree (fun _ _ => rfl), (HF.out.trans (K2.out.drewN 1) (fun g hg => HSUB.out g hg)), fun b hb => by
              rcases K3.out b hb with h | h
              · exact HSUB.out b h
              · exact .inr (by omega)⟩
          case measure => simp [intOf] <;> omega
    · obtain rfl : i = n := by omega
      have hd : decide ((i : Int) < i) = false := by simp
      have hE := HX.out
      rw [← HN.out, crI_all] at hE
      have hE2 : PgX F' M l' wr p q (crL L ks) (sumF (crL L ks)) fu dn := by
        rwa [List.take_of_length_le (by rw [crL_len]; exact Nat.le_refl _)] at hE
      have HE := Lib.hid hE2
      clear hE hE2 hX
      go_wp2
      go_end0
      obtain ⟨M', B', K'⟩ := (HE.out.shut rfl).turn
      have B2 := (B'.set_same 3 (.int .i64 (-1))).set_same 4 (.bool false)
      rw [stC_set3, stC_set4] at B2
      obtain ⟨k1, k2⟩ := K' _ (-1) false ⟨by decide, by decide⟩ B2 (grown_setCells [.int .i64 (-1), .bool false] 3 wr (World.grownBy.refl _ _))
      have hsub := HSUB.out
      refine ⟨rfl, F', k1, (FR1.out.trans' HF.out).trans k2 (fun g hg => (hsub g hg).imp id (fun h => Nat.le_trans hs1 h)), fun b hb => (hsub b hb).imp id (fun h => Nat.le_trans hs1 h)⟩
end Go.Proofs.Ytejjobbgceoljaa
