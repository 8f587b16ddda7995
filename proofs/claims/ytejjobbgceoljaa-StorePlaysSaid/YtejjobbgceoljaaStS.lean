/- The program's store: Append. -/
import Derived.Test.YtejjobbgceoljaaStR
set_option linter.unusedSimpArgs false
set_option linter.unusedVariables false
namespace Go.Proofs.Ytejjobbgceoljaa
open Go.RowKit

def whyApp (q : Int) (L : List Fi) (s : List UInt8) (n : Nat) : Int := if okName s = false then 1 else if q < (sumF L : Int) + n then 7 else 0
def grF (L : List Fi) (s bs : List UInt8) : Fi := match lookF L s with | some f => { f with b := f.b ++ bs } | none => ⟨s, bs, 0⟩
def appF (L : List Fi) (s bs : List UInt8) (r : Int × Int × Bool) : List Fi := if r.1 = 0 then putF (grF L s bs) L else L
theorem foot_own (r : Pl) (n c : Nat) : r.foot = r.fb :: ((Value.slice r.A n c).ownBlock).toList := by
  unfold Pl.foot
  cases r.A <;> rfl
theorem RdB.frm {F : List Nat} {w w' : World} {B n : Nat} {A : Option Addr} {l : List UInt8} (h : RdB w B A n l) (hf : Frm F w w') (hB : B ≤ w.heap.size) (hA : 0 < n → ∀ a, A = some a → a.block ∉ F) : RdB w' B A n l :=
  ⟨h.1, fun hn => by
    obtain ⟨a, e, hb, hc⟩ := h.2 hn
    refine ⟨a, e, hb, fun j u hu => ?_⟩
    rw [← hc j u hu]
    refine World.cell?_of_block ?_
    rw [add_block]
    exact hf.block _ (by omega) (hA hn a e)⟩
section
variable {F : List Nat} {M : Nat} {l l1 l2 : List Pl} {t : Pl} {w2 w3 w4 : World} {p : Nat} {q : Int} {L : List Fi} {fu : Int} {dn : Bool}
theorem app_turn {A' : Option Addr} {k c' : Nat} {bs : List UInt8} (hX : PgX F M (l1 ++ ([t] ++ l2)) w2 p q L (sumF L) fu dn) (hgr : w2.grownBy w3 (Value.slice t.A t.x.b.length t.c).ownBlock)
    (hown : w3.ownsRow 0 5 1 (.slice A' k c') k ((t.x.b ++ bs).map bv)) (hk : (t.x.b ++ bs).length = k) (hat : (Value.slice A' k c').ownBlock = (Value.slice t.A t.x.b.length t.c).ownBlock ∨ (Value.slice A' k c').ownBlock = some w2.heap.size)
    (hlk : lookF L t.x.name = some t.x) (hq : (sumF L : Int) + bs.length ≤ q) :
    ∃ F', PgS F' ((w3.setCell ⟨t.fb, 0, none⟩ (.slice A' k c')).setCell ⟨p, 1, none⟩ (.int .i64 ((sumF L : Int) + bs.length))) p q (putF (⟨t.x.name, t.x.b ++ bs, t.x.syn⟩ : Fi) L) fu dn ∧
      Frm F w2 ((w3.setCell ⟨t.fb, 0, none⟩ (.slice A' k c')).setCell ⟨p, 1, none⟩ (.int .i64 ((sumF L : Int) + bs.length))) ∧ (∀ b ∈ F', b ∈ F ∨ w2.heap.size ≤ b) := by
  subst hk
  obtain ⟨a1, a2, a3, a4, a5⟩ := hX.apart
  have hG := hX.2.2.2.2.2.2.1
  have hT := hX.2.2.2.2.2.1 t (by simp)
  have hlt := hX.fst
  rw [foot_own t t.x.b.length t.c] at a2 a3 a4 a5
  have hnf : t.fb ≠ p := fun e => a2 (by rw [← e]; simp)
  have hnM : M ≠ t.fb := fun e => a3 (by rw [e]; simp)
  have hoo : ∀ b, some b = (Value.slice t.A t.x.b.length t.c).ownBlock → b ≠ p ∧ b ≠ M ∧ b ≠ t.fb := fun b hb => by
    rw [← hb] at a2 a3 a4
    simp at a2 a3 a4
    exact ⟨fun e => a2.2 e.symm, fun e => a3.2 e.symm, fun e => a4 e.symm⟩
  have hon : ∀ b, some b = (Value.slice A' (t.x.b ++ bs).length c').ownBlock → b ≠ p ∧ b ≠ M ∧ b ≠ t.fb := fun b hb => by
    rcases hat with h | h
    · exact hoo b (hb.trans h)
    · rw [h] at hb
      injection hb with hb
      have := a5 t.fb (by simp)
      omega
  have hsum := sumF_put (⟨t.x.name, t.x.b ++ bs, t.x.syn⟩ : Fi) L hG.1
  rw [show (⟨t.x.name, t.x.b ++ bs, t.x.syn⟩ : Fi).name = t.x.name from rfl, hlk] at hsum
  dsimp only at hsum
  rw [List.length_append] at hsum
  have B3 : Box w3 p (stC q (sumF L) M fu dn) := hX.2.2.2.1.grown hgr (fun e => (hoo p e).1 rfl)
  have T3 : Box w3 t.fb (fbC t.A t.x.b.length t.c t.x.syn) := hT.1.grown hgr (fun e => (hoo _ e).2.2 rfl)
  have T4 := T3.set_same 0 (.slice A' (t.x.b ++ bs).length c')
  rw [fbC_set0] at T4
  have B4 := (B3.set_other ⟨t.fb, 0, none⟩ (.slice A' (t.x.b ++ bs).length c') hnf).set_same 1 (.int .i64 ((sumF L : Int) + bs.length))
  rw [stC_set1] at B4
  have O4 := own_set_ne (own_set_ne hown (p := ⟨t.fb, 0, none⟩) (fun e => (hon _ e.symm).2.2 rfl) (.slice A' (t.x.b ++ bs).length c')) (p := ⟨p, 1, none⟩) (fun e => (hon _ e.symm).1 rfl) (.int .i64 ((sumF L : Int) + bs.length))
  have hM : ((w3.setCell ⟨t.fb, 0, none⟩ (.slice A' (t.x.b ++ bs).length c')).setCell ⟨p, 1, none⟩ (.int .i64 ((sumF L : Int) + bs.length))).heap[M]? = w2.heap[M]? := by
    rw [Below.heap_setCell _ _ _ _ (fun e => a1 e.symm), Below.heap_setCell _ _ _ _ hnM]
    exact hgr.block M hlt.2 (fun e => (hoo M e).2.1 rfl)
  have hsyn := (hG.2.1 t.x (by rw [← hX.1]; simp)).2
  obtain ⟨F', k1, k2, k3⟩ := hX.file (r' := ⟨(⟨t.x.name, t.x.b ++ bs, t.x.syn⟩ : Fi), t.fb, A', c'⟩) (sz' := (sumF L : Int) + bs.length) (L' := putF (⟨t.x.name, t.x.b ++ bs, t.x.syn⟩ : Fi) L)
    (((Frm.of_grown (F := p :: M :: t.foot) hgr (fun j hj => .inl (by rw [foot_own t t.x.b.length t.c, hj]; simp))).set ⟨t.fb, 0, none⟩ _ (.inl (by simp [Pl.foot]))).set ⟨p, 1, none⟩ _ (.inl (by simp))) B4 hM ⟨T4.set_other _ _ (fun e => hnf e.symm), O4⟩
    (by
      rw [foot_own _ (t.x.b ++ bs).length c']
      dsimp only
      cases h : (Value.slice A' (t.x.b ++ bs).length c').ownBlock with
      | none => simp
      | some b => have := (hon b h.symm).2.2; simp; exact fun e => this e.symm)
    (fun j hj => by
      rw [foot_own _ (t.x.b ++ bs).length c'] at hj
      dsimp only at hj
      rw [foot_own t t.x.b.length t.c]
      rcases List.mem_cons.1 hj with rfl | hj
      · simp
      · rcases hat with h | h
        · rw [h] at hj; exact .inl (List.mem_cons_of_mem _ hj)
        · rw [h] at hj; simp at hj; exact .inr (by omega))
    rfl rfl ⟨hsyn.1, by dsimp only; rw [List.length_append]; omega⟩ rfl (by omega) hX.2.2.2.2.2.2.2
  exact ⟨F', k1.shut (by omega), k2, k3⟩
theorem app_new {s : List UInt8} {A' : Option Addr} {k c' : Nat} {bs : List UInt8} (hX : PgX F M l w2 p q L (sumF L) fu dn) (hno : lookP l s = none) (hs : s.length ≤ 100000)
    (H3 : ∀ g : List UInt8 → Option Nat, (∀ t, g t = if t = s then some w2.heap.size else atP l t) → HasM w3 M (l.length + 1) g) (g3 : (w2.alloc (.cells (fbC none 0 0 0) 72)).grownBy w3 (some M))
    (hgr : w3.grownBy w4 none) (hown : w4.ownsRow 0 5 1 (.slice A' k c') k (bs.map bv)) (hk : bs.length = k) (hat : (Value.slice A' k c').ownBlock = none ∨ (Value.slice A' k c').ownBlock = some w3.heap.size)
    (hq : (sumF L : Int) + bs.length ≤ q) :
    ∃ F', PgS F' ((w4.setCell ⟨w2.heap.size, 0, none⟩ (.slice A' k c')).setCell ⟨p, 1, none⟩ (.int .i64 ((sumF L : Int) + bs.length))) p q (putF ⟨s, bs, 0⟩ L) fu dn ∧
      Frm F w2 ((w4.setCell ⟨w2.heap.size, 0, none⟩ (.slice A' k c')).setCell ⟨p, 1, none⟩ (.int .i64 ((sumF L : Int) + bs.length))) ∧ (∀ b ∈ F', b ∈ F ∨ w2.heap.size ≤ b) := by
  subst hk
  have hG := hX.2.2.2.2.2.2.1
  have hlt := hX.fst
  have hpM : p ≠ M := by
    have := hX.2.2.1
    rw [hX.2.1] at this
    intro e; rw [e] at this; simp at this
  have hs3 : w2.heap.size + 1 ≤ w3.heap.size := by have := g3.size; simpa using this
  have hlk : lookF L s = none := by rw [← hX.1, look_map, hno]; rfl
  have hsum := sumF_put ⟨s, bs, 0⟩ L hG.1
  dsimp only at hsum
  rw [hlk] at hsum
  dsimp only at hsum
  have hon : ∀ b, some b = (Value.slice A' bs.length c').ownBlock → w2.heap.size < b := fun b hb => by
    rcases hat with h | h
    · rw [h] at hb; cases hb
    · rw [h] at hb; injection hb with hb; omega
  have B3 : Box w4 p (stC q (sumF L) M fu dn) := ((hX.2.2.2.1.alloc _).grown g3 (fun e => hpM (by injection e))).grown hgr (by simp)
  have T3 : Box w4 w2.heap.size (fbC none 0 0 0) := ((Box.new w2 _ _).grown g3 (fun e => by injection e with e; omega)).grown hgr (by simp)
  have T4 := T3.set_same 0 (.slice A' bs.length c')
  rw [fbC_set0] at T4
  have B4 := (B3.set_other ⟨w2.heap.size, 0, none⟩ (.slice A' bs.length c') (by show w2.heap.size ≠ p; omega)).set_same 1 (.int .i64 ((sumF L : Int) + bs.length))
  rw [stC_set1] at B4
  have O4 := own_set_ne (own_set_ne hown (p := ⟨w2.heap.size, 0, none⟩) (fun e => by have := hon _ e.symm; exact absurd this (by simp)) (.slice A' bs.length c')) (p := ⟨p, 1, none⟩) (fun e => by have := hon _ e.symm; have := hlt.1; simp only at *; omega) (.int .i64 ((sumF L : Int) + bs.length))
  have hM : ((w4.setCell ⟨w2.heap.size, 0, none⟩ (.slice A' bs.length c')).setCell ⟨p, 1, none⟩ (.int .i64 ((sumF L : Int) + bs.length))).heap[M]? = w3.heap[M]? := by
    rw [Below.heap_setCell _ _ _ _ (fun e => hpM e.symm), Below.heap_setCell _ _ _ _ (by show M ≠ w2.heap.size; omega)]
    exact hgr.block M (by omega) (by simp)
  obtain ⟨F', l', k1, k2, k3, _⟩ := hX.ins (r := ⟨⟨s, bs, 0⟩, w2.heap.size, A', c'⟩) (sz' := (sumF L : Int) + bs.length) (L' := putF ⟨s, bs, 0⟩ L) hno
    ((((((Frm.refl [p, M] w2).alloc _).grown g3 (fun j hj => .inl (by injection hj with hj; simp [hj]))).grown hgr (fun j hj => by cases hj)).set ⟨w2.heap.size, 0, none⟩ _ (.inr (Nat.le_refl _))).set ⟨p, 1, none⟩ _ (.inl (by simp))) B4
    (fun g hg => (H3 g hg).agree hM) ⟨T4.set_other _ _ (by show p ≠ w2.heap.size; omega), O4⟩
    (by
      rw [foot_own _ bs.length c']
      dsimp only
      cases h : (Value.slice A' bs.length c').ownBlock with
      | none => simp
      | some b => have := hon b h.symm; simp; omega)
    (fun j hj => by
      rw [foot_own _ bs.length c'] at hj
      dsimp only at hj
      rcases List.mem_cons.1 hj with rfl | hj
      · exact Nat.le_refl _
      · cases h : (Value.slice A' bs.length c').ownBlock with
        | none => rw [h] at hj; simp at hj
        | some b => rw [h] at hj; simp at hj; have := hon b h.symm; omega)
    rfl (good_put hG hs ⟨Int.le_refl _, by simp⟩ (by omega)) hX.2.2.2.2.2.2.2
  exact ⟨F', k1.shut (by omega), k2, k3⟩
end
set_option maxRecDepth 100000 in
set_option maxHeartbeats 4000000 in
theorem append_any (F : List Nat) (p : Nat) (q fu : Int) (dn : Bool) (L : List Fi) (s bs : List UInt8) (A : Option Addr) (n c : Nat) (w : World) (hS : PgS F w p q L fu dn) (hs : s.length ≤ 100000) (hL : L.length ≤ 10000) (hR : RdB w w.heap.size A n bs) (hA : 0 < n → ∀ a, A = some a → a.block ∉ F) (hn : n ≤ 9223372036854775807) (r : Int × Int × Bool) (hr : endsF (whyApp q L s n) fu dn = r) :
    Calls Try.prog 25 #[.pointer (some ⟨p, 0, none⟩), .string (textOf s), .slice A n c] w (PgP F w p q (appF L s bs r) r.2.1 r.2.2 (.int .i64 r.1)) := by
  have NA := Lib.hid (name_any s w (by omega))
  have MA := Lib.hid (fun why W (h : PgS F W p q L fu dn) (hy : endsF why fu dn = r) => may_pg F p q fu why dn L W h r hy)
  have HS := Lib.hid hS
  have HR := Lib.hid hr
  have HA := Lib.hid hA
  have HRD := Lib.hid hR
  have HBL := Lib.hid hR.len
  obtain ⟨M0, l0, hX0⟩ := hS.open_
  have B0 := Lib.hid hX0.2.2.2.1
  have hsb : (sumF L : Int) ≤ q := hX0.2.2.2.2.2.2.1.2.2.1
  have hq1 : 1 ≤ q ∧ q ≤ 1073741824 := hX0.2.2.2.2.2.2.1.2.2.2
  obtain ⟨hq1, hq2⟩ := hq1
  clear hX0 hS hr hA hR
  cases hok : okName s with
  | false =>
    have hw : whyApp q L s n = 1 := by unfold whyApp; rw [if_pos hok]
    have h1 : endsF 1 fu dn = r := by rw [← HR.out, hw]
    have hr0 : r.1 ≠ 0 := by rw [← h1]; exact ends_ne (by decide)
    have SY := Lib.hid (show appF L s bs r = L by unfold appF; rw [if_neg hr0])
    have hz1 : (r.1 == 0) = false := by simpa using hr0
    have hz2 : (r.1 != 0) = true := by simpa using hr0
    have hz3 : decide (r.1 = 0) = false := by simpa using hr0
    have E1 := Lib.hid h1
    rw [hok] at NA
    clear hw h1 hr0 hok
    go_enter Try.func25, Try.ntmps25
    go_wp2_with fail
    refine NA.out.mono ?_
    rintro e w1 ⟨rfl, hb1⟩
    have HB1 := Lib.hid hb1
    clear hb1
    go_wp2_with fail
    refine (MA.out 1 w1 (HS.out.go HB1.out) E1.out).mono ?_
    intro e w2 hM2
    obtain ⟨rfl, _⟩ := id hM2
    have FIN := Lib.hid hM2
    clear hM2
    go_wp2
    go_ret
    rw [SY.out]
    exact ⟨rfl, F, FIN.out.2.1, (Frm.of_below HB1.out).trans' FIN.out.2.2, fun b hb => .inl hb⟩
  | true =>
    by_cases hbig : q < (sumF L : Int) + n
    · have hw : whyApp q L s n = 7 := by unfold whyApp; rw [if_neg (by rw [hok]; simp), if_pos hbig]
      have h1 : endsF 7 fu dn = r := by rw [← HR.out, hw]
      have hr0 : r.1 ≠ 0 := by rw [← h1]; exact ends_ne (by decide)
      have SY := Lib.hid (show appF L s bs r = L by unfold appF; rw [if_neg hr0])
      have hz1 : (r.1 == 0) = false := by simpa using hr0
      have hz2 : (r.1 != 0) = true := by simpa using hr0
      have hz3 : decide (r.1 = 0) = false := by simpa using hr0
      have E1 := Lib.hid h1
      rw [hok] at NA
      have hd : decide (q - (sumF L : Int) < (n : Int)) = true := by simp; omega
      clear hw h1 hr0 hok hbig
      go_enter Try.func25, Try.ntmps25
      go_wp2_with fail
      refine NA.out.mono ?_
      rintro e w1 ⟨rfl, hb1⟩
      have HB1 := Lib.hid hb1
      clear hb1
      obtain ⟨f1, f2, f3, f4⟩ := (B0.out.go HB1.out).facts
      go_wp2_with fail
      go_quiet (fail)
      go_wp2_with fail
      have HS1 := Lib.hid ((HS.out.go HB1.out))
      refine (MA.out 7 (w1.drewN _) (HS1.out.agree (W' := w1.drewN _) (fun _ _ => rfl)) E1.out).mono ?_
      intro e w2 hM2
      obtain ⟨rfl, _⟩ := id hM2
      have FIN := Lib.hid hM2
      clear hM2 f1 f2 f3 f4
      go_wp2
      go_ret
      rw [SY.out]
      exact ⟨rfl, F, FIN.out.2.1, ((Frm.of_below HB1.out).drewN _).trans' FIN.out.2.2, fun b hb => .inl hb⟩
    · have hw : whyApp q L s n = 0 := by unfold whyApp; rw [if_neg (by rw [hok]; simp), if_neg hbig]
      have h1 : endsF 0 fu dn = r := by rw [← HR.out, hw]
      have E1 := Lib.hid h1
      rw [hok] at NA
      have hd : decide (q - (sumF L : Int) < (n : Int)) = false := by simp; omega
      have hnq : (sumF L : Int) + n ≤ q := by omega
      clear hw h1 hok hbig
      by_cases hr0 : r.1 = 0
      · have hz1 : (r.1 == 0) = true := by simpa using hr0
        have hz2 : (r.1 != 0) = false := by simpa using hr0
        have hz3 : decide (r.1 = 0) = true := by simpa using hr0
        have HR0 := Lib.hid hr0
        obtain ⟨i0, hi0, hi1, hi2, hi3⟩ := infoU8
        have HI0 := Lib.hid hi0
        have HI1 := Lib.hid hi1
        have HI2 := Lib.hid hi2
        have HI3 := Lib.hid hi3
        have HNQ := Lib.hid hnq
        clear hr0 hi0 hi1 hi2 hi3
        go_enter Try.func25, Try.ntmps25
        go_wp2_with fail
        refine NA.out.mono ?_
        rintro e w1 ⟨rfl, hb1⟩
        have HB1 := Lib.hid hb1
        clear hb1
        obtain ⟨f1, f2, f3, f4⟩ := (B0.out.go HB1.out).facts
        go_wp2_with fail
        go_quiet (fail)
        go_wp2_with fail
        have HS1 := Lib.hid ((HS.out.go HB1.out))
        refine (MA.out 0 (w1.drewN _) (HS1.out.agree (W' := w1.drewN _) (fun _ _ => rfl)) E1.out).mono ?_
        rintro e w2 ⟨rfl, hS2, hf2⟩
        have FR2 := Lib.hid (((Frm.of_below HB1.out).drewN _).trans' hf2)
        have RD2 := Lib.hid (HRD.out.frm FR2.out (Nat.le_refl _) HA.out)
        obtain ⟨M, l, hX⟩ := hS2.open_
        have HX := Lib.hid hX
        have hll : l.length = L.length := by rw [← hX.1, List.length_map]
        clear f1 f2 f3 f4 hf2 hS2
        obtain ⟨f1, f2, f3, f4⟩ := hX.2.2.2.1.facts
        have HM := Lib.hid hX.2.2.2.2.1
        have hp2 := hX.fst
        have ONE := Lib.hid (bvs_one bs)
        rcases look_whyAt hX.1 s with ⟨hlk, _, hlF, ha⟩ | ⟨t, hlk, _, hlF, ha, ht⟩
        · have HY := Lib.hid (show ptrV (atP l s) = .pointer none by rw [ha]; rfl)
          have HO := Lib.hid (show (atP l s).isSome = false by rw [ha]; rfl)
          have HLK := Lib.hid hlk
          have HLF := Lib.hid hlF
          have HMa := Lib.hid (HM.out.agree (Below.heap_alloc w2 (.cells (fbC none 0 0 0) 72) M hp2.2))
          have BPa := Lib.hid (hX.2.2.2.1.alloc (.cells (fbC none 0 0 0) 72))
          have BFa := Lib.hid (Box.new w2 (fbC none 0 0 0) 72)
          have hpM : p ≠ M := by
            have := hX.2.2.1
            rw [hX.2.1] at this
            intro e; rw [e] at this; simp at this
          have HPM := Lib.hid hpM
          obtain ⟨hpl, hMl⟩ := hp2
          have hn1 : ¬ p = w2.heap.size := by omega
          have hn2 : ¬ w2.heap.size = p := by omega
          have O0 := Lib.hid (fun W : World => World.ownsRow_nil W 0 5 1)
          have H63 := Lib.hid (show 0 + n ≤ maxLen by unfold maxLen; omega)
          have HBY := Lib.hid (show (0 + n) * i0.bytes ≤ 140737488355328 from Nat.le_trans (Nat.mul_le_mul (show 0 + n ≤ 1073741824 by omega) HI3.out) (by omega))
          have HLL := Lib.hid (show l.length ≤ 100000 by omega)
          clear hX hlk hlF ha hpM hll
          go_wp2_with (first
            | (at_lookup; refine wpList_look_ok rfl _ _ rfl M _ _ rfl HM.out s hs rfl _ _ HY.out HO.out ?_)
            | (at_mapUpdate; refine wpList_upd rfl _ _ _ rfl M _ _ rfl HMa.out HLL.out s hs rfl _ rfl ?_; intro w3 h3 g3; have H3 := Lib.hid h3; have G3 := Lib.hid g3; clear h3 g3 f1 f2 f3 f4; obtain ⟨f1, f2, f3, f4⟩ := (BPa.out.grown G3.out (fun e => HPM.out (by injection e))).facts; obtain ⟨g1, g2, g3, g4⟩ := (BFa.out.grown G3.out (fun e => by injection e with e; omega)).facts; have RD3 := Lib.hid (RD2.out.frm (((Frm.refl [M] w2).alloc (.cells (fbC none 0 0 0) 72)).grown G3.out (fun j hj => .inl (by injection hj with hj; simp [hj]))) FR2.out.size (fun h0 a ha hm => by simp at hm; exact absurd (HA.out h0 a ha) (by rw [HX.out.2.1, hm]; simp))))
            | (at_builtin; refine wpList_app_rd _ rfl (.tmp 57) (.tmp 58) _ rfl 0 5 i0 (.int .u8 0) 1 i0.bytes Try.underlying32 HI0.out HI1.out HI2.out rfl rfl (Nat.succ_pos _) (.slice none 0 0) 0 [] rfl (O0.out _) w.heap.size A n c (bs.map bv) rfl RD3.out ONE.out H63.out HBY.out (Nat.zero_le _) ?_; intro v1 w4 hown1 hg1 hat1; obtain ⟨A', c', rfl, _, _⟩ := own_form hown1; rw [Nat.zero_add, List.nil_append] at hown1; have O4 := Lib.hid hown1; have G4 := Lib.hid hg1; have AT4 := Lib.hid hat1; clear hown1 hg1 hat1 f1 f2 f3 f4 g1 g2 g3 g4; obtain ⟨f1, f2, f3, f4⟩ := ((BPa.out.grown G3.out (fun e => HPM.out (by injection e))).grown G4.out (by simp [Value.ownBlock])).facts; obtain ⟨g1, g2, g3, g4⟩ := ((BFa.out.grown G3.out (fun e => by injection e with e; omega)).grown G4.out (by simp [Value.ownBlock])).facts; have hsz4 := G4.out.size; have hsz3 := G3.out.size))
          go_ret
          have hbl := HBL.out
          obtain ⟨F', k1, k2, k3⟩ := app_new (s := s) HX.out HLK.out hs (fun g hg => by
            have := H3.out g hg
            rw [HO.out] at this
            exact this) G3.out G4.out O4.out hbl (by have := AT4.out; rwa [Nat.zero_add] at this) (by rw [hbl]; exact HNQ.out)
          rw [hbl] at k1 k2
          refine ⟨by rw [HR0.out]; rfl, F', ?_, FR2.out.trans' k2, fun b hb => (k3 b hb).imp id (fun h => Nat.le_trans FR2.out.size h)⟩
          unfold appF grF
          rw [if_pos HR0.out, HLF.out]
          exact k1
        · obtain ⟨l1, l2, rfl, hnm⟩ := look_split hlk
          have HY := Lib.hid (show ptrV (atP (l1 ++ ([t] ++ l2)) s) = .pointer (some ⟨t.fb, 0, none⟩) by rw [ha]; rfl)
          have HO := Lib.hid (show (atP (l1 ++ ([t] ++ l2)) s).isSome = true by rw [ha]; rfl)
          have HLF := Lib.hid hlF
          have HNM := Lib.hid hnm
          obtain ⟨a1, a2, a3, a4, a5⟩ := hX.apart
          rw [foot_own t t.x.b.length t.c] at a2 a4
          have hT := hX.2.2.2.2.2.1 t ht
          have HT := Lib.hid hT
          obtain ⟨g1, g2, g3, g4⟩ := hT.1.facts
          have hfl := hT.1.lt
          have BP := Lib.hid hX.2.2.2.1
          have hn1 : ¬ p = t.fb := fun e => a2 (by rw [e]; simp)
          have hn2 : ¬ t.fb = p := fun e => hn1 e.symm
          have HOW := Lib.hid (show (Value.slice t.A t.x.b.length t.c).ownBlock ≠ some p ∧ (Value.slice t.A t.x.b.length t.c).ownBlock ≠ some t.fb from
            ⟨fun e => a2 (by rw [e]; simp), fun e => by rw [e] at a4; simp at a4⟩)
          have hb : t.x.b.length ≤ sumF L := sumF_mem (by rw [← hX.1]; exact List.mem_map.2 ⟨t, ht, rfl⟩)
          have H63 := Lib.hid (show t.x.b.length + n ≤ maxLen by unfold maxLen; omega)
          have HBY := Lib.hid (show (t.x.b.length + n) * i0.bytes ≤ 140737488355328 from Nat.le_trans (Nat.mul_le_mul (show t.x.b.length + n ≤ 1073741824 by omega) HI3.out) (by omega))
          clear hX hlk hlF ha hnm ht a1 a2 a3 a4 a5 hT hb hll
          go_wp2_with (first
            | (at_lookup; refine wpList_look_ok rfl _ _ rfl M _ _ rfl HM.out s hs rfl _ _ HY.out HO.out ?_)
            | (at_builtin; refine wpList_app_rd _ rfl (.tmp 57) (.tmp 58) _ rfl 0 5 i0 (.int .u8 0) 1 i0.bytes Try.underlying32 HI0.out HI1.out HI2.out rfl rfl (Nat.succ_pos _) (.slice t.A t.x.b.length t.c) t.x.b.length (t.x.b.map bv) rfl HT.out.2 w.heap.size A n c (bs.map bv) rfl RD2.out ONE.out H63.out HBY.out (Nat.zero_le _) ?_; intro v1 w4 hown1 hg1 hat1; obtain ⟨A', c', rfl, _, _⟩ := own_form hown1; rw [← List.map_append] at hown1; have O4 := Lib.hid hown1; have G4 := Lib.hid hg1; have AT4 := Lib.hid hat1; clear hown1 hg1 hat1 f1 f2 f3 f4 g1 g2 g3 g4; obtain ⟨f1, f2, f3, f4⟩ := (BP.out.grown G4.out (fun e => HOW.out.1 e.symm)).facts; obtain ⟨g1, g2, g3, g4⟩ := (HT.out.1.grown G4.out (fun e => HOW.out.2 e.symm)).facts; have hsz4 := G4.out.size))
          go_ret
          have hbl := HBL.out
          have hlk2 := HLF.out
          rw [← HNM.out] at hlk2
          obtain ⟨F', k1, k2, k3⟩ := app_turn HX.out G4.out O4.out (by rw [List.length_append, hbl]) AT4.out hlk2 (by rw [hbl]; exact HNQ.out)
          rw [hbl] at k1 k2
          refine ⟨by rw [HR0.out]; rfl, F', ?_, FR2.out.trans' k2, fun b hb => (k3 b hb).imp id (fun h => Nat.le_trans FR2.out.size h)⟩
          unfold appF grF
          rw [if_pos HR0.out, HLF.out]
          exact k1
      · have SY := Lib.hid (show appF L s bs r = L by unfold appF; rw [if_neg hr0])
        have hz1 : (r.1 == 0) = false := by simpa using hr0
        have hz2 : (r.1 != 0) = true := by simpa using hr0
        have hz3 : decide (r.1 = 0) = false := by simpa using hr0
        clear hr0
        go_enter Try.func25, Try.ntmps25
        go_wp2_with fail
        refine NA.out.mono ?_
        rintro e w1 ⟨rfl, hb1⟩
        have HB1 := Lib.hid hb1
        clear hb1
        obtain ⟨f1, f2, f3, f4⟩ := (B0.out.go HB1.out).facts
        go_wp2_with fail
        go_quiet (fail)
        go_wp2_with fail
        have HS1 := Lib.hid ((HS.out.go HB1.out))
        refine (MA.out 0 (w1.drewN _) (HS1.out.agree (W' := w1.drewN _) (fun _ _ => rfl)) E1.out).mono ?_
        intro e w2 hM2
        obtain ⟨rfl, _⟩ := id hM2
        have FIN := Lib.hid hM2
        clear hM2 f1 f2 f3 f4
        go_wp2
        go_ret
        rw [SY.out]
        exact ⟨rfl, F, FIN.out.2.1, ((Frm.of_below HB1.out).drewN _).trans' FIN.out.2.2, fun b hb => .inl hb⟩
end Go.Proofs.Ytejjobbgceoljaa
