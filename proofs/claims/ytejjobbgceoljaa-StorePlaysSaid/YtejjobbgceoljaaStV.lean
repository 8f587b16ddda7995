/- The program's store: Crash. -/
import Derived.Test.YtejjobbgceoljaaStU
import Derived.Deep.RegionHeld3
import Derived.Deep.Cut
set_option linter.unusedSimpArgs false
set_option linter.unusedVariables false
namespace Go.Proofs.Ytejjobbgceoljaa
open Go.RowKit

/-- how many bytes more a crash leaves of a file -/
def moreF (x : Fi) (o : Option Int) : Int := match o with | some z => min (max z 0) ((x.b.length : Int) - x.syn) | none => 0
def crX (x : Fi) (o : Option Int) : Fi := ⟨x.name, x.b.take (x.syn + moreF x o).toNat, x.syn + moreF x o⟩
def crL (L : List Fi) (ks : List Int) : List Fi := L.mapIdx fun i x => crX x ks[i]?
theorem crL_len (L : List Fi) (ks : List Int) : (crL L ks).length = L.length := by simp [crL]
theorem more_bd {x : Fi} (h : 0 ≤ x.syn ∧ x.syn ≤ x.b.length) (o : Option Int) : 0 ≤ moreF x o ∧ x.syn + moreF x o ≤ x.b.length := by
  unfold moreF
  cases o with
  | none => dsimp only; omega
  | some z => dsimp only; omega
theorem crX_len {x : Fi} (h : 0 ≤ x.syn ∧ x.syn ≤ x.b.length) (o : Option Int) : ((crX x o).b.length : Int) = x.syn + moreF x o := by
  have := more_bd h o
  unfold crX
  dsimp only
  rw [List.length_take]
  omega
def crI (L : List Fi) (ks : List Int) (i : Nat) : List Fi := (crL L ks).take i ++ L.drop i
theorem crI_all (L : List Fi) (ks : List Int) : crI L ks L.length = crL L ks := by
  unfold crI
  rw [List.drop_length, List.append_nil, List.take_of_length_le (by rw [crL_len]; exact Nat.le_refl _)]
theorem crI_at (L : List Fi) (ks : List Int) (i : Nat) (hi : i < L.length) : crI L ks i = (crL L ks).take i ++ L[i] :: L.drop (i + 1) := by
  unfold crI
  rw [List.drop_eq_getElem_cons hi]
theorem crI_next (L : List Fi) (ks : List Int) (i : Nat) (hi : i < L.length) : crI L ks (i + 1) = (crL L ks).take i ++ crX L[i] ks[i]? :: L.drop (i + 1) := by
  unfold crI
  rw [List.take_succ_eq_append_getElem (by rw [crL_len]; exact hi), List.append_assoc]
  congr 1
  simp [crL]
theorem cr_sum (L : List Fi) (ks : List Int) (i : Nat) (hi : i < L.length) (h : 0 ≤ L[i].syn ∧ L[i].syn ≤ L[i].b.length) : (sumF ((crL L ks).take (i + 1)) : Int) = sumF ((crL L ks).take i) + (L[i].syn + moreF L[i] ks[i]?) := by
  rw [List.take_succ_eq_append_getElem (by rw [crL_len]; exact hi), sumF_app, sumF_cons]
  have e : (crL L ks)[i]'(by rw [crL_len]; exact hi) = crX L[i] ks[i]? := by simp [crL]
  rw [e]
  have := crX_len h ks[i]?
  have e2 : sumF [] = 0 := rfl
  omega
section
variable {F : List Nat} {M : Nat} {l1 l2 : List Pl} {t : Pl} {w w4 : World} {p : Nat} {q sz : Int} {L : List Fi} {fu : Int} {dn : Bool}
theorem crash_turn {A4 : Option Addr} {k c4 : Nat} (hX : PgX F M (l1 ++ ([t] ++ l2)) w p q L sz fu dn) (hk : k ≤ t.x.b.length)
    (hb : Below w.heap.size (w.setCell ⟨t.fb, 1, none⟩ (.int .i64 (k : Int))) w4) (hown : w4.ownsRow w.heap.size 5 1 (.slice A4 k c4) k ((t.x.b.take k).map bv)) :
    ∃ F', PgX F' M (l1 ++ ([⟨⟨t.x.name, t.x.b.take k, k⟩, t.fb, A4, c4⟩] ++ l2)) ((w4.setCell ⟨t.fb, 0, none⟩ (.slice A4 k c4)).setCell ⟨p, 1, none⟩ (.int .i64 (sz + k))) p q (putF ⟨t.x.name, t.x.b.take k, k⟩ L) (sz + k) fu dn ∧
      Frm F w ((w4.setCell ⟨t.fb, 0, none⟩ (.slice A4 k c4)).setCell ⟨p, 1, none⟩ (.int .i64 (sz + k))) ∧ (∀ b ∈ F', b ∈ F ∨ w.heap.size ≤ b) := by
  obtain ⟨a1, a2, a3, a4, a5⟩ := hX.apart
  have hG := hX.2.2.2.2.2.2.1
  have hT := hX.2.2.2.2.2.1 t (by simp)
  have hlt := hX.fst
  have hfl := a5 t.fb (by simp [Pl.foot])
  have hnf : t.fb ≠ p := fun e => a2 (by rw [← e]; simp [Pl.foot])
  have hnM : M ≠ t.fb := fun e => a3 (by rw [e]; simp [Pl.foot])
  have hlk : lookF L t.x.name = some t.x := lookF_of_mem hG.1 (by rw [← hX.1]; simp)
  have hsum := sumF_put ⟨t.x.name, t.x.b.take k, k⟩ L hG.1
  dsimp only at hsum
  rw [hlk, List.length_take] at hsum
  dsimp only at hsum
  have hon : ∀ b, some b = (Value.slice A4 k c4).ownBlock → w.heap.size ≤ b := fun b hb' => (hown.lt b hb'.symm).1
  have hlen : (t.x.b.take k).length = k := by rw [List.length_take]; omega
  have hs1 : (w.setCell ⟨t.fb, 1, none⟩ (.int .i64 (k : Int))).heap.size = w.heap.size := by simp [World.setCell]
  have B3 : Box w4 p (stC q sz M fu dn) := (hX.2.2.2.1.set_other _ _ hnf).below hb hlt.1
  have T3 : Box w4 t.fb (fbC t.A t.x.b.length t.c k) := by
    have := hT.1.set_same 1 (.int .i64 (k : Int))
    rw [fbC_set1] at this
    exact this.below hb hfl
  have T4 := T3.set_same 0 (.slice A4 k c4)
  rw [fbC_set0] at T4
  have B4 := (B3.set_other ⟨t.fb, 0, none⟩ (.slice A4 k c4) hnf).set_same 1 (.int .i64 (sz + k))
  rw [stC_set1] at B4
  have O4 := own_set_ne (own_set_ne hown (p := ⟨t.fb, 0, none⟩) (fun e => by have := hon _ e.symm; simp only at this; omega) (.slice A4 k c4)) (p := ⟨p, 1, none⟩) (fun e => by have := hon _ e.symm; simp only at this; omega) (.int .i64 (sz + k))
  have hM : ((w4.setCell ⟨t.fb, 0, none⟩ (.slice A4 k c4)).setCell ⟨p, 1, none⟩ (.int .i64 (sz + k))).heap[M]? = w.heap[M]? := by
    rw [Below.heap_setCell _ _ _ _ (fun e => a1 e.symm), Below.heap_setCell _ _ _ _ hnM, hb.block M hlt.2, Below.heap_setCell _ _ _ _ hnM]
  refine hX.file (r' := ⟨⟨t.x.name, t.x.b.take k, k⟩, t.fb, A4, c4⟩) (((((Frm.refl (p :: M :: t.foot) w).set ⟨t.fb, 1, none⟩ _ (.inl (by simp [Pl.foot]))).below hb (Nat.le_refl _)).set ⟨t.fb, 0, none⟩ _ (.inl (by simp [Pl.foot]))).set ⟨p, 1, none⟩ _ (.inl (by simp))) B4 hM
    ⟨by have := T4.set_other (⟨p, 1, none⟩ : Addr) (.int .i64 (sz + k)) (fun e => hnf e.symm); dsimp only; rw [hlen]; exact this, by dsimp only; rw [hlen]; exact own_less O4 (Nat.zero_le _)⟩
    (by
      rw [foot_own _ k c4]
      dsimp only
      cases h : (Value.slice A4 k c4).ownBlock with
      | none => simp
      | some b => have := hon b h.symm; simp; omega)
    (fun j hj => by
      rw [foot_own _ k c4] at hj
      dsimp only at hj
      rcases List.mem_cons.1 hj with rfl | hj
      · exact .inl (by simp [Pl.foot])
      · cases h : (Value.slice A4 k c4).ownBlock with
        | none => rw [h] at hj; simp at hj
        | some b => rw [h] at hj; simp at hj; have := hon b h.symm; exact .inr (by omega))
    rfl rfl ⟨by simp, by dsimp only; rw [hlen]; exact Int.le_refl _⟩ rfl (by have := hG.2.2.1; omega) hX.2.2.2.2.2.2.2
end
end Go.Proofs.Ytejjobbgceoljaa
