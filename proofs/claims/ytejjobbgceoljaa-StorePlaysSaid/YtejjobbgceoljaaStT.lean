/- The program's store: Rename. -/
import Derived.Test.YtejjobbgceoljaaStS
set_option linter.unusedSimpArgs false
set_option linter.unusedVariables false
namespace Go.Proofs.Ytejjobbgceoljaa
open Go.RowKit

def whyRen (L : List Fi) (s t : List UInt8) : Int := if okName t = false then 1 else if lookF L s = none then 5 else if lookF L t = none then 0 else 6
def renF (L : List Fi) (s t : List UInt8) (r : Int × Int × Bool) : List Fi := if r.1 = 0 then (match lookF L s with | some f => putF ⟨t, f.b, f.syn⟩ (cutF s L) | none => L) else L
theorem PgX.ren {F : List Nat} {M : Nat} {l1 l2 : List Pl} {r : Pl} {w w' : World} {p : Nat} {q : Int} {L : List Fi} {fu : Int} {dn : Bool} {t : List UInt8}
    (h : PgX F M (l1 ++ ([r] ++ l2)) w p q L (sumF L) fu dn) (hno : lookP (l1 ++ ([r] ++ l2)) t = none) (ht : t.length ≤ 100000) (hg : Frm [M] w w')
    (hM : ∀ g : List UInt8 → Option Nat, (∀ u, g u = if u = r.x.name then none else if u = t then some r.fb else atP (l1 ++ ([r] ++ l2)) u) → HasM w' M (l1 ++ ([r] ++ l2)).length g) :
    ∃ F', PgS F' w' p q (putF ⟨t, r.x.b, r.x.syn⟩ (cutF r.x.name L)) fu dn ∧ Frm F w w' ∧ (∀ b ∈ F', b ∈ F ∨ w.heap.size ≤ b) := by
  have hlt := h.fst
  obtain ⟨a1, a2, a3, a4, a5⟩ := h.apart
  obtain ⟨h1, h2, h3, h4, h5, h6, h7, h8⟩ := h
  subst h2
  obtain ⟨o1, o2⟩ := look_out h1 h7.1
  have hmap : (l1 ++ ([r] ++ l2)).map Pl.x = l1.map Pl.x ++ r.x :: l2.map Pl.x := by simp
  have hcut : cutF r.x.name L = (l1 ++ l2).map Pl.x := by
    rw [← h1, hmap]
    rw [← h1, hmap] at h7
    rw [cut_mid h7.1]; simp
  have hno2 : lookP (l1 ++ l2) t = none := by
    rw [look_app l1 ([r] ++ l2), Option.or_eq_none_iff, look_one] at hno
    obtain ⟨n1, n2⟩ := hno
    split at n2
    · cases n2
    · rw [look_app, n1, n2]; rfl
  have htn : t ≠ r.x.name := by
    rintro rfl
    rw [look_app l1 ([r] ++ l2), Option.or_eq_none_iff, look_one, if_pos rfl] at hno
    cases hno.2
  obtain ⟨N1, N2, e1, e2⟩ := put_new ⟨t, r.x.b, r.x.syn⟩ (cutF r.x.name L) (by rw [hcut, look_map, hno2]; rfl)
  obtain ⟨m1, m2, em, g1, g2⟩ : ∃ m1 m2, l1 ++ l2 = m1 ++ m2 ∧ m1.map Pl.x = N1 ∧ m2.map Pl.x = N2 := by
    rw [hcut] at e1
    obtain ⟨a, b, h, ha, hb⟩ := List.map_eq_append_iff.1 e1
    exact ⟨a, b, h, ha, hb⟩
  have hr : ∀ u ∈ l1 ++ ([r] ++ l2), u.ok w' := fun u hu => (h6 u hu).agree fun g hg' => hg.block g ((h6 u hu).lt g hg') (fun e => by
    simp at e
    subst e
    have := (List.nodup_cons.1 (List.nodup_cons.1 h3).2).1
    exact this (List.mem_flatMap.2 ⟨u, hu, hg'⟩))
  have hperm : (feet (m1 ++ ([⟨⟨t, r.x.b, r.x.syn⟩, r.fb, r.A, r.c⟩] ++ m2))).Perm (feet (l1 ++ ([r] ++ l2))) := by
    have q1 : ∀ (a b : List Pl) (x : Pl), (feet (a ++ ([x] ++ b))).Perm (x.foot ++ feet (a ++ b)) := fun a b x => by
      rw [feet_app, feet_app, feet_app, ← List.append_assoc]
      refine ((List.perm_append_comm (l₁ := feet a) (l₂ := feet [x])).append_right _).trans ?_
      simp [feet]
    refine (q1 _ _ _).trans ((q1 _ _ _).trans ?_).symm
    rw [em]
    exact List.Perm.refl _
  have hnd : (p :: M :: feet (m1 ++ ([⟨⟨t, r.x.b, r.x.syn⟩, r.fb, r.A, r.c⟩] ++ m2))).Nodup := ((hperm.cons M).cons p).nodup_iff.2 h3
  have hL2 : List.map Pl.x (m1 ++ ([⟨⟨t, r.x.b, r.x.syn⟩, r.fb, r.A, r.c⟩] ++ m2)) = putF ⟨t, r.x.b, r.x.syn⟩ (cutF r.x.name L) := by rw [e2, ← g1, ← g2]; simp
  have hlkL : lookF L r.x.name = some r.x := lookF_of_mem h7.1 (by rw [← h1]; simp)
  have hs1 := cut_sum hlkL h7.1
  have hs2 := sumF_put ⟨t, r.x.b, r.x.syn⟩ (cutF r.x.name L) (srt_cut _ h7.1)
  dsimp only at hs2
  rw [hcut, look_map, hno2, ← hcut] at hs2
  dsimp only [Option.map] at hs2
  have hsum : sumF (putF ⟨t, r.x.b, r.x.syn⟩ (cutF r.x.name L)) = sumF L := by omega
  have hrx := h7.2.1 r.x (by rw [← h1]; simp)
  have hG : GoodF q (putF ⟨t, r.x.b, r.x.syn⟩ (cutF r.x.name L)) := by
    refine good_put ⟨srt_cut _ h7.1, fun y hy => h7.2.1 y (List.mem_filter.1 hy).1, by have := h7.2.2.1; omega, h7.2.2.2⟩ ht hrx.2 (by rw [hsum]; exact h7.2.2.1)
  have hbox : Box w' p (stC q (sumF L) M fu dn) := by
    obtain ⟨ty, hb⟩ := h4
    exact ⟨ty, by rw [hg.block p hlt.1 (by simpa using a1)]; exact hb⟩
  refine ⟨_, ⟨M, m1 ++ ([⟨⟨t, r.x.b, r.x.syn⟩, r.fb, r.A, r.c⟩] ++ m2), hL2, rfl, hnd, by rw [hsum]; exact hbox, ?_, fun u hu => ?_, hG, h8⟩, hg.more (by simp), fun b hb => ?_⟩
  · have := hM (atP (m1 ++ ([⟨⟨t, r.x.b, r.x.syn⟩, r.fb, r.A, r.c⟩] ++ m2))) (fun u => by
      have ai := at_ins (l1 := m1) (l2 := m2) (r := (⟨⟨t, r.x.b, r.x.syn⟩, r.fb, r.A, r.c⟩ : Pl)) (by rw [← em]; exact hno2) u
      rw [ai, ← em]
      have := at_del o1 o2 u
      rw [List.nil_append] at this
      rw [this]
      by_cases h1 : u = t
      · subst h1; simp [htn]
      · simp [h1])
    have e : (l1 ++ ([r] ++ l2)).length = List.length (m1 ++ ([(⟨⟨t, r.x.b, r.x.syn⟩, r.fb, r.A, r.c⟩ : Pl)] ++ m2)) := by
      have := congrArg List.length em
      simp at this ⊢
      omega
    rwa [e] at this
  · rcases List.mem_append.1 hu with hu | hu
    · exact hr u (by have : u ∈ l1 ++ l2 := by rw [em]; simp [hu]
                     rcases List.mem_append.1 this with h | h <;> simp [h])
    · rcases List.mem_append.1 hu with hu | hu
      · simp at hu
        subst hu
        exact hr r (by simp)
      · exact hr u (by have : u ∈ l1 ++ l2 := by rw [em]; simp [hu]
                       rcases List.mem_append.1 this with h | h <;> simp [h])
  · refine .inl ?_
    rcases List.mem_cons.1 hb with rfl | hb
    · simp
    · rcases List.mem_cons.1 hb with rfl | hb
      · simp
      · exact List.mem_cons_of_mem _ (List.mem_cons_of_mem _ (hperm.mem_iff.1 hb))
theorem upd_run {w : World} {M n : Nat} {f : List UInt8 → Option Nat} (hown : HasM w M n f) (hn : n ≤ 100000) (s : List UInt8) (hs : s.length ≤ 100000) (b : Nat) :
    ∃ w', (Instr.mapUpdate 60 (.map (some M)) (.string (textOf s)) (.pointer (some ⟨b, 0, none⟩))).run Try.prog w = .ok () w' ∧ (∀ g : List UInt8 → Option Nat, (∀ t, g t = if t = s then some b else f t) → HasM w' M (if (f s).isSome then n else n + 1) g) ∧ w.grownBy w' (some M) := by
  obtain ⟨D, h1, h2, h3⟩ := hown
  obtain ⟨w', k0, k1, k2⟩ := h1.update keyedS Try.underlying60 (by unfold maxLen; omega) (key_of s hs) (blkElem_mk b)
  exact ⟨w', k0, fun g hg => HasM.put h1 h2 h3 s b _ k1 hg, k2⟩
set_option maxRecDepth 100000 in
set_option maxHeartbeats 4000000 in
theorem rename_a (F : List Nat) (p : Nat) (q fu : Int) (dn : Bool) (L : List Fi) (s t : List UInt8) (w : World) (hS : PgS F w p q L fu dn) (hs : s.length ≤ 100000) (ht : t.length ≤ 100000) (hL : L.length ≤ 10000) (r : Int × Int × Bool) (hr : endsF (whyRen L s t) fu dn = r) (hok : okName t = false) :
    Calls Try.prog 28 #[.pointer (some ⟨p, 0, none⟩), .string (textOf s), .string (textOf t)] w (PgP F w p q (renF L s t r) r.2.1 r.2.2 (.int .i64 r.1)) := by
  have TH := Lib.hid (there_any F p q fu dn L s w hS hs)
  have NA := Lib.hid (name_any t w (by omega))
  have MA := Lib.hid (fun why W (h : PgS F W p q L fu dn) (hy : endsF why fu dn = r) => may_pg F p q fu why dn L W h r hy)
  have HS := Lib.hid hS
  obtain ⟨M0, l0, hX0⟩ := hS.open_
  have B0 := Lib.hid hX0.2.2.2.1
  have hMl := hX0.fst.2
  have HM0 := Lib.hid hX0.2.2.2.2.1
  have W1 := Lib.hid (look_whyAt hX0.1 s)
  have W2 := Lib.hid (look_whyAt hX0.1 t)
  clear hX0 hS
  have h1 : endsF 1 fu dn = r := by rw [← hr]; unfold whyRen; rw [if_pos hok]
  have hr0 : r.1 ≠ 0 := by rw [← h1]; exact ends_ne (by decide)
  have E1 := Lib.hid h1
  have SY := Lib.hid (show renF L s t r = L by unfold renF; rw [if_neg hr0])
  have hz1 : (r.1 == 0) = false := by simpa using hr0
  have hz2 : (r.1 != 0) = true := by simpa using hr0
  have hz3 : decide (r.1 = 0) = false := by simpa using hr0
  obtain ⟨why, hwhy⟩ : ∃ why, whyAt L s = why := ⟨_, rfl⟩
  rw [hok] at NA
  rw [hwhy] at TH
  clear h1 hr0 hok hr hwhy
  go_enter Try.func28, Try.ntmps28
  go_wp2_with fail
  refine TH.out.mono ?_
  rintro e w1 ⟨rfl, rfl⟩
  go_wp2_with fail
  refine NA.out.mono ?_
  rintro e w1 ⟨rfl, hb1⟩
  have HB1 := Lib.hid hb1
  clear hb1
  go_wp2_with fail
  refine (MA.out 1 w1 (HS.out.go HB1.out) E1.out).mono ?_
  intro e w2 hM2
  obtain ⟨rfl, _⟩ := id hM2
  have FIN := Lib.hid hM2
  clear hM2
  go_wp2
  go_ret
  rw [SY.out]
  exact ⟨rfl, F, FIN.out.2.1, (Frm.of_below HB1.out).trans' FIN.out.2.2, fun b hb => .inl hb⟩
set_option maxRecDepth 100000 in
set_option maxHeartbeats 4000000 in
theorem rename_b (F : List Nat) (p : Nat) (q fu : Int) (dn : Bool) (L : List Fi) (s t : List UInt8) (w : World) (hS : PgS F w p q L fu dn) (hs : s.length ≤ 100000) (ht : t.length ≤ 100000) (hL : L.length ≤ 10000) (r : Int × Int × Bool) (hr : endsF (whyRen L s t) fu dn = r) (hok : okName t = true) (hn : lookF L s = none) :
    Calls Try.prog 28 #[.pointer (some ⟨p, 0, none⟩), .string (textOf s), .string (textOf t)] w (PgP F w p q (renF L s t r) r.2.1 r.2.2 (.int .i64 r.1)) := by
  have TH := Lib.hid (there_any F p q fu dn L s w hS hs)
  have NA := Lib.hid (name_any t w (by omega))
  have MA := Lib.hid (fun why W (h : PgS F W p q L fu dn) (hy : endsF why fu dn = r) => may_pg F p q fu why dn L W h r hy)
  have HS := Lib.hid hS
  obtain ⟨M0, l0, hX0⟩ := hS.open_
  have B0 := Lib.hid hX0.2.2.2.1
  have hMl := hX0.fst.2
  have HM0 := Lib.hid hX0.2.2.2.2.1
  have W1 := Lib.hid (look_whyAt hX0.1 s)
  have W2 := Lib.hid (look_whyAt hX0.1 t)
  clear hX0 hS
  have h1 : endsF 5 fu dn = r := by rw [← hr]; unfold whyRen; rw [if_neg (by rw [hok]; simp), if_pos hn]
  have hr0 : r.1 ≠ 0 := by rw [← h1]; exact ends_ne (by decide)
  have E1 := Lib.hid h1
  have SY := Lib.hid (show renF L s t r = L by unfold renF; rw [if_neg hr0])
  have hz1 : (r.1 == 0) = false := by simpa using hr0
  have hz2 : (r.1 != 0) = true := by simpa using hr0
  have hz3 : decide (r.1 = 0) = false := by simpa using hr0
  have hwhy : whyAt L s = 5 := by unfold whyAt; rw [if_pos hn]
  rw [hok] at NA
  rw [hwhy] at TH
  clear h1 hr0 hok hr hwhy hn
  go_enter Try.func28, Try.ntmps28
  go_wp2_with fail
  refine TH.out.mono ?_
  rintro e w1 ⟨rfl, rfl⟩
  go_wp2_with fail
  refine NA.out.mono ?_
  rintro e w1 ⟨rfl, hb1⟩
  have HB1 := Lib.hid hb1
  clear hb1
  go_wp2_with fail
  refine (MA.out 5 w1 (HS.out.go HB1.out) E1.out).mono ?_
  intro e w2 hM2
  obtain ⟨rfl, _⟩ := id hM2
  have FIN := Lib.hid hM2
  clear hM2
  go_wp2
  go_ret
  rw [SY.out]
  exact ⟨rfl, F, FIN.out.2.1, (Frm.of_below HB1.out).trans' FIN.out.2.2, fun b hb => .inl hb⟩
set_option maxRecDepth 100000 in
set_option maxHeartbeats 4000000 in
theorem rename_c (F : List Nat) (p : Nat) (q fu : Int) (dn : Bool) (L : List Fi) (s t : List UInt8) (w : World) (hS : PgS F w p q L fu dn) (hs : s.length ≤ 100000) (ht : t.length ≤ 100000) (hL : L.length ≤ 10000) (r : Int × Int × Bool) (hr : endsF (whyRen L s t) fu dn = r) (hok : okName t = true) (hn : lookF L s ≠ none) (hm : lookF L t ≠ none) :
    Calls Try.prog 28 #[.pointer (some ⟨p, 0, none⟩), .string (textOf s), .string (textOf t)] w (PgP F w p q (renF L s t r) r.2.1 r.2.2 (.int .i64 r.1)) := by
  have TH := Lib.hid (there_any F p q fu dn L s w hS hs)
  have NA := Lib.hid (name_any t w (by omega))
  have MA := Lib.hid (fun why W (h : PgS F W p q L fu dn) (hy : endsF why fu dn = r) => may_pg F p q fu why dn L W h r hy)
  have HS := Lib.hid hS
  obtain ⟨M0, l0, hX0⟩ := hS.open_
  have B0 := Lib.hid hX0.2.2.2.1
  have hMl := hX0.fst.2
  have HM0 := Lib.hid hX0.2.2.2.2.1
  have W1 := Lib.hid (look_whyAt hX0.1 s)
  have W2 := Lib.hid (look_whyAt hX0.1 t)
  clear hX0 hS
  have h1 : endsF 6 fu dn = r := by rw [← hr]; unfold whyRen; rw [if_neg (by rw [hok]; simp), if_neg hn, if_neg hm]
  have hr0 : r.1 ≠ 0 := by rw [← h1]; exact ends_ne (by decide)
  have E1 := Lib.hid h1
  have SY := Lib.hid (show renF L s t r = L by unfold renF; rw [if_neg hr0])
  have hz1 : (r.1 == 0) = false := by simpa using hr0
  have hz2 : (r.1 != 0) = true := by simpa using hr0
  have hz3 : decide (r.1 = 0) = false := by simpa using hr0
  have hwhy : whyAt L s = 0 := by unfold whyAt; rw [if_neg hn]
  obtain ⟨fb, hfb⟩ : ∃ fb, atP l0 t = some fb := by
    rcases W2.out with ⟨_, _, h, _⟩ | ⟨u, _, _, _, h, _⟩
    · exact absurd h hm
    · exact ⟨_, h⟩
  have HFB := Lib.hid (show ptrV (atP l0 t) = .pointer (some ⟨fb, 0, none⟩) by rw [hfb]; rfl)
  rw [hok] at NA
  rw [hwhy] at TH
  clear h1 hr0 hok hr hwhy hn hm hfb
  go_enter Try.func28, Try.ntmps28
  go_wp2_with fail
  refine TH.out.mono ?_
  rintro e w1 ⟨rfl, rfl⟩
  go_wp2_with fail
  refine NA.out.mono ?_
  rintro e w1 ⟨rfl, hb1⟩
  have HB1 := Lib.hid hb1
  have HM1 := Lib.hid (HM0.out.agree (hb1.block M0 hMl))
  have hlook := run_look M0 _ _ HM1.out t ht
  rw [HFB.out] at hlook
  clear hb1
  obtain ⟨f1, f2, f3, f4⟩ := (B0.out.go HB1.out).facts
  go_wp2_with fail
  refine (MA.out 6 w1 (HS.out.go HB1.out) E1.out).mono ?_
  intro e w2 hM2
  obtain ⟨rfl, _⟩ := id hM2
  have FIN := Lib.hid hM2
  clear hM2 f1 f2 f3 f4 hlook
  go_wp2
  go_ret
  rw [SY.out]
  exact ⟨rfl, F, FIN.out.2.1, (Frm.of_below HB1.out).trans' FIN.out.2.2, fun b hb => .inl hb⟩
set_option maxRecDepth 100000 in
set_option maxHeartbeats 4000000 in
theorem rename_d (F : List Nat) (p : Nat) (q fu : Int) (dn : Bool) (L : List Fi) (s t : List UInt8) (w : World) (hS : PgS F w p q L fu dn) (hs : s.length ≤ 100000) (ht : t.length ≤ 100000) (hL : L.length ≤ 10000) (r : Int × Int × Bool) (hr : endsF (whyRen L s t) fu dn = r) (hok : okName t = true) (hn : lookF L s ≠ none) (hm : lookF L t = none) :
    Calls Try.prog 28 #[.pointer (some ⟨p, 0, none⟩), .string (textOf s), .string (textOf t)] w (PgP F w p q (renF L s t r) r.2.1 r.2.2 (.int .i64 r.1)) := by
  have TH := Lib.hid (there_any F p q fu dn L s w hS hs)
  have NA := Lib.hid (name_any t w (by omega))
  have MA := Lib.hid (fun why W (h : PgS F W p q L fu dn) (hy : endsF why fu dn = r) => may_pg F p q fu why dn L W h r hy)
  have HS := Lib.hid hS
  obtain ⟨M0, l0, hX0⟩ := hS.open_
  have B0 := Lib.hid hX0.2.2.2.1
  have hMl := hX0.fst.2
  have HM0 := Lib.hid hX0.2.2.2.2.1
  have W1 := Lib.hid (look_whyAt hX0.1 s)
  have W2 := Lib.hid (look_whyAt hX0.1 t)
  clear hX0 hS
  have h1 : endsF 0 fu dn = r := by rw [← hr]; unfold whyRen; rw [if_neg (by rw [hok]; simp), if_neg hn, if_pos hm]
  have E1 := Lib.hid h1
  have hwhy : whyAt L s = 0 := by unfold whyAt; rw [if_neg hn]
  have hfb : atP l0 t = none := by
    rcases W2.out with ⟨_, _, _, h⟩ | ⟨u, _, _, h, _⟩
    · exact h
    · rw [hm] at h; cases h
  have HFB := Lib.hid (show ptrV (atP l0 t) = .pointer none by rw [hfb]; rfl)
  rw [hok] at NA
  rw [hwhy] at TH
  have HMN := Lib.hid hm
  have HNN := Lib.hid hn
  clear h1 hok hr hwhy hn hm hfb
  by_cases hr0 : r.1 = 0
  · have hz1 : (r.1 == 0) = true := by simpa using hr0
    have hz2 : (r.1 != 0) = false := by simpa using hr0
    have hz3 : decide (r.1 = 0) = true := by simpa using hr0
    have HR0 := Lib.hid hr0
    clear hr0
    go_enter Try.func28, Try.ntmps28
    go_wp2_with fail
    refine TH.out.mono ?_
    rintro e w1 ⟨rfl, rfl⟩
    go_wp2_with fail
    refine NA.out.mono ?_
    rintro e w1 ⟨rfl, hb1⟩
    have HB1 := Lib.hid hb1
    have HM1 := Lib.hid (HM0.out.agree (hb1.block M0 hMl))
    have hlook := run_look M0 _ _ HM1.out t ht
    rw [HFB.out] at hlook
    clear hb1
    obtain ⟨f1, f2, f3, f4⟩ := (B0.out.go HB1.out).facts
    go_wp2_with fail
    refine (MA.out 0 w1 (HS.out.go HB1.out) E1.out).mono ?_
    rintro e w2 ⟨rfl, hS2, hf2⟩
    have FR2 := Lib.hid ((Frm.of_below HB1.out).trans' hf2)
    obtain ⟨M, l, hX⟩ := hS2.open_
    have HX := Lib.hid hX
    have hll : l.length = L.length := by rw [← hX.1, List.length_map]
    clear f1 f2 f3 f4 hf2 hS2 hlook
    rcases look_whyAt hX.1 s with ⟨_, _, hlF, _⟩ | ⟨u, hlk, _, hlF, ha, hu⟩
    · exact absurd hlF HNN.out
    · obtain ⟨l1, l2, rfl, hnm⟩ := look_split hlk
      have HNM := Lib.hid hnm
      have HLF := Lib.hid hlF
      have hno : lookP (l1 ++ ([u] ++ l2)) t = none := by
        have h := HMN.out
        rw [← hX.1, look_map] at h
        cases hq : lookP (l1 ++ ([u] ++ l2)) t with
        | none => rfl
        | some v => rw [hq] at h; cases h
      have HNO := Lib.hid hno
      have HM := Lib.hid hX.2.2.2.2.1
      obtain ⟨f1, f2, f3, f4⟩ := hX.2.2.2.1.facts
      have hlk2 := run_look (w := w2.drew) M _ _ (HM.out.agree rfl) s hs
      rw [show ptrV (atP (l1 ++ ([u] ++ l2)) s) = .pointer (some ⟨u.fb, 0, none⟩) by rw [ha]; rfl] at hlk2
      obtain ⟨w3, hup, h3, g3⟩ := upd_run (w := w2.drew) (HM.out.agree rfl) (by omega) t ht u.fb
      have hpM : p ≠ M := hX.apart.1
      have H3 := Lib.hid h3
      have G3 := Lib.hid g3
      have B3 := Lib.hid (hX.2.2.2.1.drew.grown g3 (fun e => hpM (by injection e)))
      have hAt : (atP (l1 ++ ([u] ++ l2)) t).isSome = false := by unfold atP; rw [hno]; rfl
      have HAT := Lib.hid hAt
      have HPM := Lib.hid hpM
      have HAS := Lib.hid ha
      clear hX hlk hlF ha hu hnm hno h3 g3 hAt hpM
      go_wp2
      go_region
      clear f1 f2 f3 f4
      obtain ⟨f1, f2, f3, f4⟩ := B3.out.facts
      have HM3 := Lib.hid (by
        have := H3.out (fun v => if v = t then some u.fb else atP (l1 ++ ([u] ++ l2)) v) (fun v => rfl)
        rw [HAT.out] at this
        exact this)
      go_wp2_with (at_delete; refine wpList_del rfl _ _ rfl M _ _ rfl (HM3.out.agree (W' := _) rfl) s hs rfl ?_; intro w4 hH4 hg4; have H4 := Lib.hid hH4; have G4 := Lib.hid hg4; clear hH4 hg4 f1 f2 f3 f4)
      go_ret
      have hs3 := G3.out.size
      obtain ⟨F', k1, k2, k3⟩ := HX.out.ren (w' := w4) HNO.out ht (((Frm.refl [M] w2).drewN 1).grown G3.out (fun j hj => .inl (by injection hj with hj; simp [hj])) |>.grown G4.out (fun j hj => .inl (by injection hj with hj; simp [hj]))) (fun g hg => by
        have := H4.out g (fun v => by rw [hg v, HNM.out])
        rw [show (if s = t then some u.fb else atP (l1 ++ ([u] ++ l2)) s).isSome = true by
          split
          · rfl
          · rw [HAS.out]; rfl] at this
        exact this)
      refine ⟨by rw [HR0.out]; rfl, F', ?_, FR2.out.trans' k2, fun b hb => (k3 b hb).imp id (fun h => Nat.le_trans FR2.out.size h)⟩
      unfold renF
      rw [if_pos HR0.out, HLF.out]
      rw [← HNM.out]
      exact k1
  · skip
    have SY := Lib.hid (show renF L s t r = L by unfold renF; rw [if_neg hr0])
    have hz1 : (r.1 == 0) = false := by simpa using hr0
    have hz2 : (r.1 != 0) = true := by simpa using hr0
    have hz3 : decide (r.1 = 0) = false := by simpa using hr0
    clear hr0
    go_enter Try.func28, Try.ntmps28
    go_wp2_with fail
    refine TH.out.mono ?_
    rintro e w1 ⟨rfl, rfl⟩
    go_wp2_with fail
    refine NA.out.mono ?_
    rintro e w1 ⟨rfl, hb1⟩
    have HB1 := Lib.hid hb1
    have HM1 := Lib.hid (HM0.out.agree (hb1.block M0 hMl))
    have hlook := run_look M0 _ _ HM1.out t ht
    rw [HFB.out] at hlook
    clear hb1
    obtain ⟨f1, f2, f3, f4⟩ := (B0.out.go HB1.out).facts
    go_wp2_with fail
    refine (MA.out 0 w1 (HS.out.go HB1.out) E1.out).mono ?_
    intro e w2 hM2
    obtain ⟨rfl, _⟩ := id hM2
    have FIN := Lib.hid hM2
    clear hM2 f1 f2 f3 f4 hlook
    go_wp2
    go_ret
    rw [SY.out]
    exact ⟨rfl, F, FIN.out.2.1, (Frm.of_below HB1.out).trans' FIN.out.2.2, fun b hb => .inl hb⟩
theorem rename_any (F : List Nat) (p : Nat) (q fu : Int) (dn : Bool) (L : List Fi) (s t : List UInt8) (w : World) (hS : PgS F w p q L fu dn) (hs : s.length ≤ 100000) (ht : t.length ≤ 100000) (hL : L.length ≤ 10000) (r : Int × Int × Bool) (hr : endsF (whyRen L s t) fu dn = r) :
    Calls Try.prog 28 #[.pointer (some ⟨p, 0, none⟩), .string (textOf s), .string (textOf t)] w (PgP F w p q (renF L s t r) r.2.1 r.2.2 (.int .i64 r.1)) := by
  cases hok : okName t with
  | false => exact rename_a F p q fu dn L s t w hS hs ht hL r hr hok
  | true =>
    by_cases hn : lookF L s = none
    · exact rename_b F p q fu dn L s t w hS hs ht hL r hr hok hn
    · by_cases hm : lookF L t = none
      · exact rename_d F p q fu dn L s t w hS hs ht hL r hr hok hn hm
      · exact rename_c F p q fu dn L s t w hS hs ht hL r hr hok hn hm
end Go.Proofs.Ytejjobbgceoljaa
