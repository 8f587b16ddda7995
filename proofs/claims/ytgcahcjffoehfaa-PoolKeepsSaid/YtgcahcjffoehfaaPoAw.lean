/- Law 18's anchor returns true. -/
import Derived.Test.YtgcahcjffoehfaaPoY
import Derived.Test.YtgcahcjffoehfaaPoZ
import Derived.Test.YtgcahcjffoehfaaPoN
import Derived.Deep.Cut
set_option linter.unusedSimpArgs false
set_option linter.unusedVariables false
namespace Go.Proofs.Ytgcahcjffoehfaa
open Go.RowKit

theorem RdK.up {w : World} {A : Option Addr} {n : Nat} {l : List Bk} (h : RdK w w.heap.size A n l) (ob : Obj) : RdK (w.alloc ob) (w.alloc ob).heap.size A n l := (h.alloc (Nat.le_refl _) ob).more (by simp)
theorem RdK.go {W w1 : World} {A : Option Addr} {n : Nat} {l : List Bk} (h : RdK W W.heap.size A n l) (hb : Below W.heap.size W w1) : RdK w1 w1.heap.size A n l := (h.below hb).more hb.size
theorem RdK.upd {w : World} {A : Option Addr} {n : Nat} {l : List Bk} (h : RdK w w.heap.size A n l) (ob : Obj) : RdK (w.alloc ob).drew (w.alloc ob).drew.heap.size A n l := h.up ob
theorem RdK.upd2 {w : World} {A : Option Addr} {n : Nat} {l : List Bk} (h : RdK w w.heap.size A n l) (ob ob' : Obj) : RdK ((w.alloc ob).alloc ob').drew ((w.alloc ob).alloc ob').drew.heap.size A n l := (h.up ob).up ob'
theorem Box.go {W w1 : World} {b : Nat} {c : Array Value} (h : Box W b c) (hb : Below W.heap.size W w1) : Box w1 b c := h.below hb h.lt
theorem call0 {w W w1 : World} (h : Below w.heap.size w W) (hb : Below W.heap.size W w1) : Below w.heap.size w w1 := below2 h hb
theorem call1 {w W w1 : World} {ob : Obj} (h : Below w.heap.size w W) (hb : Below (W.alloc ob).heap.size (W.alloc ob) w1) : Below w.heap.size w w1 := below2 (h.alloc h.size ob) hb
/-- a pool is answered, read -/
def PoolC (w : World) (v : Int) (n : Nat) (l : List Bk) (er : Int) (e : Ending) (w' : World) : Prop :=
  ∃ A c, e = .returned (.tuple #[.agg #[.int .i64 v, .slice A n c], .int .i64 er]) ∧ RdK w' w'.heap.size A n l ∧ Below w.heap.size w w'
theorem poolC_of {w : World} {v : Int} {l : List Bk} {er : Int} {e : Ending} {w' : World} (h : PoolP w v l er e w') : PoolC w v l.length l er e w' := by
  obtain ⟨A, c, he, ho, hb⟩ := h
  exact ⟨A, c, he, own_reads ho, hb⟩
theorem doC_any (l : List Bk) (hs : Srt l) (v : Int) (hv : -9223372036854775808 ≤ v ∧ v < 9223372036854775807) (o : Opr) (hf : o.bk.fine) (hw : o.w < 18446744073709551616) (n : Nat) (hln : l.length = n) (hn : l.length ≤ 100000) (v' : Int) (l' : List Bk) (n' : Nat) (er : Int)
    (h1 : doV v l o = v') (h2 : doL v l o = l') (h3 : l'.length = n') (h4 : whyNot v l o = er) (A : Option Addr) (c : Nat) (w : World) (hR : RdK w w.heap.size A n l) :
    Calls Try.prog 19 #[.agg #[.int .i64 v, .slice A n c], .agg o.arr] w (PoolC w v' n' l' er) := by
  subst h1 h2 h3 h4 hln
  exact (do_any l hs v hv o hf hw A c w hR hn).mono fun e w' h => poolC_of h
theorem noBk_fine : noBk.fine := ⟨by decide, by decide⟩
theorem aBk_fine : aBk.fine := ⟨by decide, by decide⟩
theorem srt_one (x : Bk) : Srt [x] := List.pairwise_singleton _ _
@[go_sem] theorem lit_a : Value.string { data := #[97] } = Value.string (textOf [97]) := rfl
@[go_sem] theorem lit_web : Value.string { data := #[119, 101, 98, 45, 49, 46, 120] } = Value.string (textOf [119, 101, 98, 45, 49, 46, 120]) := rfl
@[go_sem] theorem lit_Web : Value.string { data := #[87, 101, 98] } = Value.string (textOf [87, 101, 98]) := rfl
theorem do1 (W : World) : Calls Try.prog 19 #[.agg #[.int .i64 0, .slice none 0 0], .agg (Opr.mk 1 aBk [] 0).arr] W (PoolC W 1 1 [aBk] 0) :=
  doC_any [] List.Pairwise.nil 0 (by decide) _ aBk_fine (by decide) 0 rfl (by decide) 1 [aBk] 1 0 (by decide +kernel) (by decide +kernel) rfl (by decide +kernel) none 0 W (RdK.nil _ _)
theorem do2 (A : Option Addr) (c : Nat) (W : World) (hR : RdK W W.heap.size A 1 [aBk]) : Calls Try.prog 19 #[.agg #[.int .i64 1, .slice A 1 c], .agg (Opr.mk 1 aBk [] 0).arr] W (PoolC W 1 1 [aBk] 6) :=
  doC_any [aBk] (srt_one _) 1 (by decide) _ aBk_fine (by decide) 1 rfl (by decide) 1 [aBk] 1 6 (by decide +kernel) (by decide +kernel) rfl (by decide +kernel) A c W hR
theorem do3 (A : Option Addr) (c : Nat) (W : World) (hR : RdK W W.heap.size A 1 [aBk]) : Calls Try.prog 19 #[.agg #[.int .i64 1, .slice A 1 c], .agg (Opr.mk 4 noBk [97] 0).arr] W (PoolC W 2 1 [aBk.toD true] 0) :=
  doC_any [aBk] (srt_one _) 1 (by decide) _ noBk_fine (by decide) 1 rfl (by decide) 2 [aBk.toD true] 1 0 (by decide +kernel) (by decide +kernel) rfl (by decide +kernel) A c W hR
theorem do4 (A : Option Addr) (c : Nat) (W : World) (hR : RdK W W.heap.size A 1 [aBk]) : Calls Try.prog 19 #[.agg #[.int .i64 1, .slice A 1 c], .agg (Opr.mk 3 noBk [97] 9221120237041090561).arr] W (PoolC W 1 1 [aBk] 1) :=
  doC_any [aBk] (srt_one _) 1 (by decide) _ noBk_fine (by decide) 1 rfl (by decide) 1 [aBk] 1 1 (by decide +kernel) (by decide +kernel) rfl (by decide +kernel) A c W hR
theorem do5 (A : Option Addr) (c : Nat) (W : World) (hR : RdK W W.heap.size A 1 [aBk]) : Calls Try.prog 19 #[.agg #[.int .i64 1, .slice A 1 c], .agg (Opr.mk 2 noBk [97] 0).arr] W (PoolC W 2 0 [] 0) :=
  doC_any [aBk] (srt_one _) 1 (by decide) _ noBk_fine (by decide) 1 rfl (by decide) 2 [] 0 0 (by decide +kernel) (by decide +kernel) rfl (by decide +kernel) A c W hR
theorem find1 (A : Option Addr) (c : Nat) (W : World) (hR : RdK W W.heap.size A 1 [aBk]) : Calls Try.prog 21 #[.agg #[.int .i64 1, .slice A 1 c], .string (textOf [97])] W fun e w' => e = .returned (.tuple #[.agg aBk.arr, .bool true]) ∧ Below W.heap.size W w' := by
  have h := find_any [aBk] (srt_one _) [97] 1 A c W hR (by decide)
  rw [show gotN [aBk] [97] = aBk by decide +kernel, show hasN [aBk] [97] = true by decide +kernel] at h
  exact h
/-- one share is answered -/
def ShareC (w : World) (q : Int) (e : Ending) (w' : World) : Prop :=
  ∃ g c, e = .returned (.slice (some ⟨g, 0, none⟩) 1 c) ∧ w'.cell? ⟨g, 1, none⟩ = some (.int .i64 q) ∧ g < w'.heap.size ∧ Below w.heap.size w w'
theorem shareC_of {w : World} {s : List UInt8} {q : Int} {e : Ending} {w' : World} (h : SharesP w [⟨s, q⟩] e w') : ShareC w q e w' := by
  obtain ⟨A, c, he, ho, hb⟩ := h
  rcases ho.2 with ⟨hv, h0⟩ | ⟨g, cap, cur, hv, h2, h3, h4, h5, h6, h7⟩
  · simp at h0
  · injection hv with e1 e2 e3
    subst e1 e3
    refine ⟨g, c, he, ?_, (ho.lt g rfl).2, hb⟩
    rw [ho.cellAt 1 (by simp)]
    rfl
theorem share1 (A : Option Addr) (c : Nat) (W : World) (hR : RdK W W.heap.size A 1 [aBk]) : Calls Try.prog 23 #[.agg #[.int .i64 1, .slice A 1 c], .slice none 0 0] W (ShareC W 1536) := by
  have h := shares_any [aBk] (by intro x hx; simp at hx; subst hx; exact aBk_fine) 1 A c [] none 0 W hR Rd.nil (by decide) (by decide)
  rw [show sharesOf [] [aBk] = [⟨[97], 1536⟩] by decide +kernel] at h
  exact h.mono fun e w' h => shareC_of h
theorem share2 (A : Option Addr) (c : Nat) (W : World) (hR : RdK W W.heap.size A 1 [aBk.toD true]) : Calls Try.prog 23 #[.agg #[.int .i64 2, .slice A 1 c], .slice none 0 0] W (ShareC W 0) := by
  have h := shares_any [aBk.toD true] (by intro x hx; simp at hx; subst hx; exact aBk_fine) 2 A c [] none 0 W hR Rd.nil (by decide) (by decide)
  rw [show sharesOf [] [aBk.toD true] = [⟨[97], 0⟩] by decide +kernel] at h
  exact h.mono fun e w' h => shareC_of h
theorem same1C (A B : Option Addr) (c d : Nat) (W : World) (hR : RdK W W.heap.size A 1 [aBk]) (hT : RdK W W.heap.size B 1 [aBk]) : Calls Try.prog 16 #[.agg #[.int .i64 1, .slice A 1 c], .agg #[.int .i64 1, .slice B 1 d]] W fun e w' => e = .returned (.bool true) ∧ Below W.heap.size W w' := by
  have h := poolSame_any [aBk] [aBk] 1 1 A B c d W hR hT (by decide) (by decide)
  rw [show eqPool 1 [aBk] 1 [aBk] = true by decide +kernel] at h
  exact h
theorem right1C (A : Option Addr) (c : Nat) (W : World) (hR : RdK W W.heap.size A 1 [aBk]) : Calls Try.prog 14 #[.agg #[.int .i64 1, .slice A 1 c]] W fun e w' => e = .returned (.bool true) ∧ Below W.heap.size W w' := by
  have h := rightPool_any [aBk] (by intro x hx; simp at hx; subst hx; exact aBk_fine) 1 A c W hR (by decide)
  rw [show pRight 1 [aBk] = true by decide +kernel] at h
  exact h
theorem name1C (W : World) : Calls Try.prog 12 #[.string (textOf [119, 101, 98, 45, 49, 46, 120])] W fun e w' => e = .returned (.bool true) ∧ Below W.heap.size W w' := name_any [119, 101, 98, 45, 49, 46, 120] W (by decide)
theorem name2C (W : World) : Calls Try.prog 12 #[.string (textOf [87, 101, 98])] W fun e w' => e = .returned (.bool false) ∧ Below W.heap.size W w' := name_any [87, 101, 98] W (by decide)

set_option maxHeartbeats 4000000 in
set_option maxRecDepth 100000 in
theorem awake_any (w : World) : Calls Try.prog 10 #[] w fun e w' => e = .returned (.bool true) ∧ Below w.heap.size w w' := by
  have HB0 := Lib.hid (Below.refl w.heap.size w)
  go_enter Try.func10, Try.ntmps10
  go_wp2_with fail
  refine (do1 _).mono ?_
  rintro e w1 ⟨Ap, cp, rfl, hR1, hb1⟩
  have Ba := Lib.hid (((Box.new w _ _)).go hb1)
  have HB0 := Lib.hid (call1 HB0.out hb1)
  have Rp := Lib.hid hR1
  clear hb1 hR1
  obtain ⟨xa1, xa2, xa3, xa4⟩ := Ba.out.facts
  have la := Ba.out.lt
  go_wp2_with fail
  refine (do2 Ap cp _ (Rp.out.up _)).mono ?_
  rintro e w2 ⟨Aq, cq, rfl, hR1, hb1⟩
  have Ba := Lib.hid (((Ba.out).alloc _).go hb1)
  have Bp := Lib.hid (((Box.new w1 _ _)).go hb1)
  have Rp := Lib.hid (((Rp.out).up _).go hb1)
  have HB0 := Lib.hid (call1 HB0.out hb1)
  have Rq := Lib.hid hR1
  clear hb1 hR1
  clear xa1 xa2 xa3 xa4 la
  obtain ⟨xp1, xp2, xp3, xp4⟩ := Bp.out.facts
  have lp := Bp.out.lt
  go_wp2_with fail
  refine (do3 Ap cp _ (Rp.out.up _)).mono ?_
  rintro e w3 ⟨Ar, cr, rfl, hR1, hb1⟩
  have Ba := Lib.hid (((Ba.out).alloc _).go hb1)
  have Bp := Lib.hid (((Bp.out).alloc _).go hb1)
  have Bq := Lib.hid (((Box.new w2 _ _)).go hb1)
  have Rp := Lib.hid (((Rp.out).up _).go hb1)
  have Rq := Lib.hid (((Rq.out).up _).go hb1)
  have HB0 := Lib.hid (call1 HB0.out hb1)
  have Rr := Lib.hid hR1
  clear hb1 hR1
  clear xp1 xp2 xp3 xp4 lp
  obtain ⟨xp1, xp2, xp3, xp4⟩ := Bp.out.facts
  have lp := Bp.out.lt
  go_wp2_with fail
  go_cut [9] from 37 (fun s9 wx => s9 = .int .i64 1 ∧ Below (w3.alloc (.cells #[.int .i64 2, .slice Ar 1 cr] 24)).heap.size (w3.alloc (.cells #[.int .i64 2, .slice Ar 1 cr] 24)) wx)
  case first =>
    go_region_with ((first | (go_at_call 27; refine (nan_any _).mono ?_; rintro e w' ⟨rfl, rfl⟩) | (go_at_call 19; refine (do4 Ap cp _ (Rp.out.upd _)).mono ?_; rintro e w4 ⟨A4, c4, rfl, hR4, hb4⟩; have HB4 := Lib.hid (below1d hb4); clear hb4 hR4) | (go_at_call 19; refine (do4 Ap cp _ (Rp.out.upd2 _ _)).mono ?_; rintro e w4 ⟨A4, c4, rfl, hR4, hb4⟩; have hb5 := below1d hb4; obtain ⟨z1, z2, z3, z4⟩ := ((Box.new1 w3 _ _ _).go hb5).facts; have lz := ((Box.new1 w3 _ _ _).go hb5).lt; have HB4 := Lib.hid (((Below.refl (w3.alloc _).heap.size (w3.alloc _)).alloc (Nat.le_refl _) _).trans (hb5.mono (by simp))); clear hb4 hR4 hb5)))
    all_goals
      go_wp2_with fail
      go_meet
      case rel =>
        refine ⟨rfl, ?_⟩
        first | exact HB4.out.alloc (HB4.out.size) _ | exact (HB4.out.setCell (by simp) _).setCell (by simp) _
  case rest =>
    obtain ⟨rfl, hb1⟩ := hcut
    obtain ⟨w4, hw4⟩ : ∃ w4, w4 = wc := ⟨_, rfl⟩
    subst hw4
    have Ba := Lib.hid (((Ba.out).alloc _).go hb1)
    have Bp := Lib.hid (((Bp.out).alloc _).go hb1)
    have Bq := Lib.hid (((Bq.out).alloc _).go hb1)
    have Br := Lib.hid (((Box.new w3 _ _)).go hb1)
    have Rp := Lib.hid (((Rp.out).up _).go hb1)
    have Rq := Lib.hid (((Rq.out).up _).go hb1)
    have Rr := Lib.hid (((Rr.out).up _).go hb1)
    have HB0 := Lib.hid (call1 HB0.out hb1)
    clear hb1
    clear xp1 xp2 xp3 xp4 lp
    obtain ⟨xp1, xp2, xp3, xp4⟩ := Bp.out.facts
    have lp := Bp.out.lt
    go_wp2_with fail
    refine (do5 Ap cp _ Rp.out).mono ?_
    rintro e w5 ⟨As, cs, rfl, hR1, hb1⟩
    have Ba := Lib.hid ((Ba.out).go hb1)
    have Bp := Lib.hid ((Bp.out).go hb1)
    have Bq := Lib.hid ((Bq.out).go hb1)
    have Br := Lib.hid ((Br.out).go hb1)
    have Rp := Lib.hid ((Rp.out).go hb1)
    have Rq := Lib.hid ((Rq.out).go hb1)
    have Rr := Lib.hid ((Rr.out).go hb1)
    have HB0 := Lib.hid (call0 HB0.out hb1)
    clear hb1 hR1
    clear xp1 xp2 xp3 xp4 lp
    obtain ⟨xp1, xp2, xp3, xp4⟩ := Bp.out.facts
    have lp := Bp.out.lt
    go_wp2_with fail
    refine (find1 Ap cp _ (Rp.out.up _)).mono ?_
    rintro e w6 ⟨rfl, hb1⟩
    have Ba := Lib.hid (((Ba.out).alloc _).go hb1)
    have Bp := Lib.hid (((Bp.out).alloc _).go hb1)
    have Bq := Lib.hid (((Bq.out).alloc _).go hb1)
    have Br := Lib.hid (((Br.out).alloc _).go hb1)
    have Bs := Lib.hid (((Box.new w5 _ _)).go hb1)
    have Rp := Lib.hid (((Rp.out).up _).go hb1)
    have Rq := Lib.hid (((Rq.out).up _).go hb1)
    have Rr := Lib.hid (((Rr.out).up _).go hb1)
    have HB0 := Lib.hid (call1 HB0.out hb1)
    clear hb1
    clear xp1 xp2 xp3 xp4 lp
    obtain ⟨xp1, xp2, xp3, xp4⟩ := Bp.out.facts
    have lp := Bp.out.lt
    go_wp2_with fail
    refine (share1 Ap cp _ (Rp.out.up _)).mono ?_
    rintro e w7 ⟨gx, cx, rfl, hx, hxl, hb1⟩
    have Ba := Lib.hid (((Ba.out).alloc _).go hb1)
    have Bp := Lib.hid (((Bp.out).alloc _).go hb1)
    have Bq := Lib.hid (((Bq.out).alloc _).go hb1)
    have Br := Lib.hid (((Br.out).alloc _).go hb1)
    have Bs := Lib.hid (((Bs.out).alloc _).go hb1)
    have Bb := Lib.hid (((Box.new w6 _ _)).go hb1)
    have Rp := Lib.hid (((Rp.out).up _).go hb1)
    have Rq := Lib.hid (((Rq.out).up _).go hb1)
    have Rr := Lib.hid (((Rr.out).up _).go hb1)
    have HB0 := Lib.hid (call1 HB0.out hb1)
    clear hb1
    clear xp1 xp2 xp3 xp4 lp
    obtain ⟨xp1, xp2, xp3, xp4⟩ := Bp.out.facts
    have lp := Bp.out.lt
    obtain ⟨xr1, xr2, xr3, xr4⟩ := Br.out.facts
    have lr := Br.out.lt
    go_wp2_with fail
    refine (share2 Ar cr _ Rr.out).mono ?_
    rintro e w8 ⟨gy, cy, rfl, hy, hyl, hb1⟩
    have HX := Lib.hid (hb1.cell (p := ⟨gx, 1, none⟩) hxl ▸ hx : w8.cell? ⟨gx, 1, none⟩ = some (.int .i64 1536))
    have HXL := Lib.hid (show gx < w8.heap.size by have := hb1.size; omega)
    have HY := Lib.hid hy
    have HYL := Lib.hid hyl
    clear hx hxl hy hyl
    have Ba := Lib.hid ((Ba.out).go hb1)
    have Bp := Lib.hid ((Bp.out).go hb1)
    have Bq := Lib.hid ((Bq.out).go hb1)
    have Br := Lib.hid ((Br.out).go hb1)
    have Bs := Lib.hid ((Bs.out).go hb1)
    have Bb := Lib.hid ((Bb.out).go hb1)
    have Rp := Lib.hid ((Rp.out).go hb1)
    have Rq := Lib.hid ((Rq.out).go hb1)
    have Rr := Lib.hid ((Rr.out).go hb1)
    have HB0 := Lib.hid (call0 HB0.out hb1)
    clear hb1
    clear xp1 xp2 xp3 xp4 lp
    clear xr1 xr2 xr3 xr4 lr
    obtain ⟨xp1, xp2, xp3, xp4⟩ := Bp.out.facts
    have lp := Bp.out.lt
    obtain ⟨xq1, xq2, xq3, xq4⟩ := Bq.out.facts
    have lq := Bq.out.lt
    obtain ⟨xr1, xr2, xr3, xr4⟩ := Br.out.facts
    have lr := Br.out.lt
    obtain ⟨xs1, xs2, xs3, xs4⟩ := Bs.out.facts
    have ls := Bs.out.lt
    obtain ⟨xb1, xb2, xb3, xb4⟩ := Bb.out.facts
    have lb := Bb.out.lt
    go_wp2_with fail
    refine (same1C Ap Aq cp cq _ Rp.out Rq.out).mono ?_
    rintro e w9 ⟨rfl, hb1⟩
    have HX := Lib.hid ((hb1.cell (p := ⟨gx, 1, none⟩) HXL.out).trans HX.out)
    have HXL := Lib.hid (Nat.lt_of_lt_of_le HXL.out hb1.size)
    have HY := Lib.hid ((hb1.cell (p := ⟨gy, 1, none⟩) HYL.out).trans HY.out)
    have HYL := Lib.hid (Nat.lt_of_lt_of_le HYL.out hb1.size)
    have Ba := Lib.hid ((Ba.out).go hb1)
    have Bp := Lib.hid ((Bp.out).go hb1)
    have Bq := Lib.hid ((Bq.out).go hb1)
    have Br := Lib.hid ((Br.out).go hb1)
    have Bs := Lib.hid ((Bs.out).go hb1)
    have Bb := Lib.hid ((Bb.out).go hb1)
    have Rp := Lib.hid ((Rp.out).go hb1)
    have Rq := Lib.hid ((Rq.out).go hb1)
    have Rr := Lib.hid ((Rr.out).go hb1)
    have HB0 := Lib.hid (call0 HB0.out hb1)
    clear hb1
    clear xp1 xp2 xp3 xp4 lp
    clear xq1 xq2 xq3 xq4 lq
    clear xr1 xr2 xr3 xr4 lr
    clear xs1 xs2 xs3 xs4 ls
    clear xb1 xb2 xb3 xb4 lb
    obtain ⟨xp1, xp2, xp3, xp4⟩ := Bp.out.facts
    have lp := Bp.out.lt
    obtain ⟨xq1, xq2, xq3, xq4⟩ := Bq.out.facts
    have lq := Bq.out.lt
    obtain ⟨xr1, xr2, xr3, xr4⟩ := Br.out.facts
    have lr := Br.out.lt
    obtain ⟨xs1, xs2, xs3, xs4⟩ := Bs.out.facts
    have ls := Bs.out.lt
    obtain ⟨xb1, xb2, xb3, xb4⟩ := Bb.out.facts
    have lb := Bb.out.lt
    have hx := HX.out
    have hy := HY.out
    have hxl := HXL.out
    have hyl := HYL.out
    go_wp2_with fail
    clear hx hy hxl hyl
    refine (name1C _).mono ?_
    rintro e w10 ⟨rfl, hb1⟩
    have HX := Lib.hid ((hb1.cell (p := ⟨gx, 1, none⟩) HXL.out).trans HX.out)
    have HXL := Lib.hid (Nat.lt_of_lt_of_le HXL.out hb1.size)
    have HY := Lib.hid ((hb1.cell (p := ⟨gy, 1, none⟩) HYL.out).trans HY.out)
    have HYL := Lib.hid (Nat.lt_of_lt_of_le HYL.out hb1.size)
    have Ba := Lib.hid ((Ba.out).go hb1)
    have Bp := Lib.hid ((Bp.out).go hb1)
    have Bq := Lib.hid ((Bq.out).go hb1)
    have Br := Lib.hid ((Br.out).go hb1)
    have Bs := Lib.hid ((Bs.out).go hb1)
    have Bb := Lib.hid ((Bb.out).go hb1)
    have Rp := Lib.hid ((Rp.out).go hb1)
    have Rq := Lib.hid ((Rq.out).go hb1)
    have Rr := Lib.hid ((Rr.out).go hb1)
    have HB0 := Lib.hid (call0 HB0.out hb1)
    clear hb1
    clear xp1 xp2 xp3 xp4 lp
    clear xq1 xq2 xq3 xq4 lq
    clear xr1 xr2 xr3 xr4 lr
    clear xs1 xs2 xs3 xs4 ls
    clear xb1 xb2 xb3 xb4 lb
    obtain ⟨xp1, xp2, xp3, xp4⟩ := Bp.out.facts
    have lp := Bp.out.lt
    obtain ⟨xq1, xq2, xq3, xq4⟩ := Bq.out.facts
    have lq := Bq.out.lt
    obtain ⟨xr1, xr2, xr3, xr4⟩ := Br.out.facts
    have lr := Br.out.lt
    obtain ⟨xs1, xs2, xs3, xs4⟩ := Bs.out.facts
    have ls := Bs.out.lt
    obtain ⟨xb1, xb2, xb3, xb4⟩ := Bb.out.facts
    have lb := Bb.out.lt
    have hx := HX.out
    have hy := HY.out
    have hxl := HXL.out
    have hyl := HYL.out
    go_wp2_with fail
    clear hx hy hxl hyl
    refine (name2C _).mono ?_
    rintro e w11 ⟨rfl, hb1⟩
    have HX := Lib.hid ((hb1.cell (p := ⟨gx, 1, none⟩) HXL.out).trans HX.out)
    have HXL := Lib.hid (Nat.lt_of_lt_of_le HXL.out hb1.size)
    have HY := Lib.hid ((hb1.cell (p := ⟨gy, 1, none⟩) HYL.out).trans HY.out)
    have HYL := Lib.hid (Nat.lt_of_lt_of_le HYL.out hb1.size)
    have Ba := Lib.hid ((Ba.out).go hb1)
    have Bp := Lib.hid ((Bp.out).go hb1)
    have Bq := Lib.hid ((Bq.out).go hb1)
    have Br := Lib.hid ((Br.out).go hb1)
    have Bs := Lib.hid ((Bs.out).go hb1)
    have Bb := Lib.hid ((Bb.out).go hb1)
    have Rp := Lib.hid ((Rp.out).go hb1)
    have Rq := Lib.hid ((Rq.out).go hb1)
    have Rr := Lib.hid ((Rr.out).go hb1)
    have HB0 := Lib.hid (call0 HB0.out hb1)
    clear hb1
    clear xp1 xp2 xp3 xp4 lp
    clear xq1 xq2 xq3 xq4 lq
    clear xr1 xr2 xr3 xr4 lr
    clear xs1 xs2 xs3 xs4 ls
    clear xb1 xb2 xb3 xb4 lb
    obtain ⟨xp1, xp2, xp3, xp4⟩ := Bp.out.facts
    have lp := Bp.out.lt
    obtain ⟨xq1, xq2, xq3, xq4⟩ := Bq.out.facts
    have lq := Bq.out.lt
    obtain ⟨xr1, xr2, xr3, xr4⟩ := Br.out.facts
    have lr := Br.out.lt
    obtain ⟨xs1, xs2, xs3, xs4⟩ := Bs.out.facts
    have ls := Bs.out.lt
    obtain ⟨xb1, xb2, xb3, xb4⟩ := Bb.out.facts
    have lb := Bb.out.lt
    have hx := HX.out
    have hy := HY.out
    have hxl := HXL.out
    have hyl := HYL.out
    go_wp2_with fail
    clear hx hy hxl hyl
    refine (right1C Ap cp _ Rp.out).mono ?_
    rintro e w12 ⟨rfl, hb1⟩
    have HX := Lib.hid ((hb1.cell (p := ⟨gx, 1, none⟩) HXL.out).trans HX.out)
    have HXL := Lib.hid (Nat.lt_of_lt_of_le HXL.out hb1.size)
    have HY := Lib.hid ((hb1.cell (p := ⟨gy, 1, none⟩) HYL.out).trans HY.out)
    have HYL := Lib.hid (Nat.lt_of_lt_of_le HYL.out hb1.size)
    have Ba := Lib.hid ((Ba.out).go hb1)
    have Bp := Lib.hid ((Bp.out).go hb1)
    have Bq := Lib.hid ((Bq.out).go hb1)
    have Br := Lib.hid ((Br.out).go hb1)
    have Bs := Lib.hid ((Bs.out).go hb1)
    have Bb := Lib.hid ((Bb.out).go hb1)
    have Rp := Lib.hid ((Rp.out).go hb1)
    have Rq := Lib.hid ((Rq.out).go hb1)
    have Rr := Lib.hid ((Rr.out).go hb1)
    have HB0 := Lib.hid (call0 HB0.out hb1)
    clear hb1
    clear xp1 xp2 xp3 xp4 lp
    clear xq1 xq2 xq3 xq4 lq
    clear xr1 xr2 xr3 xr4 lr
    clear xs1 xs2 xs3 xs4 ls
    clear xb1 xb2 xb3 xb4 lb
    obtain ⟨xp1, xp2, xp3, xp4⟩ := Bp.out.facts
    have lp := Bp.out.lt
    obtain ⟨xq1, xq2, xq3, xq4⟩ := Bq.out.facts
    have lq := Bq.out.lt
    obtain ⟨xr1, xr2, xr3, xr4⟩ := Br.out.facts
    have lr := Br.out.lt
    obtain ⟨xs1, xs2, xs3, xs4⟩ := Bs.out.facts
    have ls := Bs.out.lt
    obtain ⟨xb1, xb2, xb3, xb4⟩ := Bb.out.facts
    have lb := Bb.out.lt
    have hx := HX.out
    have hy := HY.out
    have hxl := HXL.out
    have hyl := HYL.out
    go_wp2_with fail
    clear hx hy hxl hyl
    go_ret
    exact ⟨rfl, HB0.out⟩
end Go.Proofs.Ytgcahcjffoehfaa
