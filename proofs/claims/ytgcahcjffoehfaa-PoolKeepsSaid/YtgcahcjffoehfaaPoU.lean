/- What is done to a pool: the program's way. -/
import Derived.Test.YtgcahcjffoehfaaPoT
set_option linter.unusedSimpArgs false
set_option linter.unusedVariables false
namespace Go.Proofs.Ytgcahcjffoehfaa
open Go.RowKit

/-- the backends behind what is done -/
def doneTo (l : List Bk) (o : Opr) : List Bk :=
  if o.kind = 1 then insAt l (lowN l o.bk.name) (o.bk.toW (wPlain o.bk.w))
  else if o.kind = 2 then delAt l (lowN l o.name)
  else if o.kind = 3 then l.set (lowN l o.name) ((gotN l o.name).toW (wPlain o.w))
  else l.set (lowN l o.name) ((gotN l o.name).toD (o.kind == 4))
/-- a pool is answered: it reads as l in memory of the call's own -/
def PoolP (w : World) (v : Int) (l : List Bk) (er : Int) (e : Ending) (w' : World) : Prop :=
  ∃ A c, e = .returned (.tuple #[.agg #[.int .i64 v, .slice A l.length c], .int .i64 er]) ∧ w'.ownsRow w.heap.size 36 27 (.slice A l.length c) l.length (cellsBk l) ∧ Below w.heap.size w w'

theorem ret_pool {fn : Func} {p u : Tmp} (h : fn.results = #[.cell p 24, .tmp u]) (tmps : Array Value) (W : World) (b o : Nat) (hp : tmps.getD p undef = .pointer (some ⟨b, o, none⟩)) (hh : Has W b o 2) :
    (results fn tmps).run Try.prog W = .ok (.tuple #[.agg (cellsAt W b o 2), tmps.getD u undef]) W := by
  have hl := run_loadAt_has W b o 2 _ _ Try.underlying24 rfl (by kernel_rfl) hh
  simp only [Instr.loadAt, Instr.sureAddr, Sem.run_bind, Sem.run_pure, Result.andThen_ok] at hl
  rw [results_cell_tmp h, hp]
  simp [asAddr, Result.andThen, hl]
set_option maxHeartbeats 400000 in
set_option maxRecDepth 100000 in
theorem do_not (l : List Bk) (hs : Srt l) (v : Int) (o : Opr) (hf : o.bk.fine) (hw : o.w < 18446744073709551616) (hwhy : whyNot v l o ≠ 0) (A : Option Addr) (c : Nat) (w : World) (hR : RdK w w.heap.size A l.length l) (hn : l.length ≤ 100000) :
    Calls Try.prog 19 #[.agg #[.int .i64 v, .slice A l.length c], .agg o.arr] w (PoolP w v l (whyNot v l o)) := by
  have HS := Lib.hid hs
  have HR1 := Lib.hid (fun ob ob' ob2 => (((hR.alloc (Nat.le_refl _) ob).alloc (by simp) ob').alloc (by simp; omega) ob2).more (B' := (((w.alloc ob).alloc ob').alloc ob2).heap.size) (by simp; omega))
  have HB0 := Lib.hid (fun ob ob' ob2 => ((((Below.refl w.heap.size w).alloc (Nat.le_refl _) ob).alloc (by simp) ob').alloc (by simp; omega) ob2 : Below w.heap.size w (((w.alloc ob).alloc ob').alloc ob2)))
  obtain ⟨K, hK⟩ : ∃ K, whyNot v l o = K := ⟨_, rfl⟩
  have hwy := fun A c W (hR : RdK W W.heap.size A l.length l) => why_any l hs v o hf hw A c W hR (by omega)
  rw [hK] at hwhy hwy ⊢
  have HWY := Lib.hid hwy
  clear hR hs hwy hK
  have hk0 : (K != 0) = true := by simpa using hwhy
  clear hwhy
  go_enter Try.func19, Try.ntmps19
  go_wp2_with fail
  refine (clone_all l A c _ (HR1.out _ _ _) hn).mono ?_
  rintro e w1 ⟨A1, c1, rfl, ho1, hb1⟩
  have b0 := (((Box.new w _ _).alloc _).alloc _).below hb1 (by simp; omega)
  have b1 := ((Box.new1 w _ _ _).alloc _).below hb1 (by simp)
  have b2 := (Box.new2 w _ _ _ _).below hb1 (by simp)
  have hz1 : w.heap.size + 2 < w1.heap.size := b2.lt
  have O1 := Lib.hid (own_less ho1 (show w.heap.size + 3 ≤ _ by simp))
  have HB1 := Lib.hid ((HB0.out _ _ _).trans (hb1.mono (by simp; omega)))
  clear ho1 hb1
  obtain ⟨x1, x2, x3, x4⟩ := b0.facts
  obtain ⟨y1, y2, y3, y4⟩ := b1.facts
  have B0 := Lib.hid b0
  have B1 := Lib.hid b1
  have B2 := Lib.hid b2
  clear b0 b1 b2
  go_wp2_with fail
  refine (HWY.out A1 c1 _ (own_reads (own_set O1.out (by simp) _))).mono ?_
  rintro e w2 ⟨rfl, hb2⟩
  have hsz : (w1.setCell ⟨w.heap.size, 1, none⟩ (Value.slice A1 l.length c1)).heap.size = w1.heap.size := by simp [World.setCell]
  have b0 := (B0.out.set_same 1 (Value.slice A1 l.length c1)).below hb2 (by rw [hsz]; omega)
  have b2 := (B2.out.set_other ⟨w.heap.size, 1, none⟩ (Value.slice A1 l.length c1) (by simp)).below hb2 (by rw [hsz]; omega)
  have O2 := Lib.hid (own_below (own_set O1.out (by simp) _) hb2)
  have HB2 := Lib.hid ((HB1.out.setCell (Nat.le_refl _) _).trans (hb2.mono (by rw [hsz]; omega)))
  clear hb2 hsz x1 x2 x3 x4 y1 y2 y3 y4
  obtain ⟨x1, x2, x3, x4⟩ := b0.facts
  obtain ⟨y1, y2, y3, y4⟩ := b2.facts
  have B0 := Lib.hid b0
  have B2 := Lib.hid b2
  clear b0 b2
  go_wp2_with fail
  have b2 := (B2.out.set_same 0 (.int .i64 v)).set_same 1 (.slice A1 l.length c1)
  obtain ⟨z1, z2, z3, z4⟩ := b2.facts
  have hZ := z3 0 2 (Nat.le_refl _)
  refine bodyPost_ret (ret_pool rfl _ _ _ _ rfl (by rw [hZ]; trivial)) rfl ⟨A1, c1, ?_, own_less (own_set (own_set O2.out (by simp) _) (by simp) _) (by omega), (HB2.out.setCell (show w.heap.size ≤ w.heap.size + 2 by omega) _).setCell (show w.heap.size ≤ w.heap.size + 2 by omega) _⟩
  rw [z4 0 2 (Nat.le_refl _)]
  rfl
end Go.Proofs.Ytgcahcjffoehfaa
