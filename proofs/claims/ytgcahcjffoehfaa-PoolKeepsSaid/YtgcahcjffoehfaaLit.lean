/- Literals of backends and ops. -/
import Derived.Test.YtgcahcjffoehfaaPoX
set_option linter.unusedSimpArgs false
set_option linter.unusedVariables false
namespace Go.Proofs.Ytgcahcjffoehfaa
open Go.RowKit

/-- v laid over cells from place off on -/
def laid (cells : Array Value) (off : Nat) (v : Array Value) : Array Value := v.zipIdx.foldl (fun cs (x : Value × Nat) => cs.setIfInBounds (off + x.2) x.1) cells
theorem laid_get (cells v : Array Value) (off j : Nat) : (laid cells off v)[j]? = if off ≤ j ∧ j < off + v.size ∧ j < cells.size then v[j - off]? else cells[j]? := by
  have h := foldl_set_get v.toList 0 off cells j
  unfold laid
  rw [← Array.foldl_toList, Array.toList_zipIdx, h]
  simp
theorem fill_cons (place : Nat → Option (Nat × Nat)) (cells : Array Value) (i off size : Nat) (v : Value) (rest : List (Nat × Value)) (hp : place i = some (off, size)) (hs : v.cells.size = size) (hf : off + size ≤ cells.size) :
    Instr.fill place cells ((i, v) :: rest) = Instr.fill place (laid cells off v.cells) rest := by
  have h1 : (decide (v.cells.size ≠ size) || decide (off + v.cells.size > cells.size)) = false := by
    rw [hs]; simp; omega
  rw [Instr.fill, hp]
  simp only [h1, laid]
  rfl
theorem laid_size (cells v : Array Value) (off : Nat) : (laid cells off v).size = cells.size := by
  unfold laid
  generalize v.zipIdx = l
  rw [← Array.foldl_toList]
  generalize l.toList = l
  induction l generalizing cells with
  | nil => rfl
  | cons x l ih => rw [List.foldl_cons, ih]; simp
theorem laid_one (cells : Array Value) (off : Nat) (v : Value) : laid cells off #[v] = cells.setIfInBounds off v := by
  simp [laid]
theorem cells_agg (c : Array Value) : (Value.agg c).cells = c := rfl

/-- the op without anything -/
def noOp : Opr := ⟨0, noBk, [], 0⟩
def mkBk (ps : Array (Nat × Value)) : Sem Value := Instr.build 36 ps
def mkOp (ps : Array (Nat × Value)) : Sem Value := Instr.build 38 ps
@[go_sem ↓] theorem mkBk_is (ps : Array (Nat × Value)) : Instr.build 36 ps = mkBk ps := rfl
@[go_sem ↓] theorem mkOp_is (ps : Array (Nat × Value)) : Instr.build 38 ps = mkOp ps := rfl
theorem run_build {P : Program} (w : World) (t : TypeId) (fs : Array Field) (i : TypeInfo) (z : Array Value) (ps : Array (Nat × Value)) (cells : Array Value) (places : Array (Nat × Nat)) (ht : P.underlying t = some (.struct fs)) (hi : P.info? t = some i) (hz : i.zero = some (.agg z))
    (hp : (Array.mapM (fun f => Prod.mk f.offset <$> sizeOf f.type) fs : Sem (Array (Nat × Nat))).run P w = .ok places w) (hf : Instr.fill (places[·]?) z ps.toList = some cells) : (Instr.build t ps).run P w = .ok (.agg cells) w := by
  simp only [Instr.build, zeroValue, typeInfo, Sem.run_bind, Result.andThen_ok, run_underlying ht]
  simp [hi, hz, hp, cells_agg, hf]
theorem infoOp : ∃ i : TypeInfo, Try.prog.info? 38 = some i ∧ i.zero = some (.agg noOp.arr) ∧ i.size = 30 ∧ i.bytes ≤ 400 := by
  cases h : Try.prog.info? 38 with
  | none => exact absurd h (by have : (Try.prog.info? 38).isSome = true := by kernel_rfl
                               intro e; rw [e] at this; cases this)
  | some i =>
    have h1 : (Try.prog.info? 38).map (·.size) = some 30 := by kernel_rfl
    have h2 : (Try.prog.info? 38).map (fun i => decide (i.bytes ≤ 400)) = some true := by kernel_rfl
    have h3 : (Try.prog.info? 38).map (·.zero) = some (some (.agg noOp.arr)) := by kernel_rfl
    rw [h] at h1 h2 h3
    simp at h1 h2 h3
    exact ⟨i, rfl, h3, h1, h2⟩
theorem places_op (w : World) (fs : Array Field) (h : Try.prog.underlying 38 = some (.struct fs)) : (Array.mapM (fun f => Prod.mk f.offset <$> sizeOf f.type) fs : Sem (Array (Nat × Nat))).run Try.prog w = .ok #[(0, 1), (1, 27), (28, 1), (29, 1)] w := by
  have e := Try.underlying38
  rw [h] at e
  cases e
  show _ = _
  kernel_rfl
theorem places_bk (w : World) (fs : Array Field) (h : Try.prog.underlying 36 = some (.struct fs)) : (Array.mapM (fun f => Prod.mk f.offset <$> sizeOf f.type) fs : Sem (Array (Nat × Nat))).run Try.prog w = .ok #[(0, 1), (1, 17), (18, 1), (19, 6), (25, 1), (26, 1)] w := by
  have e := Try.underlying36
  rw [h] at e
  cases e
  show _ = _
  kernel_rfl
theorem Opr.put_kind (o : Opr) (k : Int) : laid o.arr 0 #[.int .i64 k] = { o with kind := k }.arr := by
  rw [laid_one]; apply Array.ext'; simp [Opr.arr]
theorem Opr.put_name (o : Opr) (s : List UInt8) : laid o.arr 28 #[.string (textOf s)] = { o with name := s }.arr := by
  rw [laid_one]; apply Array.ext'; simp [Opr.arr, List.set_append, Bk.arr_size]
theorem Opr.put_w (o : Opr) (x : Nat) : laid o.arr 29 #[.float .f64 x] = { o with w := x }.arr := by
  rw [laid_one]; apply Array.ext'; simp [Opr.arr, List.set_append, Bk.arr_size, fv]
theorem Opr.put_bk (o : Opr) (x : Bk) : laid o.arr 1 x.arr = { o with bk := x }.arr := by
  have hx := Bk.arr_size x
  have ho := Opr.arr_size o
  apply Array.ext_getElem?
  intro j
  rw [laid_get, hx, ho]
  by_cases h : 1 ≤ j ∧ j < 1 + 27 ∧ j < 30
  · rw [if_pos h]
    obtain ⟨i, rfl⟩ : ∃ i, j = i + 1 := ⟨j - 1, by omega⟩
    rw [Opr.arr_bk { o with bk := x } i (by omega), Nat.add_sub_cancel]
  · rw [if_neg h]
    rcases Nat.lt_or_ge j 30 with h1 | h1
    · rcases (show j = 0 ∨ j = 28 ∨ j = 29 by omega) with rfl | rfl | rfl
      · rw [Opr.arr_0, Opr.arr_0]
      · rw [Opr.arr_28, Opr.arr_28]
      · rw [Opr.arr_29, Opr.arr_29]
    · rw [Array.getElem?_eq_none (by rw [ho]; exact h1), Array.getElem?_eq_none (by rw [Opr.arr_size]; exact h1)]
theorem run_mkOp_of (w : World) (ps : Array (Nat × Value)) (cells : Array Value) (hf : Instr.fill ((#[(0, 1), (1, 27), (28, 1), (29, 1)] : Array (Nat × Nat))[·]?) noOp.arr ps.toList = some cells) : (mkOp ps).run Try.prog w = .ok (.agg cells) w := by
  obtain ⟨i0, hi0, hz0, _, _⟩ := infoOp
  exact run_build w _ _ i0 noOp.arr ps cells _ Try.underlying38 hi0 hz0 (places_op w _ Try.underlying38) hf
@[go_sem] theorem run_mkOp_bk (w : World) (k : Int) (x : Bk) : (mkOp #[(0, .int .i64 k), (1, .agg x.arr)]).run Try.prog w = .ok (.agg (Opr.mk k x [] 0).arr) w := by
  refine run_mkOp_of w _ _ ?_
  rw [show (#[(0, Value.int .i64 k), (1, .agg x.arr)] : Array (Nat × Value)).toList = [(0, .int .i64 k), (1, .agg x.arr)] from rfl,
    fill_cons _ _ 0 0 1 _ _ rfl rfl (by rw [Opr.arr_size]; omega), show (Value.int .i64 k).cells = #[.int .i64 k] from rfl, Opr.put_kind,
    fill_cons _ _ 1 1 27 _ _ rfl (by rw [cells_agg, Bk.arr_size]) (by rw [Opr.arr_size]; omega), cells_agg, Opr.put_bk]
  rfl
@[go_sem] theorem run_mkOp_name (w : World) (k : Int) (s : List UInt8) : (mkOp #[(0, .int .i64 k), (2, .string (textOf s))]).run Try.prog w = .ok (.agg (Opr.mk k noBk s 0).arr) w := by
  refine run_mkOp_of w _ _ ?_
  rw [show (#[(0, Value.int .i64 k), (2, .string (textOf s))] : Array (Nat × Value)).toList = [(0, .int .i64 k), (2, .string (textOf s))] from rfl,
    fill_cons _ _ 0 0 1 _ _ rfl rfl (by rw [Opr.arr_size]; omega), show (Value.int .i64 k).cells = #[.int .i64 k] from rfl, Opr.put_kind,
    fill_cons _ _ 2 28 1 _ _ rfl rfl (by rw [Opr.arr_size]; omega), show (Value.string (textOf s)).cells = #[.string (textOf s)] from rfl, Opr.put_name]
  rfl
@[go_sem] theorem run_mkOp_weight (w : World) (k : Int) (s : List UInt8) (x : Nat) : (mkOp #[(0, .int .i64 k), (2, .string (textOf s)), (3, .float .f64 x)]).run Try.prog w = .ok (.agg (Opr.mk k noBk s x).arr) w := by
  refine run_mkOp_of w _ _ ?_
  rw [show (#[(0, Value.int .i64 k), (2, .string (textOf s)), (3, .float .f64 x)] : Array (Nat × Value)).toList = [(0, .int .i64 k), (2, .string (textOf s)), (3, .float .f64 x)] from rfl,
    fill_cons _ _ 0 0 1 _ _ rfl rfl (by rw [Opr.arr_size]; omega), show (Value.int .i64 k).cells = #[.int .i64 k] from rfl, Opr.put_kind,
    fill_cons _ _ 2 28 1 _ _ rfl rfl (by rw [Opr.arr_size]; omega), show (Value.string (textOf s)).cells = #[.string (textOf s)] from rfl, Opr.put_name,
    fill_cons _ _ 3 29 1 _ _ rfl rfl (by rw [Opr.arr_size]; omega), show (Value.float .f64 x).cells = #[.float .f64 x] from rfl, Opr.put_w]
  rfl
/-- the backend of the first test -/
def aBk : Bk := ⟨[97], ⟨false, Vector.replicate 16 0⟩, 80, Vector.replicate 6 0, 4609434218613702656, false⟩
@[go_sem] theorem run_aBk (w : World) : (mkBk #[(0, .string (textOf [97])), (2, .int .i64 80), (4, .float .f64 4609434218613702656)]).run Try.prog w = .ok (.agg aBk.arr) w := by
  obtain ⟨i0, hi0, hz0, _, _⟩ := infoBk
  exact run_build w _ _ i0 noBk.arr _ _ _ Try.underlying36 hi0 hz0 (places_bk w _ Try.underlying36) (by kernel_rfl)
/-- a slice of one op -/
def mkOps (n : Nat) (ps : Array (Nat × Value)) : Sem Value := Instr.buildSlice 40 n ps
@[go_sem ↓] theorem mkOps_is (n : Nat) (ps : Array (Nat × Value)) : Instr.buildSlice 40 n ps = mkOps n ps := rfl
@[go_sem] theorem run_mkOps (w : World) (x : Opr) : (mkOps 1 #[(0, .agg x.arr)]).run Try.prog w = .ok (.slice (some ⟨w.heap.size, 0, none⟩) 1 1) (w.alloc (.cells x.arr 38)) := by
  obtain ⟨i0, hi0, hz0, hz1, hzb⟩ := infoOp
  exact run_slice_lit w _ _ i0 (.agg noOp.arr) 30 Try.underlying40 hi0 hz0 hz1 (Opr.arr_size noOp) (by omega) (by omega) x.arr (Opr.arr_size x)
end Go.Proofs.Ytgcahcjffoehfaa
