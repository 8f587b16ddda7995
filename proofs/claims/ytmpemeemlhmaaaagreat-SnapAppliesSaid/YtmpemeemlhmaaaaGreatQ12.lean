/- Tuples, flows and states as values; reading and laying them as lists of bytes (plain). -/
import Derived.Test.YtmpemeemlhmaaaaGreatQ2
import Derived.Test.YtmpemeemlhmaaaaGreatQ7
import Derived.Test.YtmpemeemlhmaaaaGreatQ11
import Derived.Test.YtmpemeemlhmaaaaGreatQ5
import Derived.Deep.QuietTactic
import Derived.Deep.RegionHeld3
import Derived.BigQuiet
set_option linter.unusedSimpArgs false
set_option linter.unusedVariables false
set_option maxRecDepth 100000
namespace Go.Proofs.YtmpemeemlhmaaaaGreat

structure Tu where
  src : Adr
  dst : Adr
  proto : Int
  sport : Int
  dport : Int
deriving DecidableEq
structure Fw where
  key : Tu
  name : List UInt8
  state : Int
  seen : Int
  no : Int
deriving DecidableEq
structure Sta where
  ver : Int
  bks : List Bk
  hls : List Hl
  fws : List Fw
  tick : Int
  no : Int
  cnt : Vector Int 11
deriving DecidableEq
def noAdr : Adr := ⟨false, Vector.replicate 16 0⟩
def noTu : Tu := ⟨noAdr, noAdr, 0, 0, 0⟩
def noFw : Fw := ⟨noTu, [], 0, 0, 0⟩
def noSta : Sta := ⟨0, [], [], [], 0, 0, Vector.replicate 11 0⟩

/-! ### reading: what is left of the bytes; none: a fault -/
abbrev RS := Option (List UInt8)
def varO : RS → Nat × RS
  | some l => match varG l with
    | some (n, k) => (n, some (l.drop k))
    | none => (0, none)
  | none => (0, none)
def takeO (k : Nat) : RS → List UInt8 × RS
  | some l => if k ≤ l.length then (l.take k, some (l.drop k)) else ([], none)
  | none => ([], none)
def textO (m : Nat) : RS → List UInt8 × RS
  | some l => match varG l with
    | some (n, k) => if n ≤ m then takeO n (some (l.drop k)) else ([], none)
    | none => ([], none)
  | none => ([], none)
def numB (k : Nat) (s : RS) : Nat × RS := (bigNum (takeO k s).1, (takeO k s).2)
/-- a number, up to the greatest one and one -/
def numO (s : RS) : Nat × RS := (min (varO s).1 1152921504606846977, (varO s).2)
/-- bytes as an array -/
def vecO (n : Nat) (l : List UInt8) : Vector UInt8 n := Vector.ofFn fun i => l.getD i 0
/-- a backend; whether it may be -/
def bkO (s : RS) : (Bk × Bool) × RS :=
  let a1 := textO 255 s
  let a2 := numB 1 a1.2
  let a3 := takeO 16 a2.2
  let a4 := numB 2 a3.2
  let a5 := takeO 6 a4.2
  let a6 := takeO 8 a5.2
  let a7 := numB 1 a6.2
  (if decide (a2.1 ≤ 1) && wGetOk a6.1 && decide (a7.1 ≤ 1) && a7.2.isSome then (⟨a1.1, ⟨a2.1 == 1, vecO 16 a3.1⟩, a4.1, vecO 6 a5.1, wGet a6.1, a7.1 == 1⟩, true) else (noBk, false), a7.2)
/-- a health -/
def hlO (s : RS) : (Hl × Bool) × RS :=
  let a1 := textO 255 s
  let a2 := numB 1 a1.2
  let a3 := numO a2.2
  ((⟨a1.1, a2.1 == 1, a3.1⟩, decide (a2.1 ≤ 1)), a3.2)
/-- a tuple -/
def tuO (s : RS) : (Tu × Bool) × RS :=
  let a1 := numB 1 s
  let a2 := takeO 16 a1.2
  let a3 := takeO 16 a2.2
  let a4 := numB 1 a3.2
  let a5 := numB 2 a4.2
  let a6 := numB 2 a5.2
  ((⟨⟨a1.1 == 6, vecO 16 a2.1⟩, ⟨a1.1 == 6, vecO 16 a3.1⟩, a4.1, a5.1, a6.1⟩, (a1.1 == 6) || (a1.1 == 4)), a6.2)
/-- a flow -/
def fwO (s : RS) : (Fw × Bool) × RS :=
  let a1 := tuO s
  let a2 := textO 255 a1.2
  let a3 := numO a2.2
  let a4 := numO a3.2
  let a5 := numO a4.2
  ((⟨a1.1.1, a2.1, a3.1, a4.1, a5.1⟩, a1.1.2), a5.2)
def nameO (s : RS) : (List UInt8 × Bool) × RS := (((textO 255 s).1, true), (textO 255 s).2)
/-- so many, one behind the other -/
def listGo {α : Type} (one : RS → (α × Bool) × RS) : Nat → RS → Option (List α) × RS
  | 0, s => (some [], s)
  | k + 1, s =>
    let x := one s
    if x.1.2 && x.2.isSome then
      match listGo one k x.2 with
      | (some l, t) => (some (x.1.1 :: l), t)
      | (none, t) => (none, t)
    else (none, x.2)
def listO {α : Type} (one : RS → (α × Bool) × RS) (most : Nat) (s : RS) : Option (List α) × RS :=
  if (numO s).1 ≤ most then listGo one (numO s).1 (numO s).2 else (none, (numO s).2)
def cntO : Nat → RS → List Nat × RS
  | 0, s => ([], s)
  | k + 1, s => ((numO s).1 :: (cntO k (numO s).2).1, (cntO k (numO s).2).2)

/-! ### laying -/
def textB (s : List UInt8) : List UInt8 := varB s.length ++ s
def flagB (b : Bool) : List UInt8 := [if b then 1 else 0]
def bkB (x : Bk) : List UInt8 := textB x.name ++ (flagB x.addr.six ++ (x.addr.b.toList ++ (numPut x.port.toNat 2 true ++ (x.mac.toList ++ (wPut x.w ++ flagB x.drain)))))
def bksB (l : List Bk) : List UInt8 := varB l.length ++ l.flatMap bkB
def hlB (x : Hl) : List UInt8 := textB x.name ++ (varB (if x.down then 1 else 0) ++ varB x.run.toNat)
def tuB (t : Tu) : List UInt8 := [if t.src.six then 6 else 4] ++ (t.src.b.toList ++ (t.dst.b.toList ++ ([UInt8.ofNat t.proto.toNat] ++ (numPut t.sport.toNat 2 true ++ numPut t.dport.toNat 2 true))))
def fwB (x : Fw) : List UInt8 := tuB x.key ++ (textB x.name ++ (varB x.state.toNat ++ (varB x.seen.toNat ++ varB x.no.toNat)))
def staB (s : Sta) : List UInt8 := varB s.tick.toNat ++ (varB s.no.toNat ++ (s.cnt.toList.flatMap (fun n => varB n.toNat) ++ (varB s.ver.toNat ++ (bksB s.bks ++ (varB s.hls.length ++ (s.hls.flatMap hlB ++ (varB s.fws.length ++ s.fws.flatMap fwB)))))))

/-! ### what is right -/
def inN (n m : Int) : Bool := decide (0 ≤ n) && decide (n ≤ m)
def okAdr (a : Adr) : Bool := a.six || (a.b.toList.drop 4).all (· == 0)
def okTu (t : Tu) : Bool := decide (t.src.six = t.dst.six) && okAdr t.src && okAdr t.dst && inN t.proto 255 && inN t.sport 65535 && inN t.dport 65535
def okFw (x : Fw) : Bool := okTu x.key && okName x.name && decide (1 ≤ x.state) && decide (x.state ≤ 5) && inN x.seen 1099511627776 && inN x.no 1152921504606846976
def okHl (x : Hl) : Bool := decide (x.name.length ≤ 255) && inN x.run 99
def okSta (s : Sta) : Bool := pRight s.ver s.bks && decide (s.hls.length ≤ 1024) && decide (s.fws.length ≤ 4096) && inN s.tick 1099511627776 && inN s.no 1152921504606846976 && s.cnt.toList.all (inN · 1152921504606846976) && s.hls.all okHl && s.fws.all okFw
end Go.Proofs.YtmpemeemlhmaaaaGreat

namespace Go.Proofs.YtmpemeemlhmaaaaGreat
open Go.RowKit Go.ChangeShapes Go.WideShapes Go.ChangeAt Go.Deep

theorem eq_errno (a b : Int) (d : Nat) (W : World) : (Op.equalIn (d + 1) 33 (.int .i64 a) (.int .i64 b)).run Tryz.prog W = .ok (a == b) W := by
  simp only [Op.equalIn, Sem.run_bind, run_underlying Tryz.underlying33, Result.andThen_ok, if_true, Sem.run_pure]
structure Sp where
  at_ : Int
  err : Int
deriving DecidableEq
def Sp.arr (x : Sp) : Array Value := #[Value.int .i64 x.at_, Value.int .i64 x.err]
theorem Sp.arr_size (x : Sp) : x.arr.size = 2 := by simp [Sp.arr]
@[go_sem] theorem Sp.csize (x : Sp) : csize x.arr = 2 := Sp.arr_size x
@[go_sem] theorem Sp.arr_0 (x : Sp) : x.arr[0]? = some (.int .i64 x.at_) := rfl
@[go_sem] theorem Sp.arr_1 (x : Sp) : x.arr[1]? = some (.int .i64 x.err) := rfl
theorem Sp.arr_one (x : Sp) : x.arr.all (·.oneCell') = true := by simp [Sp.arr, Value.oneCell']
@[go_sem] theorem Sp.extract_all (x : Sp) : x.arr.extract 0 2 = x.arr := by
  have := Sp.arr_size x
  rw [← this]; simp
/-- the one without anything -/
def noSp : Sp := ⟨0, 0⟩
@[go_sem] theorem noSp_agg : Value.agg #[Value.int IntKind.i64 0, Value.int IntKind.i64 0] = Value.agg noSp.arr := rfl
@[go_sem] theorem noSp_cells : Obj.cells #[Value.int IntKind.i64 0, Value.int IntKind.i64 0] 98 = Obj.cells noSp.arr 98 := rfl
def loadSp (v : Value) : Sem Value := Instr.loadAt 98 v
def storeSp (v x : Value) : Sem Unit := Instr.storeAt 98 v x
@[go_sem ↓] theorem loadSp_is (v : Value) : Instr.loadAt 98 v = loadSp v := rfl
@[go_sem ↓] theorem storeSp_is (v x : Value) : Instr.storeAt 98 v x = storeSp v x := rfl
@[go_sem] theorem load_sp (W : World) (b o : Nat) (h : Has W b o 2) : (loadSp (.pointer (some ⟨b, o, none⟩))).run Tryz.prog W = .ok (.agg (cellsAt W b o 2)) W :=
  run_loadAt_has W b o 2 _ _ Tryz.underlying98 rfl (by kernel_rfl) h
@[go_sem] theorem store_sp_new (W : World) (c : Array Value) (x : Sp) (b : Nat) (hb : b = W.heap.size) (hc : csize c = 2) :
    (storeSp (.pointer (some ⟨b, 0, none⟩)) (.agg x.arr)).run Tryz.prog (W.alloc (.cells c 98)) = .ok () (W.alloc (.cells x.arr 98)) := by
  subst hb; exact run_storeAt_new W _ c x.arr (by rw [Sp.arr_size]; kernel_rfl) (by rw [Sp.arr_size]; exact hc) (Sp.arr_one x)
/-- a whole one into cells that are there -/
def setSp (W : World) (b o : Nat) (x : Sp) : World := W.setCells b o x.arr.toList
@[go_sem] theorem store_sp (W : World) (b o : Nat) (x : Sp) (h : W.there b o 2) : (storeSp (.pointer (some ⟨b, o, none⟩)) (.agg x.arr)).run Tryz.prog W = .ok () (setSp W b o x) :=
  run_storeAt_mid W b o _ x.arr (by rw [Sp.arr_size]; exact h) (by rw [Sp.arr_size]; kernel_rfl) (Sp.arr_one x)
theorem Box.putSp {W : World} {b : Nat} {c : Array Value} (h : Box W b c) (hc : c.size = 2) (x : Sp) : Box (setSp W b 0 x) b x.arr := h.setAll x.arr (by rw [Sp.arr_size, hc])
theorem setSp_below {w W : World} {B : Nat} (h : Below B w W) (b o : Nat) (x : Sp) (hb : B ≤ b) : Below B w (setSp W b o x) := below_setCells hb _ o W h
theorem setSp_grown {w W : World} {g : Nat} (h : w.grownBy W (some g)) (o : Nat) (x : Sp) : w.grownBy (setSp W g o x) (some g) := grown_setCells _ o W h
theorem setSp_other (W : World) (b o : Nat) (x : Sp) (p : Addr) (h : p.block ≠ b) : (setSp W b o x).cell? p = W.cell? p := World.cell?_setCells_out b _ o W p (fun hb _ => absurd hb h)
theorem Box.putSp_other {W : World} {b b2 o : Nat} {c : Array Value} (h : Box W b c) (x : Sp) (hne : b ≠ b2) : Box (setSp W b2 o x) b c := h.grown (setSp_grown (w := W) (g := b2) (World.grownBy.refl _ _) o x) (fun e => hne (by injection e))
def spEq (x y : Sp) : Bool := (x.at_ == y.at_) && ((x.err == y.err) && true)
theorem spEq_is (x y : Sp) : spEq x y = decide (x = y) := by
  rw [Bool.eq_iff_iff]
  cases x; cases y
  simp [spEq]
theorem spEq_self (x : Sp) : spEq x x = true := by simp [spEq]
theorem sp_fields : Tryz.prog.underlying 98 = some (.struct (Tryz.prog.fieldsOf 98)) := by
  simp only [Program.fieldsOf, Tryz.underlying98]
theorem sp_list : ∃ f1 f2 : Field, (Tryz.prog.fieldsOf 98).toList = [f1, f2] ∧ (f1.name ≠ "_" ∧ f2.name ≠ "_") ∧ (f1.type = 3 ∧ f1.offset = 0) ∧ (f2.type = 33 ∧ f2.offset = 1) := by
  refine ⟨_, _, by simp only [Program.fieldsOf, Tryz.underlying98]; rfl, ⟨?_, ?_⟩, ⟨rfl, rfl⟩, ⟨rfl, rfl⟩⟩ <;> decide
theorem run_eq_sp (x y : Sp) (d : Nat) (W : World) : (Op.equalIn (d + 2) 98 (.agg x.arr) (.agg y.arr)).run Tryz.prog W = .ok (spEq x y) W := by
  rw [run_equalIn_struct W (d + 1) _ _ _ sp_fields Tryz.stoodInHeld98]
  obtain ⟨f1, f2, hl, ⟨n1, n2⟩, ⟨t1, o1⟩, ⟨t2, o2⟩⟩ := sp_list
  rw [hl]
  have p1 : ∀ z : Sp, (part f1.type z.arr f1.offset).run Tryz.prog W = .ok (.int .i64 z.at_) W := fun z => by
    rw [t1, o1]; exact part_one (by simp only [Tryz.underlying3]) (Sp.arr_0 z) W
  have p2 : ∀ z : Sp, (part f2.type z.arr f2.offset).run Tryz.prog W = .ok (.int .i64 z.err) W := fun z => by
    rw [t2, o2]; exact part_one (by simp only [Tryz.underlying33]) (Sp.arr_1 z) W
  exact (eqFields_cons _ _ _ _ _ n1 W _ _ _ _ (p1 x) (p1 y) (by rw [t1]; exact eq_int _ _ _ W) (eqFields_cons _ _ _ _ _ n2 W _ _ _ _ (p2 x) (p2 y) (by rw [t2]; exact eq_errno _ _ _ W) (by simp [Op.eqFields])))
@[go_sem ↓] theorem eq_sp (x y : Sp) (W : World) : (Op.equalIn 10000 98 (.agg x.arr) (.agg y.arr)).run Tryz.prog W = .ok (spEq x y) W := run_eq_sp x y 9998 W
theorem infoSp : ∃ i : TypeInfo, Tryz.prog.info? 98 = some i ∧ i.zero = some (.agg noSp.arr) ∧ i.size = 2 ∧ i.bytes ≤ 400 := by
  cases h : Tryz.prog.info? 98 with
  | none => exact absurd h (by have : (Tryz.prog.info? 98).isSome = true := by kernel_rfl
                               intro e; rw [e] at this; cases this)
  | some i =>
    have h1 : (Tryz.prog.info? 98).map (·.size) = some 2 := by kernel_rfl
    have h2 : (Tryz.prog.info? 98).map (fun i => decide (i.bytes ≤ 400)) = some true := by kernel_rfl
    have h3 : (Tryz.prog.info? 98).map (·.zero) = some (some (.agg noSp.arr)) := by kernel_rfl
    rw [h] at h1 h2 h3
    simp at h1 h2 h3
    exact ⟨i, rfl, h3, h1, h2⟩
def mkSp (ps : Array (Nat × Value)) : Sem Value := Instr.build 98 ps
@[go_sem ↓] theorem mkSp_is (ps : Array (Nat × Value)) : Instr.build 98 ps = mkSp ps := rfl
theorem places_sp (w : World) (fs : Array Field) (h : Tryz.prog.underlying 98 = some (.struct fs)) : (Array.mapM (fun f => Prod.mk f.offset <$> sizeOf f.type) fs : Sem (Array (Nat × Nat))).run Tryz.prog w = .ok #[(0, 1), (1, 1)] w := by
  have e := Tryz.underlying98
  rw [h] at e
  cases e
  show _ = _
  kernel_rfl
@[go_sem] theorem run_mkSp_z (w : World)  : (mkSp #[]).run Tryz.prog w = .ok (.agg (Sp.mk 0 0).arr) w := by
  obtain ⟨i0, hi0, hz0, _, _⟩ := infoSp
  exact run_build w _ _ i0 noSp.arr _ _ _ Tryz.underlying98 hi0 hz0 (places_sp w _ Tryz.underlying98) rfl
@[go_sem] theorem run_mkSp_0 (w : World) (u0 : Int) : (mkSp #[(0, .int .i64 u0)]).run Tryz.prog w = .ok (.agg (Sp.mk u0 0).arr) w := by
  obtain ⟨i0, hi0, hz0, _, _⟩ := infoSp
  exact run_build w _ _ i0 noSp.arr _ _ _ Tryz.underlying98 hi0 hz0 (places_sp w _ Tryz.underlying98) rfl
@[go_sem] theorem run_mkSp_1 (w : World) (u1 : Int) : (mkSp #[(1, .int .i64 u1)]).run Tryz.prog w = .ok (.agg (Sp.mk 0 u1).arr) w := by
  obtain ⟨i0, hi0, hz0, _, _⟩ := infoSp
  exact run_build w _ _ i0 noSp.arr _ _ _ Tryz.underlying98 hi0 hz0 (places_sp w _ Tryz.underlying98) rfl
@[go_sem] theorem run_mkSp_01 (w : World) (u0 : Int) (u1 : Int) : (mkSp #[(0, .int .i64 u0), (1, .int .i64 u1)]).run Tryz.prog w = .ok (.agg (Sp.mk u0 u1).arr) w := by
  obtain ⟨i0, hi0, hz0, _, _⟩ := infoSp
  exact run_build w _ _ i0 noSp.arr _ _ _ Tryz.underlying98 hi0 hz0 (places_sp w _ Tryz.underlying98) rfl
/-! ### a reader -/
def rdC (A : Option Addr) (n c : Nat) (at_ : Int) (fa fe : Int) : Array Value := #[.slice A n c, .int .i64 at_, .int .i64 fa, .int .i64 fe]
theorem rdC_size (A : Option Addr) (n c : Nat) (at_ fa fe : Int) : (rdC A n c at_ fa fe).size = 4 := rfl
@[go_sem] theorem rdC_csize (A : Option Addr) (n c : Nat) (at_ fa fe : Int) : csize (rdC A n c at_ fa fe) = 4 := rfl
@[go_sem] theorem rdC_0 (A : Option Addr) (n c : Nat) (at_ fa fe : Int) : (rdC A n c at_ fa fe)[0]? = some (.slice A n c) := rfl
@[go_sem] theorem rdC_1 (A : Option Addr) (n c : Nat) (at_ fa fe : Int) : (rdC A n c at_ fa fe)[1]? = some (.int .i64 at_) := rfl
@[go_sem] theorem rdC_2 (A : Option Addr) (n c : Nat) (at_ fa fe : Int) : (rdC A n c at_ fa fe)[2]? = some (.int .i64 fa) := rfl
@[go_sem] theorem rdC_3 (A : Option Addr) (n c : Nat) (at_ fa fe : Int) : (rdC A n c at_ fa fe)[3]? = some (.int .i64 fe) := rfl
@[go_sem] theorem rdC_sp (A : Option Addr) (n c : Nat) (at_ fa fe : Int) : (rdC A n c at_ fa fe).extract 2 (2 + 2) = (Sp.mk fa fe).arr := rfl
theorem rdC_at (A : Option Addr) (n c : Nat) (at_ fa fe u : Int) : (rdC A n c at_ fa fe).setIfInBounds 1 (.int .i64 u) = rdC A n c u fa fe := rfl
theorem setSp_two (W : World) (b o : Nat) (x : Sp) : setSp W b o x = (W.setCell ⟨b, o, none⟩ (.int .i64 x.at_)).setCell ⟨b, o + 1, none⟩ (.int .i64 x.err) := rfl
theorem Box.putSp2 {W : World} {p : Nat} {A : Option Addr} {n c : Nat} {at_ fa fe : Int} (h : Box W p (rdC A n c at_ fa fe)) (x : Sp) : Box (setSp W p 2 x) p (rdC A n c at_ x.at_ x.err) := by
  rw [setSp_two]
  exact (h.set_same 2 _).set_same 3 _
/-- whether what is left of a reader's bytes is this; none: there is a fault -/
def LeftIs (s : RS) (l : List UInt8) (at_ : Nat) (fa fe : Int) : Prop := match s with
  | some r => r = l.drop at_ ∧ fa = 0 ∧ fe = 0
  | none => fe ≠ 0
/-- at p lies a reader of n bytes, which lie in block g: what is left is s -/
def RdrS (W : World) (p g N : Nat) (s : RS) : Prop := ∃ A n c l at_ fa fe, Box W p (rdC A n c (at_ : Nat) fa fe) ∧ RdB W W.heap.size A n l ∧ (∀ a, A = some a → a.block = g ∧ g ≠ p ∧ g < W.heap.size) ∧ at_ ≤ n ∧ n ≤ c ∧ c ≤ 9223372036854775807 ∧ n ≤ N ∧ N ≤ 1000000000 ∧ LeftIs s l at_ fa fe
section
variable {W W' : World} {p g N : Nat} {s : RS}
theorem RdrS.lt (h : RdrS W p g N s) : p < W.heap.size := by obtain ⟨A, n, c, l, at_, fa, fe, h1, _⟩ := h; exact h1.lt
theorem RdrS.go (h : RdrS W p g N s) (hb : Below W.heap.size W W') : RdrS W' p g N s := by
  obtain ⟨A, n, c, l, at_, fa, fe, h1, h2, h3, h4⟩ := h
  exact ⟨A, n, c, l, at_, fa, fe, h1.go hb, (h2.to hb (Nat.le_refl _)).more hb.size, fun a ha => ⟨(h3 a ha).1, (h3 a ha).2.1, Nat.lt_of_lt_of_le (h3 a ha).2.2 hb.size⟩, h4⟩
theorem RdB.grownO {w W W' : World} {B n : Nat} {A : Option Addr} {l : List UInt8} {k : Option Nat} (h : RdB W B A n l) (hg : W.grownBy W' k) (hne : ∀ a, A = some a → some a.block ≠ k) : RdB W' B A n l := by
  refine ⟨h.1, fun hn => ?_⟩
  obtain ⟨a, hA, hb, hc⟩ := h.2 hn
  refine ⟨a, hA, hb, fun j u hu => hg.cell (hc j u hu) ?_⟩
  have := hne a hA
  rwa [add_block]
theorem RdrS.grown {k : Nat} (h : RdrS W p g N s) (hg : W.grownBy W' (some k)) (h1 : k ≠ p) (h2 : k ≠ g) : RdrS W' p g N s := by
  obtain ⟨A, n, c, l, at_, fa, fe, q1, q2, q3, q4⟩ := h
  exact ⟨A, n, c, l, at_, fa, fe, q1.grown hg (fun e => h1 (by injection e with e; exact e.symm)), (q2.grownO (w := W) hg (fun a ha e => h2 (by injection e with e; rw [← e]; exact (q3 a ha).1))).more hg.size, fun a ha => ⟨(q3 a ha).1, (q3 a ha).2.1, Nat.lt_of_lt_of_le (q3 a ha).2.2 hg.size⟩, q4⟩
theorem RdrS.drewN (h : RdrS W p g N s) (k : Nat) : RdrS (W.drewN k) p g N s := by
  obtain ⟨A, n, c, l, at_, fa, fe, q1, q2, q3, q4⟩ := h
  exact ⟨A, n, c, l, at_, fa, fe, q1.drewN k, q2.drewN k, q3, q4⟩
theorem RdrS.drew (h : RdrS W p g N s) : RdrS W.drew p g N s := h.drewN 1
end
theorem RdB.grown_below {w W W' : World} {B n : Nat} {A : Option Addr} {l : List UInt8} (h : RdB W B A n l) (hb : Below B W W') : RdB W' B A n l := h.below hb
set_option maxRecDepth 100000 in
set_option maxHeartbeats 2000000 in
theorem fail_any (p g N : Nat) (s : RS) (e : Int) (he : e ≠ 0) (W : World) (h : RdrS W p g N s) :
    Calls Tryz.prog 101 #[.pointer (some ⟨p, 0, none⟩), .int .i64 e] W fun en W' => en = .returned (.tuple #[]) ∧ RdrS W' p g N none ∧ W.grownBy W' (some p) := by
  obtain ⟨A, n, c, l, at_, fa, fe, q1, q2, q3, q4, q5, q6, q7, q8, q9⟩ := h
  obtain ⟨f1, f2, f3, f4⟩ := q1.facts
  have hl := q1.lt
  have HQ1 := Lib.hid q1
  have HQ2 := Lib.hid q2
  have HQ3 := Lib.hid q3
  have th := q1.there 2 2 (by rw [rdC_size]; omega)
  have HE := Lib.hid he
  clear q1 q2 q3 q9 he
  cases hz : (fe == 0)
  · have HF := Lib.hid (show fe ≠ 0 by simpa using hz)
    go_enter Tryz.func101, Tryz.ntmps101
    go_wp2
    go_end0
    exact ⟨rfl, ⟨A, n, c, l, at_, fa, fe, HQ1.out, HQ2.out, HQ3.out, q4, q5, q6, q7, q8, HF.out⟩, World.grownBy.refl _ _⟩
  · go_enter Tryz.func101, Tryz.ntmps101
    go_wp2
    go_end0
    exact ⟨rfl, ⟨A, n, c, l, at_, at_, e, HQ1.out.putSp2 ⟨at_, e⟩, (HQ2.out.grownO (w := W) (setSp_grown (World.grownBy.refl _ _) 2 ⟨at_, e⟩) (fun a ha e => (HQ3.out a ha).2.1 (by injection e with e; rw [← (HQ3.out a ha).1]; exact e))).more (setSp_grown (w := W) (World.grownBy.refl _ _) 2 ⟨at_, e⟩).size, fun a ha => ⟨(HQ3.out a ha).1, (HQ3.out a ha).2.1, Nat.lt_of_lt_of_le (HQ3.out a ha).2.2 (setSp_grown (w := W) (g := p) (World.grownBy.refl _ _) 2 ⟨at_, e⟩).size⟩, q4, q5, q6, q7, q8, HE.out⟩, setSp_grown (World.grownBy.refl _ _) 2 ⟨at_, e⟩⟩
end Go.Proofs.YtmpemeemlhmaaaaGreat

namespace Go.Proofs.YtmpemeemlhmaaaaGreat
open Go.RowKit

theorem RdB.of_own {w : World} {base n c : Nat} {e : TypeId} {A : Option Addr} {l : List UInt8} (h : w.ownsRow base e 1 (.slice A n c) n (l.map bv)) : RdB w w.heap.size A n l := Rd.of_own h
/-- bytes are answered, in memory of the call's own -/
def ClY (w : World) (n : Nat) (l : List UInt8) (e : Ending) (w' : World) : Prop :=
  ∃ A c, e = .returned (.slice A n c) ∧ w'.ownsRow w.heap.size 5 1 (.slice A n c) n (l.map bv) ∧ Below w.heap.size w w'
set_option maxRecDepth 100000 in
theorem clone_any (l : List UInt8) (A : Option Addr) (n c : Nat) (w : World) (hR : RdB w w.heap.size A n l) (hn : n ≤ 1073741824) :
    Calls Tryz.prog 93 #[.slice A n c] w (ClY w n l) := by
  have hll := hR.len
  cases A with
  | some a =>
    have hnil : ∀ W : World, (binOp .eql 32 (.slice (some a) n c) (.slice none 0 0)).run Tryz.prog W = .ok (.bool false) W := fun W => by
      simp only [binOp]
      simp [run_equal_slice_nil, Tryz.underlying32]
    obtain ⟨i0, hi0, hz0, hz1, hzb⟩ := info_parts infoU8
    have hz2 : (Value.int .u8 0).cells.size = 1 := rfl
    have O1 := Lib.hid (show (w.alloc (.cells #[] 5)).ownsRow w.heap.size 5 1 (.slice (some ⟨w.heap.size, 0, none⟩) 0 0) 0 [] from World.ownsRow_lit w #[] 0 (Nat.le_refl _) (by unfold maxLen; omega) rfl)
    have O2 := Lib.hid (hR.alloc (Nat.le_refl _) (.cells #[] 5))
    have H63 := Lib.hid (show 0 + n ≤ maxLen by unfold maxLen; omega)
    have HBY := Lib.hid (show (0 + n) * 1 ≤ 140737488355328 by omega)
    have O3 := Lib.hid (show w.heap.size ≤ (w.alloc (.cells #[] 5)).heap.size by simp)
    have ON := Lib.hid (bvs_one l)
    clear hR hll
    go_enter Tryz.func93, Tryz.ntmps93
    go_wp2_with (at_builtin; refine wpList_app_rd _ rfl (.tmp 5) (.tmp 6) _ rfl w.heap.size 5 i0 (.int .u8 0) 1 1 Tryz.underlying32 hi0 hz0 hz1 hzb hz2 (Nat.succ_pos _) (.slice (some ⟨w.heap.size, 0, none⟩) 0 0) 0 [] rfl O1.out w.heap.size (some a) n c (l.map bv) rfl O2.out ON.out H63.out HBY.out O3.out ?_; intro v1 w1 hown1 hg1 hat1)
    obtain ⟨A', c', hv, _, _⟩ := own_form hown1
    subst hv
    simp only [Nat.zero_add, List.nil_append] at hown1
    have hb := gb_below ((Below.refl w.heap.size w).alloc (Nat.le_refl _) (.cells #[] 5)) hg1 (Nat.le_refl _) O3.out
    go_wp2
    go_ret
    exact ⟨A', c', by simp, hown1, hb⟩
  | none =>
    have h0 : n = 0 := by
      rcases Nat.eq_zero_or_pos n with h0 | h0
      · exact h0
      · obtain ⟨a, ha, _⟩ := hR.2 h0; cases ha
    subst h0
    have hl : l = [] := List.eq_nil_of_length_eq_zero hll
    subst hl
    have hnil : ∀ W : World, (binOp .eql 32 (.slice none 0 c) (.slice none 0 0)).run Tryz.prog W = .ok (.bool true) W := fun W => by
      simp only [binOp]
      simp [run_equal_slice_nil, Tryz.underlying32]
    have FIN := Lib.hid (show ClY w 0 [] (.returned (.slice none 0 0)) w from ⟨none, 0, rfl, World.ownsRow_nil _ _ _ _, Below.refl _ _⟩)
    clear hR hll
    go_enter Tryz.func93, Tryz.ntmps93
    go_wp2
    go_ret
    exact FIN.out
/-! ### New -/
theorem infoRd : ∃ i : TypeInfo, Tryz.prog.info? 146 = some i ∧ i.zero = some (.agg (rdC none 0 0 0 0 0)) := by
  cases h : Tryz.prog.info? 146 with
  | none => exact absurd h (by have : (Tryz.prog.info? 146).isSome = true := by kernel_rfl
                               intro e; rw [e] at this; cases this)
  | some i =>
    have h3 : (Tryz.prog.info? 146).map (·.zero) = some (some (.agg (rdC none 0 0 0 0 0))) := by kernel_rfl
    rw [h] at h3
    simp at h3
    exact ⟨i, rfl, h3⟩
theorem places_rd (w : World) (fs : Array Field) (h : Tryz.prog.underlying 146 = some (.struct fs)) : (Array.mapM (fun f => Prod.mk f.offset <$> sizeOf f.type) fs : Sem (Array (Nat × Nat))).run Tryz.prog w = .ok #[(0, 1), (1, 1), (2, 2)] w := by
  have e := Tryz.underlying146
  rw [h] at e
  cases e
  show _ = _
  kernel_rfl
def mkRd (ps : Array (Nat × Value)) : Sem Value := Instr.build 146 ps
@[go_sem ↓] theorem mkRd_is (ps : Array (Nat × Value)) : Instr.build 146 ps = mkRd ps := rfl
@[go_sem] theorem run_mkRd (w : World) (A : Option Addr) (n c : Nat) : (mkRd #[(0, .slice A n c)]).run Tryz.prog w = .ok (.agg (rdC A n c 0 0 0)) w := by
  obtain ⟨i0, hi0, hz0⟩ := infoRd
  exact run_build w _ _ i0 (rdC none 0 0 0 0 0) _ _ _ Tryz.underlying146 hi0 hz0 (places_rd w _ Tryz.underlying146) rfl
set_option maxRecDepth 100000 in
theorem cursorNew_any (l : List UInt8) (A : Option Addr) (n c : Nat) (w : World) (hR : RdB w w.heap.size A n l) (hn : n ≤ 1000000000) :
    Calls Tryz.prog 44 #[.slice A n c] w fun e w' => ∃ p g, e = .returned (.pointer (some ⟨p, 0, none⟩)) ∧ RdrS w' p g n (some l) ∧ w.heap.size ≤ p ∧ w.heap.size ≤ g ∧ g < w'.heap.size ∧ Below w.heap.size w w' := by
  have hll := hR.len
  have CL := Lib.hid (clone_any l A n c w hR (by omega))
  clear hR
  go_enter Tryz.func44, Tryz.ntmps44
  go_wp2_with fail
  refine CL.out.mono ?_
  rintro e w1 ⟨A1, c1, rfl, ho, hb⟩
  have HO := Lib.hid ho
  have HB := Lib.hid hb
  clear ho hb
  go_wp2
  go_ret
  obtain ⟨A2, c2, hv, h1, h2⟩ := own_form HO.out
  injection hv with e1 e2 e3
  subst e1 e3
  have hR2 := (RdB.of_own HO.out).alloc (Nat.le_refl _) (.cells (rdC A1 n c1 0 0 0) 146)
  have hbl := HB.out.alloc HB.out.size (.cells (rdC A1 n c1 0 0 0) 146)
  cases A1 with
  | none =>
    exact ⟨w1.heap.size, w1.heap.size, rfl, ⟨none, n, c1, l, 0, 0, 0, Box.new _ _ _, hR2.more (by simp), fun a ha => (by cases ha), by omega, h1, by unfold maxLen at h2; omega, by omega, hn, rfl, rfl, rfl⟩, HB.out.size, HB.out.size, by simp, hbl⟩
  | some a =>
    have hlt := HO.out.lt a.block rfl
    exact ⟨w1.heap.size, a.block, rfl, ⟨some a, n, c1, l, 0, 0, 0, Box.new _ _ _, hR2.more (by simp), fun a' ha => (by injection ha with ha; subst ha; exact ⟨rfl, by omega, by simp; omega⟩), by omega, h1, by unfold maxLen at h2; omega, by omega, hn, rfl, rfl, rfl⟩, HB.out.size, hlt.1, by simp; omega, hbl⟩
set_option maxRecDepth 100000 in
theorem left_any (p : Nat) (A : Option Addr) (n c at_ : Nat) (fa fe : Int) (W : World) (hB : Box W p (rdC A n c (at_ : Nat) fa fe)) (h1 : at_ ≤ n) (h2 : n ≤ 1000000000) :
    Calls Tryz.prog 100 #[.pointer (some ⟨p, 0, none⟩)] W fun e W' => e = .returned (.int .i64 ((n - at_ : Nat) : Int)) ∧ Below W.heap.size W W' := by
  obtain ⟨f1, f2, f3, f4⟩ := hB.facts
  have hl := hB.lt
  clear hB
  have hs : IntKind.i64.wrap ((n : Int) - (at_ : Int)) = ((n - at_ : Nat) : Int) := by rw [IntWalk.i64_in _ (by omega)]; omega
  have HS := Lib.hid hs
  go_enter Tryz.func100, Tryz.ntmps100
  go_wp2
  go_quiet (fail)
  go_wp2
  go_ret
  exact ⟨rfl, below_drewN (Below.refl _ _) _⟩
/-- a piece of bytes, as the walk spells it -/
theorem RdB.piece {w : World} {B n : Nat} {A : Option Addr} {l : List UInt8} (h : RdB w B A n l) {z b c : Nat} (hz : z ≤ b) (hb : b ≤ n) (hc : n ≤ c) : RdB w B (if c = z then A else Option.map (fun x => x.add z) A) (b - z) ((l.drop z).take (b - z)) := by
  have h1 := Rd.cut h (k := z) (cap := c) (by omega) hc
  have h2 := Rd.upto h1 (k := b - z) (by omega)
  rw [Nat.mul_one, Nat.mul_one] at h2
  unfold RdB
  rw [List.map_take, List.map_drop]
  exact h2
/-- bytes that are answered by a reader, and the reader behind -/
def TakeP (W : World) (p g N : Nat) (r : List UInt8 × RS) (e : Ending) (W' : World) : Prop :=
  ∃ A n c, e = .returned (.slice A n c) ∧ RdB W' W'.heap.size A n r.1 ∧ n ≤ c ∧ c ≤ 9223372036854775807 ∧ n ≤ 1000000000 ∧ RdrS W' p g N r.2 ∧ W.grownBy W' (some p)
theorem gb_of_below {W W' : World} (h : Below W.heap.size W W') (k : Option Nat) : W.grownBy W' k := ⟨h.os, h.tape, h.output, h.size, fun i hi _ => h.block i hi⟩
theorem TakeP.nil {W W' : World} {p g N : Nat} {s : RS} (h : RdrS W' p g N s) (hg : W.grownBy W' (some p)) : TakeP W p g N ([], s) (.returned (.slice none 0 0)) W' :=
  ⟨none, 0, 0, rfl, ⟨rfl, fun h => absurd h (by omega)⟩, by omega, by omega, by omega, h, hg⟩
theorem TakeP.from {W W1 W' : World} {p g N : Nat} {r : List UInt8 × RS} {e : Ending} (hg : W.grownBy W1 (some p)) (h : TakeP W1 p g N r e W') : TakeP W p g N r e W' := by
  obtain ⟨A, n, c, h1, h2, h3, h4, h5, h6, h7⟩ := h
  exact ⟨A, n, c, h1, h2, h3, h4, h5, h6, gb_trans hg h7⟩
theorem takeO_none (k : Nat) : takeO k none = ([], none) := rfl
theorem takeO_ok {k : Nat} {l : List UInt8} (h : k ≤ l.length) : takeO k (some l) = (l.take k, some (l.drop k)) := by simp [takeO, h]
theorem takeO_no {k : Nat} {l : List UInt8} (h : ¬ k ≤ l.length) : takeO k (some l) = ([], none) := by simp [takeO, h]
set_option maxRecDepth 100000 in
set_option maxHeartbeats 4000000 in
theorem cut_any (p g N : Nat) (s : RS) (k m : Nat) (W : World) (h : RdrS W p g N s) (hk : ∀ l, s = some l → k ≤ l.length) (hm : m ≤ 1000000000) (hk9 : k ≤ 1000000000) :
    Calls Tryz.prog 134 #[.pointer (some ⟨p, 0, none⟩), .int .i64 k, .int .i64 m] W (TakeP W p g N (takeO m (s.map (List.drop k)))) := by
  have HH := Lib.hid h
  obtain ⟨A, n, c, l, at_, fa, fe, q1, q2, q3, q4, q5, q6, q7, q8, q9⟩ := h
  obtain ⟨f1, f2, f3, f4⟩ := q1.facts
  have hl := q1.lt
  have hlen := q2.len
  cases s with
  | none =>
    have hfe0 : fe ≠ 0 := q9
    have hfe : (fe != 0) = true := by simpa using hfe0
    clear q1 q2 q3 q9 hfe0
    go_enter Tryz.func134, Tryz.ntmps134
    go_wp2
    go_ret
    exact TakeP.nil HH.out (World.grownBy.refl _ _)
  | some r =>
    obtain ⟨hr, hfa, hfe⟩ := q9
    subst hfa hfe
    have hkr := hk r rfl
    have hrl : r.length = n - at_ := by rw [hr, List.length_drop, hlen]
    rw [hrl] at hkr
    have LF := Lib.hid (left_any p A n c at_ 0 0 W q1 q4 (by omega))
    have HQ1 := Lib.hid q1
    have HQ2 := Lib.hid q2
    have HQ3 := Lib.hid q3
    have HR := Lib.hid hr
    have HRL := Lib.hid hrl
    clear q1 q2 q3 hr hrl hk
    rw [show (some r).map (List.drop k) = some (r.drop k) from rfl]
    by_cases hmm : m ≤ n - at_ - k
    · obtain ⟨z, hz⟩ : ∃ z, z = at_ + k := ⟨_, rfl⟩
      obtain ⟨b, hb⟩ : ∃ b, b = z + m := ⟨_, rfl⟩
      have hz2 : (at_ : Int) + (k : Int) = (z : Int) := by omega
      have hb2 : (z : Int) + (m : Int) = (b : Int) := by omega
      have HZ := Lib.hid hz
      have HBB := Lib.hid hb
      have hzb : z ≤ b := by omega
      have hbn : b ≤ n := by omega
      have hng : ¬ ((n - at_ : Nat) : Int) - (k : Int) < (m : Int) := by omega
      have hTO := takeO_ok (k := m) (l := r.drop k) (by rw [List.length_drop, HRL.out]; omega)
      have HTO := Lib.hid hTO
      clear hz hb hTO
      go_enter Tryz.func134, Tryz.ntmps134
      go_wp2_with fail
      refine LF.out.mono ?_
      rintro e w1 ⟨rfl, hb1⟩
      have B1 := Lib.hid (HQ1.out.go hb1)
      have HB1 := Lib.hid hb1
      obtain ⟨y1, y2, y3, y4⟩ := B1.out.facts
      have hl1 := B1.out.lt
      clear f1 f2 f3 f4 hb1
      go_wp2
      have B2 := Lib.hid (show Box (w1.setCell ⟨p, 1, none⟩ (.int .i64 b)) p (rdC A n c (b : Nat) 0 0) from B1.out.set_same 1 _)
      have G2 := Lib.hid (gb_set (gb_of_below HB1.out (some p)) (p := ⟨p, 1, none⟩) (.inl rfl) (.int .i64 (b : Int)))
      obtain ⟨w2, hw2⟩ : ∃ w2, w2 = w1.setCell ⟨p, 1, none⟩ (.int .i64 b) := ⟨_, rfl⟩
      rw [← hw2] at B2 G2 ⊢
      clear hw2 y1 y2 y3 y4
      have R2 := Lib.hid ((HQ2.out.grownO (w := W) G2.out (fun a ha e => (HQ3.out a ha).2.1 (by injection e with e; rw [← (HQ3.out a ha).1]; exact e))).more G2.out.size)
      have KS := Lib.hid (show ∀ W', Below w2.heap.size w2 W' → W'.cell? ⟨p, 0, none⟩ = some (.slice A n c) ∧ W'.cell? ⟨p, 1, none⟩ = some (.int .i64 b) from fun W' h => ⟨by rw [(B2.out.go h).facts.1]; rfl, by rw [(B2.out.go h).facts.1]; rfl⟩)
      have RC := Lib.hid (fun W' c' (h : Below w2.heap.size w2 W') => clone_any ((l.drop z).take (b - z)) (if c = z then A else Option.map (fun x => x.add z) A) (b - z) c' W' (((R2.out.piece (z := z) (b := b) (by omega) (by omega) (by omega)).to h (Nat.le_refl _)).more h.size) (by omega))
      have i1 : (0 : Int) ≤ (z : Int) := by omega
      have i2 : (z : Int) ≤ (b : Int) := by omega
      have i3 : (b : Int) ≤ (c : Int) := by omega
      have i4 : (0 : Int) ≤ (b : Int) := by omega
      by_cases hcz : c = z
      · rw [if_pos hcz] at RC
        subst hcz
        go_region_held3 (fun W' => W'.cell? ⟨p, 0, none⟩ = some (.slice A n c) ∧ W'.cell? ⟨p, 1, none⟩ = some (.int .i64 b))
          (first | exact KS.out _ (Below.refl _ _).drew | exact KS.out _ (Below.refl _ _) | exact KS.out _ HB3.out | go_keep)
          (first
          | (go_at_call 93; (with_reducible refine (RC.out _ _ (Below.refl _ _).drew).mono ?_); rintro e w3 ⟨A3, c3, rfl, ho3, hb3⟩; have HB3 := Lib.hid (below1d hb3); have HO3 := Lib.hid ho3; clear hb3 ho3))
        all_goals
          go_wp2
          go_ret
          rw [HTO.out]
          have R3 := HQ2.out.len
          have e1 : (r.drop k).take m = (l.drop c).take (b - c) := by rw [HR.out, List.drop_drop, HZ.out, HBB.out, HZ.out, show at_ + k + m - (at_ + k) = m by omega]
          have e2 : (r.drop k).drop m = l.drop b := by rw [HR.out, List.drop_drop, List.drop_drop, HBB.out, HZ.out, Nat.add_assoc]
          obtain ⟨A4, c4, hv, h1, h2⟩ := own_form HO3.out
          injection hv with v1 v2 v3
          subst v1 v3
          refine ⟨A3, b - c, c3, rfl, ?_, h1, by unfold maxLen at h2; omega, by omega, ⟨A, n, c, l, b, 0, 0, B2.out.go HB3.out, (R2.out.to HB3.out (Nat.le_refl _)).more HB3.out.size, fun a ha => ⟨(HQ3.out a ha).1, (HQ3.out a ha).2.1, Nat.lt_of_lt_of_le (HQ3.out a ha).2.2 (Nat.le_trans G2.out.size HB3.out.size)⟩, hbn, q5, q6, q7, q8, e2, rfl, rfl⟩, gb_trans G2.out (gb_of_below HB3.out (some p))⟩
          show RdB _ _ _ _ ((r.drop k).take m)
          rw [e1]
          exact RdB.of_own HO3.out
      · rw [if_neg hcz] at RC
        go_region_held3 (fun W' => W'.cell? ⟨p, 0, none⟩ = some (.slice A n c) ∧ W'.cell? ⟨p, 1, none⟩ = some (.int .i64 b))
          (first | exact KS.out _ (Below.refl _ _).drew | exact KS.out _ (Below.refl _ _) | exact KS.out _ HB3.out | go_keep)
          (first
          | (go_at_call 93; (with_reducible refine (RC.out _ _ (Below.refl _ _).drew).mono ?_); rintro e w3 ⟨A3, c3, rfl, ho3, hb3⟩; have HB3 := Lib.hid (below1d hb3); have HO3 := Lib.hid ho3; clear hb3 ho3))
        all_goals
          go_wp2
          go_ret
          rw [HTO.out]
          have R3 := HQ2.out.len
          have e1 : (r.drop k).take m = (l.drop z).take (b - z) := by rw [HR.out, List.drop_drop, HZ.out, HBB.out, HZ.out, show at_ + k + m - (at_ + k) = m by omega]
          have e2 : (r.drop k).drop m = l.drop b := by rw [HR.out, List.drop_drop, List.drop_drop, HBB.out, HZ.out, Nat.add_assoc]
          obtain ⟨A4, c4, hv, h1, h2⟩ := own_form HO3.out
          injection hv with v1 v2 v3
          subst v1 v3
          refine ⟨A3, b - z, c3, rfl, ?_, h1, by unfold maxLen at h2; omega, by omega, ⟨A, n, c, l, b, 0, 0, B2.out.go HB3.out, (R2.out.to HB3.out (Nat.le_refl _)).more HB3.out.size, fun a ha => ⟨(HQ3.out a ha).1, (HQ3.out a ha).2.1, Nat.lt_of_lt_of_le (HQ3.out a ha).2.2 (Nat.le_trans G2.out.size HB3.out.size)⟩, hbn, q5, q6, q7, q8, e2, rfl, rfl⟩, gb_trans G2.out (gb_of_below HB3.out (some p))⟩
          show RdB _ _ _ _ ((r.drop k).take m)
          rw [e1]
          exact RdB.of_own HO3.out
    · have hmg : ((n - at_ : Nat) : Int) - (k : Int) < (m : Int) := by omega
      have hTO := takeO_no (k := m) (l := r.drop k) (by rw [List.length_drop, HRL.out]; omega)
      rw [hTO]
      clear hTO hmm
      go_enter Tryz.func134, Tryz.ntmps134
      go_wp2_with fail
      refine LF.out.mono ?_
      rintro e w1 ⟨rfl, hb1⟩
      have H1 := Lib.hid (HH.out.go hb1)
      have HB1 := Lib.hid hb1
      clear f1 f2 f3 f4 hb1
      go_wp2_with fail
      refine (fail_any p g N _ 2 (by decide) w1 H1.out).mono ?_
      rintro e w2 ⟨rfl, h2, hg2⟩
      have FIN := Lib.hid (TakeP.nil h2 (gb_trans (gb_of_below HB1.out (some p)) hg2))
      clear h2 hg2
      go_wp2
      go_ret
      exact FIN.out
end Go.Proofs.YtmpemeemlhmaaaaGreat

namespace Go.Proofs.YtmpemeemlhmaaaaGreat
open Go.RowKit

def peekO : RS → Nat × Nat × RS
  | some l => match varG l with
    | some (n, k) => (n, k, some l)
    | none => (0, 0, none)
  | none => (0, 0, none)
theorem peekO_some {l : List UInt8} {n k : Nat} (h : varG l = some (n, k)) : peekO (some l) = (n, k, some l) := by simp [peekO, h]
theorem peekO_none {l : List UInt8} (h : varG l = none) : peekO (some l) = (0, 0, none) := by simp [peekO, h]
def PeekP (W : World) (p g N : Nat) (r : Nat × Nat × RS) (e : Ending) (W' : World) : Prop :=
  e = .returned (.tuple #[.int .u64 r.1, .int .i64 r.2.1]) ∧ RdrS W' p g N r.2.2 ∧ W.grownBy W' (some p)
theorem RdB.from {w : World} {B n : Nat} {A : Option Addr} {l : List UInt8} (h : RdB w B A n l) {z c : Nat} (hz : z ≤ n) (hc : n ≤ c) : RdB w B (if c = z then A else Option.map (fun x => x.add z) A) (n - z) (l.drop z) := by
  have h1 := Rd.cut h (k := z) (cap := c) hz hc
  rw [Nat.mul_one] at h1
  unfold RdB
  rw [List.map_drop]
  exact h1
set_option maxRecDepth 100000 in
set_option maxHeartbeats 4000000 in
theorem peek_any (p g N : Nat) (s : RS) (W : World) (h : RdrS W p g N s) :
    Calls Tryz.prog 129 #[.pointer (some ⟨p, 0, none⟩)] W (PeekP W p g N (peekO s)) := by
  have HH := Lib.hid h
  obtain ⟨A, n, c, l, at_, fa, fe, q1, q2, q3, q4, q5, q6, q7, q8, q9⟩ := h
  obtain ⟨f1, f2, f3, f4⟩ := q1.facts
  have hl := q1.lt
  have hlen := q2.len
  cases s with
  | none =>
    have hfe0 : fe ≠ 0 := q9
    have hfe : (fe != 0) = true := by simpa using hfe0
    clear q1 q2 q3 q9 hfe0
    go_enter Tryz.func129, Tryz.ntmps129
    go_wp2
    go_ret2
    exact ⟨rfl, HH.out, World.grownBy.refl _ _⟩
  | some r =>
    obtain ⟨hr, hfa, hfe⟩ := q9
    subst hfa hfe
    have HQ1 := Lib.hid q1
    have HQ2 := Lib.hid q2
    have HR := Lib.hid hr
    have KS := Lib.hid (show ∀ W', Below W.heap.size W W' → W'.cell? ⟨p, 0, none⟩ = some (.slice A n c) ∧ W'.cell? ⟨p, 1, none⟩ = some (.int .i64 at_) from fun W' h => ⟨by rw [(HQ1.out.go h).facts.1]; rfl, by rw [(HQ1.out.go h).facts.1]; rfl⟩)
    have VG := Lib.hid (fun W' c' (h : Below W.heap.size W W') => varGet_any (if c = at_ then A else Option.map (fun x => x.add at_) A) (n - at_) c' r W' (by rw [hr]; exact ((q2.from (z := at_) (c := c) q4 q5).to h (Nat.le_refl _)).more h.size) (by omega))
    have i1 : (0 : Int) ≤ (at_ : Int) := by omega
    have i2 : (at_ : Int) ≤ (n : Int) := by omega
    have i3 : (n : Int) ≤ (c : Int) := by omega
    clear q1 q2 q3 hr
    cases hv : varG r with
    | some nk =>
      obtain ⟨m, k⟩ := nk
      rw [peekO_some hv]
      have HV := Lib.hid hv
      clear hv
      by_cases hcz : c = at_
      · rw [if_pos hcz] at VG
        subst hcz
        rw [show n - c = 0 by omega] at VG
        go_enter Tryz.func129, Tryz.ntmps129
        go_wp2
        go_region_held3 (fun W' => W'.cell? ⟨p, 0, none⟩ = some (.slice A n c) ∧ W'.cell? ⟨p, 1, none⟩ = some (.int .i64 c))
          (first | exact KS.out _ (Below.refl _ _).drew | exact KS.out _ (Below.refl _ _) | go_keep)
          (first
          | (go_at_call 157; (with_reducible refine (VG.out _ _ (Below.refl _ _).drew).mono ?_); rintro e w3 ⟨⟨er, her, rfl⟩, rfl⟩; rw [varR_some HV.out]))
        all_goals
          go_wp2
          go_ret2
          exact ⟨rfl, HH.out.drew, gb_drew (World.grownBy.refl _ _)⟩
      · rw [if_neg hcz] at VG
        go_enter Tryz.func129, Tryz.ntmps129
        go_wp2
        go_region_held3 (fun W' => W'.cell? ⟨p, 0, none⟩ = some (.slice A n c) ∧ W'.cell? ⟨p, 1, none⟩ = some (.int .i64 at_))
          (first | exact KS.out _ (Below.refl _ _).drew | exact KS.out _ (Below.refl _ _) | go_keep)
          (first
          | (go_at_call 157; (with_reducible refine (VG.out _ _ (Below.refl _ _).drew).mono ?_); rintro e w3 ⟨⟨er, her, rfl⟩, rfl⟩; rw [varR_some HV.out]))
        all_goals
          go_wp2
          go_ret2
          exact ⟨rfl, HH.out.drew, gb_drew (World.grownBy.refl _ _)⟩
    | none =>
      rw [peekO_none hv]
      have HV := Lib.hid hv
      clear hv
      by_cases hcz : c = at_
      · rw [if_pos hcz] at VG
        subst hcz
        rw [show n - c = 0 by omega] at VG
        go_enter Tryz.func129, Tryz.ntmps129
        go_wp2
        go_region_held3 (fun W' => W'.cell? ⟨p, 0, none⟩ = some (.slice A n c) ∧ W'.cell? ⟨p, 1, none⟩ = some (.int .i64 c))
          (first | exact KS.out _ (Below.refl _ _).drew | exact KS.out _ (Below.refl _ _) | go_keep)
          (first
          | (go_at_call 157; (with_reducible refine (VG.out _ _ (Below.refl _ _).drew).mono ?_); rintro e w3 ⟨⟨er, her, rfl⟩, rfl⟩; rw [varR_none HV.out]))
        all_goals
          have hne : (er != 0) = true := by rcases her with rfl | rfl <;> rfl
          have HER := Lib.hid (show er ≠ 0 by rcases her with rfl | rfl <;> decide)
          clear her
          go_wp2_with fail
          refine (fail_any p g N _ er HER.out _ HH.out.drew).mono ?_
          rintro e w4 ⟨rfl, h4, hg4⟩
          have FIN := Lib.hid (show PeekP W p g N (0, 0, none) (.returned (.tuple #[.int .u64 0, .int .i64 0])) w4 from ⟨rfl, h4, gb_trans (gb_drew (World.grownBy.refl _ _)) hg4⟩)
          clear h4 hg4
          go_wp2
          go_ret2
          exact FIN.out
      · rw [if_neg hcz] at VG
        go_enter Tryz.func129, Tryz.ntmps129
        go_wp2
        go_region_held3 (fun W' => W'.cell? ⟨p, 0, none⟩ = some (.slice A n c) ∧ W'.cell? ⟨p, 1, none⟩ = some (.int .i64 at_))
          (first | exact KS.out _ (Below.refl _ _).drew | exact KS.out _ (Below.refl _ _) | go_keep)
          (first
          | (go_at_call 157; (with_reducible refine (VG.out _ _ (Below.refl _ _).drew).mono ?_); rintro e w3 ⟨⟨er, her, rfl⟩, rfl⟩; rw [varR_none HV.out]))
        all_goals
          have hne : (er != 0) = true := by rcases her with rfl | rfl <;> rfl
          have HER := Lib.hid (show er ≠ 0 by rcases her with rfl | rfl <;> decide)
          clear her
          go_wp2_with fail
          refine (fail_any p g N _ er HER.out _ HH.out.drew).mono ?_
          rintro e w4 ⟨rfl, h4, hg4⟩
          have FIN := Lib.hid (show PeekP W p g N (0, 0, none) (.returned (.tuple #[.int .u64 0, .int .i64 0])) w4 from ⟨rfl, h4, gb_trans (gb_drew (World.grownBy.refl _ _)) hg4⟩)
          clear h4 hg4
          go_wp2
          go_ret2
          exact FIN.out
theorem varO_peek (s : RS) : varO s = ((peekO s).1, (peekO s).2.2.map (List.drop (peekO s).2.1)) := by
  cases s with
  | none => rfl
  | some l =>
    cases h : varG l with
    | none => simp [varO, peekO, h]
    | some nk => obtain ⟨n, k⟩ := nk; simp [varO, peekO, h]
theorem peek_bd (s : RS) : (peekO s).1 < 18446744073709551616 ∧ (peekO s).2.1 ≤ 10 ∧ (∀ l, (peekO s).2.2 = some l → s = some l ∧ (peekO s).2.1 ≤ l.length) := by
  cases s with
  | none => simp [peekO]
  | some l =>
    cases h : varG l with
    | none => simp [peekO, h]
    | some nk =>
      obtain ⟨n, k⟩ := nk
      have := varG_bd h
      refine ⟨by simp [peekO, h]; omega, by simp [peekO, h]; omega, fun l' hl => ?_⟩
      simp [peekO, h] at hl ⊢
      subst hl
      exact ⟨rfl, by omega⟩
/-- a number is answered, and the reader behind -/
def VarOP (W : World) (p g N : Nat) (r : Nat × RS) (e : Ending) (W' : World) : Prop := e = .returned (.int .u64 r.1) ∧ RdrS W' p g N r.2 ∧ W.grownBy W' (some p)
/-- the reader goes on by so many -/
theorem RdrS.step {W : World} {p g N : Nat} {s : RS} (h : RdrS W p g N s) (k : Nat) (hk : ∀ l, s = some l → k ≤ l.length) (h0 : s = none → k = 0) :
    ∃ at_ : Nat, W.cell? ⟨p, 1, none⟩ = some (.int .i64 at_) ∧ W.frozen? ⟨p, 1, none⟩ = false ∧ at_ ≤ 1000000000 ∧ RdrS (W.setCell ⟨p, 1, none⟩ (.int .i64 ((at_ : Int) + k))) p g N (s.map (List.drop k)) ∧ W.grownBy (W.setCell ⟨p, 1, none⟩ (.int .i64 ((at_ : Int) + k))) (some p) := by
  obtain ⟨A, n, c, l, at_, fa, fe, q1, q2, q3, q4, q5, q6, q7, q8, q9⟩ := h
  have hlen := q2.len
  have hg : W.grownBy (W.setCell ⟨p, 1, none⟩ (.int .i64 ((at_ : Int) + k))) (some p) := gb_set (World.grownBy.refl _ _) (.inl rfl) _
  refine ⟨at_, by rw [q1.facts.1]; rfl, q1.facts.2.1 1, by omega, ⟨A, n, c, l, at_ + k, fa, fe, ?_, (q2.grownO (w := W) hg (fun a ha e => (q3 a ha).2.1 (by injection e with e; rw [← (q3 a ha).1]; exact e))).more hg.size, fun a ha => ⟨(q3 a ha).1, (q3 a ha).2.1, Nat.lt_of_lt_of_le (q3 a ha).2.2 hg.size⟩, ?_, q5, q6, q7, q8, ?_⟩, hg⟩
  · have := q1.set_same 1 (.int .i64 ((at_ : Int) + k))
    rw [rdC_at] at this
    rw [show ((at_ + k : Nat) : Int) = (at_ : Int) + k by omega]
    exact this
  · cases s with
    | none => rw [h0 rfl]; omega
    | some r =>
      have := hk r rfl
      obtain ⟨e, _⟩ := q9
      rw [e, List.length_drop, hlen] at this
      omega
  · cases s with
    | none => exact q9
    | some r =>
      obtain ⟨e, e2⟩ := q9
      exact ⟨by rw [e, List.drop_drop], e2⟩
theorem peek_zero (s : RS) : (peekO s).2.2 = none → (peekO s).2.1 = 0 := by
  cases s with
  | none => simp [peekO]
  | some l =>
    cases h : varG l with
    | none => simp [peekO, h]
    | some nk => obtain ⟨n, k⟩ := nk; simp [peekO, h]
set_option maxRecDepth 100000 in
set_option maxHeartbeats 4000000 in
theorem var_any (p g N : Nat) (s : RS) (W : World) (h : RdrS W p g N s) :
    Calls Tryz.prog 94 #[.pointer (some ⟨p, 0, none⟩)] W (VarOP W p g N (varO s)) := by
  have PK := Lib.hid (peek_any p g N s W h)
  obtain ⟨hb1, hb2, hb3⟩ := peek_bd s
  have hz := peek_zero s
  rw [varO_peek]
  obtain ⟨r, hr⟩ : ∃ r, peekO s = r := ⟨_, rfl⟩
  rw [hr] at PK hb1 hb2 hb3 hz ⊢
  obtain ⟨m, k, t⟩ := r
  dsimp only at hb1 hb2 hb3 hz ⊢
  have H3 := Lib.hid (fun l hl => (hb3 l hl).2)
  have HZ := Lib.hid hz
  clear hb3 hz h hr
  go_enter Tryz.func94, Tryz.ntmps94
  go_wp2_with fail
  refine PK.out.mono ?_
  rintro e w1 ⟨rfl, h1, hg1⟩
  obtain ⟨at_, c1, c2, ha, h2, hg2⟩ := h1.step k H3.out HZ.out
  have H2 := Lib.hid h2
  have G2 := Lib.hid (gb_trans hg1 hg2)
  clear h1 hg1 h2 hg2
  go_wp2
  go_ret
  exact ⟨rfl, H2.out, G2.out⟩
set_option maxRecDepth 100000 in
theorem take_any (p g N : Nat) (s : RS) (k : Nat) (hk : k ≤ 1000000000) (W : World) (h : RdrS W p g N s) :
    Calls Tryz.prog 132 #[.pointer (some ⟨p, 0, none⟩), .int .i64 k] W (TakeP W p g N (takeO k s)) := by
  have CU := Lib.hid (cut_any p g N s 0 k W h (fun l _ => by omega) hk (by omega))
  rw [show s.map (List.drop 0) = s by cases s <;> rfl] at CU
  clear h
  have hk2 : ¬ (k : Int) < 0 := by omega
  go_enter Tryz.func132, Tryz.ntmps132
  go_wp2_with fail
  refine CU.out.mono ?_
  intro e w1 hP
  obtain ⟨A1, n1, c1, rfl, hrest⟩ := id hP
  have FIN := Lib.hid hP
  clear hP hrest
  go_wp2
  go_ret
  exact FIN.out
theorem takeO_len {k : Nat} {s : RS} : (takeO k s).1.length ≤ k := by
  cases s with
  | none => simp [takeO]
  | some l =>
    by_cases h : k ≤ l.length
    · rw [takeO_ok h]; simp; omega
    · rw [takeO_no h]; simp
set_option maxRecDepth 100000 in
theorem num_any (p g N : Nat) (s : RS) (k : Nat) (hk1 : 1 ≤ k) (hk : k ≤ 8) (W : World) (h : RdrS W p g N s) :
    Calls Tryz.prog 98 #[.pointer (some ⟨p, 0, none⟩), .int .i64 k, .bool true] W (VarOP W p g N (numB k s)) := by
  have CU := Lib.hid (cut_any p g N s 0 k W h (fun l _ => by omega) (by omega) (by omega))
  rw [show s.map (List.drop 0) = s by cases s <;> rfl] at CU
  have HL := Lib.hid (takeO_len (k := k) (s := s))
  clear h
  have hk2 : ¬ (k : Int) < 1 := by omega
  have hk3 : ¬ (8 : Int) < (k : Int) := by omega
  go_enter Tryz.func98, Tryz.ntmps98
  go_wp2_with fail
  refine CU.out.mono ?_
  rintro e w1 ⟨A1, n1, c1, rfl, hr, h1, h2, h3, h4, h5⟩
  have GB := Lib.hid (get_big A1 n1 c1 _ w1 h1 h2 hr)
  rw [List.take_of_length_le (by have := HL.out; omega)] at GB
  have H4 := Lib.hid h4
  have H5 := Lib.hid h5
  clear h4 h5 hr
  go_wp2_with fail
  refine GB.out.mono ?_
  rintro e w2 ⟨rfl, hb2⟩
  have HB2 := Lib.hid hb2
  clear hb2
  go_wp2
  go_ret
  exact ⟨rfl, H4.out.go HB2.out, gb_trans H5.out (gb_of_below HB2.out (some p))⟩
theorem textO_peek (m : Nat) (s : RS) : textO m s = if (peekO s).1 ≤ m then takeO (peekO s).1 ((peekO s).2.2.map (List.drop (peekO s).2.1)) else ([], none) := by
  cases s with
  | none => simp [textO, peekO, takeO]
  | some l =>
    cases h : varG l with
    | none => simp [textO, peekO, h, takeO]
    | some nk => obtain ⟨n, k⟩ := nk; simp [textO, peekO, h]
set_option maxRecDepth 100000 in
set_option maxHeartbeats 4000000 in
theorem text_any (p g N : Nat) (s : RS) (m : Nat) (hm : m ≤ 1000000000) (W : World) (h : RdrS W p g N s) :
    Calls Tryz.prog 97 #[.pointer (some ⟨p, 0, none⟩), .int .i64 m] W (TakeP W p g N (textO m s)) := by
  have PK := Lib.hid (peek_any p g N s W h)
  obtain ⟨hb1, hb2, hb3⟩ := peek_bd s
  rw [textO_peek]
  obtain ⟨r, hr⟩ : ∃ r, peekO s = r := ⟨_, rfl⟩
  rw [hr] at PK hb1 hb2 hb3 ⊢
  obtain ⟨n, k, t⟩ := r
  dsimp only at hb1 hb2 hb3 ⊢
  have H3 := Lib.hid (fun l hl => (hb3 l hl).2)
  have hm2 : ¬ (m : Int) < 0 := by omega
  clear hb3 h hr
  by_cases hnm : n ≤ m
  · rw [if_pos hnm]
    have hnm2 : ¬ (m : Int) < (n : Int) := by omega
    go_enter Tryz.func97, Tryz.ntmps97
    go_wp2_with fail
    refine PK.out.mono ?_
    rintro e w1 ⟨rfl, h1, hg1⟩
    have CU := Lib.hid (cut_any p g N t k n w1 h1 H3.out (by omega) (by omega))
    have G1 := Lib.hid hg1
    clear h1 hg1
    go_wp2_with fail
    refine CU.out.mono ?_
    intro e w2 hP
    obtain ⟨A1, n1, c1, rfl, hrest⟩ := id hP
    have FIN := Lib.hid (TakeP.from G1.out hP)
    clear hP hrest
    go_wp2
    go_ret
    exact FIN.out
  · rw [if_neg hnm]
    have hnm2 : (m : Int) < (n : Int) := by omega
    go_enter Tryz.func97, Tryz.ntmps97
    go_wp2_with fail
    refine PK.out.mono ?_
    rintro e w1 ⟨rfl, h1, hg1⟩
    have FA := Lib.hid (fail_any p g N t 4 (by decide) w1 h1)
    have G1 := Lib.hid hg1
    clear h1 hg1
    go_wp2_with fail
    refine FA.out.mono ?_
    rintro e w2 ⟨rfl, h2, hg2⟩
    have FIN := Lib.hid (TakeP.nil h2 (gb_trans G1.out hg2))
    clear h2 hg2
    go_wp2
    go_ret
    exact FIN.out
/-- what End leaves -/
def endO : RS → RS
  | some l => if l = [] then some [] else none
  | none => none
set_option maxRecDepth 100000 in
theorem end_any (p g N : Nat) (s : RS) (W : World) (h : RdrS W p g N s) :
    Calls Tryz.prog 52 #[.pointer (some ⟨p, 0, none⟩)] W fun e W' => e = .returned (.tuple #[]) ∧ RdrS W' p g N (endO s) ∧ W.grownBy W' (some p) := by
  have HH := Lib.hid h
  obtain ⟨A, n, c, l, at_, fa, fe, q1, q2, q3, q4, q5, q6, q7, q8, q9⟩ := h
  have LF := Lib.hid (left_any p A n c at_ fa fe W q1 q4 (by omega))
  have hlen := q2.len
  by_cases h0 : n - at_ = 0
  · have hE := Lib.hid (show endO s = s by
      cases s with
      | none => rfl
      | some r =>
        obtain ⟨e, _⟩ := q9
        have : r = [] := List.eq_nil_of_length_eq_zero (by rw [e, List.length_drop, hlen]; omega)
        subst this; rfl)
    rw [h0] at LF
    clear q1 q2 q3 q9 h0
    go_enter Tryz.func52, Tryz.ntmps52
    go_wp2_with fail
    refine LF.out.mono ?_
    rintro e w1 ⟨rfl, hb1⟩
    have HB1 := Lib.hid hb1
    clear hb1
    go_wp2
    go_end0
    exact ⟨rfl, by rw [hE.out]; exact HH.out.go HB1.out, gb_of_below HB1.out _⟩
  · have hE := Lib.hid (show endO s = none by
      cases s with
      | none => rfl
      | some r =>
        obtain ⟨e, _⟩ := q9
        have : r ≠ [] := fun e2 => by rw [e2] at e; have := congrArg List.length e; rw [List.length_drop, hlen] at this; simp at this; omega
        simp [endO, this])
    have h1 : (0 : Int) < ((n - at_ : Nat) : Int) := by omega
    clear q1 q2 q3 q9 h0
    go_enter Tryz.func52, Tryz.ntmps52
    go_wp2_with fail
    refine LF.out.mono ?_
    rintro e w1 ⟨rfl, hb1⟩
    have FA := Lib.hid (fail_any p g N s 3 (by decide) w1 (HH.out.go hb1))
    have HB1 := Lib.hid hb1
    clear hb1
    go_wp2_with fail
    refine FA.out.mono ?_
    rintro e w2 ⟨rfl, h2, hg2⟩
    have FIN := Lib.hid (show RdrS w2 p g N (endO s) ∧ W.grownBy w2 (some p) from ⟨by rw [hE.out]; exact h2, gb_trans (gb_of_below HB1.out _) hg2⟩)
    clear h2 hg2
    go_wp2
    go_end0
    exact ⟨rfl, FIN.out⟩
theorem RdrS.spot {W : World} {p g N : Nat} {s : RS} (h : RdrS W p g N s) : ∃ A n c at_ fa fe, Box W p (rdC A n c at_ fa fe) ∧ spEq ⟨fa, fe⟩ noSp = s.isSome := by
  obtain ⟨A, n, c, l, at_, fa, fe, q1, q2, q3, q4, q5, q6, q7, q8, q9⟩ := h
  refine ⟨A, n, c, at_, fa, fe, q1, ?_⟩
  cases s with
  | none =>
    have hfe : fe ≠ 0 := q9
    simp [spEq, noSp, hfe]
  | some r =>
    obtain ⟨_, rfl, rfl⟩ := q9
    rfl
set_option maxRecDepth 100000 in
theorem fault_any (p : Nat) (A : Option Addr) (n c : Nat) (at_ fa fe : Int) (W : World) (hB : Box W p (rdC A n c at_ fa fe)) :
    Calls Tryz.prog 53 #[.pointer (some ⟨p, 0, none⟩)] W fun e W' => e = .returned (.agg (Sp.mk fa fe).arr) ∧ Below W.heap.size W W' := by
  have hB1 := hB.alloc (.cells noSp.arr 98)
  obtain ⟨f1, f2, f3, f4⟩ := hB1.facts
  have hh : Has (W.alloc (.cells noSp.arr 98)) p 2 2 = True := f3 2 2 (Nat.le_refl _)
  have hc := f4 2 2 (Nat.le_refl _)
  rw [rdC_sp] at hc
  have hl := hB.lt
  clear hB hB1 f1 f2 f3 f4
  go_enter Tryz.func53, Tryz.ntmps53
  go_wp2
  refine bodyPost_ret (results_cell_row rfl _ _ W.heap.size 98 (Sp.mk fa fe).arr (0, 0) _ rfl (heap_alloc_new W _) Tryz.underlying98 rfl (by rw [Sp.arr_size]; kernel_rfl)) rfl ?_
  exact ⟨rfl, (Below.refl _ _).alloc (Nat.le_refl _) _⟩
end Go.Proofs.YtmpemeemlhmaaaaGreat

namespace Go.Proofs.YtmpemeemlhmaaaaGreat
open Go.RowKit

/-! ### a frame by a list of blocks -/
structure Frm (F : List Nat) (w w' : World) : Prop where
  os : w'.os = w.os
  tape : w'.tape = w.tape
  output : w'.output = w.output
  size : w.heap.size ≤ w'.heap.size
  block : ∀ k, k < w.heap.size → k ∉ F → w'.heap[k]? = w.heap[k]?
theorem Frm.refl (F : List Nat) (w : World) : Frm F w w := ⟨rfl, rfl, rfl, Nat.le_refl _, fun _ _ _ => rfl⟩
theorem Frm.of_below {F : List Nat} {w w' : World} (h : Below w.heap.size w w') : Frm F w w' := ⟨h.os, h.tape, h.output, h.size, fun k hk _ => h.block k hk⟩
theorem Frm.of_grown {F : List Nat} {w w' : World} {g : Option Nat} (h : w.grownBy w' g) (hg : ∀ k, g = some k → k ∈ F ∨ w.heap.size ≤ k) : Frm F w w' :=
  ⟨h.os, h.tape, h.output, h.size, fun k hk hn => h.block k hk (fun e => by rcases hg k e.symm with h | h; exact hn h; omega)⟩
theorem Frm.trans {F F' : List Nat} {a b c : World} (h : Frm F a b) (k : Frm F' b c) (hF : ∀ g ∈ F', g ∈ F ∨ a.heap.size ≤ g) : Frm F a c :=
  ⟨k.os.trans h.os, k.tape.trans h.tape, k.output.trans h.output, Nat.le_trans h.size k.size, fun i hi hn => (k.block i (Nat.lt_of_lt_of_le hi h.size) (fun hm => by rcases hF i hm with h | h; exact hn h; omega)).trans (h.block i hi hn)⟩
theorem Frm.trans' {F : List Nat} {a b c : World} (h : Frm F a b) (k : Frm F b c) : Frm F a c := h.trans k (fun g hg => .inl hg)
theorem Frm.grown {F : List Nat} {a b c : World} {g : Option Nat} (h : Frm F a b) (k : b.grownBy c g) (hg : ∀ j, g = some j → j ∈ F ∨ a.heap.size ≤ j) : Frm F a c :=
  ⟨k.os.trans h.os, k.tape.trans h.tape, k.output.trans h.output, Nat.le_trans h.size k.size, fun i hi hn => (k.block i (Nat.lt_of_lt_of_le hi h.size) (fun e => by rcases hg i e.symm with h | h; exact hn h; omega)).trans (h.block i hi hn)⟩
theorem Frm.below {F : List Nat} {a b c : World} {B : Nat} (h : Frm F a b) (k : Below B b c) (hB : a.heap.size ≤ B) : Frm F a c :=
  ⟨k.os.trans h.os, k.tape.trans h.tape, k.output.trans h.output, Nat.le_trans h.size k.size, fun i hi hn => (k.block i (by omega)).trans (h.block i hi hn)⟩
theorem Frm.set {F : List Nat} {a b : World} (h : Frm F a b) (p : Addr) (u : Value) (hp : p.block ∈ F ∨ a.heap.size ≤ p.block) : Frm F a (b.setCell p u) :=
  ⟨h.os, h.tape, h.output, by simpa [World.setCell] using h.size, fun i hi hn => (Below.heap_setCell b p u i (fun e => by subst e; rcases hp with h | h; exact hn h; omega)).trans (h.block i hi hn)⟩
theorem Frm.alloc {F : List Nat} {a b : World} (h : Frm F a b) (o : Obj) : Frm F a (b.alloc o) :=
  ⟨h.os, h.tape, h.output, Nat.le_trans h.size (by simp), fun i hi hn => (Below.heap_alloc b o i (Nat.lt_of_lt_of_le hi h.size)).trans (h.block i hi hn)⟩
theorem Frm.drewN {F : List Nat} {a b : World} (h : Frm F a b) (n : Nat) : Frm F a (b.drewN n) := ⟨h.os, h.tape, h.output, h.size, h.block⟩
theorem Frm.to_below {F : List Nat} {B : Nat} {a b : World} (h : Frm F a b) (hF : ∀ g ∈ F, B ≤ g) (hB : B ≤ a.heap.size) : Below B a b :=
  ⟨h.os, h.tape, h.output, h.size, fun i hi => h.block i (by omega) (fun hm => by have := hF i hm; omega)⟩
theorem Frm.more {F F' : List Nat} {a b : World} (h : Frm F a b) (hF : ∀ g ∈ F, g ∈ F') : Frm F' a b := ⟨h.os, h.tape, h.output, h.size, fun i hi hn => h.block i hi (fun hm => hn (hF i hm))⟩
theorem Frm.to_grown {p : Nat} {a b : World} (h : Frm [p] a b) : a.grownBy b (some p) := ⟨h.os, h.tape, h.output, h.size, fun k hk hne => h.block k hk (fun hm => hne (by rw [List.mem_singleton.1 hm]))⟩
theorem Frm.two {x p : Nat} {a b : World} (h : a.grownBy b (some p)) : Frm [x, p] a b := Frm.of_grown h (fun k hk => .inl (by injection hk with hk; simp [hk]))
theorem Frm.box {F : List Nat} {a b : World} (h : Frm F a b) {k : Nat} {c : Array Value} (hB : Box a k c) (hk : k ∉ F) : Box b k c := by
  have hl := hB.lt
  obtain ⟨t, ht⟩ := hB
  exact ⟨t, by rw [h.block k hl hk]; exact ht⟩
/-! ### read -/
def reC (p : Nat) (bad : Bool) : Array Value := #[.pointer (some ⟨p, 0, none⟩), .bool bad]
@[go_sem] theorem reC_csize (p : Nat) (bad : Bool) : csize (reC p bad) = 2 := rfl
@[go_sem] theorem reC_0 (p : Nat) (bad : Bool) : (reC p bad)[0]? = some (.pointer (some ⟨p, 0, none⟩)) := rfl
@[go_sem] theorem reC_1 (p : Nat) (bad : Bool) : (reC p bad)[1]? = some (.bool bad) := rfl
theorem reC_set (p : Nat) (bad u : Bool) : (reC p bad).setIfInBounds 1 (.bool u) = reC p u := rfl
/-- at x lies what a backend is read with -/
def ReadS (W : World) (x p g N : Nat) (bad : Bool) (s : RS) : Prop := Box W x (reC p bad) ∧ RdrS W p g N s ∧ x ≠ p ∧ x ≠ g
section
variable {W W' : World} {x p g N : Nat} {bad : Bool} {s : RS}
theorem ReadS.go (h : ReadS W x p g N bad s) (hb : Below W.heap.size W W') : ReadS W' x p g N bad s := ⟨h.1.go hb, h.2.1.go hb, h.2.2⟩
theorem ReadS.grown {k : Nat} (h : ReadS W x p g N bad s) (hg : W.grownBy W' (some k)) (h1 : k ≠ p) (h2 : k ≠ g) (h3 : k ≠ x) : ReadS W' x p g N bad s :=
  ⟨h.1.grown hg (fun e => h3 (by injection e with e; exact e.symm)), h.2.1.grown hg h1 h2, h.2.2⟩
/-- the reader has gone on -/
theorem ReadS.read {s' : RS} (h : ReadS W x p g N bad s) (h1 : RdrS W' p g N s') (hg : W.grownBy W' (some p)) : ReadS W' x p g N bad s' := ⟨h.1.grown hg (fun e => h.2.2.1 (by injection e)), h1, h.2.2⟩
theorem ReadS.drew (h : ReadS W x p g N bad s) : ReadS W.drew x p g N bad s := ⟨h.1.drew, h.2.1.drew, h.2.2⟩
theorem ReadS.drewN (h : ReadS W x p g N bad s) (k : Nat) : ReadS (W.drewN k) x p g N bad s := ⟨h.1.drewN k, h.2.1.drewN k, h.2.2⟩
/-- whether it is bad is noted -/
theorem ReadS.note (h : ReadS W x p g N bad s) (u : Bool) : ReadS (W.setCell ⟨x, 1, none⟩ (.bool u)) x p g N u s ∧ W.grownBy (W.setCell ⟨x, 1, none⟩ (.bool u)) (some x) := by
  have hg : W.grownBy (W.setCell ⟨x, 1, none⟩ (.bool u)) (some x) := gb_set (World.grownBy.refl _ _) (.inl rfl) _
  exact ⟨⟨h.1.set_same 1 _, h.2.1.grown hg h.2.2.1 h.2.2.2, h.2.2⟩, hg⟩
end
theorem Frm.sing {x p : Nat} {a b : World} (h : a.grownBy b (some x)) : Frm [x, p] a b := Frm.of_grown h (fun k hk => .inl (by injection hk with hk; simp [hk]))
/-- a value is answered, and what reads it is behind -/
def ReP (W : World) (x p g N : Nat) (v : Value) (bad : Bool) (s : RS) (e : Ending) (W' : World) : Prop := e = .returned v ∧ ReadS W' x p g N bad s ∧ Frm [x, p] W W'
set_option maxRecDepth 100000 in
set_option maxHeartbeats 2000000 in
theorem reText_any (x p g N : Nat) (bad : Bool) (s : RS) (W : World) (h : ReadS W x p g N bad s) :
    Calls Tryz.prog 130 #[.pointer (some ⟨x, 0, none⟩)] W (ReP W x p g N (.string (textOf (textO 255 s).1)) bad (textO 255 s).2) := by
  have HH := Lib.hid h
  obtain ⟨f1, f2, f3, f4⟩ := h.1.facts
  have hl := h.1.lt
  have TX := Lib.hid (text_any p g N s 255 (by omega) W h.2.1)
  clear h
  go_enter Tryz.func130, Tryz.ntmps130
  go_wp2_with fail
  refine TX.out.mono ?_
  rintro e w1 ⟨A1, n1, c1, rfl, hr, h1, h2, h3, h4, h5⟩
  have hcv : (convert 32 9 (.slice A1 n1 c1)).run Tryz.prog w1 = .ok (.string (textOf (textO 255 s).1)) w1 :=
    run_bytes_text (P := Tryz.prog) hr 32 5 9 Tryz.underlying32 Tryz.underlying5 Tryz.underlying9 c1
  have FIN := Lib.hid (show ReadS w1 x p g N bad (textO 255 s).2 ∧ Frm [x, p] W w1 from ⟨HH.out.read h4 h5, Frm.two h5⟩)
  clear hr h4 h5 f1 f2 f3 f4
  go_wp2
  go_ret
  exact ⟨rfl, FIN.out⟩
set_option maxRecDepth 100000 in
set_option maxHeartbeats 2000000 in
theorem reFlag_any (x p g N : Nat) (bad : Bool) (s : RS) (W : World) (h : ReadS W x p g N bad s) :
    Calls Tryz.prog 131 #[.pointer (some ⟨x, 0, none⟩)] W (ReP W x p g N (.bool ((numB 1 s).1 == 1)) (bad || decide (1 < (numB 1 s).1)) (numB 1 s).2) := by
  have HH := Lib.hid h
  obtain ⟨f1, f2, f3, f4⟩ := h.1.facts
  have hl := h.1.lt
  have NU := Lib.hid (num_any p g N s 1 (by omega) (by omega) W h.2.1)
  clear h
  obtain ⟨r, hr⟩ : ∃ r, numB 1 s = r := ⟨_, rfl⟩
  rw [hr] at NU ⊢
  obtain ⟨n, s'⟩ := r
  dsimp only at NU ⊢
  have nb1 : ((n : Int) == 1) = (n == 1) := nat_beq n 1
  obtain ⟨d, hd⟩ : ∃ d, decide (1 < n) = d := ⟨_, rfl⟩
  have nd1 : decide ((1 : Int) < (n : Int)) = d := by rw [← hd]; exact decide_eq_decide.2 (by omega)
  obtain ⟨d2, hd2⟩ : ∃ d2, (n == 1) = d2 := ⟨_, rfl⟩
  rw [hd2] at nb1 ⊢
  rw [hd]
  clear hr hd hd2
  go_enter Tryz.func131, Tryz.ntmps131
  go_wp2_with fail
  refine NU.out.mono ?_
  rintro e w1 ⟨rfl, h1, hg1⟩
  have R1 := Lib.hid (HH.out.read h1 hg1)
  have G1 := Lib.hid (Frm.two (x := x) hg1)
  obtain ⟨y1, y2, y3, y4⟩ := R1.out.1.facts
  have hl1 := R1.out.1.lt
  have NO := Lib.hid (R1.out.note (bad || d))
  clear h1 hg1 f1 f2 f3 f4
  cases bad <;> cases d <;> cases d2
  all_goals
    go_wp2
    go_ret
    exact ⟨rfl, NO.out.1, G1.out.trans' (Frm.sing NO.out.2)⟩
set_option maxRecDepth 100000 in
set_option maxHeartbeats 2000000 in
theorem reWeight_any (x p g N : Nat) (bad : Bool) (s : RS) (W : World) (h : ReadS W x p g N bad s) :
    Calls Tryz.prog 133 #[.pointer (some ⟨x, 0, none⟩)] W (ReP W x p g N (.float .f64 (wGet (takeO 8 s).1)) (bad || !wGetOk (takeO 8 s).1) (takeO 8 s).2) := by
  have HH := Lib.hid h
  obtain ⟨f1, f2, f3, f4⟩ := h.1.facts
  have hl := h.1.lt
  have TK := Lib.hid (take_any p g N s 8 (by omega) W h.2.1)
  clear h
  obtain ⟨r, hr⟩ : ∃ r, takeO 8 s = r := ⟨_, rfl⟩
  rw [hr] at TK ⊢
  obtain ⟨l, s'⟩ := r
  dsimp only at TK ⊢
  obtain ⟨v, hv⟩ : ∃ v, wGet l = v := ⟨_, rfl⟩
  obtain ⟨b, hb⟩ : ∃ b, wGetOk l = b := ⟨_, rfl⟩
  rw [hv, hb]
  have HV := Lib.hid hv
  have HBB := Lib.hid hb
  clear hr hv hb
  go_enter Tryz.func133, Tryz.ntmps133
  go_wp2_with fail
  refine TK.out.mono ?_
  rintro e w1 ⟨A1, n1, c1, rfl, hrd, q1, q2, q3, h1, hg1⟩
  have R1 := Lib.hid (HH.out.read h1 hg1)
  have G1 := Lib.hid (Frm.two (x := x) hg1)
  have WG := Lib.hid (get_any A1 n1 c1 l w1 q1 q2 hrd)
  rw [HV.out, HBB.out] at WG
  clear h1 hg1 hrd f1 f2 f3 f4
  go_wp2_with fail
  refine WG.out.mono ?_
  rintro e w2 ⟨rfl, hb2⟩
  have R2 := Lib.hid (R1.out.go hb2)
  have G2 := Lib.hid (G1.out.trans' (Frm.of_below (F := [x, p]) hb2))
  obtain ⟨y1, y2, y3, y4⟩ := R2.out.1.facts
  have hl1 := R2.out.1.lt
  have NO := Lib.hid (R2.out.note (bad || !b))
  clear hb2
  cases bad <;> cases b
  all_goals
    go_wp2
    go_ret
    exact ⟨rfl, NO.out.1, G2.out.trans' (Frm.sing NO.out.2)⟩
set_option maxRecDepth 100000 in
set_option maxHeartbeats 2000000 in
theorem reOkay_any (x p g N : Nat) (bad : Bool) (s : RS) (W : World) (h : ReadS W x p g N bad s) :
    Calls Tryz.prog 96 #[.pointer (some ⟨x, 0, none⟩)] W fun e W' => e = .returned (.bool (!bad && s.isSome)) ∧ Below W.heap.size W W' := by
  obtain ⟨f1, f2, f3, f4⟩ := h.1.facts
  have hl := h.1.lt
  obtain ⟨A, n, c, at_, fa, fe, hB, hs⟩ := h.2.1.spot
  have FA := Lib.hid (fun W' (h : Below W.heap.size W W') => fault_any p A n c at_ fa fe W' (hB.go h))
  have HS := Lib.hid hs
  have KS := Lib.hid (show ∀ W', Below W.heap.size W W' → W'.cell? ⟨x, 0, none⟩ = some (.pointer (some ⟨p, 0, none⟩)) ∧ W'.cell? ⟨x, 1, none⟩ = some (.bool bad) from fun W' hb => ⟨by rw [(h.1.go hb).facts.1]; rfl, by rw [(h.1.go hb).facts.1]; rfl⟩)
  clear hB hs
  rw [← HS.out]
  cases bad
  · go_enter Tryz.func96, Tryz.ntmps96
    go_wp2_with fail
    refine (FA.out _ (Below.refl _ _)).mono ?_
    rintro e w1 ⟨rfl, hb1⟩
    have FIN := Lib.hid hb1
    clear hb1
    go_wp2
    go_ret
    exact ⟨by simp [noSp], FIN.out⟩
  · go_enter Tryz.func96, Tryz.ntmps96
    go_wp2
    go_ret
    exact ⟨rfl, Below.refl _ _⟩
end Go.Proofs.YtmpemeemlhmaaaaGreat
