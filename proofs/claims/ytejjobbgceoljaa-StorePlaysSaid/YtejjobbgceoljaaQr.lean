/- A region that draws its order and only reads, but whose callees may make memory of their own: one walk serves every order, the class of worlds being a family of one's own. -/
import Derived.Test.YtejjobbgceoljaaRows
import Derived.BigQuiet
set_option linter.unusedSimpArgs false
set_option linter.unusedVariables false
namespace Go.Proofs.Ytejjobbgceoljaa
open Go.RowKit

theorem quiet_in {P : Program} {T : Type} (f : T → World) {id : Nat} {Q : Exit → Act → World → Prop} {a : Act} {w : World} {l : List Oper} (hm : P.follows .mixedOrders = true) (hB : Region.lexB .any l.toArray = true)
    (n0 : T) (h0 : f n0 = w.drew)
    (h : wpQuiet P l.toArray (fun w' => ∃ n, w' = f n) (fun a' => ∀ w', (∃ n, w' = f n) → Q .normal a' w') l a) : (Code.region id l.toArray true).wp P Q a w :=
  wp_region_quiet (C := fun w' => ∃ n, w' = f n) hm hB ⟨n0, h0.symm⟩ (by simpa using h)
/-- the class of worlds: those that have what S says -/
theorem class_of (S : World → Prop) (w : World) (h : S w.drew) : ∃ (T : Type) (f : T → World) (n0 : T), f n0 = w.drew ∧ (∀ n, S (f n)) ∧ (∀ W, S W → ∃ n, W = f n) :=
  ⟨{W // S W}, Subtype.val, ⟨w.drew, h⟩, rfl, fun n => n.2, fun W hW => ⟨⟨W, hW⟩, rfl⟩⟩
/-- the one operation that may come up -/
theorem any_head {P : Program} {md : Region.Mode} {ops : Array Oper} {Q : Exit → Act → World → Prop} {fuel : Nat} {listed : Array Bool} {a : Act} {w : World} (i : Nat) {o : Oper} (hr : Region.ready md ops listed = [i]) (ho : ops[i]? = some o)
    (h : ∀ K' : Act → World → Prop, (∀ a w, wpAny P md ops Q fuel (listed.setIfInBounds i true) a w → K' a w) → if Region.wanted o (yielded ops a.tmps) = true then Oper.wp P o a w K' Q else K' (a.put o.dst undef) w) :
    wpAny P md ops Q (fuel + 1) listed a w :=
  wpAny_ready hr (by simp) (AllReady.cons ho h AllReady.nil)
/-- from the middle on -/
theorem quiet_mid {P : Program} {T : Type} (f : T → World) {Q : Exit → Act → World → Prop} {a : Act} {w : World} {ops : Array Oper} {listed : Array Bool} {fuel : Nat} (k : Nat) (l : List Oper)
    (hs : Region.noSelect ops = true) (hl : ∀ j, l[j]? = ops[k + j]?) (hB : Region.lexFrom .any ops l.length k listed = true) (hf : fuel = l.length) (n0 : T) (h0 : f n0 = w)
    (h : wpQuiet P ops (fun w' => ∃ n, w' = f n) (fun a' => ∀ w', (∃ n, w' = f n) → Q .normal a' w') l a) : wpAny P .any ops Q fuel listed a w := by
  subst hf
  exact wpAny_of_quiet (C := fun w' => ∃ n, w' = f n) (Q := fun a' => ∀ w', (∃ n, w' = f n) → Q .normal a' w') (fun _ w' hw' h => h w' hw') _ _ _ _ ⟨n0, h0.symm⟩ (wpAnyQ_lex hs l k listed a hl hB h)
theorem quiet_mid7 {P : Program} {T : Type} (f : T → World) {Q : Exit → Act → World → Prop} {a : Act} {w : World} {o0 o1 o2 o3 o4 o5 o6 : Oper} {l : List Oper} {listed : Array Bool} {fuel : Nat}
    (hs : Region.noSelect (o0 :: o1 :: o2 :: o3 :: o4 :: o5 :: o6 :: l).toArray = true) (hB : Region.lexFrom .any (o0 :: o1 :: o2 :: o3 :: o4 :: o5 :: o6 :: l).toArray l.length 7 listed = true) (hf : fuel = l.length) (n0 : T) (h0 : f n0 = w)
    (h : wpQuiet P (o0 :: o1 :: o2 :: o3 :: o4 :: o5 :: o6 :: l).toArray (fun w' => ∃ n, w' = f n) (fun a' => ∀ w', (∃ n, w' = f n) → Q .normal a' w') l a) :
    wpAny P .any (o0 :: o1 :: o2 :: o3 :: o4 :: o5 :: o6 :: l).toArray Q fuel listed a w :=
  quiet_mid f 7 l hs (fun j => by rw [Nat.add_comm]; simp) hB hf n0 h0 h
theorem class_at (S : World → Prop) (w : World) (h : S w) : ∃ (T : Type) (f : T → World) (n0 : T), f n0 = w ∧ (∀ n, S (f n)) ∧ (∀ W, S W → ∃ n, W = f n) :=
  ⟨{W // S W}, Subtype.val, ⟨w, h⟩, rfl, fun n => n.2, fun W hW => ⟨⟨W, hW⟩, rfl⟩⟩
end Go.Proofs.Ytejjobbgceoljaa
