/- The program's store as a whole: where its files lie; what a turn of one file leaves. -/
import Derived.Test.YtejjobbgceoljaaStL
import Derived.Test.YtejjobbgceoljaaPoA
import Derived.Maps.OwnSet
import Derived.Sort.KeysCollected
set_option linter.unusedSimpArgs false
set_option linter.unusedVariables false
namespace Go.Proofs.Ytejjobbgceoljaa
open Go.RowKit

/-! ### a file's cells -/
/-- the cells of a file of the program: b, synced -/
def fbC (A : Option Addr) (n c : Nat) (syn : Int) : Array Value := #[.slice A n c, .int .i64 syn]
section
variable (A : Option Addr) (n c : Nat) (syn : Int)
theorem fbC_size : (fbC A n c syn).size = 2 := rfl
@[go_sem] theorem fbC_0 : (fbC A n c syn)[0]? = some (.slice A n c) := rfl
@[go_sem] theorem fbC_1 : (fbC A n c syn)[1]? = some (.int .i64 syn) := rfl
theorem fbC_set0 (B : Option Addr) (k d : Nat) : (fbC A n c syn).setIfInBounds 0 (.slice B k d) = fbC B k d syn := rfl
theorem fbC_set1 (u : Int) : (fbC A n c syn).setIfInBounds 1 (.int .i64 u) = fbC A n c u := rfl
end
structure Pl where
  x : Fi
  fb : Nat
  A : Option Addr
  c : Nat
def Pl.foot (r : Pl) : List Nat := r.fb :: (match r.A with | some a => [a.block] | none => [])
def Pl.ok (W : World) (r : Pl) : Prop := Box W r.fb (fbC r.A r.x.b.length r.c r.x.syn) ∧ W.ownsRow 0 5 1 (.slice r.A r.x.b.length r.c) r.x.b.length (r.x.b.map bv)
theorem Pl.ok.agree {W W' : World} {r : Pl} (h : r.ok W) (ha : ∀ g ∈ r.foot, W'.heap[g]? = W.heap[g]?) : r.ok W' := by
  obtain ⟨⟨t, h1⟩, h2, h3⟩ := h
  refine ⟨⟨t, by rw [ha _ (by simp [Pl.foot])]; exact h1⟩, h2, ?_⟩
  rcases h3 with h3 | ⟨g, cap, cur, hv, hb, hg, h4⟩
  · exact .inl h3
  · refine .inr ⟨g, cap, cur, hv, hb, ?_, h4⟩
    rw [ha g (by injection hv with hv; simp [Pl.foot, hv])]
    exact hg
theorem Pl.ok.lt {W : World} {r : Pl} (h : r.ok W) : ∀ g ∈ r.foot, g < W.heap.size := by
  obtain ⟨h1, h2⟩ := h
  intro g hg
  unfold Pl.foot at hg
  rcases List.mem_cons.1 hg with rfl | hg
  · exact h1.lt
  · cases hA : r.A with
    | none => rw [hA] at hg; cases hg
    | some a =>
      rw [hA] at hg h2
      simp at hg
      subst hg
      exact (h2.lt a.block rfl).2

/-! ### the map by name -/
section
variable {H : Type}
def blkD (b : Int) : DataW H := .lit (.int .i64 b)
def blkElem : Value → Option (DataW H × List MemPlace)
  | .pointer none => some (blkD (-1), [])
  | .pointer (some ⟨b, 0, none⟩) => some (blkD b, [])
  | _ => none
def ptrV : Option Nat → Value
  | some b => .pointer (some ⟨b, 0, none⟩)
  | none => .pointer none
theorem blkElem_mk (b : Nat) : blkElem (H := H) (.pointer (some ⟨b, 0, none⟩)) = some (blkD b, []) := rfl
theorem blkElem_none : blkElem (H := H) (.pointer none) = some (blkD (-1), []) := rfl
theorem blkElem_inv {v : Value} {z : DataW H × List MemPlace} (h : blkElem v = some z) : (v = .pointer none ∧ z = (blkD (-1), [])) ∨ ∃ b : Nat, v = .pointer (some ⟨b, 0, none⟩) ∧ z = (blkD b, []) := by
  unfold blkElem at h
  split at h
  · injection h with h; exact .inl ⟨rfl, h.symm⟩
  · rename_i b; injection h with h; exact .inr ⟨b, rfl, h.symm⟩
  · cases h
def MapB (D : DataW H) (f : List UInt8 → Option Nat) : Prop :=
  Maps.IsMap D ∧ ∀ s, Maps.has D (.string s) = (f s).isSome ∧ ∀ zd, D.atKey (.string s) zd = match f s with | some b => blkD b | none => zd
theorem MapB.nil : MapB (H := H) (.map []) (fun _ => none) := ⟨⟨[], rfl⟩, fun s => ⟨rfl, fun zd => rfl⟩⟩
theorem MapB.put {D : DataW H} {f g : List UInt8 → Option Nat} (h : MapB D f) (s : List UInt8) (b : Nat) (hg : ∀ t, g t = if t = s then some b else f t) : MapB (D.put (.string s) (blkD b)) g := by
  obtain ⟨hm, hs⟩ := h
  have hk : Go.WideAt.IsKeyLit (.string s) := trivial
  refine ⟨hm.put _ _, fun t => ?_⟩
  rw [hg]
  by_cases hn : t = s
  · subst hn
    rw [if_pos rfl]
    exact ⟨Maps.has_put_same hm hk _, fun zd => Maps.atKey_put_same hm hk _ _⟩
  · rw [if_neg hn]
    have hne : (Lit.string t) ≠ .string s := fun e => hn (by injection e with e)
    obtain ⟨h1, h2⟩ := hs t
    exact ⟨by rw [Maps.has_put_other hne]; exact h1, fun zd => by rw [Maps.atKey_put_other hne]; exact h2 zd⟩
theorem MapB.del {D : DataW H} {f g : List UInt8 → Option Nat} (h : MapB D f) (s : List UInt8) (hg : ∀ t, g t = if t = s then none else f t) : MapB (D.del (.string s)) g := by
  obtain ⟨hm, hs⟩ := h
  refine ⟨hm.del _, fun t => ?_⟩
  rw [hg]
  by_cases hn : t = s
  · subst hn
    rw [if_pos rfl]
    exact ⟨Maps.has_del_same, fun zd => Maps.atKey_del_same _⟩
  · rw [if_neg hn]
    have hne : (Lit.string t) ≠ .string s := fun e => hn (by injection e with e)
    obtain ⟨h1, h2⟩ := hs t
    exact ⟨by rw [Maps.has_del_other hne]; exact h1, fun zd => by rw [Maps.atKey_del_other hne]; exact h2 zd⟩
end
/-- the map in block M says of each name where its file lies -/
def HasM (W : World) (M : Nat) (n : Nat) (f : List UInt8 → Option Nat) : Prop :=
  ∃ D : DataW Unit, W.ownsMap Try.prog 9 blkElem M n D ∧ MapB D f ∧ Maps.size D = n
theorem keyedS : Maps.Keyed Try.prog 9 := Maps.string_keyed Try.underlying9
theorem HasM.agree {W W' : World} {M n : Nat} {f : List UInt8 → Option Nat} (h : HasM W M n f) (ha : W'.heap[M]? = W.heap[M]?) : HasM W' M n f := by
  obtain ⟨D, ⟨es, ck, h1, h2⟩, h3⟩ := h
  exact ⟨D, ⟨es, ck, ha.trans h1, h2⟩, h3⟩
theorem HasM.lt {W : World} {M n : Nat} {f : List UInt8 → Option Nat} (h : HasM W M n f) : M < W.heap.size := by
  obtain ⟨D, h1, h3⟩ := h
  exact h1.lt
theorem own_map_size {W : World} {M n : Nat} {D : DataW Unit} (h : W.ownsMap Try.prog 9 blkElem M n D) : W.ownsMap Try.prog 9 blkElem M (Maps.size D) D := by
  obtain ⟨es, ck, h1, F, _, rfl⟩ := h
  refine ⟨es, ck, h1, F, ?_, rfl⟩
  show es.size ≤ _
  rw [Maps.size_eq, length_sorted]; simp
theorem HasM.new (w : World) : HasM (w.alloc (.map #[] 0)) w.heap.size 0 (fun _ => none) := ⟨_, World.ownsMap_made w _ _ _, MapB.nil, rfl⟩
theorem HasM.put {W W' : World} {M n : Nat} {f g : List UInt8 → Option Nat} {D : DataW Unit} (h : W.ownsMap Try.prog 9 blkElem M n D) (hD : MapB D f) (hn : Maps.size D = n) (s : List UInt8) (b k : Nat)
    (h2 : W'.ownsMap Try.prog 9 blkElem M k (D.put (.string s) (blkD b))) (hg : ∀ t, g t = if t = s then some b else f t) : HasM W' M (if (f s).isSome then n else n + 1) g := by
  have hs := Maps.size_put (k := .string s) (h.tidy keyedS) (blkD (H := Unit) b)
  rw [(hD.2 s).1, hn] at hs
  refine ⟨_, ?_, hD.put s b hg, hs⟩
  have := own_map_size h2
  rwa [hs] at this
theorem HasM.del {W W' : World} {M n : Nat} {f g : List UInt8 → Option Nat} {D : DataW Unit} (h : W.ownsMap Try.prog 9 blkElem M n D) (hD : MapB D f) (hn : Maps.size D = n) (s : List UInt8) (k : Nat)
    (h2 : W'.ownsMap Try.prog 9 blkElem M k (D.del (.string s))) (hg : ∀ t, g t = if t = s then none else f t) : HasM W' M (if (f s).isSome then n - 1 else n) g := by
  have hs := Maps.size_del (k := .string s) (h.tidy keyedS)
  rw [(hD.2 s).1, hn] at hs
  have hs2 : Maps.size (D.del (.string s)) = if (f s).isSome then n - 1 else n := by
    split at hs <;> rename_i hc <;> simp [hc] <;> omega
  refine ⟨_, ?_, hD.del s hg, hs2⟩
  have := own_map_size h2
  rwa [hs2] at this

/-! ### a frame by a list of blocks -/
structure Frm (F : List Nat) (w w' : World) : Prop where
  os : w'.os = w.os
  tape : w'.tape = w.tape
  output : w'.output = w.output
  size : w.heap.size ≤ w'.heap.size
  block : ∀ k, k < w.heap.size → k ∉ F → w'.heap[k]? = w.heap[k]?
theorem Frm.refl (F : List Nat) (w : World) : Frm F w w := ⟨rfl, rfl, rfl, Nat.le_refl _, fun _ _ _ => rfl⟩
theorem Frm.of_below {F : List Nat} {w w' : World} (h : Below w.heap.size w w') : Frm F w w' := ⟨h.os, h.tape, h.output, h.size, fun k hk _ => h.block k hk⟩
theorem Frm.of_grown {F : List Nat} {w w' : World} {g : Option Nat} (h : w.grownBy w' g) (hg : ∀ k, g = some k → k ∈ F ∨ w.heap.size ≤ k) : Frm F w w' :=
  ⟨h.os, h.tape, h.output, h.size, fun k hk hn => h.block k hk (fun e => by rcases hg k e.symm with h | h; exact hn h; omega)⟩
theorem Frm.trans {F F' : List Nat} {a b c : World} (h : Frm F a b) (k : Frm F' b c) (hF : ∀ g ∈ F', g ∈ F ∨ a.heap.size ≤ g) : Frm F a c :=
  ⟨k.os.trans h.os, k.tape.trans h.tape, k.output.trans h.output, Nat.le_trans h.size k.size, fun i hi hn => (k.block i (Nat.lt_of_lt_of_le hi h.size) (fun hm => by rcases hF i hm with h | h; exact hn h; omega)).trans (h.block i hi hn)⟩
theorem Frm.trans' {F : List Nat} {a b c : World} (h : Frm F a b) (k : Frm F b c) : Frm F a c := h.trans k (fun g hg => .inl hg)
theorem Frm.grown {F : List Nat} {a b c : World} {g : Option Nat} (h : Frm F a b) (k : b.grownBy c g) (hg : ∀ j, g = some j → j ∈ F ∨ a.heap.size ≤ j) : Frm F a c :=
  ⟨k.os.trans h.os, k.tape.trans h.tape, k.output.trans h.output, Nat.le_trans h.size k.size, fun i hi hn => (k.block i (Nat.lt_of_lt_of_le hi h.size) (fun e => by rcases hg i e.symm with h | h; exact hn h; omega)).trans (h.block i hi hn)⟩
theorem Frm.below {F : List Nat} {a b c : World} {B : Nat} (h : Frm F a b) (k : Below B b c) (hB : a.heap.size ≤ B) : Frm F a c :=
  ⟨k.os.trans h.os, k.tape.trans h.tape, k.output.trans h.output, Nat.le_trans h.size k.size, fun i hi hn => (k.block i (by omega)).trans (h.block i hi hn)⟩
theorem Frm.set {F : List Nat} {a b : World} (h : Frm F a b) (p : Addr) (u : Value) (hp : p.block ∈ F ∨ a.heap.size ≤ p.block) : Frm F a (b.setCell p u) :=
  ⟨h.os, h.tape, h.output, by simpa [World.setCell] using h.size, fun i hi hn => (Below.heap_setCell b p u i (fun e => by subst e; rcases hp with h | h; exact hn h; omega)).trans (h.block i hi hn)⟩
theorem Frm.alloc {F : List Nat} {a b : World} (h : Frm F a b) (o : Obj) : Frm F a (b.alloc o) :=
  ⟨h.os, h.tape, h.output, Nat.le_trans h.size (by simp), fun i hi hn => (Below.heap_alloc b o i (Nat.lt_of_lt_of_le hi h.size)).trans (h.block i hi hn)⟩
theorem Frm.drewN {F : List Nat} {a b : World} (h : Frm F a b) (n : Nat) : Frm F a (b.drewN n) := ⟨h.os, h.tape, h.output, h.size, h.block⟩
theorem Frm.to_below {F : List Nat} {B : Nat} {a b : World} (h : Frm F a b) (hF : ∀ g ∈ F, B ≤ g) (hB : B ≤ a.heap.size) : Below B a b :=
  ⟨h.os, h.tape, h.output, h.size, fun i hi => h.block i (by omega) (fun hm => by have := hF i hm; omega)⟩
theorem Frm.more {F F' : List Nat} {a b : World} (h : Frm F a b) (hF : ∀ g ∈ F, g ∈ F') : Frm F' a b := ⟨h.os, h.tape, h.output, h.size, fun i hi hn => h.block i hi (fun hm => hn (hF i hm))⟩

/-! ### the store -/
def feet (l : List Pl) : List Nat := l.flatMap Pl.foot
theorem feet_app (l m : List Pl) : feet (l ++ m) = feet l ++ feet m := by simp [feet]
def lookP (l : List Pl) (s : List UInt8) : Option Pl := l.find? (fun r => r.x.name == s)
def atP (l : List Pl) (s : List UInt8) : Option Nat := (lookP l s).map Pl.fb
theorem look_map (l : List Pl) (s : List UInt8) : lookF (l.map Pl.x) s = (lookP l s).map Pl.x := by
  unfold lookF lookP
  induction l with
  | nil => rfl
  | cons r l ih =>
    rw [List.map_cons, List.find?_cons, List.find?_cons, ih]
    cases r.x.name == s <;> rfl
/-- the files are in order, within their bounds, and within the quota -/
def GoodF (q : Int) (L : List Fi) : Prop := SrtF L ∧ (∀ x ∈ L, x.name.length ≤ 100000 ∧ 0 ≤ x.syn ∧ x.syn ≤ x.b.length) ∧ (sumF L : Int) ≤ q ∧ 1 ≤ q ∧ q ≤ 1073741824
def PgS (F : List Nat) (W : World) (p : Nat) (q : Int) (L : List Fi) (fu : Int) (dn : Bool) : Prop :=
  ∃ (M : Nat) (l : List Pl), l.map Pl.x = L ∧ F = p :: M :: feet l ∧ F.Nodup ∧ Box W p (stC q (sumF L) M fu dn) ∧ HasM W M l.length (atP l) ∧ (∀ r ∈ l, r.ok W) ∧ GoodF q L ∧ (-1 ≤ fu ∧ fu ≤ 9223372036854775807)
theorem PgS.agree {F : List Nat} {W W' : World} {p : Nat} {q : Int} {L : List Fi} {fu : Int} {dn : Bool} (h : PgS F W p q L fu dn) (ha : ∀ g ∈ F, W'.heap[g]? = W.heap[g]?) : PgS F W' p q L fu dn := by
  obtain ⟨M, l, h1, h2, h3, ⟨t, h4⟩, h5, h6, h7⟩ := h
  subst h2
  refine ⟨M, l, h1, rfl, h3, ⟨t, by rw [ha p (by simp)]; exact h4⟩, h5.agree (ha M (by simp)), fun r hr => (h6 r hr).agree (fun g hg => ha g ?_), h7⟩
  exact List.mem_cons_of_mem _ (List.mem_cons_of_mem _ (List.mem_flatMap.2 ⟨r, hr, hg⟩))
theorem PgS.lt {F : List Nat} {W : World} {p : Nat} {q : Int} {L : List Fi} {fu : Int} {dn : Bool} (h : PgS F W p q L fu dn) : ∀ g ∈ F, g < W.heap.size := by
  obtain ⟨M, l, h1, h2, h3, h4, h5, h6, h7⟩ := h
  subst h2
  intro g hg
  rcases List.mem_cons.1 hg with rfl | hg
  · exact h4.lt
  · rcases List.mem_cons.1 hg with rfl | hg
    · exact h5.lt
    · obtain ⟨r, hr, hg⟩ := List.mem_flatMap.1 hg
      exact (h6 r hr).lt g hg
theorem PgS.go {F : List Nat} {W W' : World} {p : Nat} {q : Int} {L : List Fi} {fu : Int} {dn : Bool} (h : PgS F W p q L fu dn) (hb : Below W.heap.size W W') : PgS F W' p q L fu dn := h.agree fun g hg => hb.block g (h.lt g hg)
theorem PgS.good {F : List Nat} {W : World} {p : Nat} {q : Int} {L : List Fi} {fu : Int} {dn : Bool} (h : PgS F W p q L fu dn) : GoodF q L := by
  obtain ⟨M, l, h1, h2, h3, h4, h5, h6, h7, _⟩ := h; exact h7
theorem PgS.fuse {F : List Nat} {W : World} {p : Nat} {q : Int} {L : List Fi} {fu : Int} {dn : Bool} (h : PgS F W p q L fu dn) : -1 ≤ fu ∧ fu ≤ 9223372036854775807 := by
  obtain ⟨M, l, h1, h2, h3, h4, h5, h6, h7, h8⟩ := h; exact h8
theorem PgS.mem {F : List Nat} {W : World} {p : Nat} {q : Int} {L : List Fi} {fu : Int} {dn : Bool} (h : PgS F W p q L fu dn) : p ∈ F := by
  obtain ⟨M, l, h1, h2, _⟩ := h; rw [h2]; simp
/-- an operation of the program: the store tells this now; only its own blocks have turned, and its new ones are new -/
def PgP (F : List Nat) (w : World) (p : Nat) (q : Int) (L : List Fi) (fu : Int) (dn : Bool) (v : Value) (e : Ending) (w' : World) : Prop :=
  e = .returned v ∧ ∃ F', PgS F' w' p q L fu dn ∧ Frm F w w' ∧ (∀ b ∈ F', b ∈ F ∨ w.heap.size ≤ b)
theorem nodup_mid {a b b' c : List Nat} (h : (a ++ (b ++ c)).Nodup) (hb : b'.Nodup) (hin : ∀ k ∈ b', k ∈ b ∨ (k ∉ a ∧ k ∉ c)) : (a ++ (b' ++ c)).Nodup := by
  rw [List.nodup_append] at h ⊢
  obtain ⟨h1, h2, h3⟩ := h
  rw [List.nodup_append] at h2 ⊢
  obtain ⟨h4, h5, h6⟩ := h2
  refine ⟨h1, ⟨hb, h5, fun k hk j hj e => ?_⟩, fun k hk j hj e => ?_⟩
  · subst e
    rcases hin k hk with h | h
    · exact h6 k h k hj rfl
    · exact h.2 hj
  · subst e
    rcases List.mem_append.1 hj with hj | hj
    · rcases hin k hj with h | h
      · exact h3 k hk k (List.mem_append_left _ h) rfl
      · exact h.1 hk
    · exact h3 k hk k (List.mem_append_right _ hj) rfl
/-- the store, opened: where the map and the files lie; its size as its own block tells it -/
def PgX (F : List Nat) (M : Nat) (l : List Pl) (W : World) (p : Nat) (q : Int) (L : List Fi) (sz : Int) (fu : Int) (dn : Bool) : Prop :=
  l.map Pl.x = L ∧ F = p :: M :: feet l ∧ F.Nodup ∧ Box W p (stC q sz M fu dn) ∧ HasM W M l.length (atP l) ∧ (∀ r ∈ l, r.ok W) ∧ GoodF q L ∧ (-1 ≤ fu ∧ fu ≤ 9223372036854775807)
theorem PgS.open_ {F : List Nat} {W : World} {p : Nat} {q : Int} {L : List Fi} {fu : Int} {dn : Bool} (h : PgS F W p q L fu dn) : ∃ M l, PgX F M l W p q L (sumF L) fu dn := h
theorem PgX.shut {F : List Nat} {M : Nat} {l : List Pl} {W : World} {p : Nat} {q : Int} {L : List Fi} {fu : Int} {dn : Bool} {sz : Int} (h : PgX F M l W p q L sz fu dn) (hs : sz = sumF L) : PgS F W p q L fu dn := by subst hs; exact ⟨M, l, h⟩
/-- one place in the list of files has turned -/
theorem pg_turn {w w' : World} {p M : Nat} {q fu sz : Int} {dn : Bool} {l1 mid mid' l2 : List Pl} {L : List Fi}
    (hnd : (p :: M :: feet (l1 ++ (mid ++ l2))).Nodup) (hok : ∀ r ∈ l1 ++ (mid ++ l2), r.ok w) (hlt : p < w.heap.size ∧ M < w.heap.size) (hf : Frm (p :: M :: feet mid) w w')
    (hL : (l1 ++ (mid' ++ l2)).map Pl.x = L) (hB : Box w' p (stC q sz M fu dn)) (hM : HasM w' M (l1 ++ (mid' ++ l2)).length (atP (l1 ++ (mid' ++ l2))))
    (hok' : ∀ r ∈ mid', r.ok w') (hnd' : (feet mid').Nodup) (hin : ∀ k ∈ feet mid', k ∈ feet mid ∨ w.heap.size ≤ k) (hG : GoodF q L) (hfu : -1 ≤ fu ∧ fu ≤ 9223372036854775807) :
    ∃ F', PgX F' M (l1 ++ (mid' ++ l2)) w' p q L sz fu dn ∧ Frm (p :: M :: feet (l1 ++ (mid ++ l2))) w w' ∧ (∀ b ∈ F', b ∈ (p :: M :: feet (l1 ++ (mid ++ l2))) ∨ w.heap.size ≤ b) := by
  have hall : ∀ k ∈ feet l1 ++ feet l2, k < w.heap.size := by
    intro k hk
    rcases List.mem_append.1 hk with hk | hk
    · obtain ⟨r, hr, hg⟩ := List.mem_flatMap.1 hk
      exact (hok r (List.mem_append_left _ hr)).lt k hg
    · obtain ⟨r, hr, hg⟩ := List.mem_flatMap.1 hk
      exact (hok r (List.mem_append_right _ (List.mem_append_right _ hr))).lt k hg
  have e1 : ∀ m : List Pl, (p :: M :: feet (l1 ++ (m ++ l2))) = ([p, M] ++ feet l1) ++ (feet m ++ feet l2) := fun m => by simp [feet_app]
  rw [e1] at hnd ⊢
  have hnd2 := nodup_mid (b' := feet mid') hnd hnd' (fun k hk => by
    rcases hin k hk with h | h
    · exact .inl h
    · refine .inr ⟨fun hm => ?_, fun hm => ?_⟩
      · rcases List.mem_append.1 hm with hm | hm
        · simp at hm
          rcases hm with rfl | rfl <;> omega
        · have := hall k (List.mem_append_left _ hm); omega
      · have := hall k (List.mem_append_right _ hm); omega)
  rw [List.nodup_append] at hnd
  obtain ⟨n1, n2, n3⟩ := hnd
  rw [List.nodup_append] at n1 n2
  have keep : ∀ r, (r ∈ l1 ∨ r ∈ l2) → r.ok w' := fun r hr => by
    have hrok : r.ok w := by
      rcases hr with hr | hr
      · exact hok r (List.mem_append_left _ hr)
      · exact hok r (List.mem_append_right _ (List.mem_append_right _ hr))
    refine hrok.agree fun g hg => hf.block g (hrok.lt g hg) fun hm => ?_
    have hg2 : (r ∈ l1 ∧ g ∈ feet l1) ∨ (r ∈ l2 ∧ g ∈ feet l2) := by
      rcases hr with hr | hr
      · exact .inl ⟨hr, List.mem_flatMap.2 ⟨r, hr, hg⟩⟩
      · exact .inr ⟨hr, List.mem_flatMap.2 ⟨r, hr, hg⟩⟩
    have hm2 : g ∈ [p, M] ∨ g ∈ feet mid := by
      rcases List.mem_cons.1 hm with h | hm
      · exact .inl (by simp [h])
      · rcases List.mem_cons.1 hm with h | hm
        · exact .inl (by simp [h])
        · exact .inr hm
    rcases hg2 with ⟨_, hg2⟩ | ⟨_, hg2⟩ <;> rcases hm2 with hm2 | hm2
    · exact n1.2.2 g hm2 g hg2 rfl
    · exact n3 g (List.mem_append_right _ hg2) g (List.mem_append_left _ hm2) rfl
    · exact n3 g (List.mem_append_left _ hm2) g (List.mem_append_right _ hg2) rfl
    · exact n2.2.2 g hm2 g hg2 rfl
  refine ⟨_, ⟨hL, (e1 mid').symm, hnd2, hB, hM, fun r hr => ?_, hG, hfu⟩, hf.more (fun g hg => ?_), fun b hb => ?_⟩
  · rcases List.mem_append.1 hr with h | h
    · exact keep r (.inl h)
    · rcases List.mem_append.1 h with h | h
      · exact hok' r h
      · exact keep r (.inr h)
  · rcases List.mem_cons.1 hg with rfl | hg
    · simp
    · rcases List.mem_cons.1 hg with rfl | hg
      · simp
      · exact List.mem_append_right _ (List.mem_append_left _ hg)
  · rcases List.mem_append.1 hb with h | h
    · exact .inl (List.mem_append_left _ h)
    · rcases List.mem_append.1 h with h | h
      · rcases hin b h with h | h
        · exact .inl (List.mem_append_right _ (List.mem_append_left _ h))
        · exact .inr h
      · exact .inl (List.mem_append_right _ (List.mem_append_right _ h))
end Go.Proofs.Ytejjobbgceoljaa
