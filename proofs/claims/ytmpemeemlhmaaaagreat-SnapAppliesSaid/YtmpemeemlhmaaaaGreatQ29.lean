/- Maps by name whose elements are plain values or structs of them: what the map says, as a function. -/
import Derived.Test.YtmpemeemlhmaaaaGreatRows
import Derived.Test.YtmpemeemlhmaaaaGreatQ1
import Derived.Maps.OwnSet
import Derived.Shelf.SlIter.Sorted
import Derived.Test.YtmpemeemlhmaaaaGreatQ22
import Derived.Test.YtmpemeemlhmaaaaGreatQ27
import Derived.Shelf.SortM.Plain
import Derived.Shelf.SortM.SortNone
import Derived.TacticsInMore
import Derived.Test.YtmpemeemlhmaaaaGreatQ28
set_option linter.unusedSimpArgs false
set_option linter.unusedVariables false
set_option maxRecDepth 100000
namespace Go.Proofs.YtmpemeemlhmaaaaGreat
open Go.RowKit Go.Sort

def cellD : Value → Option (DataW Unit)
  | .string s => some (.lit (.string s.data.toList))
  | .bool b => some (.lit (.bool b))
  | .int k n => some (.lit (.int k n))
  | .float k b => some (.lit (.float k b))
  | _ => none
def elD : Value → Option (DataW Unit × List MemPlace)
  | .agg c => (c.toList.mapM cellD).map fun ds => (.agg ds, [])
  | .string s => some (.lit (.string s.data.toList), [])
  | .bool b => some (.lit (.bool b), [])
  | .int k n => some (.lit (.int k n), [])
  | .float k b => some (.lit (.float k b), [])
  | _ => none
theorem text_eq {s t : ByteArray} (h : s.data.toList = t.data.toList) : s = t := by
  cases s; cases t
  simp at h
  rw [h]
theorem cellD_inj {u v : Value} {d : DataW Unit} (hu : cellD u = some d) (hv : cellD v = some d) : u = v := by
  unfold cellD at hu hv
  split at hu <;> first | (cases hu; done) | skip
  all_goals
    injection hu with hu
    subst hu
    split at hv <;> first | (cases hv; done) | skip
    all_goals
      simp at hv
    all_goals first
      | exact congrArg Value.string (ByteArray.ext hv)
      | exact congrArg Value.string (ByteArray.ext hv.symm)
      | exact congrArg Value.string (text_eq hv)
      | rw [hv]
      | (obtain ⟨rfl, rfl⟩ := hv; rfl)
theorem cellsD_inj : ∀ {l m : List Value} {ds : List (DataW Unit)}, l.mapM cellD = some ds → m.mapM cellD = some ds → l = m
  | [], m, ds, hl, hm => by
    simp at hl
    subst hl
    cases m with
    | nil => rfl
    | cons v m => simp [List.mapM_cons, Option.bind_eq_some_iff] at hm
  | u :: l, m, ds, hl, hm => by
    simp only [List.mapM_cons, Option.bind_eq_bind, Option.bind_eq_some_iff, Option.pure_def, Option.some.injEq] at hl
    obtain ⟨d, hd, ds', hds, rfl⟩ := hl
    cases m with
    | nil => simp at hm
    | cons v m =>
      simp only [List.mapM_cons, Option.bind_eq_bind, Option.bind_eq_some_iff, Option.pure_def, Option.some.injEq] at hm
      obtain ⟨d', hd', ds'', hds', e⟩ := hm
      injection e with e1 e2
      subst e1 e2
      rw [cellD_inj hd hd', cellsD_inj hds hds']
theorem elD_inj {u v : Value} {z : DataW Unit × List MemPlace} (hu : elD u = some z) (hv : elD v = some z) : u = v := by
  unfold elD at hu hv
  split at hu <;> first | (cases hu; done) | skip
  · rename_i c
    simp only [Option.map_eq_some_iff] at hu
    obtain ⟨ds, hds, rfl⟩ := hu
    split at hv <;> first | (cases hv; done) | skip
    · rename_i c'
      simp only [Option.map_eq_some_iff] at hv
      obtain ⟨ds', hds', e⟩ := hv
      injection e with e _
      injection e with e
      subst e
      have := cellsD_inj hds hds'
      rw [← Array.toArray_toList (xs := c), this]
    all_goals simp at hv
  all_goals
    injection hu with hu
    subst hu
    split at hv <;> first | (cases hv; done) | skip
    all_goals
      simp at hv
    all_goals first
      | exact congrArg Value.string (ByteArray.ext hv)
      | exact congrArg Value.string (ByteArray.ext hv.symm)
      | exact congrArg Value.string (text_eq hv)
      | rw [hv]
      | (obtain ⟨rfl, rfl⟩ := hv; rfl)
      | (obtain ⟨_, _, hv⟩ := hv; cases hv)
theorem elD_ps {v : Value} {d : DataW Unit} {ps : List MemPlace} (h : elD v = some (d, ps)) : ps = [] := by
  unfold elD at h
  split at h
  · simp only [Option.map_eq_some_iff] at h
    obtain ⟨ds, _, e⟩ := h
    injection e with _ e
    exact e.symm
  all_goals first
    | (cases h; done)
    | (injection h with h; injection h with _ h; exact h.symm)
/-- the datum of a value that reads -/
def elG (v : Value) : DataW Unit := ((elD v).getD (.agg [], [])).1
def plainV (v : Value) : Prop := ∃ d, elD v = some (d, [])
theorem elG_of {v : Value} (h : plainV v) : elD v = some (elG v, []) := by
  obtain ⟨d, h⟩ := h
  unfold elG
  rw [h]; rfl
theorem elG_inj {u v : Value} (hu : plainV u) (hv : plainV v) (h : elG u = elG v) : u = v := elD_inj (elG_of hu) (by rw [h]; exact elG_of hv)
theorem plainV_agg (c : Array Value) (h : ∀ v ∈ c.toList, ∃ d, cellD v = some d) : plainV (.agg c) := by
  have key : ∀ l : List Value, (∀ v ∈ l, ∃ d, cellD v = some d) → ∃ ds, l.mapM cellD = some ds := by
    intro l
    induction l with
    | nil => intro _; exact ⟨[], rfl⟩
    | cons v l ih =>
      intro h
      obtain ⟨d, hd⟩ := h v (by simp)
      obtain ⟨ds, hds⟩ := ih (fun u hu => h u (by simp [hu]))
      exact ⟨d :: ds, by simp [List.mapM_cons, hd, hds]⟩
  obtain ⟨ds, hds⟩ := key _ h
  exact ⟨.agg ds, by show Option.map _ (List.mapM cellD c.toList) = _; rw [hds]; rfl⟩
def MapV (D : DataW Unit) (f : List UInt8 → Option Value) : Prop :=
  Maps.IsMap D ∧ ∀ s, Maps.has D (.string s) = (f s).isSome ∧ ∀ zd, D.atKey (.string s) zd = match f s with | some b => elG b | none => zd
theorem MapV.nil : MapV (.map []) (fun _ => none) := ⟨⟨[], rfl⟩, fun s => ⟨rfl, fun zd => rfl⟩⟩
theorem MapV.put {D : DataW Unit} {f g : List UInt8 → Option Value} (h : MapV D f) (s : List UInt8) (b : Value) (hg : ∀ t, g t = if t = s then some b else f t) : MapV (D.put (.string s) (elG b)) g := by
  obtain ⟨hm, hs⟩ := h
  have hk : Go.WideAt.IsKeyLit (.string s) := trivial
  refine ⟨hm.put _ _, fun t => ?_⟩
  rw [hg]
  by_cases hn : t = s
  · subst hn
    rw [if_pos rfl]
    exact ⟨Maps.has_put_same hm hk _, fun zd => Maps.atKey_put_same hm hk _ _⟩
  · rw [if_neg hn]
    have hne : (Lit.string t) ≠ .string s := fun e => hn (by injection e with e)
    obtain ⟨h1, h2⟩ := hs t
    exact ⟨by rw [Maps.has_put_other hne]; exact h1, fun zd => by rw [Maps.atKey_put_other hne]; exact h2 zd⟩
theorem MapV.del {D : DataW Unit} {f g : List UInt8 → Option Value} (h : MapV D f) (s : List UInt8) (hg : ∀ t, g t = if t = s then none else f t) : MapV (D.del (.string s)) g := by
  obtain ⟨hm, hs⟩ := h
  refine ⟨hm.del _, fun t => ?_⟩
  rw [hg]
  by_cases hn : t = s
  · subst hn
    rw [if_pos rfl]
    exact ⟨Maps.has_del_same, fun zd => Maps.atKey_del_same _⟩
  · rw [if_neg hn]
    have hne : (Lit.string t) ≠ .string s := fun e => hn (by injection e with e)
    obtain ⟨h1, h2⟩ := hs t
    exact ⟨by rw [Maps.has_del_other hne]; exact h1, fun zd => by rw [Maps.atKey_del_other hne]; exact h2 zd⟩
/-- the map in block M, of n names, says f -/
def HasV (W : World) (M : Nat) (n : Nat) (f : List UInt8 → Option Value) : Prop :=
  ∃ D : DataW Unit, W.ownsMap Tryz.prog 9 elD M n D ∧ MapV D f ∧ Maps.size D = n ∧ ∀ s v, f s = some v → plainV v
theorem keyedV : Maps.Keyed Tryz.prog 9 := Maps.string_keyed Tryz.underlying9
theorem HasV.agree {W W' : World} {M n : Nat} {f : List UInt8 → Option Value} (h : HasV W M n f) (ha : W'.heap[M]? = W.heap[M]?) : HasV W' M n f := by
  obtain ⟨D, ⟨es, ck, h1, h2⟩, h3⟩ := h
  exact ⟨D, ⟨es, ck, ha.trans h1, h2⟩, h3⟩
theorem HasV.lt {W : World} {M n : Nat} {f : List UInt8 → Option Value} (h : HasV W M n f) : M < W.heap.size := by
  obtain ⟨D, h1, h3⟩ := h
  exact h1.lt
theorem HasV.go {W W' : World} {M n : Nat} {f : List UInt8 → Option Value} (h : HasV W M n f) (hb : Below W.heap.size W W') : HasV W' M n f := h.agree (hb.block M h.lt)
theorem HasV.alloc {W : World} {M n : Nat} {f : List UInt8 → Option Value} (h : HasV W M n f) (ob : Obj) : HasV (W.alloc ob) M n f := h.go ((Below.refl _ _).alloc (Nat.le_refl _) ob)
theorem HasV.drew {W : World} {M n : Nat} {f : List UInt8 → Option Value} (h : HasV W M n f) : HasV W.drew M n f := h.agree rfl
theorem HasV.grown {W W' : World} {M n : Nat} {f : List UInt8 → Option Value} {g : Option Nat} (h : HasV W M n f) (hg : W.grownBy W' g) (hne : some M ≠ g) : HasV W' M n f := h.agree (hg.block M h.lt hne)
theorem HasV.eq {W : World} {M n : Nat} {f g : List UInt8 → Option Value} (h : HasV W M n f) (hg : ∀ s, g s = f s) : HasV W M n g := by
  obtain rfl : g = f := funext hg
  exact h
theorem own_mapV_size {W : World} {M n : Nat} {D : DataW Unit} (h : W.ownsMap Tryz.prog 9 elD M n D) : W.ownsMap Tryz.prog 9 elD M (Maps.size D) D := by
  obtain ⟨es, ck, h1, F, _, rfl⟩ := h
  refine ⟨es, ck, h1, F, ?_, rfl⟩
  show es.size ≤ _
  rw [Maps.size_eq, length_sorted]; simp
theorem HasV.new (w : World) : HasV (w.alloc (.map #[] 0)) w.heap.size 0 (fun _ => none) := ⟨_, World.ownsMap_made w _ _ _, MapV.nil, rfl, fun s v h => by cases h⟩
/-- f, but that s says v -/
def putV (f : List UInt8 → Option Value) (s : List UInt8) (v : Value) (t : List UInt8) : Option Value := if t = s then some v else f t
def delV (f : List UInt8 → Option Value) (s t : List UInt8) : Option Value := if t = s then none else f t
theorem HasV.put {W W' : World} {M n : Nat} {f : List UInt8 → Option Value} {D : DataW Unit} (h : W.ownsMap Tryz.prog 9 elD M n D) (hD : MapV D f) (hn : Maps.size D = n) (hp : ∀ s v, f s = some v → plainV v) (s : List UInt8) (v : Value) (hv : plainV v) (k : Nat)
    (h2 : W'.ownsMap Tryz.prog 9 elD M k (D.put (.string s) (elG v))) : HasV W' M (if (f s).isSome then n else n + 1) (putV f s v) := by
  have hs := Maps.size_put (k := .string s) (h.tidy keyedV) (elG v)
  rw [(hD.2 s).1, hn] at hs
  refine ⟨_, ?_, hD.put s v (fun t => rfl), hs, fun t u hu => ?_⟩
  · have := own_mapV_size h2
    rwa [hs] at this
  · unfold putV at hu
    split at hu
    · injection hu with hu; rw [← hu]; exact hv
    · exact hp t u hu
theorem HasV.del {W W' : World} {M n : Nat} {f : List UInt8 → Option Value} {D : DataW Unit} (h : W.ownsMap Tryz.prog 9 elD M n D) (hD : MapV D f) (hn : Maps.size D = n) (hp : ∀ s v, f s = some v → plainV v) (s : List UInt8) (k : Nat)
    (h2 : W'.ownsMap Tryz.prog 9 elD M k (D.del (.string s))) : HasV W' M (if (f s).isSome then n - 1 else n) (delV f s) := by
  have hs := Maps.size_del (k := .string s) (h.tidy keyedV)
  rw [(hD.2 s).1, hn] at hs
  replace hs : Maps.size (D.del (.string s)) = if (f s).isSome then n - 1 else n := by
    cases h : (f s).isSome <;> simp [h] at hs ⊢ <;> omega
  refine ⟨_, ?_, hD.del s (fun t => rfl), hs, fun t u hu => ?_⟩
  · have := own_mapV_size h2
    rwa [hs] at this
  · unfold delV at hu
    split at hu
    · cases hu
    · exact hp t u hu
theorem keyV (s : List UInt8) (hs : s.length ≤ 100000) : keyOf Tryz.prog 9 (.string (textOf s)) = some (.string s) := WideMaps.keyOf_string_mk (P := Tryz.prog) Tryz.underlying9 (by unfold maxLen; simp [textOf, ByteArray.size]; omega)
theorem val_of {D : DataW Unit} {f : List UInt8 → Option Value} (hF : MapV D f) (hp : ∀ s v, f s = some v → plainV v) (s : List UInt8) {z v : Value} (hz : plainV z) {ps : List MemPlace} (hv : elD v = some (D.atKey (.string s) (elG z), ps)) : v = (f s).getD z := by
  rw [(hF.2 s).2] at hv
  cases h : f s with
  | none =>
    rw [h] at hv
    obtain rfl := elD_ps hv
    exact elD_inj hv (elG_of hz)
  | some b =>
    rw [h] at hv
    obtain rfl := elD_ps hv
    exact elD_inj hv (elG_of (hp s b h))
section
variable {ops : Array Oper} {rest : List Oper} {o : Oper} {a : Act} {Q : Exit → Act → World → Prop} {w : World} {mt et : TypeId} {z : Value}
theorem wpList_lookV_ok (ht : Tryz.prog.underlying mt = some (.map 9 et)) (hz : (zeroValue et).run Tryz.prog w = .ok z w) (hzp : plainV z) (hg : o.guard = none) (m x : Operand) (hop : o.op = Op.lookup mt m x true)
    (M n : Nat) (f : List UInt8 → Option Value) (hm : a.eval m = .map (some M)) (hown : HasV w M n f) (s : List UInt8) (hs : s.length ≤ 100000) (hx : a.eval x = .string (textOf s))
    (y : Value) (ok : Bool) (hy : (f s).getD z = y) (hok : (f s).isSome = ok) (hK : wpList Tryz.prog ops Q rest (a.put o.dst (.tuple #[y, .bool ok])) w) : wpList Tryz.prog ops Q (o :: rest) a w := by
  obtain ⟨D, h1, h2, _, h4⟩ := hown
  refine wpList_lookup_own_ok w hg m x mt hop 9 et keyedV ht elD hz (elG z) [] (elG_of hzp) M n D hm h1 _ (.string s) hx (keyV s hs) ?_
  intro v ps hv
  rw [val_of h2 h4 s hzp hv, (h2.2 s).1, hy, hok]
  exact hK
theorem run_lookV (ht : Tryz.prog.underlying mt = some (.map 9 et)) (hz : (zeroValue et).run Tryz.prog w = .ok z w) (hzp : plainV z) (M n : Nat) (f : List UInt8 → Option Value) (hown : HasV w M n f) (s : List UInt8) (hs : s.length ≤ 100000) :
    (Instr.lookup mt (.map (some M)) (.string (textOf s)) false).run Tryz.prog w = .ok ((f s).getD z) w := by
  obtain ⟨D, h1, h2, _, h4⟩ := hown
  obtain ⟨v, ps, hrun, hv⟩ := h1.lookup keyedV ht hz (elG_of hzp) (keyV s hs)
  rw [hrun, val_of h2 h4 s hzp hv]
theorem wpList_lookV (ht : Tryz.prog.underlying mt = some (.map 9 et)) (hz : (zeroValue et).run Tryz.prog w = .ok z w) (hzp : plainV z) (hg : o.guard = none) (m x : Operand) (hop : o.op = Op.lookup mt m x false)
    (M n : Nat) (f : List UInt8 → Option Value) (hm : a.eval m = .map (some M)) (hown : HasV w M n f) (s : List UInt8) (hs : s.length ≤ 100000) (hx : a.eval x = .string (textOf s))
    (y : Value) (hy : (f s).getD z = y) (hK : wpList Tryz.prog ops Q rest (a.put o.dst y) w) : wpList Tryz.prog ops Q (o :: rest) a w := by
  refine wpList_plain hg fun K' hK' => ?_
  have hrun := run_lookV ht hz hzp M n f hown s hs
  rw [hy] at hrun
  unfold Oper.wp
  simp [execOp, hop, hm, hx, hrun, Result.andThen]
  exact hK' _ _ hK
theorem wpList_updV (ht : Tryz.prog.underlying mt = some (.map 9 et)) (hg : o.guard = none) (m x v : Operand) (hop : o.op = Op.mapUpdate mt m x v)
    (M n : Nat) (f : List UInt8 → Option Value) (hm : a.eval m = .map (some M)) (hown : HasV w M n f) (hn : n ≤ 1000000) (s : List UInt8) (hs : s.length ≤ 100000) (hx : a.eval x = .string (textOf s)) (u : Value) (hv : a.eval v = u) (hu : plainV u)
    (hK : ∀ w', HasV w' M (if (f s).isSome then n else n + 1) (putV f s u) → w.grownBy w' (some M) → wpList Tryz.prog ops Q rest (a.put o.dst undef) w') : wpList Tryz.prog ops Q (o :: rest) a w := by
  obtain ⟨D, h1, h2, h3, h4⟩ := hown
  refine wpList_mapUpdate_own w hg m x v mt hop 9 et keyedV ht elD M n D hm h1 (by unfold maxLen; omega) _ _ (.string s) hx hv (keyV s hs) _ [] (elG_of hu) ?_
  intro w' k1 k2
  exact hK w' (HasV.put h1 h2 h3 h4 s u hu _ k1) k2
theorem wpList_delV (ht : Tryz.prog.underlying mt = some (.map 9 et)) (hg : o.guard = none) (m x : Operand) (hop : o.op = Op.call { callee := Callee.builtin Builtin.delete, args := #[m, x], argTypes := #[mt, 9] })
    (M n : Nat) (f : List UInt8 → Option Value) (hm : a.eval m = .map (some M)) (hown : HasV w M n f) (s : List UInt8) (hs : s.length ≤ 100000) (hx : a.eval x = .string (textOf s))
    (hK : ∀ w', HasV w' M (if (f s).isSome then n - 1 else n) (delV f s) → w.grownBy w' (some M) → wpList Tryz.prog ops Q rest (a.put o.dst (.tuple #[])) w') : wpList Tryz.prog ops Q (o :: rest) a w := by
  obtain ⟨D, h1, h2, h3, h4⟩ := hown
  refine wpList_delete_own w hg m x mt 9 hop et keyedV ht elD M n D hm h1 _ (.string s) hx (keyV s hs) ?_
  intro w' k1 k2
  exact hK w' (HasV.del h1 h2 h3 h4 s _ k1) k2.grown
end
/-- names that are just the map's are its keys -/
theorem keysV {W : World} {M n : Nat} {f : List UInt8 → Option Value} {D : DataW Unit} (hown : W.ownsMap Tryz.prog 9 elD M n D) (hD : MapV D f) {names : List (List UInt8)} (hnd : names.Nodup) (hm : ∀ s, s ∈ names ↔ (f s).isSome = true) : names.Perm (strKeys D) := by
  obtain ⟨es, h1, hpw, _⟩ := hown.entries keyedV
  obtain ⟨es', h2, hko⟩ := hown.keysOf
  obtain rfl : es = es' := by rw [h1] at h2; simpa using h2
  subst h1
  exact perm_strKeys hpw (fun p hp => by obtain ⟨v, hv⟩ := hko p hp; obtain ⟨x, _, hx, _⟩ := Maps.keyOf_str Tryz.underlying9 hv; exact ⟨x, hx⟩) hnd (fun x => by rw [hm x, (hD.2 x).1])
end Go.Proofs.YtmpemeemlhmaaaaGreat

namespace Go.Proofs.YtmpemeemlhmaaaaGreat
open Go.RowKit Go.Sort Go.Shelf

def sort_lays_ren : Go.Shelf.Ren := ⟨fun | 6 => 143 | 8 => 164 | 9 => 163 | 19 => 179 | 20 => 148 | 21 => 170 | 22 => 171 | 23 => 172 | 24 => 173 | 25 => 174 | 26 => 175 | 27 => 176 | 28 => 177 | 29 => 178 | 36 => 180 | 31 => 181 | 32 => 182 | 37 => 183 | 38 => 184 | 39 => 185 | 41 => 186 | n => n, fun | 27 => 116 | 29 => 9 | 3 => 3 | 32 => 176 | 26 => 116 | 0 => 0 | 44 => 224 | 46 => 137 | 4 => 4 | 36 => 217 | 35 => 216 | 41 => 129 | 5 => 5 | 9 => 9 | 53 => 225 | 57 => 228 | 63 => 230 | 64 => 231 | n => n, fun | n => n⟩
theorem sort_lays : Go.Proofs.SlLaysM.n6 Tryz.prog sort_lays_ren := {
  mixed := by kernel_rfl,
  f6 := ⟨Tryz.f143.name, by decide, Tryz.func143.trans (congrArg some (by kernel_rfl))⟩,
  f8 := Tryz.func164.trans (congrArg some (by kernel_rfl)),
  f9 := ⟨Tryz.f163.name, by decide, Tryz.func163.trans (congrArg some (by kernel_rfl))⟩,
  f19 := Tryz.func179.trans (congrArg some (by kernel_rfl)),
  f20 := Tryz.func148.trans (congrArg some (by kernel_rfl)),
  f21 := ⟨Tryz.f170.name, by decide, Tryz.func170.trans (congrArg some (by kernel_rfl))⟩,
  f22 := ⟨Tryz.f171.name, by decide, Tryz.func171.trans (congrArg some (by kernel_rfl))⟩,
  f23 := ⟨Tryz.f172.name, by decide, Tryz.func172.trans (congrArg some (by kernel_rfl))⟩,
  f24 := ⟨Tryz.f173.name, by decide, Tryz.func173.trans (congrArg some (by kernel_rfl))⟩,
  f25 := ⟨Tryz.f174.name, by decide, Tryz.func174.trans (congrArg some (by kernel_rfl))⟩,
  f26 := ⟨Tryz.f175.name, by decide, Tryz.func175.trans (congrArg some (by kernel_rfl))⟩,
  f27 := ⟨Tryz.f176.name, by decide, Tryz.func176.trans (congrArg some (by kernel_rfl))⟩,
  f28 := ⟨Tryz.f177.name, by decide, Tryz.func177.trans (congrArg some (by kernel_rfl))⟩,
  f29 := ⟨Tryz.f178.name, by decide, Tryz.func178.trans (congrArg some (by kernel_rfl))⟩,
  f31 := Tryz.func181.trans (congrArg some (by kernel_rfl)),
  f32 := Tryz.func182.trans (congrArg some (by kernel_rfl)),
  f36 := ⟨Tryz.f180.name, by decide, Tryz.func180.trans (congrArg some (by kernel_rfl))⟩,
  f37 := ⟨Tryz.f183.name, by decide, Tryz.func183.trans (congrArg some (by kernel_rfl))⟩,
  f38 := ⟨Tryz.f184.name, by decide, Tryz.func184.trans (congrArg some (by kernel_rfl))⟩,
  f39 := ⟨Tryz.f185.name, by decide, Tryz.func185.trans (congrArg some (by kernel_rfl))⟩,
  f41 := ⟨Tryz.f186.name, by decide, Tryz.func186.trans (congrArg some (by kernel_rfl))⟩,
  t0 := Tryz.underlying0,
  a0 := Tryz.isAgg0,
  z0 := Tryz.sizeOf0,
  v0 := Tryz.zeroValue0,
  t3 := Tryz.underlying3,
  a3 := Tryz.isAgg3,
  z3 := Tryz.sizeOf3,
  v3 := Tryz.zeroValue3,
  t4 := Tryz.underlying4,
  a4 := Tryz.isAgg4,
  z4 := Tryz.sizeOf4,
  v4 := Tryz.zeroValue4,
  t5 := Tryz.underlying5,
  a5 := Tryz.isAgg5,
  z5 := Tryz.sizeOf5,
  v5 := Tryz.zeroValue5,
  t9 := Tryz.underlying9,
  a9 := Tryz.isAgg9,
  z9 := Tryz.sizeOf9,
  v9 := Tryz.zeroValue9,
  t26 := Tryz.underlying116,
  a26 := Tryz.isAgg116,
  z26 := Tryz.sizeOf116,
  v26 := Tryz.zeroValue116,
  t27 := Tryz.underlying116,
  a27 := Tryz.isAgg116,
  z27 := Tryz.sizeOf116,
  v27 := Tryz.zeroValue116,
  t29 := Tryz.underlying9,
  a29 := Tryz.isAgg9,
  z29 := Tryz.sizeOf9,
  v29 := Tryz.zeroValue9,
  t32 := Tryz.underlying176,
  a32 := Tryz.isAgg176,
  z32 := Tryz.sizeOf176,
  v32 := Tryz.zeroValue176,
  t35 := Tryz.underlying216,
  a35 := Tryz.isAgg216,
  z35 := Tryz.sizeOf216,
  v35 := Tryz.zeroValue216,
  t36 := Tryz.underlying217,
  a36 := Tryz.isAgg217,
  z36 := Tryz.sizeOf217,
  v36 := Tryz.zeroValue217,
  t41 := Tryz.underlying129,
  a41 := Tryz.isAgg129,
  z41 := Tryz.sizeOf129,
  v41 := Tryz.zeroValue129,
  t44 := Tryz.underlying224,
  a44 := Tryz.isAgg224,
  z44 := Tryz.sizeOf224,
  v44 := Tryz.zeroValue224,
  t46 := Tryz.underlying137,
  a46 := Tryz.isAgg137,
  z46 := Tryz.sizeOf137,
  v46 := Tryz.zeroValue137,
  t53 := Tryz.underlying225,
  a53 := Tryz.isAgg225,
  z53 := Tryz.sizeOf225,
  v53 := Tryz.zeroValue225,
  t57 := Tryz.underlying228,
  a57 := Tryz.isAgg228,
  z57 := Tryz.sizeOf228,
  v57 := Tryz.zeroValue228,
  t63 := Tryz.underlying230,
  a63 := Tryz.isAgg230,
  z63 := Tryz.sizeOf230,
  v63 := Tryz.zeroValue230,
  t64 := Tryz.underlying231,
  a64 := Tryz.isAgg231,
  z64 := Tryz.sizeOf231,
  v64 := Tryz.zeroValue231 }

def keys_lays_ren : Go.Shelf.Ren := ⟨fun | 7 => 110 | 10 => 144 | n => n, fun | 23 => 120 | 26 => 9 | 3 => 60 | 28 => 168 | 0 => 0 | 27 => 167 | 33 => 142 | 4 => 4 | n => n, fun | n => n⟩
theorem keys_lays : Go.Proofs.SlLaysZ.n7 Tryz.prog keys_lays_ren := {
  mixed := by kernel_rfl,
  f7 := ⟨Tryz.f110.name, by decide, Tryz.func110.trans (congrArg some (by kernel_rfl))⟩,
  f10 := ⟨Tryz.f144.name, by decide, Tryz.func144.trans (congrArg some (by kernel_rfl))⟩,
  t0 := Tryz.underlying0,
  a0 := Tryz.isAgg0,
  z0 := Tryz.sizeOf0,
  v0 := Tryz.zeroValue0,
  t4 := Tryz.underlying4,
  a4 := Tryz.isAgg4,
  z4 := Tryz.sizeOf4,
  v4 := Tryz.zeroValue4,
  t23 := Tryz.underlying120,
  a23 := Tryz.isAgg120,
  z23 := Tryz.sizeOf120,
  v23 := Tryz.zeroValue120,
  t26 := Tryz.underlying9,
  a26 := Tryz.isAgg9,
  z26 := Tryz.sizeOf9,
  v26 := Tryz.zeroValue9,
  t27 := Tryz.underlying167,
  a27 := Tryz.isAgg167,
  z27 := Tryz.sizeOf167,
  v27 := Tryz.zeroValue167,
  t28 := Tryz.underlying168,
  a28 := Tryz.isAgg168,
  z28 := Tryz.sizeOf168,
  v28 := Tryz.zeroValue168,
  t33 := Tryz.underlying142,
  a33 := Tryz.isAgg142,
  z33 := Tryz.sizeOf142,
  v33 := Tryz.zeroValue142 }
def sorted_lays_ren : Go.Shelf.Ren := ⟨fun | 6 => 109 | 8 => 142 | 9 => 143 | 11 => 162 | 13 => 164 | 12 => 163 | 23 => 179 | 24 => 148 | 14 => 170 | 15 => 171 | 16 => 172 | 17 => 173 | 18 => 174 | 19 => 175 | 20 => 176 | 21 => 177 | 22 => 178 | 25 => 180 | 26 => 181 | 27 => 182 | 28 => 183 | 29 => 184 | 30 => 185 | 31 => 186 | n => n, fun | 26 => 9 | 28 => 168 | 24 => 116 | 0 => 0 | 3 => 3 | 37 => 176 | 48 => 224 | 50 => 137 | 4 => 4 | 40 => 217 | 39 => 216 | 45 => 129 | 5 => 5 | 9 => 9 | 51 => 225 | 55 => 228 | 57 => 230 | 58 => 231 | 33 => 142 | n => n, fun | n => n⟩
theorem sorted_lays : Go.Proofs.SlLaysZ.n6 Tryz.prog sorted_lays_ren := {
  mixed := by kernel_rfl,
  f6 := ⟨Tryz.f109.name, by decide, Tryz.func109.trans (congrArg some (by kernel_rfl))⟩,
  f8 := ⟨Tryz.f142.name, by decide, Tryz.func142.trans (congrArg some (by kernel_rfl))⟩,
  f11 := ⟨Tryz.f162.name, by decide, Tryz.func162.trans (congrArg some (by kernel_rfl))⟩,
  t0 := Tryz.underlying0,
  a0 := Tryz.isAgg0,
  z0 := Tryz.sizeOf0,
  v0 := Tryz.zeroValue0,
  t24 := Tryz.underlying116,
  a24 := Tryz.isAgg116,
  z24 := Tryz.sizeOf116,
  v24 := Tryz.zeroValue116,
  t26 := Tryz.underlying9,
  a26 := Tryz.isAgg9,
  z26 := Tryz.sizeOf9,
  v26 := Tryz.zeroValue9,
  t28 := Tryz.underlying168,
  a28 := Tryz.isAgg168,
  z28 := Tryz.sizeOf168,
  v28 := Tryz.zeroValue168,
  i26 := by kernel_rfl }


theorem sorts_in (m : Nat) : AnyZ.SortsIn Tryz.prog sorted_lays_ren Fence.wide m :=
  ⟨fun blk off cap ss W hH hblk hsz => callsIn_wide.2 (AnyM.slices_Sort_string sort_lays blk off cap ss W hH hblk hsz),
   fun p cap W => callsIn_wide.2 (AnyM.slices_Sort_string_none sort_lays p cap W)⟩
theorem cellsT_enc (l : List (List UInt8)) : cellsT l = l.map encStr := by
  unfold cellsT
  induction l with
  | nil => rfl
  | cons x l ih => rw [List.flatMap_cons, ih]; rfl
def namesBk (l : List Bk) : List (List UInt8) := l.map Bk.name
theorem namesBk_sorted {l : List Bk} (h : Srt l) : (namesBk l).mergeSort leB = namesBk l := by
  refine List.mergeSort_of_pairwise ?_
  refine List.pairwise_map.2 (h.imp fun {a b} hab => ?_)
  show decide (_ ≤ _) = true
  have h1 : Op.bytesLess a.name b.name = true := by rw [bytesLess_is]; simpa using hab
  rw [bytesLess_eq] at h1
  simp only [decide_eq_true_eq] at h1 ⊢
  exact List.le_of_lt h1
theorem namesBk_nodup {l : List Bk} (h : Srt l) : (namesBk l).Nodup := List.pairwise_map.2 (h.imp fun hab e => by rw [e, show cmpS _ _ = 0 from cmpS_zero.2 rfl] at hab; omega)
theorem plainBk (x : Bk) : plainV (.agg x.arr) := plainV_agg _ (by
  intro v hv
  simp [Bk.arr] at hv
  rcases hv with rfl | rfl | ⟨b, _, rfl⟩ | rfl | ⟨b, _, rfl⟩ | rfl | rfl <;> exact ⟨_, rfl⟩)
theorem zero_bk (w : World) : (zeroValue 60).run Tryz.prog w = .ok (.agg noBk.arr) w := by
  obtain ⟨i0, hi0, hz0, _, _⟩ := infoBk
  simp [zeroValue, typeInfo, hi0, hz0]
/-- what a map of a pool's backends says -/
def byName (l : List Bk) (s : List UInt8) : Option Value := if hasN l s then some (.agg (gotN l s).arr) else none
/-- a row of backends is answered, in memory of the call's own -/
def BksP (w : World) (m : List Bk) (e : Ending) (w' : World) : Prop := ∃ A c, e = .returned (.slice A m.length c) ∧ w'.ownsRow w.heap.size 60 27 (.slice A m.length c) m.length (m.flatMap fun x => (Bk.arr x).toList) ∧ Below w.heap.size w w'
set_option maxRecDepth 100000 in
set_option maxHeartbeats 4000000 in
theorem sorted_any (M : Nat) (m : List Bk) (w : World) (hM : HasV w M m.length (byName m)) (hs : Srt m) (hl : m.length ≤ 10000) (hnm : ∀ x ∈ m, x.name.length ≤ 100000) :
    Calls Tryz.prog 68 #[.map (some M)] w (BksP w m) := by
  have hMl := hM.lt
  obtain ⟨D, hown, hDB, hsz, hpl⟩ := hM
  have PE := Lib.hid (keysV hown hDB (namesBk_nodup hs) (fun s => by
    unfold byName namesBk
    rw [List.mem_map]
    constructor
    · rintro ⟨x, hx, rfl⟩; rw [if_pos (hasN_iff hs |>.2 ⟨x, hx, rfl⟩)]; rfl
    · intro h
      split at h
      · rename_i hh; obtain ⟨x, hx, e⟩ := (hasN_iff hs).1 hh; exact ⟨x, hx, e⟩
      · cases h))
  have NS := Lib.hid (namesBk_sorted hs)
  have hseq : SeqGives Fence.wide 2 Tryz.prog 144 #[.pointer (some ⟨w.heap.size, 0, none⟩)] encStr (fun ss => ss.Perm (strKeys D)) (Maps.size D) (w.alloc (.cells #[.map (some M)] 120)) :=
    AnyZ.keys_gives (ρ := keys_lays_ren) { keys_lays with } Fence.wide _ trivial rfl (by omega) w.heap.size M m.length D _ (by simp) (by simp) (by
      obtain ⟨es, clock, hb, Ft, hs, hD⟩ := hown
      exact ⟨es, clock, (Below.heap_alloc _ _ M hMl).trans hb, Ft, hs, hD⟩)
  have cK : ∀ mb W, CallsIn Fence.wide 5 Tryz.prog 110 #[.map mb] W fun e w' => e = .returned (.func (.func 144) #[] #[.pointer (some ⟨W.heap.size, 0, none⟩)]) ∧ w' = W.alloc (.cells #[.map mb] 120) := fun mb W => AnyZ.keys_in keys_lays Fence.wide 5 trivial rfl mb W
  have cS := AnyZ.sorted_in sorted_lays Fence.wide 5 trivial trivial trivial trivial rfl (by omega) (sorts_in _) (enters_of Tryz.func143 (by kernel_rfl) rfl) 144 #[.pointer (some ⟨w.heap.size, 0, none⟩)] trivial (enters_of Tryz.func144 (by kernel_rfl) rfl) _ _ (show Maps.size D ≤ maxLen by unfold maxLen; omega) (by omega) _ hseq
  change CallsIn _ _ Tryz.prog 109 _ _ _ at cS
  have CK := Lib.hid (fun W => callsIn_wide.1 (cK (some M) W))
  have CS := Lib.hid (callsIn_wide.1 cS)
  have HM0 := Lib.hid (show HasV w M m.length (byName m) from ⟨D, hown, hDB, hsz, hpl⟩)
  have HS := Lib.hid hs
  have HNM := Lib.hid hnm
  clear hown hDB hsz hpl hseq cK cS hs hnm hMl
  go_enter Tryz.func68, Tryz.ntmps68
  go_wp2_with fail
  (with_reducible refine (CK.out _).mono ?_)
  rintro e w1 ⟨rfl, rfl⟩
  go_wp2_with fail
  (with_reducible refine CS.out.mono ?_)
  rintro e w2 ⟨v, ss, rfl, hS, hrow, hnil, hb⟩
  have hperm := hS.trans PE.out.symm
  have hms := mergeSort_of_perm hperm
  have hlen := hperm.length_eq
  have hrow2 : w2.ownsRow (w.alloc (.cells #[.map (some M)] 120)).heap.size 9 1 v ss.length ((ss.mergeSort leB).map encStr) := hrow
  rw [hms, NS.out, hlen, ← cellsT_enc] at hrow2
  have hnl : (namesBk m).length = m.length := by simp [namesBk]
  rw [hnl] at hrow2
  obtain ⟨A2, c2, rfl, _, _⟩ := own_form hrow2
  have R2 := Lib.hid (show RdR txA 1 w2 w2.heap.size A2 m.length (namesBk m) from RdR.of_own hnl hrow2)
  have B2 := Lib.hid (((Below.refl _ w).alloc (Nat.le_refl _) (.cells #[.map (some M)] 120)).trans (hb.mono (by simp)))
  have HM2 := Lib.hid (HM0.out.go B2.out)
  have Z2 := Lib.hid (Rz.nil (f := Bk.arr) (sz := 27) (e := 60) w2)
  obtain ⟨k, hk⟩ : ∃ k, m.length = k := ⟨_, rfl⟩
  have HK := Lib.hid hk
  rw [hk] at R2 hl ⊢
  clear hS hrow hnil hb hperm hms hlen hrow2 hnl hk
  go_wp2_with fail
  go_loopw [3, 10] (fun s3 s10 wr => ∃ (j : Nat) (A' : Option Addr) (m' c' : Nat), j ≤ k ∧ s10 = .int .i64 j ∧ s3 = .slice A' m' c' ∧ Rz Bk.arr 27 60 [] w2 wr (.slice A' m' c') (m.take j)) (fun _ s10 _ => k - (intOf s10).toNat)
  case atStart => exact ⟨0, none, 0, 0, by omega, rfl, rfl, by simpa using Z2.out⟩
  case round =>
    obtain ⟨j, A', m', c', hj, rfl, rfl, h⟩ := hrel
    have HZ := Lib.hid h
    clear h
    by_cases hlt : j < k
    · have hlt2 : (j : Int) < k := by omega
      obtain ⟨b, o, rfl, hbb, hc⟩ := RdR.text (R2.out.go HZ.out.bel) hlt
      have hjm : j < m.length := by rw [HK.out]; exact hlt
      have hmem := getD_mem noBk m j hjm
      have hs := take_snocR noBk m j hjm
      obtain ⟨x, hx⟩ : ∃ x, m.getD j noBk = x := ⟨_, rfl⟩
      have hnx : (namesBk m).getD j [] = x.name := by
        rw [← hx]; unfold namesBk; simp [List.getD_eq_getElem?_getD, hjm]
      rw [hx] at hmem hs
      rw [hnx] at hc
      have hh := (hasN_iff HS.out).2 ⟨x, hmem, rfl⟩
      have hg := gotN_mem HS.out hmem
      have HY := Lib.hid (show (byName m x.name).getD (.agg noBk.arr) = .agg x.arr by unfold byName; rw [if_pos hh, hg]; rfl)
      have HMW := Lib.hid (HM2.out.go HZ.out.bel)
      have HLN := Lib.hid (HNM.out x hmem)
      have HSN := Lib.hid hs
      have HOL := Lib.hid (show (m.take j).length + 1 ≤ 1000000 by rw [List.length_take]; omega)
      have T4 := Lib.hid (HZ.out.alloc (.cells x.arr 60))
      have RO := Lib.hid (RdR.one (f := Bk.arr) x Bk.arr_size wr 60)
      clear hx hnx hmem hs hh hg hjm
      go_wp2_with (first | (at_lookup; refine wpList_lookV Tryz.underlying120 (zero_bk _) (plainBk noBk) rfl _ _ rfl M _ _ rfl HMW.out x.name HLN.out rfl _ HY.out ?_) | (at_builtin; refine wpList_rz rowT_bk rfl (.tmp 14) (.tmp 18) rfl rfl T4.out rfl RO.out HOL.out ?_; intro A5 n5 c5 w5 h5 h6; have T5 := Lib.hid h5; clear h5 h6))
      go_roundw
      case rel => exact ⟨j + 1, A5, n5, c5, by omega, by go_num, rfl, by rw [← HSN.out]; exact T5.out⟩
      case measure => simp [intOf] <;> omega
    · have hge : ¬ (j : Int) < k := by omega
      have HF := Lib.hid (show m.take j = m from List.take_of_length_le (by have := HK.out; omega))
      rw [HF.out] at HZ
      have hm2 := HZ.out.len
      have HM9 := Lib.hid hm2
      clear hm2
      go_wp2
      go_ret
      have hm3 := HM9.out
      subst hm3
      exact ⟨A', c', rfl, own_less HZ.out.own B2.out.size, below2 B2.out HZ.out.bel⟩
end Go.Proofs.YtmpemeemlhmaaaaGreat

namespace Go.Proofs.YtmpemeemlhmaaaaGreat
open Go.RowKit

/-! ### backends by name -/
def insB (l : List Bk) (x : Bk) : List Bk := if hasN l x.name then l.set (lowN l x.name) x else insAt l (lowN l x.name) x
def delB (l : List Bk) (s : List UInt8) : List Bk := if hasN l s then delAt l (lowN l s) else l
theorem srt_insB {l : List Bk} (h : Srt l) (x : Bk) : Srt (insB l x) := by
  unfold insB
  cases hh : hasN l x.name
  · simpa using srt_ins h hh
  · simpa using srt_set h (lowN_lt hh) (nm_low hh).symm
theorem srt_delB {l : List Bk} (h : Srt l) (s : List UInt8) : Srt (delB l s) := by
  unfold delB
  split
  · exact srt_del h _
  · exact h
theorem mem_insB {l : List Bk} (h : Srt l) (x y : Bk) : y ∈ insB l x ↔ y = x ∨ (y ∈ l ∧ y.name ≠ x.name) := by
  unfold insB
  cases hh : hasN l x.name
  · simp only [Bool.false_eq_true, if_false]
    rw [mem_ins]
    constructor
    · rintro (rfl | hy)
      · exact .inl rfl
      · refine .inr ⟨hy, fun e => ?_⟩
        have := (hasN_iff h).2 ⟨y, hy, e⟩
        rw [hh] at this; cases this
    · rintro (rfl | ⟨hy, _⟩)
      · exact .inl rfl
      · exact .inr hy
  · simp only [if_true]
    rw [mem_set h (lowN_lt hh) (nm_low hh).symm, nm_low hh]
theorem mem_delB {l : List Bk} (h : Srt l) (s : List UInt8) (y : Bk) : y ∈ delB l s ↔ y ∈ l ∧ y.name ≠ s := by
  unfold delB
  cases hh : hasN l s
  · simp only [Bool.false_eq_true, if_false]
    constructor
    · intro hy
      refine ⟨hy, fun e => ?_⟩
      have := (hasN_iff h).2 ⟨y, hy, e⟩
      rw [hh] at this; cases this
    · exact fun hy => hy.1
  · simp only [if_true]
    rw [mem_del h (lowN_lt hh), nm_low hh]
theorem len_insB (l : List Bk) (x : Bk) : (insB l x).length = if hasN l x.name then l.length else l.length + 1 := by
  unfold insB
  split
  · exact List.length_set
  · exact insAt_length _ _ _
theorem len_delB (l : List Bk) (s : List UInt8) : (delB l s).length = if hasN l s then l.length - 1 else l.length := by
  unfold delB
  split
  · rename_i h; exact delAt_length _ _ (lowN_lt h)
  · rfl
theorem byName_iff {l : List Bk} (h : Srt l) (s : List UInt8) (v : Value) : byName l s = some v ↔ ∃ x ∈ l, x.name = s ∧ v = .agg x.arr := by
  unfold byName
  constructor
  · intro e
    split at e
    · rename_i hh
      injection e with e
      exact ⟨gotN l s, (gotN_in hh).1, (gotN_in hh).2, e.symm⟩
    · cases e
  · rintro ⟨x, hx, rfl, rfl⟩
    rw [if_pos ((hasN_iff h).2 ⟨x, hx, rfl⟩), gotN_mem h hx]
theorem opt_ext {α : Type} {a b : Option α} (h : ∀ v, a = some v ↔ b = some v) : a = b := by
  cases a with
  | none => cases b with
    | none => rfl
    | some v => have := (h v).2 rfl; cases this
  | some u => exact ((h u).1 rfl).symm
theorem byName_ins {l : List Bk} (h : Srt l) (x : Bk) (t : List UInt8) : byName (insB l x) t = putV (byName l) x.name (.agg x.arr) t := by
  refine opt_ext fun v => ?_
  rw [byName_iff (srt_insB h x)]
  unfold putV
  by_cases ht : t = x.name
  · subst ht
    rw [if_pos rfl]
    constructor
    · rintro ⟨y, hy, hn, rfl⟩
      rcases (mem_insB h x y).1 hy with rfl | ⟨_, hne⟩
      · rfl
      · exact absurd hn hne
    · intro e; injection e with e; exact ⟨x, (mem_insB h x x).2 (.inl rfl), rfl, e.symm⟩
  · rw [if_neg ht, byName_iff h]
    constructor
    · rintro ⟨y, hy, hn, rfl⟩
      rcases (mem_insB h x y).1 hy with rfl | ⟨hm, _⟩
      · exact absurd hn.symm ht
      · exact ⟨y, hm, hn, rfl⟩
    · rintro ⟨y, hy, hn, rfl⟩
      exact ⟨y, (mem_insB h x y).2 (.inr ⟨hy, fun e => ht (hn.symm.trans e)⟩), hn, rfl⟩
theorem byName_del {l : List Bk} (h : Srt l) (s t : List UInt8) : byName (delB l s) t = delV (byName l) s t := by
  refine opt_ext fun v => ?_
  rw [byName_iff (srt_delB h s)]
  unfold delV
  by_cases ht : t = s
  · subst ht
    rw [if_pos rfl]
    constructor
    · rintro ⟨y, hy, hn, rfl⟩
      exact absurd hn ((mem_delB h t y).1 hy).2
    · intro e; cases e
  · rw [if_neg ht, byName_iff h]
    constructor
    · rintro ⟨y, hy, hn, rfl⟩
      exact ⟨y, ((mem_delB h s y).1 hy).1, hn, rfl⟩
    · rintro ⟨y, hy, hn, rfl⟩
      exact ⟨y, (mem_delB h s y).2 ⟨hy, fun e => ht (hn.symm.trans e)⟩, hn, rfl⟩
theorem byName_some (l : List Bk) (s : List UInt8) : (byName l s).isSome = hasN l s := by unfold byName; split <;> simp_all
/-! ### all of them -/
def mergeL (la : List Bk) (gone : List (List UInt8)) (other : List Bk) : List Bk := other.foldl insB (gone.foldl delB (la.foldl insB []))
theorem srt_insL {l : List Bk} (h : Srt l) (m : List Bk) : Srt (m.foldl insB l) := by
  induction m generalizing l with
  | nil => exact h
  | cons x m ih => exact ih (srt_insB h x)
theorem srt_delL {l : List Bk} (h : Srt l) (m : List (List UInt8)) : Srt (m.foldl delB l) := by
  induction m generalizing l with
  | nil => exact h
  | cons x m ih => exact ih (srt_delB h x)
theorem srt_nil : Srt [] := List.Pairwise.nil
theorem mem_delL {l : List Bk} (h : Srt l) (m : List (List UInt8)) (y : Bk) : y ∈ m.foldl delB l ↔ y ∈ l ∧ y.name ∉ m := by
  induction m generalizing l with
  | nil => simp
  | cons s m ih =>
    rw [List.foldl_cons, ih (srt_delB h s), mem_delB h]
    simp only [List.mem_cons, not_or, and_assoc]
theorem mem_insL {l : List Bk} (h : Srt l) (m : List Bk) (hm : m.Pairwise fun a b => a.name ≠ b.name) (y : Bk) : y ∈ m.foldl insB l ↔ y ∈ m ∨ (y ∈ l ∧ y.name ∉ m.map Bk.name) := by
  induction m generalizing l with
  | nil => simp
  | cons x m ih =>
    rw [List.pairwise_cons] at hm
    rw [List.foldl_cons, ih (srt_insB h x) hm.2, mem_insB h]
    simp only [List.mem_cons, List.map_cons, not_or]
    constructor
    · rintro (h1 | ⟨rfl | ⟨h1, h2⟩, h3⟩)
      · exact .inl (.inr h1)
      · exact .inl (.inl rfl)
      · exact .inr ⟨h1, h2, h3⟩
    · rintro ((rfl | h1) | ⟨h1, h2, h3⟩)
      · refine .inr ⟨.inl rfl, fun hh => ?_⟩
        obtain ⟨z, hz, e⟩ := List.mem_map.1 hh
        exact hm.1 z hz e.symm
      · exact .inl h1
      · exact .inr ⟨.inr ⟨h1, h2⟩, h3⟩
theorem srt_ne {l : List Bk} (h : Srt l) : l.Pairwise fun a b => a.name ≠ b.name := h.imp fun hab e => by rw [e, cmpS_self] at hab; omega
theorem srt_ext {l m : List Bk} (hl : Srt l) (hm : Srt m) (h : ∀ y, y ∈ l ↔ y ∈ m) : l = m := by
  have hl' : l.Pairwise fun a b => cmpS a.name b.name < 0 := hl
  have hm' : m.Pairwise fun a b => cmpS a.name b.name < 0 := hm
  refine List.Perm.eq_of_pairwise (fun a b _ _ h1 h2 => ?_) hl' hm' ?_
  · rw [cmpS_swap] at h2; omega
  · refine (List.perm_ext_iff_of_nodup ?_ ?_).2 h
    · exact (srt_ne hl).imp fun hab e => hab (by rw [e])
    · exact (srt_ne hm).imp fun hab e => hab (by rw [e])
theorem srt_merge (la : List Bk) (gone : List (List UInt8)) (other : List Bk) : Srt (mergeL la gone other) := srt_insL (srt_delL (srt_insL srt_nil _) _) _
/-! ### a backend just so -/
theorem right_fine {v : Int} {l : List Bk} (h : pRight v l = true) : ∀ x ∈ l, x.fine := fun x hx => by
  have := right_lay h x hx
  exact ⟨by have := this.1; omega, this.2.2.1⟩
theorem just_eq {x y : Bk} (hx : x.fair = true) (hy : y.fair = true) : eqPool 0 [x] 0 [y] = true ↔ x = y := by
  have fx := fair_lay hx
  have fy := fair_lay hy
  rw [eqPool_is 0 0 (fun z hz => by simp at hz; subst hz; exact ⟨by have := fx.1; omega, fx.2.2.1⟩) (fun z hz => by simp at hz; subst hz; exact ⟨by have := fy.1; omega, fy.2.2.1⟩)]
  constructor
  · intro h
    have : sameOne x y = true := by simpa [twins, twinAt] using h
    unfold sameOne at this
    simp only [Bool.and_eq_true, beq_iff_eq, decide_eq_true_eq] at this
    obtain ⟨⟨⟨⟨⟨h1, h2⟩, h3⟩, h4⟩, h5⟩, h6⟩ := this
    have hw : x.w = y.w := by
      have a := wBig fx.2.2.1 fx.2.2.2
      have b := wBig fy.2.2.1 fy.2.2.2
      rw [← a.1, h6, b.1]
    cases x; cases y
    simp only at h1 h2 h3 h4 h5 hw
    subst h1 h2 h3 h4 h5 hw
    rfl
  · rintro rfl
    exact twins_self 0 [x]
theorem justB_iff {va : Int} {la : List Bk} (ha : pRight va la = true) {x : Bk} (hx : x.fair = true) : justB la x = true ↔ x ∈ la := by
  have IA := pRight_iff.1 ha
  have hs := IA.2.2.2.2
  unfold justB
  rw [Bool.and_eq_true]
  constructor
  · rintro ⟨h1, h2⟩
    have hg := gotN_in h1
    rw [just_eq hx (IA.2.2.2.1 _ hg.1).1] at h2
    rw [h2]; exact hg.1
  · intro h
    refine ⟨(hasN_iff hs).2 ⟨x, h, rfl⟩, ?_⟩
    rw [gotN_mem hs h, just_eq hx hx]
theorem merge_delta {va vb : Int} {la lb : List Bk} (ha : pRight va la = true) (hb : pRight vb lb = true) : mergeL la (goneL la lb) (otherL la lb) = lb := by
  have IA := pRight_iff.1 ha
  have IB := pRight_iff.1 hb
  have hsa := IA.2.2.2.2
  have hsb := IB.2.2.2.2
  refine srt_ext (srt_merge _ _ _) hsb fun y => ?_
  have hpo : (otherL la lb).Pairwise fun a b => a.name ≠ b.name := (srt_ne hsb).sublist List.filter_sublist
  unfold mergeL
  rw [mem_insL (srt_delL (srt_insL srt_nil _) _) _ hpo, mem_delL (srt_insL srt_nil _), mem_insL srt_nil _ (srt_ne hsa)]
  have hoth : ∀ z, z ∈ otherL la lb ↔ z ∈ lb ∧ z ∉ la := by
    intro z
    unfold otherL
    rw [List.mem_filter]
    constructor
    · rintro ⟨h1, h2⟩
      refine ⟨h1, fun h3 => ?_⟩
      rw [(justB_iff ha (IB.2.2.2.1 z h1).1).2 h3] at h2
      cases h2
    · rintro ⟨h1, h2⟩
      refine ⟨h1, ?_⟩
      cases hj : justB la z
      · rfl
      · exact absurd ((justB_iff ha (IB.2.2.2.1 z h1).1).1 hj) h2
  have hgone : ∀ s, s ∈ goneL la lb ↔ (∃ z ∈ la, z.name = s) ∧ ¬ ∃ z ∈ lb, z.name = s := by
    intro s
    unfold goneL
    rw [List.mem_map]
    constructor
    · rintro ⟨z, hz, rfl⟩
      rw [List.mem_filter] at hz
      refine ⟨⟨z, hz.1, rfl⟩, fun h => ?_⟩
      rw [(hasN_iff hsb).2 h] at hz
      simp at hz
    · rintro ⟨⟨z, hz, rfl⟩, h⟩
      refine ⟨z, List.mem_filter.2 ⟨hz, ?_⟩, rfl⟩
      cases hh : hasN lb z.name
      · rfl
      · exact absurd ((hasN_iff hsb).1 hh) h
  rw [hoth, hgone]
  have e0 : (y ∈ ([] : List Bk) ∧ y.name ∉ la.map Bk.name) ↔ False := by simp
  rw [e0, or_false]
  constructor
  · rintro (⟨h, _⟩ | ⟨⟨h1, h2⟩, h3⟩)
    · exact h
    · have hin : ∃ z ∈ lb, z.name = y.name := by
        refine Classical.byContradiction fun hc => h2 ⟨⟨y, h1, rfl⟩, hc⟩
      obtain ⟨z, hz, hzn⟩ := hin
      by_cases hza : z ∈ la
      · rw [srt_name hsa h1 hza hzn.symm]; exact hz
      · exact absurd (List.mem_map.2 ⟨z, (hoth z).2 ⟨hz, hza⟩, hzn⟩) h3
  · intro h
    by_cases hya : y ∈ la
    · refine .inr ⟨⟨hya, fun hc => hc.2 ⟨y, h, rfl⟩⟩, fun hc => ?_⟩
      obtain ⟨z, hz, hzn⟩ := List.mem_map.1 hc
      have hz2 := (hoth z).1 hz
      rw [srt_name hsb hz2.1 h hzn] at hz2
      exact hz2.2 hya
    · exact .inl ⟨h, hya⟩
/-! ### what a delta reads as -/
def applyR (d : List UInt8) : Nat × Option (List (List UInt8)) × Option (List Bk) :=
  let a1 := numO (some d)
  let a2 := numO a1.2
  let a3 := listO nameO 1024 a2.2
  let a4 := listO bkO 1024 a3.2
  (a2.1, a3.1, a4.1)
def applyW (va : Int) (la : List Bk) (d : List UInt8) (v : Nat) (gone : List (List UInt8)) (other : List Bk) : Option (Int × List Bk) :=
  if deltaV va v la (mergeL la gone other) = some d then some (v, mergeL la gone other) else none
def applyV (va : Int) (la : List Bk) (d : List UInt8) : Option (Int × List Bk) :=
  match applyR d with
  | (v, some gone, some other) => applyW va la d v gone other
  | _ => none
/-- a delta's bytes, read as such: with something behind them -/
def readD (d : List UInt8) : Nat × Nat × Option (List (List UInt8)) × Option (List Bk) × RS :=
  let a1 := numO (some d)
  let a2 := numO a1.2
  let a3 := listO nameO 1024 a2.2
  let a4 := listO bkO 1024 a3.2
  (a1.1, a2.1, a3.1, a4.1, a4.2)
theorem applyR_D (d : List UInt8) : applyR d = ((readD d).2.1, (readD d).2.2.1, (readD d).2.2.2.1) := rfl
theorem readD_put {va vb : Int} {la lb : List Bk} (ha : pRight va la = true) (hb : pRight vb lb = true) (t : List UInt8) :
    readD (deltaB va vb la lb ++ t) = (va.toNat, vb.toNat, some (goneL la lb), some (otherL la lb), some t) := by
  have IA := pRight_iff.1 ha
  have IB := pRight_iff.1 hb
  have hg := goneL_len la lb
  have ho := otherL_len la lb
  have e3 := fun t => listO_fwd cdc_name 1024 (by omega) t (goneL la lb) (goneL_small (fun x hx => (right_lay ha x hx).1)) (by have := IA.2.2.1; omega)
  have e4 := listO_fwd cdc_bk 1024 (by omega) t (otherL la lb) (fun x hx => right_lay hb x (otherL_mem hx)) (by have := IB.2.2.1; omega)
  have e0 : deltaB va vb la lb ++ t = varB va.toNat ++ (varB vb.toNat ++ (varB (goneL la lb).length ++ ((goneL la lb).flatMap textB ++ (varB (otherL la lb).length ++ ((otherL la lb).flatMap bkB ++ t))))) := by
    simp [deltaB, bksB, numsB, List.append_assoc]
  have n1 := numO_fwd va.toNat (varB vb.toNat ++ (varB (goneL la lb).length ++ ((goneL la lb).flatMap textB ++ (varB (otherL la lb).length ++ ((otherL la lb).flatMap bkB ++ t))))) (by have := IA.2.1; omega)
  have n2 := numO_fwd vb.toNat (varB (goneL la lb).length ++ ((goneL la lb).flatMap textB ++ (varB (otherL la lb).length ++ ((otherL la lb).flatMap bkB ++ t)))) (by have := IB.2.1; omega)
  unfold readD
  rw [e0, n1]
  simp only [n2, e3, e4]
theorem applyV_iff {va : Int} {la : List Bk} (ha : pRight va la = true) (d : List UInt8) (v : Int) (m : List Bk) : applyV va la d = some (v, m) ↔ pRight v m = true ∧ deltaB va v la m = d := by
  constructor
  · intro h
    unfold applyV at h
    split at h
    · rename_i n gone other hr
      unfold applyW at h
      split at h
      · rename_i hd
        injection h with h
        injection h with h1 h2
        unfold deltaV at hd
        split at hd
        · rename_i hc
          rw [Bool.and_eq_true] at hc
          injection hd with hd
          rw [← h1, ← h2]
          exact ⟨hc.2, hd⟩
        · cases hd
      · cases h
    · cases h
  · rintro ⟨hb, rfl⟩
    have hr := readD_put ha hb []
    rw [List.append_nil] at hr
    have hv : ((v.toNat : Nat) : Int) = v := by have := (pRight_iff.1 hb).1; omega
    unfold applyV
    rw [applyR_D, hr]
    simp only
    unfold applyW
    rw [merge_delta ha hb, hv]
    unfold deltaV
    rw [ha, hb]
    simp
theorem applyV_delta {va vb : Int} {la lb : List Bk} (ha : pRight va la = true) (hb : pRight vb lb = true) : applyV va la (deltaB va vb la lb) = some (vb, lb) := (applyV_iff ha _ _ _).2 ⟨hb, rfl⟩
/-- a delta's first number is the version of the pool that it fits -/
theorem delta_ver {va va' vb vb' : Int} {la la' lb lb' : List Bk} (ha : pRight va la = true) (hb : pRight vb lb = true) (ha' : pRight va' la' = true) (hb' : pRight vb' lb' = true) (h : deltaB va vb la lb = deltaB va' vb' la' lb') : va = va' ∧ vb = vb' := by
  have h1 := readD_put ha hb []
  have h2 := readD_put ha' hb' []
  rw [h, h2] at h1
  injection h1 with e1 e2
  injection e2 with e2 e3
  have := (pRight_iff.1 ha).1
  have := (pRight_iff.1 ha').1
  have := (pRight_iff.1 hb).1
  have := (pRight_iff.1 hb').1
  omega
theorem applyV_other {va va' vb : Int} {la la' lb : List Bk} (ha : pRight va la = true) (hb : pRight vb lb = true) (ha' : pRight va' la' = true) (hne : va ≠ va') : applyV va' la' (deltaB va vb la lb) = none := by
  cases h : applyV va' la' (deltaB va vb la lb) with
  | none => rfl
  | some r =>
    obtain ⟨v, m⟩ := r
    obtain ⟨h1, h2⟩ := (applyV_iff ha' _ _ _).1 h
    exact absurd (delta_ver ha' h1 ha hb h2).1.symm hne
end Go.Proofs.YtmpemeemlhmaaaaGreat
