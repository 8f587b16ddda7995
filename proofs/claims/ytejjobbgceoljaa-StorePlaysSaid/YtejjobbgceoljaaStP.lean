/- The program's store: plain laws of one place turned; may, on the store as a whole. -/
import Derived.Test.YtejjobbgceoljaaStO
set_option linter.unusedSimpArgs false
set_option linter.unusedVariables false
namespace Go.Proofs.Ytejjobbgceoljaa
open Go.RowKit

theorem look_split {l : List Pl} {s : List UInt8} {r : Pl} (h : lookP l s = some r) : ∃ l1 l2, l = l1 ++ ([r] ++ l2) ∧ r.x.name = s := by
  obtain ⟨h1, u1, u2, h2, h3⟩ := List.find?_eq_some_iff_append.1 h
  exact ⟨u1, u2, by simpa using h2, by simpa using h1⟩
theorem srtF_app {L1 L2 : List Fi} : SrtF (L1 ++ L2) ↔ SrtF L1 ∧ SrtF L2 ∧ ∀ x ∈ L1, ∀ y ∈ L2, Op.bytesLess x.name y.name = true := List.pairwise_append
theorem srtF_cons {x : Fi} {L : List Fi} : SrtF (x :: L) ↔ (∀ y ∈ L, Op.bytesLess x.name y.name = true) ∧ SrtF L := List.pairwise_cons
theorem bl_ne {a b : List UInt8} (h : Op.bytesLess a b = true) : a ≠ b := by
  rintro rfl
  have := bl_asymm h
  rw [h] at this; cases this
theorem put_mid (x x' : Fi) (hn : x'.name = x.name) (L2 : List Fi) : ∀ L1, SrtF (L1 ++ x :: L2) → putF x' (L1 ++ x :: L2) = L1 ++ x' :: L2
  | [], _ => by
    show putF x' (x :: L2) = _
    unfold putF
    rw [if_pos hn.symm]; rfl
  | y :: L1, h => by
    obtain ⟨h1, h2⟩ := srtF_cons.1 h
    have h3 : Op.bytesLess y.name x.name = true := h1 x (by simp)
    have h4 := bl_ne h3
    show putF x' (y :: (L1 ++ x :: L2)) = _
    unfold putF
    rw [if_neg (by rw [hn]; exact h4), if_neg (by rw [hn, bl_asymm h3]; simp), put_mid x x' hn L2 L1 h2]
    rfl
theorem put_new (x : Fi) : ∀ L, lookF L x.name = none → ∃ L1 L2, L = L1 ++ L2 ∧ putF x L = L1 ++ x :: L2
  | [], _ => ⟨[], [], rfl, rfl⟩
  | y :: L, h => by
    rw [lookF_cons] at h
    by_cases hn : y.name = x.name
    · rw [if_pos hn] at h; cases h
    · rw [if_neg hn] at h
      unfold putF
      rw [if_neg hn]
      by_cases hb : Op.bytesLess x.name y.name = true
      · rw [if_pos hb]; exact ⟨[], y :: L, rfl, rfl⟩
      · rw [if_neg hb]
        obtain ⟨L1, L2, h1, h2⟩ := put_new x L h
        exact ⟨y :: L1, L2, by rw [h1]; rfl, by rw [h2]; rfl⟩
theorem cut_mid {x : Fi} {L1 L2 : List Fi} (h : SrtF (L1 ++ x :: L2)) : cutF x.name (L1 ++ x :: L2) = L1 ++ L2 := by
  obtain ⟨h1, h2, h3⟩ := srtF_app.1 h
  obtain ⟨h4, h5⟩ := srtF_cons.1 h2
  unfold cutF
  rw [List.filter_append, List.filter_cons]
  have e1 : L1.filter (fun y => y.name != x.name) = L1 := List.filter_eq_self.2 (fun y hy => by have := bl_ne (h3 y hy x (by simp)); simpa using this)
  have e2 : L2.filter (fun y => y.name != x.name) = L2 := List.filter_eq_self.2 (fun y hy => by have := bl_ne (h4 y hy); simpa using Ne.symm this)
  rw [e1, e2]
  simp
theorem look_app (l1 l2 : List Pl) (s : List UInt8) : lookP (l1 ++ l2) s = (lookP l1 s).or (lookP l2 s) := by
  unfold lookP; rw [List.find?_append]
theorem look_one (r : Pl) (l : List Pl) (s : List UInt8) : lookP ([r] ++ l) s = if s = r.x.name then some r else lookP l s := by
  unfold lookP
  rw [List.singleton_append, List.find?_cons]
  by_cases h : s = r.x.name
  · have hb : (r.x.name == s) = true := by simp [h]
    rw [if_pos h, hb]
  · have hb : (r.x.name == s) = false := by simpa using fun e : r.x.name = s => h e.symm
    rw [if_neg h, hb]
theorem at_set {l1 l2 : List Pl} {r r' : Pl} (hn : r'.x.name = r.x.name) (hf : r'.fb = r.fb) : atP (l1 ++ ([r'] ++ l2)) = atP (l1 ++ ([r] ++ l2)) := by
  funext t
  unfold atP
  rw [look_app l1 ([r'] ++ l2), look_app l1 ([r] ++ l2), look_one, look_one, hn]
  cases lookP l1 t with
  | some u => rfl
  | none =>
    rw [Option.none_or, Option.none_or]
    split
    · simp [hf]
    · rfl
theorem at_ins {l1 l2 : List Pl} {r : Pl} (h : lookP (l1 ++ l2) r.x.name = none) (t : List UInt8) : atP (l1 ++ ([r] ++ l2)) t = if t = r.x.name then some r.fb else atP (l1 ++ l2) t := by
  unfold atP
  rw [look_app l1 ([r] ++ l2), look_app l1 l2, look_one]
  rw [look_app, Option.or_eq_none_iff] at h
  by_cases ht : t = r.x.name
  · rw [if_pos ht, if_pos ht, ht, h.1]; rfl
  · rw [if_neg ht, if_neg ht]
theorem at_del {l1 l2 : List Pl} {r : Pl} (h1 : lookP l1 r.x.name = none) (h2 : lookP l2 r.x.name = none) (t : List UInt8) : atP (l1 ++ ([] ++ l2)) t = if t = r.x.name then none else atP (l1 ++ ([r] ++ l2)) t := by
  unfold atP
  rw [List.nil_append, look_app l1 l2, look_app l1 ([r] ++ l2), look_one]
  by_cases ht : t = r.x.name
  · rw [if_pos ht, ht, h1, h2]; rfl
  · rw [if_neg ht, if_neg ht]
theorem look_none {l : List Pl} {s : List UInt8} (h : ∀ r ∈ l, r.x.name ≠ s) : lookP l s = none := List.find?_eq_none.2 (fun r hr => by simpa using h r hr)
theorem look_out {l1 l2 : List Pl} {r : Pl} {L : List Fi} (hL : (l1 ++ ([r] ++ l2)).map Pl.x = L) (hS : SrtF L) : lookP l1 r.x.name = none ∧ lookP l2 r.x.name = none := by
  subst hL
  rw [List.map_append] at hS
  obtain ⟨h1, h2, h3⟩ := srtF_app.1 hS
  obtain ⟨h4, h5⟩ := (srtF_cons (x := r.x) (L := l2.map Pl.x)).1 (by simpa using h2)
  refine ⟨look_none fun t ht => ?_, look_none fun t ht => ?_⟩
  · exact bl_ne (h3 t.x (List.mem_map.2 ⟨t, ht, rfl⟩) r.x (by simp))
  · exact fun e => bl_ne (h4 t.x (List.mem_map.2 ⟨t, ht, rfl⟩)) e.symm
theorem PgS.turn {F : List Nat} {w : World} {p : Nat} {q : Int} {L : List Fi} {fu : Int} {dn : Bool} (hS : PgS F w p q L fu dn) : ∃ M, Box w p (stC q (sumF L) M fu dn) ∧
    ∀ w' fu' dn', (-1 ≤ fu' ∧ fu' ≤ 9223372036854775807) → Box w' p (stC q (sumF L) M fu' dn') → w.grownBy w' (some p) → PgS F w' p q L fu' dn' ∧ Frm F w w' := by
  obtain ⟨M, l, h1, h2, h3, h4, h5, h6, h7, h8⟩ := hS
  refine ⟨M, h4, fun w' fu' dn' hf hB hg => ?_⟩
  subst h2
  have hlt : ∀ g ∈ M :: feet l, w'.heap[g]? = w.heap[g]? := fun g hg' => by
    refine hg.block g ?_ (fun e => ?_)
    · rcases List.mem_cons.1 hg' with rfl | hm
      · exact h5.lt
      · obtain ⟨r, hr, hm⟩ := List.mem_flatMap.1 hm
        exact (h6 r hr).lt g hm
    · injection e with e
      subst e
      exact (List.nodup_cons.1 h3).1 hg'
  exact ⟨⟨M, l, h1, rfl, h3, hB, h5.agree (hlt M (by simp)), fun r hr => (h6 r hr).agree fun g hg' => hlt g (List.mem_cons_of_mem _ (List.mem_flatMap.2 ⟨r, hr, hg'⟩)), h7, hf⟩,
    Frm.of_grown hg (fun k hk => .inl (by injection hk with hk; simp [hk]))⟩
theorem ends_fu {why fu : Int} {dn : Bool} (hf : -1 ≤ fu ∧ fu ≤ 9223372036854775807) : -1 ≤ (endsF why fu dn).2.1 ∧ (endsF why fu dn).2.1 ≤ 9223372036854775807 := by
  unfold endsF
  split
  · exact hf
  · split
    · exact hf
    · split
      · exact ⟨by decide, by decide⟩
      · exact burn_bd hf
def MayP (F : List Nat) (w : World) (p : Nat) (q : Int) (L : List Fi) (fu : Int) (dn : Bool) (v : Value) (e : Ending) (w' : World) : Prop :=
  e = .returned v ∧ PgS F w' p q L fu dn ∧ Frm F w w'
theorem MayP.pg {F : List Nat} {w w' : World} {p : Nat} {q : Int} {L : List Fi} {fu : Int} {dn : Bool} {v : Value} {e : Ending} (h : MayP F w p q L fu dn v e w') : PgP F w p q L fu dn v e w' :=
  ⟨h.1, F, h.2.1, h.2.2, fun b hb => .inl hb⟩
theorem may_pg (F : List Nat) (p : Nat) (q fu why : Int) (dn : Bool) (L : List Fi) (w : World) (hS : PgS F w p q L fu dn) (r : Int × Int × Bool) (hr : endsF why fu dn = r) :
    Calls Try.prog 40 #[.pointer (some ⟨p, 0, none⟩), .int .i64 why] w (MayP F w p q L r.2.1 r.2.2 (.int .i64 r.1)) := by
  have hfu := hS.fuse
  obtain ⟨M, hB, hK⟩ := hS.turn
  refine (may_any p q (sumF L) fu why M dn w hB hfu r hr).mono ?_
  rintro e w' ⟨rfl, hB', hg, _⟩
  have hb := ends_fu (why := why) (dn := dn) hfu
  rw [hr] at hb
  exact ⟨rfl, hK w' _ _ hb hB' hg⟩
end Go.Proofs.Ytejjobbgceoljaa
