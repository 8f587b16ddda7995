/- The program's store: List. -/
import Derived.Test.YtejjobbgceoljaaStT
import Derived.Shelf.SlIter.Sorted
import Derived.Shelf.SortM.Plain
import Derived.Shelf.SortM.SortNone
import Derived.TacticsInMore
set_option linter.unusedSimpArgs false
set_option linter.unusedVariables false
namespace Go.Proofs.Ytejjobbgceoljaa
open Go.RowKit Go.Sort Go.Shelf

def sort_lays_ren : Go.Shelf.Ren := ⟨fun | 6 => 46 | 8 => 51 | 9 => 50 | 19 => 61 | 20 => 62 | 21 => 52 | 22 => 53 | 23 => 54 | 24 => 55 | 25 => 56 | 26 => 57 | 27 => 58 | 28 => 59 | 29 => 60 | 36 => 63 | 31 => 64 | 32 => 65 | 37 => 66 | 38 => 67 | 39 => 68 | 41 => 69 | n => n, fun | 27 => 48 | 29 => 9 | 3 => 3 | 32 => 88 | 26 => 48 | 0 => 0 | 44 => 98 | 46 => 100 | 4 => 4 | 36 => 91 | 35 => 90 | 41 => 42 | 5 => 5 | 9 => 9 | 53 => 101 | 57 => 105 | 63 => 107 | 64 => 108 | n => n, fun | n => n⟩
theorem sort_lays : Go.Proofs.SlLaysM.n6 Try.prog sort_lays_ren := {
  mixed := by kernel_rfl,
  f6 := ⟨Try.f46.name, by decide, Try.func46.trans (congrArg some (by kernel_rfl))⟩,
  f8 := Try.func51.trans (congrArg some (by kernel_rfl)),
  f9 := ⟨Try.f50.name, by decide, Try.func50.trans (congrArg some (by kernel_rfl))⟩,
  f19 := Try.func61.trans (congrArg some (by kernel_rfl)),
  f20 := Try.func62.trans (congrArg some (by kernel_rfl)),
  f21 := ⟨Try.f52.name, by decide, Try.func52.trans (congrArg some (by kernel_rfl))⟩,
  f22 := ⟨Try.f53.name, by decide, Try.func53.trans (congrArg some (by kernel_rfl))⟩,
  f23 := ⟨Try.f54.name, by decide, Try.func54.trans (congrArg some (by kernel_rfl))⟩,
  f24 := ⟨Try.f55.name, by decide, Try.func55.trans (congrArg some (by kernel_rfl))⟩,
  f25 := ⟨Try.f56.name, by decide, Try.func56.trans (congrArg some (by kernel_rfl))⟩,
  f26 := ⟨Try.f57.name, by decide, Try.func57.trans (congrArg some (by kernel_rfl))⟩,
  f27 := ⟨Try.f58.name, by decide, Try.func58.trans (congrArg some (by kernel_rfl))⟩,
  f28 := ⟨Try.f59.name, by decide, Try.func59.trans (congrArg some (by kernel_rfl))⟩,
  f29 := ⟨Try.f60.name, by decide, Try.func60.trans (congrArg some (by kernel_rfl))⟩,
  f31 := Try.func64.trans (congrArg some (by kernel_rfl)),
  f32 := Try.func65.trans (congrArg some (by kernel_rfl)),
  f36 := ⟨Try.f63.name, by decide, Try.func63.trans (congrArg some (by kernel_rfl))⟩,
  f37 := ⟨Try.f66.name, by decide, Try.func66.trans (congrArg some (by kernel_rfl))⟩,
  f38 := ⟨Try.f67.name, by decide, Try.func67.trans (congrArg some (by kernel_rfl))⟩,
  f39 := ⟨Try.f68.name, by decide, Try.func68.trans (congrArg some (by kernel_rfl))⟩,
  f41 := ⟨Try.f69.name, by decide, Try.func69.trans (congrArg some (by kernel_rfl))⟩,
  t0 := Try.underlying0,
  a0 := Try.isAgg0,
  z0 := Try.sizeOf0,
  v0 := Try.zeroValue0,
  t3 := Try.underlying3,
  a3 := Try.isAgg3,
  z3 := Try.sizeOf3,
  v3 := Try.zeroValue3,
  t4 := Try.underlying4,
  a4 := Try.isAgg4,
  z4 := Try.sizeOf4,
  v4 := Try.zeroValue4,
  t5 := Try.underlying5,
  a5 := Try.isAgg5,
  z5 := Try.sizeOf5,
  v5 := Try.zeroValue5,
  t9 := Try.underlying9,
  a9 := Try.isAgg9,
  z9 := Try.sizeOf9,
  v9 := Try.zeroValue9,
  t26 := Try.underlying48,
  a26 := Try.isAgg48,
  z26 := Try.sizeOf48,
  v26 := Try.zeroValue48,
  t27 := Try.underlying48,
  a27 := Try.isAgg48,
  z27 := Try.sizeOf48,
  v27 := Try.zeroValue48,
  t29 := Try.underlying9,
  a29 := Try.isAgg9,
  z29 := Try.sizeOf9,
  v29 := Try.zeroValue9,
  t32 := Try.underlying88,
  a32 := Try.isAgg88,
  z32 := Try.sizeOf88,
  v32 := Try.zeroValue88,
  t35 := Try.underlying90,
  a35 := Try.isAgg90,
  z35 := Try.sizeOf90,
  v35 := Try.zeroValue90,
  t36 := Try.underlying91,
  a36 := Try.isAgg91,
  z36 := Try.sizeOf91,
  v36 := Try.zeroValue91,
  t41 := Try.underlying42,
  a41 := Try.isAgg42,
  z41 := Try.sizeOf42,
  v41 := Try.zeroValue42,
  t44 := Try.underlying98,
  a44 := Try.isAgg98,
  z44 := Try.sizeOf98,
  v44 := Try.zeroValue98,
  t46 := Try.underlying100,
  a46 := Try.isAgg100,
  z46 := Try.sizeOf100,
  v46 := Try.zeroValue100,
  t53 := Try.underlying101,
  a53 := Try.isAgg101,
  z53 := Try.sizeOf101,
  v53 := Try.zeroValue101,
  t57 := Try.underlying105,
  a57 := Try.isAgg105,
  z57 := Try.sizeOf105,
  v57 := Try.zeroValue105,
  t63 := Try.underlying107,
  a63 := Try.isAgg107,
  z63 := Try.sizeOf107,
  v63 := Try.zeroValue107,
  t64 := Try.underlying108,
  a64 := Try.isAgg108,
  z64 := Try.sizeOf108,
  v64 := Try.zeroValue108 }

def keys_lays_ren : Go.Shelf.Ren := ⟨fun | 7 => 38 | 10 => 47 | n => n, fun | 23 => 60 | 26 => 9 | 3 => 73 | 28 => 77 | 0 => 0 | 27 => 76 | 33 => 79 | 4 => 4 | n => n, fun | n => n⟩
theorem keys_lays : Go.Proofs.SlLaysZ.n7 Try.prog keys_lays_ren := {
  mixed := by kernel_rfl,
  f7 := ⟨Try.f38.name, by decide, Try.func38.trans (congrArg some (by kernel_rfl))⟩,
  f10 := ⟨Try.f47.name, by decide, Try.func47.trans (congrArg some (by kernel_rfl))⟩,
  t0 := Try.underlying0,
  a0 := Try.isAgg0,
  z0 := Try.sizeOf0,
  v0 := Try.zeroValue0,
  t4 := Try.underlying4,
  a4 := Try.isAgg4,
  z4 := Try.sizeOf4,
  v4 := Try.zeroValue4,
  t23 := Try.underlying60,
  a23 := Try.isAgg60,
  z23 := Try.sizeOf60,
  v23 := Try.zeroValue60,
  t26 := Try.underlying9,
  a26 := Try.isAgg9,
  z26 := Try.sizeOf9,
  v26 := Try.zeroValue9,
  t27 := Try.underlying76,
  a27 := Try.isAgg76,
  z27 := Try.sizeOf76,
  v27 := Try.zeroValue76,
  t28 := Try.underlying77,
  a28 := Try.isAgg77,
  z28 := Try.sizeOf77,
  v28 := Try.zeroValue77,
  t33 := Try.underlying79,
  a33 := Try.isAgg79,
  z33 := Try.sizeOf79,
  v33 := Try.zeroValue79 }
def sorted_lays_ren : Go.Shelf.Ren := ⟨fun | 6 => 37 | 8 => 45 | 9 => 46 | 11 => 49 | 13 => 51 | 12 => 50 | 23 => 61 | 24 => 62 | 14 => 52 | 15 => 53 | 16 => 54 | 17 => 55 | 18 => 56 | 19 => 57 | 20 => 58 | 21 => 59 | 22 => 60 | 25 => 63 | 26 => 64 | 27 => 65 | 28 => 66 | 29 => 67 | 30 => 68 | 31 => 69 | n => n, fun | 26 => 9 | 28 => 77 | 24 => 48 | 0 => 0 | 3 => 3 | 37 => 88 | 48 => 98 | 50 => 100 | 4 => 4 | 40 => 91 | 39 => 90 | 45 => 42 | 5 => 5 | 9 => 9 | 51 => 101 | 55 => 105 | 57 => 107 | 58 => 108 | 33 => 79 | n => n, fun | n => n⟩
theorem sorted_lays : Go.Proofs.SlLaysZ.n6 Try.prog sorted_lays_ren := {
  mixed := by kernel_rfl,
  f6 := ⟨Try.f37.name, by decide, Try.func37.trans (congrArg some (by kernel_rfl))⟩,
  f8 := ⟨Try.f45.name, by decide, Try.func45.trans (congrArg some (by kernel_rfl))⟩,
  f11 := ⟨Try.f49.name, by decide, Try.func49.trans (congrArg some (by kernel_rfl))⟩,
  t0 := Try.underlying0,
  a0 := Try.isAgg0,
  z0 := Try.sizeOf0,
  v0 := Try.zeroValue0,
  t24 := Try.underlying48,
  a24 := Try.isAgg48,
  z24 := Try.sizeOf48,
  v24 := Try.zeroValue48,
  t26 := Try.underlying9,
  a26 := Try.isAgg9,
  z26 := Try.sizeOf9,
  v26 := Try.zeroValue9,
  t28 := Try.underlying77,
  a28 := Try.isAgg77,
  z28 := Try.sizeOf77,
  v28 := Try.zeroValue77,
  i26 := by kernel_rfl }

theorem sorts_in (m : Nat) : AnyZ.SortsIn Try.prog sorted_lays_ren Fence.wide m :=
  ⟨fun blk off cap ss W hH hblk hsz => callsIn_wide.2 (AnyM.slices_Sort_string sort_lays blk off cap ss W hH hblk hsz),
   fun p cap W => callsIn_wide.2 (AnyM.slices_Sort_string_none sort_lays p cap W)⟩
theorem cellsT_enc (l : List (List UInt8)) : cellsT l = l.map encStr := by
  unfold cellsT
  induction l with
  | nil => rfl
  | cons x l ih => rw [List.flatMap_cons, ih]; rfl
theorem le_bl (x y : List UInt8) : decide (x ≤ y) = !Op.bytesLess y x := by
  rw [bytesLess_eq, Bool.eq_iff_iff]
  simp
def namesF (L : List Fi) : List (List UInt8) := L.map Fi.name
theorem names_sorted {L : List Fi} (h : SrtF L) : (namesF L).mergeSort leB = namesF L := by
  refine List.mergeSort_of_pairwise ?_
  refine List.pairwise_map.2 (h.imp fun {a b} hab => ?_)
  show decide (_ ≤ _) = true
  rw [le_bl, bl_asymm hab]; rfl
theorem names_nodup {L : List Fi} (h : SrtF L) : (namesF L).Nodup := List.pairwise_map.2 (h.imp fun hab => bl_ne hab)
theorem mem_names (L : List Fi) (s : List UInt8) : s ∈ namesF L ↔ (lookF L s).isSome = true := by
  unfold namesF lookF
  rw [List.mem_map, List.find?_isSome]
  constructor
  · rintro ⟨x, hx, rfl⟩; exact ⟨x, hx, by simp⟩
  · rintro ⟨x, hx, h⟩; exact ⟨x, hx, by simpa using h⟩
theorem keys_names {W : World} {M n : Nat} {f : List UInt8 → Option Nat} {D : DataW Unit} (hown : W.ownsMap Try.prog 9 blkElem M n D) (hD : MapB D f) {names : List (List UInt8)} (hnd : names.Nodup) (hm : ∀ s, s ∈ names ↔ (f s).isSome = true) : names.Perm (strKeys D) := by
  obtain ⟨es, h1, hpw, _⟩ := hown.entries keyedS
  obtain ⟨es', h2, hko⟩ := hown.keysOf
  obtain rfl : es = es' := by rw [h1] at h2; simpa using h2
  subst h1
  exact perm_strKeys hpw (fun p hp => by obtain ⟨v, hv⟩ := hko p hp; obtain ⟨x, _, hx, _⟩ := Maps.keyOf_str Try.underlying9 hv; exact ⟨x, hx⟩) hnd (fun x => by rw [hm x, (hD.2 x).1])
/-- so many texts are answered, in memory of the call's own -/
def TxN (w : World) (m : List (List UInt8)) (e : Ending) (w' : World) : Prop :=
  ∃ A c, e = .returned (.slice A m.length c) ∧ w'.ownsRow w.heap.size 9 1 (.slice A m.length c) m.length (cellsT m) ∧ Below w.heap.size w w'
set_option maxHeartbeats 1000000 in
theorem list_x (F : List Nat) (M : Nat) (l : List Pl) (p : Nat) (q sz fu : Int) (dn : Bool) (L : List Fi) (w : World) (hX : PgX F M l w p q L sz fu dn) (hL : L.length ≤ 10000) : Calls Try.prog 22 #[.pointer (some ⟨p, 0, none⟩)] w (TxN w (namesF L)) := by
  refine (callsIn_wide (n := 6)).1 ?_
  obtain ⟨f1, f2, f3, f4⟩ := hX.2.2.2.1.facts
  have hll : l.length = L.length := by rw [← hX.1, List.length_map]
  have hMl := hX.fst.2
  obtain ⟨D, hown, hDB, hsz⟩ := hX.2.2.2.2.1
  have hG := hX.2.2.2.2.2.2.1
  have PE := Lib.hid (keys_names hown hDB (names_nodup hG.1) (fun s => by
    rw [mem_names, ← hX.1, look_map]
    unfold atP
    cases lookP l s <;> rfl))
  have NS := Lib.hid (names_sorted hG.1)
  have hseq : SeqGives Fence.wide 2 Try.prog 47 #[.pointer (some ⟨w.heap.size, 0, none⟩)] encStr (fun ss => ss.Perm (strKeys D)) (Maps.size D) (w.alloc (.cells #[.map (some M)] 60)) :=
    AnyZ.keys_gives (ρ := keys_lays_ren) { keys_lays with } Fence.wide _ trivial rfl (by omega) w.heap.size M l.length D _ (by simp) (by simp) (by
      obtain ⟨es, clock, hb, Ft, hs, hD⟩ := hown
      exact ⟨es, clock, (Below.heap_alloc _ _ M hMl).trans hb, Ft, hs, hD⟩)
  have cK : ∀ mb W, CallsIn Fence.wide 5 Try.prog 38 #[.map mb] W fun e w' => e = .returned (.func (.func 47) #[] #[.pointer (some ⟨W.heap.size, 0, none⟩)]) ∧ w' = W.alloc (.cells #[.map mb] 60) := fun mb W => AnyZ.keys_in keys_lays Fence.wide 5 trivial rfl mb W
  have cS := AnyZ.sorted_in sorted_lays Fence.wide 5 trivial trivial trivial trivial rfl (by omega) (sorts_in _) (enters_of Try.func46 (by kernel_rfl) rfl) 47 #[.pointer (some ⟨w.heap.size, 0, none⟩)] trivial (enters_of Try.func47 (by kernel_rfl) rfl) _ _ (show Maps.size D ≤ maxLen by unfold maxLen; omega) (by omega) _ hseq
  change CallsIn _ _ Try.prog 37 _ _ _ at cS
  have hfK : Fence.wide.fn 38 := trivial
  have hfS : Fence.wide.fn 37 := trivial
  clear hX hown hDB hsz hG hll hseq
  refine callsIn_of_wp Try.func22 rfl trivial ?_ rfl
  simp only [Try.ntmps22, List.size_toArray, List.length_cons, List.length_nil, Nat.reduceAdd, Nat.reduceSub, Array.replicate_succ, Array.replicate_zero, List.push_toArray, List.append_toArray, List.nil_append, List.cons_append]
  gi_wp2_with (first
    | (gi_at_call 38; refine (cK _ _).mono ?_; rintro e w' ⟨rfl, rfl⟩)
    | (gi_at_call 37; refine cS.mono ?_; rintro e w' ⟨v, ss, rfl, hS, hrow, hnil, hb⟩; have HS := Lib.hid hS; have HROW := Lib.hid hrow; have HB := Lib.hid hb; clear hS hrow hnil hb))
  go_ret
  have hperm := HS.out.trans PE.out.symm
  have hms := mergeSort_of_perm hperm
  have hlen := hperm.length_eq
  have hrow : w'.ownsRow (w.alloc (.cells #[.map (some M)] 60)).heap.size 9 1 v ss.length ((ss.mergeSort leB).map encStr) := HROW.out
  rw [hms, NS.out, hlen, ← cellsT_enc] at hrow
  obtain ⟨A', c', rfl, _, _⟩ := own_form hrow
  exact ⟨A', c', rfl, ownsRow_base_a hrow (by simp), ((Below.refl _ w).alloc (Nat.le_refl _) _).trans (HB.out.mono (by simp))⟩
theorem list_any (F : List Nat) (p : Nat) (q fu : Int) (dn : Bool) (L : List Fi) (w : World) (hS : PgS F w p q L fu dn) (hL : L.length ≤ 10000) : Calls Try.prog 22 #[.pointer (some ⟨p, 0, none⟩)] w (TxN w (namesF L)) := by
  obtain ⟨M, l, hX⟩ := hS.open_
  exact list_x F M l p q _ fu dn L w hX hL
end Go.Proofs.Ytejjobbgceoljaa
