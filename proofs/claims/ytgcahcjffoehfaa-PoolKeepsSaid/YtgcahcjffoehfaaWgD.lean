/- Weights as bytes, and sums: what each call answers. -/
import Derived.Test.YtgcahcjffoehfaaWgC
import Derived.Test.YtgcahcjffoehfaaRo
import Derived.Deep.RegionWith
set_option linter.unusedSimpArgs false
set_option linter.unusedVariables false
namespace Go.Proofs.Ytgcahcjffoehfaa
open Go.RowKit

theorem isNan_eq {x : Nat} (hx : x < 18446744073709551616) : isNan x = ((((x / 4503599627370496 % 2048 : Nat) : Int) == 2047) && (((x % 4503599627370496 : Nat) : Int) != 0)) := by
  have hord : ord x x = Ieee.double.order x x := rfl
  unfold isNan
  rw [hord, Bool.eq_iff_iff]
  by_cases hf : Fl.fin x
  · rw [Fl.ord_fin hf hf]
    have : compare (Fl.SV x) (Fl.SV x) = .eq := Int.compare_eq_eq.2 rfl
    rw [this]
    unfold Fl.fin at hf
    simp
    omega
  · rcases Fl.not_fin hx hf with rfl | rfl | ⟨s, f, h⟩
    · decide +kernel
    · decide +kernel
    · rw [Fl.ord_nan_l h]
      have h1 : x ≠ 9218868437227405312 := by rintro rfl; rw [Fl.read_inf] at h; cases h
      have h2 : x ≠ 18442240474082181120 := by rintro rfl; rw [Fl.read_ninf] at h; cases h
      unfold Fl.fin at hf
      simp
      omega
theorem refNan_any (x : Nat) (hx : x < 18446744073709551616) (w : World) : Calls Try.prog 54 #[.float .f64 x] w fun e w' => e = .returned (.bool (isNan x)) ∧ w = w' := by
  have hn := isNan_eq hx
  obtain ⟨E, hE⟩ : ∃ E : Int, E = ((x / 4503599627370496 % 2048 : Nat) : Int) := ⟨_, rfl⟩
  obtain ⟨M, hM⟩ : ∃ M : Int, M = ((x % 4503599627370496 : Nat) : Int) := ⟨_, rfl⟩
  rw [← hE, ← hM] at hn
  have HN := Lib.hid hn
  have HE := Lib.hid hE
  have HM := Lib.hid hM
  clear hn hE hM
  cases hc : (E == 2047)
  all_goals
    go_enter Try.func54, Try.ntmps54
    go_wp2_with (first | (go_at_call 47; refine (parts_any _ hx _).mono ?_; rintro e w' ⟨rfl, rfl⟩; rw [← HE.out, ← HM.out]))
    go_ret
    refine ⟨?_, rfl⟩
    rw [HN.out, hc]
    simp

theorem wBits_lt {x : Nat} (hx : x < 18446744073709551616) : wBits x < 18446744073709551616 := by unfold wBits; split <;> omega
/-- the bytes of a number -/
def wPut (x : Nat) : List UInt8 := numPut (wBits x) 8 true
theorem wPut_len (x : Nat) : (wPut x).length = 8 := by simp [wPut, numPut, lowPut]

theorem rowIs_lt {w : World} {b : Nat} {t : TypeId} {n : Nat} {f : Nat → Value} (h : w.rowIs b t n f) : b < w.heap.size := h.lt

theorem refPut_any (x : Nat) (hx : x < 18446744073709551616) (w : World) : Calls Try.prog 32 #[.float .f64 x] w fun e w' =>
    ∃ A c, e = .returned (.slice A 8 c) ∧ RdB w' w'.heap.size A 8 (wPut x) ∧ Below w.heap.size w w' := by
  have h1 := call_float64bits x
  cases hn : isNan x
  · have e1 : wBits x = x := by unfold wBits; rw [hn]; rfl
    have HE := Lib.hid e1
    clear e1
    go_enter Try.func32, Try.ntmps32
    go_wp2_with (first | (go_at_call 54; refine (refNan_any _ hx _).mono ?_; rintro e w' ⟨rfl, rfl⟩) | (go_at_call 55; refine (ref_put_big _ 8 (by omega) hx _).mono ?_; rintro e w' ⟨v, rfl, hown, hbl⟩))
    obtain ⟨A, cap, hv, _, _⟩ := own_form hown
    go_ret
    refine ⟨A, cap, by simp [hv], ?_, hbl⟩
    rw [hv] at hown
    have := Rd.of_own hown
    unfold RdB wPut
    rw [HE.out]
    exact this
  · have e1 : wPut x = [127, 248, 0, 0, 0, 0, 0, 0] := by unfold wPut wBits; rw [hn, if_pos rfl]; decide +kernel
    have HE := Lib.hid e1
    clear e1
    go_enter Try.func32, Try.ntmps32
    go_wp2_with (first | (go_at_call 54; refine (refNan_any _ hx _).mono ?_; rintro e w' ⟨rfl, rfl⟩))
    go_ret
    refine ⟨_, _, rfl, ?_, (Below.refl _ _).alloc (Nat.le_refl _) _⟩
    rw [HE.out]
    refine RdB.of_rowIs (c := 0) (l := [127, 248, 0, 0, 0, 0, 0, 0]) (World.rowIs_alloc w _ _ (fun j => bv (([127, 248, 0, 0, 0, 0, 0, 0] : List UInt8).getD j 0)) (fun i hi => ?_)) (by simp) (by simp) (fun j hj => rfl)
    simp at hi
    have : i = 0 ∨ i = 1 ∨ i = 2 ∨ i = 3 ∨ i = 4 ∨ i = 5 ∨ i = 6 ∨ i = 7 := by omega
    rcases this with rfl | rfl | rfl | rfl | rfl | rfl | rfl | rfl <;> rfl

/-- the number of bytes, if they are one's -/
def wGetOk (l : List UInt8) : Bool := decide (l.length = 8) && wBits (bigNum (l.take 8)) == bigNum (l.take 8)
def wGet (l : List UInt8) : Nat := if wGetOk l then bigNum (l.take 8) else 0

/-- bytes' text, in their own world and in whatever world has grown out of it -/
theorem text_later {w : World} {A : Option Addr} {n : Nat} {l : List UInt8} (h : RdB w w.heap.size A n l) (c : Nat) :
    (∀ W, Below w.heap.size w W → (convert 61 9 (.slice A n c)).run Try.prog W = .ok (.string (textOf l)) W) ∧
      (convert 61 9 (.slice A n c)).run Try.prog w = .ok (.string (textOf l)) w :=
  ⟨fun W hW => run_bytes_text (P := Try.prog) (h.below hW) _ _ _ Try.underlying61 Try.underlying5 Try.underlying9 c,
    run_bytes_text (P := Try.prog) h _ _ _ Try.underlying61 Try.underlying5 Try.underlying9 c⟩
theorem text_toList (l : List UInt8) : (textOf l).toList = l := ByteArray.toList_mk l
theorem lowB_ext {n m : Nat} (k : Nat) (h : ∀ i, i < k → lowB n i = lowB m i) : n % 2 ^ (8 * k) = m % 2 ^ (8 * k) := by
  induction k with
  | zero => simp [Nat.mod_one]
  | succ k ih =>
    have h1 := ih (fun i hi => h i (by omega))
    have h2 := congrArg UInt8.toNat (h k (by omega))
    simp only [lowB, UInt8.toNat_ofNat'] at h2
    have e : 2 ^ (8 * (k + 1)) = 2 ^ (8 * k) * 256 := by rw [show 8 * (k + 1) = 8 * k + 8 by omega, Nat.pow_add]
    rw [e, Nat.mod_mul, Nat.mod_mul, h1, h2]
theorem numPut_inj {n m : Nat} (hn : n < 18446744073709551616) (hm : m < 18446744073709551616) (h : numPut n 8 true = numPut m 8 true) : n = m := by
  have h1 : lowPut n 8 = lowPut m 8 := by
    have := congrArg List.reverse h
    simpa [numPut] using this
  have h2 : ∀ i, i < 8 → lowB n i = lowB m i := fun i hi => by
    have := congrArg (fun l : List UInt8 => l[i]?) h1
    simpa [lowPut, hi] using this
  have h3 := lowB_ext 8 h2
  rw [Nat.mod_eq_of_lt (by omega), Nat.mod_eq_of_lt (by omega)] at h3
  exact h3
theorem lowPut_snoc_big (l : List UInt8) : lowPut (bigNum l) l.length = l.reverse := by
  have key : ∀ (k : Nat) (l : List UInt8), l.length = k → lowPut (bigNum l) k = l.reverse := by
    intro k
    induction k with
    | zero => intro l hl; rw [List.eq_nil_of_length_eq_zero hl]; rfl
    | succ k ih =>
      intro l hl
      obtain ⟨r, c, rfl⟩ : ∃ r c, l = r ++ [c] := ⟨l.dropLast, l.getLast (by intro h; simp [h] at hl), (List.dropLast_concat_getLast _).symm⟩
      have hr : r.length = k := by simpa using hl
      have := ih r hr
      rw [bigNum_snoc]
      unfold lowPut at this ⊢
      rw [List.range_succ_eq_map, List.map_cons, List.map_map, List.reverse_append]
      simp only [List.reverse_cons, List.reverse_nil, List.nil_append, List.singleton_append, List.cons.injEq]
      constructor
      · unfold lowB
        apply UInt8.toNat_inj.1
        have := c.toNat_lt
        simp [UInt8.toNat_ofNat']
      · rw [← this]
        refine List.map_congr_left (fun i hi => ?_)
        simp only [Function.comp, lowB]
        have e : (bigNum r * 256 + c.toNat) / 2 ^ (8 * (i + 1)) = bigNum r / 2 ^ (8 * i) := by
          rw [show 8 * (i + 1) = 8 + 8 * i by omega, Nat.pow_add, ← Nat.div_div_eq_div_mul]
          congr 1
          have := c.toNat_lt
          omega
        rw [show Nat.succ i = i + 1 from rfl, e]
  exact key _ l rfl
theorem numPut_bigNum (l : List UInt8) (h : l.length = 8) : numPut (bigNum l) 8 true = l := by
  have := lowPut_snoc_big l
  rw [h] at this
  simp [numPut, this]

theorem refSame_any (x y : Nat) (hx : x < 18446744073709551616) (hy : y < 18446744073709551616) (w : World) : Calls Try.prog 44 #[.float .f64 x, .float .f64 y] w fun e w' =>
    e = .returned (.bool (decide (wPut x = wPut y))) ∧ Below w.heap.size w w' := by
  have ht := text_toList
  go_enter Try.func44, Try.ntmps44
  go_wp2_with fail
  go_region_with (first | (go_at_call 32; refine (refPut_any _ (by assumption) _).mono ?_; rintro e w' ⟨A, c, rfl, hr, hb⟩; obtain ⟨k1, k2⟩ := text_later hr c))
  all_goals go_wp2
  all_goals go_ret
  all_goals exact ⟨by simp [beq_dec, eq_comm, Act.put], below2d (by assumption) hb⟩

end Go.Proofs.Ytgcahcjffoehfaa
