/- The document's octets: what each call answers. -/
import Derived.Test.YtgcahcjffoehfaaOc
import Derived.Test.YtgcahcjffoehfaaApp
set_option linter.unusedSimpArgs false
set_option linter.unusedVariables false
namespace Go.Proofs.Ytgcahcjffoehfaa
open Go.RowKit

theorem lowPut_succ (n i : Nat) : lowPut n (i + 1) = lowPut n i ++ [lowB n i] := by
  unfold lowPut; rw [List.range_succ, List.map_append]; rfl

set_option maxRecDepth 100000 in
theorem ref_put_big (n k : Nat) (hk : k ≤ 8) (hn : n < 18446744073709551616) (w : World) :
    Calls Try.prog 55 #[.int .u64 n, .int .i64 k, .bool true] w fun e w' => ∃ v, e = .returned v ∧
      w'.ownsRow w.heap.size 5 1 v k ((numPut n k true).map bv) ∧ Below w.heap.size w w' := by
  obtain ⟨i0, hi0, hz0, hz1, hz2⟩ := info_parts infoU8
  go_enter Try.func55, Try.ntmps55
  go_wp2
  go_loopw [0, 7, 8] (fun s0 s7 s8 wr => ∃ (i : Nat) (A : Option Addr) (cap : Nat), i ≤ k ∧ s0 = .int .u64 (n / 2 ^ (8 * i) : Nat) ∧ s7 = .slice A i cap ∧ s8 = .int .i64 i ∧ wr.ownsRow w.heap.size 5 1 (.slice A i cap) i ((lowPut n i).reverse.map bv) ∧ Below w.heap.size w wr) (fun _ _ s8 _ => k - (intOf s8).toNat)
  case atStart => exact ⟨0, none, 0, by omega, by simp, rfl, rfl, World.ownsRow_nil _ _ _ _, Below.refl _ _⟩
  case round =>
    obtain ⟨i, A, cap, hi, rfl, rfl, rfl, hown, hb⟩ := hrel
    by_cases hlt : i < k
    · have hlt2 : (i : Int) < k := by omega
      have hlt3 : (i : Int) < 8 := by omega
      have hlo := lowPut_succ n i
      have hbyte := lowB_int n i
      have hq : n / 2 ^ (8 * i) < 18446744073709551616 := Nat.lt_of_le_of_lt (Nat.div_le_self _ _) hn
      have hn2 : n / 2 ^ (8 * (i + 1)) = n / 2 ^ (8 * i) / 256 := by
        rw [Nat.div_div_eq_div_mul, show 8 * (i + 1) = 8 * i + 8 by omega, Nat.pow_add]
      have hbyte2 : ((lowB n i).toNat : Int) = ((n / 2 ^ (8 * i) : Nat) : Int) % 256 := by rw [hbyte]; simp
      have HN := Lib.hid hn2
      have HLO := Lib.hid hlo
      have HBY := Lib.hid hbyte2
      clear hn2 hlo hbyte hbyte2
      generalize n / 2 ^ (8 * i) = q at hq HN HBY ⊢
      have hrd := Rd.of_own hown
      have HO := Lib.hid hown
      clear hown
      have o1 : (wr.alloc (.cells #[.int .u8 ((q : Int) % 256)] 5)).ownsRow w.heap.size 5 1 (.slice (some ⟨wr.heap.size, 0, none⟩) 1 1) 1 [.int .u8 ((q : Int) % 256)] :=
        World.ownsRow_lit wr #[.int .u8 ((q : Int) % 256)] 1 hb.size (by unfold maxLen; omega) rfl
      have o2 := hrd.alloc (Nat.le_refl _) (.cells #[.int .u8 ((q : Int) % 256)] 5)
      have o3 : w.heap.size ≤ (wr.alloc (.cells #[.int .u8 ((q : Int) % 256)] 5)).heap.size := by have := hb.size; simp; omega
      have O1 := Lib.hid o1
      have O2 := Lib.hid o2
      have O3 := Lib.hid o3
      have HB := Lib.hid hb
      clear o1 o2 o3 hrd hb
      go_wp2_with (at_builtin; refine wpList_app_rd _ rfl (.tmp 26) (.tmp 27) _ rfl w.heap.size 5 i0 (.int .u8 0) 1 1 Try.underlying61 hi0 hz0 hz1 hz2 rfl (Nat.le_refl 1) (.slice (some ⟨wr.heap.size, 0, none⟩) 1 1) 1 [.int .u8 ((q : Int) % 256)] rfl O1.out wr.heap.size A i cap ((lowPut n i).reverse.map bv) rfl O2.out (bvs_one _) (by unfold maxLen; omega) (by omega) O3.out ?_; intro v1 w1 hown1 hg1 hat1)
      go_roundw
      case rel =>
        obtain ⟨A', cap', hv, _, _⟩ := own_form hown1
        refine ⟨i + 1, A', cap', by omega, by rw [HN.out]; go_num, by rw [hv, Nat.add_comm], by go_num, ?_, ?_⟩
        · rw [Nat.add_comm i 1, ← hv, Nat.add_comm 1 i, HLO.out]
          rw [Nat.add_comm 1 i] at hown1
          simpa [bv, HBY.out] using hown1
        · exact gb_below (HB.out.alloc HB.out.size _) hg1 HB.out.size O3.out
      case measure => simp [intOf] <;> omega
    · obtain rfl : i = k := by omega
      have hd : decide ((i : Int) < (i : Int)) = false := by simp
      go_wp2
      go_ret
      exact ⟨_, rfl, hown, hb⟩

end Go.Proofs.Ytgcahcjffoehfaa
