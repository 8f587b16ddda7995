/- Numbers in as few bytes as they need: the program's way and the document's. -/
import Derived.Test.YtmpemeemlhmaaaaGreatRows
import Derived.Test.YtmpemeemlhmaaaaGreatQ2
import Derived.Test.YtmpemeemlhmaaaaGreatQ3
import Derived.Test.YtmpemeemlhmaaaaGreatQ4
set_option linter.unusedSimpArgs false
set_option linter.unusedVariables false
set_option maxRecDepth 100000
namespace Go.Proofs.YtmpemeemlhmaaaaGreat
open Go.RowKit

theorem bitLenAux_le (f x : Nat) : Lib.bitLenAux f x ≤ f := by
  induction f generalizing x with
  | zero => simp [Lib.bitLenAux]
  | succ f ih =>
    unfold Lib.bitLenAux
    split
    · omega
    · have := ih (x / 2); omega
theorem bitLen_le (n : Nat) : Lib.bitLen n ≤ 64 := bitLenAux_le 64 n
set_option maxRecDepth 100000 in
theorem varSize_any (n : Nat) (hn : n < 18446744073709551616) (w : World) :
    Calls Tryz.prog 119 #[.int .u64 n] w fun e w' => (∃ k : Nat, e = .returned (.int .i64 k) ∧ k ≤ 10) ∧ w = w' := by
  have BL := Lib.hid (bits_Len64 n w (by omega) (by omega))
  have h64 := bitLen_le n
  rw [show (n : Int).toNat = n from rfl] at BL
  obtain ⟨b, hb⟩ : ∃ b, Lib.bitLen n = b := ⟨_, rfl⟩
  rw [hb] at BL h64
  clear hb
  go_enter Tryz.func119, Tryz.ntmps119
  go_wp2_with fail
  refine BL.out.mono ?_
  rintro e w1 ⟨rfl, rfl⟩
  by_cases h0 : b = 0
  · subst h0
    go_wp2
    go_ret
    exact ⟨⟨1, rfl, by omega⟩, rfl⟩
  · obtain ⟨k, hk⟩ : ∃ k : Nat, ((b : Int) + 7 - 1).tdiv 7 = k ∧ 1 ≤ k ∧ k ≤ 10 := ⟨(b + 6) / 7, by rw [Int.tdiv_eq_ediv_of_nonneg (by omega)]; omega, by omega, by omega⟩
    obtain ⟨hk, hk1, hk2⟩ := hk
    have hk3 : ((b : Int) + 6).tdiv 7 = k := by rw [← hk]; congr 1; omega
    have hk4 : ((b : Int) + 6) / 7 = k := by rw [← hk3, Int.tdiv_eq_ediv_of_nonneg (by omega)]
    go_wp2
    go_ret
    exact ⟨⟨k, by rw [show max (1 : Int) k = k by omega]; rfl, by omega⟩, rfl⟩
theorem var_lt {m i : Nat} (h : m * 128 ^ i < 18446744073709551616) (hm : ¬ m < 128) : i < 9 := by
  rcases Nat.lt_or_ge i 9 with h9 | h9
  · exact h9
  · exfalso
    have h1 : 128 ^ 9 ≤ 128 ^ i := Nat.pow_le_pow_right (by omega) h9
    have h2 : 128 * 128 ^ i ≤ m * 128 ^ i := Nat.mul_le_mul_right _ (by omega)
    have h3 : (128 : Nat) ^ 9 = 9223372036854775808 := by decide
    omega
theorem var_next {m i : Nat} (h : m * 128 ^ i < 18446744073709551616) : m / 128 * 128 ^ (i + 1) < 18446744073709551616 := by
  have h3 : 128 ^ (i + 1) = 128 * 128 ^ i := by rw [Nat.pow_succ, Nat.mul_comm]
  have h5 : m / 128 * 128 ^ (i + 1) = (m / 128 * 128) * 128 ^ i := by rw [h3, Nat.mul_assoc]
  have h6 : (m / 128 * 128) * 128 ^ i ≤ m * 128 ^ i := Nat.mul_le_mul_right _ (by omega)
  omega
theorem or_more (c : Nat) (h : c < 256) : bits .or .u8 (c : Int) 128 = ((c % 128 + 128 : Nat) : Int) := by
  have := (by decide +kernel : ∀ c : Fin 256, bits .or .u8 ((c.val : Nat) : Int) 128 = ((c.val % 128 + 128 : Nat) : Int)) ⟨c, h⟩
  exact this
theorem andnot_more (c : Nat) (h : c < 256) : bits .andNot .u8 (c : Int) 128 = ((c % 128 : Nat) : Int) := by
  have := (by decide +kernel : ∀ c : Fin 256, bits .andNot .u8 ((c.val : Nat) : Int) 128 = ((c.val % 128 : Nat) : Int)) ⟨c, h⟩
  exact this
set_option maxRecDepth 100000 in
set_option maxHeartbeats 2000000 in
theorem varPut_any (n : Nat) (hn : n < 18446744073709551616) (w : World) :
    Calls Tryz.prog 82 #[.int .u64 n] w fun e w' => ∃ v, e = .returned v ∧ w'.ownsRow w.heap.size 5 1 v (varB n).length ((varB n).map bv) ∧ Below w.heap.size w w' := by
  obtain ⟨i0, hi0, hz0, hz1, hz2⟩ := info_parts infoU8
  go_enter Tryz.func82, Tryz.ntmps82
  go_wp2_with fail
  refine (varSize_any n hn w).mono ?_
  rintro e w1 ⟨⟨k, rfl, hk⟩, rfl⟩
  have hmk := run_make (P := Tryz.prog) w 32 5 i0 (.int .u8 0) Tryz.underlying32 hi0 hz0 .i64 .i64 0 k (by omega) (by omega) (by rw [hz2]; omega) (by omega)
  rw [show ((k : Nat) : Int).toNat = k from rfl, hz1, Nat.mul_one, show (0 : Int).toNat = 0 from rfl] at hmk
  have o1 := Lib.hid (World.ownsRow_made w (madeCells (Value.int .u8 0).cells k) k (base := w.heap.size) (e := 5) (size := 1) (Nat.le_refl _) (by unfold maxLen; omega) (by simp [madeCells]))
  go_wp2
  clear hmk
  go_loopw [0, 3] (fun s0 s3 wr => ∃ (i m : Nat) (pre : List UInt8) (A : Option Addr) (c : Nat), i ≤ 9 ∧ s0 = .int .u64 m ∧ s3 = .slice A i c ∧ wr.ownsRow w.heap.size 5 1 (.slice A i c) i (pre.map bv) ∧ pre.length = i ∧ pre ++ varF (9 - i) m = varB n ∧ m * 128 ^ i < 18446744073709551616 ∧ Below w.heap.size w wr) (fun s0 _ _ => (intOf s0).toNat)
  case atStart => exact ⟨0, n, [], _, _, by omega, rfl, rfl, o1.out, rfl, rfl, by simpa using hn, (Below.refl _ _).alloc (Nat.le_refl _) _⟩
  case round =>
    obtain ⟨i, m, pre, A, c, hi, rfl, rfl, hown, hpre, hsum, hmi, hb⟩ := hrel
    have HO := Lib.hid hown
    have HB := Lib.hid hb
    have HPRE := Lib.hid hpre
    have HSUM := Lib.hid hsum
    have HMI := Lib.hid hmi
    have hm64 : m < 18446744073709551616 := Nat.lt_of_le_of_lt (Nat.le_mul_of_pos_right _ (pow128_pos i)) hmi
    by_cases h128 : m < 128
    · have h2 : ¬ (128 : Int) ≤ m := by omega
      have hfin : varB n = pre ++ [UInt8.ofNat m] := by rw [← hsum, varF_small _ _ h128]
      have HF := Lib.hid hfin
      clear hown hb hpre hsum hmi hfin
      have o1 := (HO.out.alloc (.cells #[.int .u8 (m : Int)] 5))
      have r1 := Rd.fresh wr #[.int .u8 (m : Int)] 5 1 1 rfl
      have b1 := HB.out.alloc HB.out.size (.cells #[.int .u8 (m : Int)] 5)
      have O1 := Lib.hid o1
      have R1 := Lib.hid r1
      have B1 := Lib.hid b1
      clear o1 r1 b1
      go_wp2_with (at_builtin; refine wpList_app_rd _ rfl (.tmp 17) (.tmp 20) _ rfl w.heap.size 5 i0 (.int .u8 0) 1 1 Tryz.underlying32 hi0 hz0 hz1 hz2 rfl (Nat.le_refl 1) (.slice A i c) (i) (pre.map bv) rfl O1.out (wr.heap.size + 1) (some ⟨wr.heap.size, 0, none⟩) (1) (1) ([.int .u8 (m : Int)]) rfl R1.out (by intro u hu; obtain rfl := List.mem_singleton.1 hu; rfl) (by unfold maxLen; omega) (by omega) B1.out.size ?_; intro v1 w1 hown1 hg1 hor1)
      go_ret
      have e1 : [Value.int .u8 (m : Int)] = [UInt8.ofNat m].map bv := by
        simp only [List.map_cons, List.map_nil, bv, dig m (by omega)]
      refine ⟨_, rfl, ?_, B1.out.grown hg1 B1.out.size (fun x hx => (O1.out.lt x hx).1)⟩
      rw [HF.out, List.map_append, ← e1, List.length_append, HPRE.out]
      exact hown1
    · have hi9 : i < 9 := var_lt hmi h128
      have h2 : (128 : Int) ≤ m := by omega
      have ho := or_more (m % 256) (by omega)
      have HOO := Lib.hid ho
      clear hown hb hpre hsum hmi ho
      have o1 := (HO.out.alloc (.cells #[.int .u8 (bits BinOp.or IntKind.u8 ((m : Int) % 256) 128)] 5))
      have r1 := Rd.fresh wr #[.int .u8 (bits BinOp.or IntKind.u8 ((m : Int) % 256) 128)] 5 1 1 rfl
      have b1 := HB.out.alloc HB.out.size (.cells #[.int .u8 (bits BinOp.or IntKind.u8 ((m : Int) % 256) 128)] 5)
      have O1 := Lib.hid o1
      have R1 := Lib.hid r1
      have B1 := Lib.hid b1
      clear o1 r1 b1
      go_wp2_with (at_builtin; refine wpList_app_rd _ rfl (.tmp 11) (.tmp 15) _ rfl w.heap.size 5 i0 (.int .u8 0) 1 1 Tryz.underlying32 hi0 hz0 hz1 hz2 rfl (Nat.le_refl 1) (.slice A i c) (i) (pre.map bv) rfl O1.out (wr.heap.size + 1) (some ⟨wr.heap.size, 0, none⟩) (1) (1) ([.int .u8 (bits BinOp.or IntKind.u8 ((m : Int) % 256) 128)]) rfl R1.out (by intro u hu; obtain rfl := List.mem_singleton.1 hu; rfl) (by unfold maxLen; omega) (by omega) B1.out.size ?_; intro v1 w1 hown1 hg1 hor1)
      obtain ⟨A', c', rfl, _, _⟩ := own_form hown1
      go_roundw
      case rel =>
        refine ⟨i + 1, m / 128, pre ++ [UInt8.ofNat (m % 128 + 128)], A', c', by omega, by go_num, rfl, ?_, by simp [HPRE.out], ?_, var_next HMI.out, B1.out.grown hg1 B1.out.size (fun x hx => (O1.out.lt x hx).1)⟩
        · have e1 : [Value.int .u8 (bits BinOp.or IntKind.u8 ((m : Int) % 256) 128)] = [UInt8.ofNat (m % 128 + 128)].map bv := by
            simp only [List.map_cons, List.map_nil, bv, dig _ (show m % 128 + 128 < 256 by omega)]
            rw [show (m : Int) % 256 = ((m % 256 : Nat) : Int) by omega, HOO.out]
            congr 3; omega
          rw [List.map_append, ← e1]
          exact hown1
        · rw [List.append_assoc, ← HSUM.out, show 9 - i = (9 - (i + 1)) + 1 by omega, varF_big _ _ h128]
          rfl
      case measure => simp [intOf] <;> omega
-- SECOND
set_option maxRecDepth 100000 in
set_option maxHeartbeats 2000000 in
theorem refVarPut_any (n : Nat) (hn : n < 18446744073709551616) (w : World) :
    Calls Tryz.prog 91 #[.int .u64 n] w fun e w' => ∃ v, e = .returned v ∧ w'.ownsRow w.heap.size 5 1 v (varB n).length ((varB n).map bv) ∧ Below w.heap.size w w' := by
  obtain ⟨i0, hi0, hz0, hz1, hz2⟩ := info_parts infoU8
  go_enter Tryz.func91, Tryz.ntmps91
  go_wp2
  go_loopw [0, 3] (fun s0 s3 wr => ∃ (i m : Nat) (pre : List UInt8) (A : Option Addr) (c : Nat), i ≤ 9 ∧ s0 = .int .u64 m ∧ s3 = .slice A i c ∧ wr.ownsRow w.heap.size 5 1 (.slice A i c) i (pre.map bv) ∧ pre.length = i ∧ pre ++ varF (9 - i) m = varB n ∧ m * 128 ^ i < 18446744073709551616 ∧ Below w.heap.size w wr) (fun s0 _ _ => (intOf s0).toNat)
  case atStart => exact ⟨0, n, [], _, _, by omega, rfl, rfl, World.ownsRow_nil _ _ _ _, rfl, rfl, by simpa using hn, Below.refl _ _⟩
  case round =>
    obtain ⟨i, m, pre, A, c, hi, rfl, rfl, hown, hpre, hsum, hmi, hb⟩ := hrel
    have HO := Lib.hid hown
    have HB := Lib.hid hb
    have HPRE := Lib.hid hpre
    have HSUM := Lib.hid hsum
    have HMI := Lib.hid hmi
    have hm64 : m < 18446744073709551616 := Nat.lt_of_le_of_lt (Nat.le_mul_of_pos_right _ (pow128_pos i)) hmi
    by_cases h128 : m < 128
    · have h2 : ¬ (127 : Int) < m := by omega
      have hfin : varB n = pre ++ [UInt8.ofNat m] := by rw [← hsum, varF_small _ _ h128]
      have HF := Lib.hid hfin
      clear hown hb hpre hsum hmi hfin
      have o1 := (HO.out.alloc (.cells #[.int .u8 ((m : Int))] 5))
      have r1 := Rd.fresh wr #[.int .u8 ((m : Int))] 5 1 1 rfl
      have b1 := HB.out.alloc HB.out.size (.cells #[.int .u8 ((m : Int))] 5)
      have O1 := Lib.hid o1
      have R1 := Lib.hid r1
      have B1 := Lib.hid b1
      clear o1 r1 b1
      go_wp2_with (at_builtin; refine wpList_app_rd _ rfl (.tmp 15) (.tmp 18) _ rfl w.heap.size 5 i0 (.int .u8 0) 1 1 Tryz.underlying32 hi0 hz0 hz1 hz2 rfl (Nat.le_refl 1) (.slice A i c) (i) (pre.map bv) rfl O1.out (wr.heap.size + 1) (some ⟨wr.heap.size, 0, none⟩) (1) (1) ([.int .u8 ((m : Int))]) rfl R1.out (by intro u hu; obtain rfl := List.mem_singleton.1 hu; rfl) (by unfold maxLen; omega) (by omega) B1.out.size ?_; intro v1 w1 hown1 hg1 hor1)
      go_ret
      have e1 : [Value.int .u8 (m : Int)] = [UInt8.ofNat m].map bv := by
        simp only [List.map_cons, List.map_nil, bv, dig m (by omega)]
      refine ⟨_, rfl, ?_, B1.out.grown hg1 B1.out.size (fun x hx => (O1.out.lt x hx).1)⟩
      rw [HF.out, List.map_append, ← e1, List.length_append, HPRE.out]
      exact hown1
    · have hi9 : i < 9 := var_lt hmi h128
      have h2 : (127 : Int) < m := by omega
      clear hown hb hpre hsum hmi
      have o1 := (HO.out.alloc (.cells #[.int .u8 ((m : Int) % 128 + 128)] 5))
      have r1 := Rd.fresh wr #[.int .u8 ((m : Int) % 128 + 128)] 5 1 1 rfl
      have b1 := HB.out.alloc HB.out.size (.cells #[.int .u8 ((m : Int) % 128 + 128)] 5)
      have O1 := Lib.hid o1
      have R1 := Lib.hid r1
      have B1 := Lib.hid b1
      clear o1 r1 b1
      go_wp2_with (at_builtin; refine wpList_app_rd _ rfl (.tmp 6) (.tmp 11) _ rfl w.heap.size 5 i0 (.int .u8 0) 1 1 Tryz.underlying32 hi0 hz0 hz1 hz2 rfl (Nat.le_refl 1) (.slice A i c) (i) (pre.map bv) rfl O1.out (wr.heap.size + 1) (some ⟨wr.heap.size, 0, none⟩) (1) (1) ([.int .u8 ((m : Int) % 128 + 128)]) rfl R1.out (by intro u hu; obtain rfl := List.mem_singleton.1 hu; rfl) (by unfold maxLen; omega) (by omega) B1.out.size ?_; intro v1 w1 hown1 hg1 hor1)
      obtain ⟨A', c', rfl, _, _⟩ := own_form hown1
      go_roundw
      case rel =>
        refine ⟨i + 1, m / 128, pre ++ [UInt8.ofNat (m % 128 + 128)], A', c', by omega, by go_num, rfl, ?_, by simp [HPRE.out], ?_, var_next HMI.out, B1.out.grown hg1 B1.out.size (fun x hx => (O1.out.lt x hx).1)⟩
        · have e1 : [Value.int .u8 ((m : Int) % 128 + 128)] = [UInt8.ofNat (m % 128 + 128)].map bv := by
            simp only [List.map_cons, List.map_nil, bv, dig _ (show m % 128 + 128 < 256 by omega)]
            congr 2
          rw [List.map_append, ← e1]
          exact hown1
        · rw [List.append_assoc, ← HSUM.out, show 9 - i = (9 - (i + 1)) + 1 by omega, varF_big _ _ h128]
          rfl
      case measure => simp [intOf] <;> omega
/-- what Get answers; er: the error, if there is none to read -/
def varR (l : List UInt8) (er : Int) : Value := match varG l with
  | some (n, k) => .tuple #[.int .u64 n, .int .i64 k, .int .i64 0]
  | none => .tuple #[.int .u64 0, .int .i64 0, .int .i64 er]
/-- .. with one of two errors -/
def VarP (l : List UInt8) (e : Ending) : Prop := ∃ er : Int, (er = 2 ∨ er = 3) ∧ e = .returned (varR l er)
theorem varR_some {l : List UInt8} {n k : Nat} (h : varG l = some (n, k)) (er : Int) : varR l er = .tuple #[.int .u64 n, .int .i64 k, .int .i64 0] := by unfold varR; rw [h]
theorem varR_none {l : List UInt8} (h : varG l = none) (er : Int) : varR l er = .tuple #[.int .u64 0, .int .i64 0, .int .i64 er] := by unfold varR; rw [h]
theorem drop_getD (l : List UInt8) (i : Nat) (h : i < l.length) : l.drop i = l.getD i 0 :: l.drop (i + 1) := by
  rw [List.drop_eq_getElem_cons h, List.getD_eq_getElem?_getD, List.getElem?_eq_getElem h]; rfl
theorem varGo_a {c : UInt8} {l : List UInt8} {i acc : Nat} (h9 : i = 9) (hc : 1 < c.toNat) : varGo (c :: l) i acc = none := by unfold varGo; rw [if_pos ⟨h9, hc⟩]
theorem varGo_b {c : UInt8} {l : List UInt8} {i acc : Nat} (hc : c.toNat = 0) (hi : 0 < i) : varGo (c :: l) i acc = none := by unfold varGo; rw [if_neg (by omega), if_pos (by omega), if_pos ⟨hc, hi⟩]
theorem varGo_c {c : UInt8} {l : List UInt8} {i acc : Nat} (h9 : ¬ (i = 9 ∧ 1 < c.toNat)) (hc : c.toNat < 128) (h0 : ¬ (c.toNat = 0 ∧ 0 < i)) : varGo (c :: l) i acc = some (acc + c.toNat * 128 ^ i, i + 1) := by unfold varGo; rw [if_neg h9, if_pos hc, if_neg h0]
theorem varGo_d {c : UInt8} {l : List UInt8} {i acc : Nat} (h9 : i ≠ 9) (hc : 128 ≤ c.toNat) : varGo (c :: l) i acc = varGo l (i + 1) (acc + c.toNat % 128 * 128 ^ i) := by
  have hc2 := c.toNat_lt
  have e : varGo (c :: l) i acc = varGo l (i + 1) (acc + (c.toNat - 128) * 128 ^ i) := by
    conv => lhs; unfold varGo
    rw [if_neg (by omega), if_neg (by omega)]
  rw [e, show c.toNat - 128 = c.toNat % 128 by omega]
theorem pow7 (i : Nat) : 128 ^ i = 2 ^ (7 * i) := by rw [Nat.pow_mul]
/-- a digit put ahead of those that are read -/
theorem dig_add {acc d i : Nat} (ha : acc < 128 ^ i) (hd : d * 128 ^ i + 128 ^ i ≤ 18446744073709551616) : bits .or .u64 (acc : Int) ((d * 128 ^ i : Nat) : Int) = ((acc + d * 128 ^ i : Nat) : Int) := by
  have hp := pow128_pos i
  rw [bits_or_u64_nat _ _ (by omega) (by omega), pow7, Nat.or_comm, show d * 2 ^ (7 * i) = d <<< (7 * i) by rw [Nat.shiftLeft_eq], ← Nat.shiftLeft_add_eq_or_of_lt (by rw [← pow7]; exact ha), Nat.add_comm]
theorem dig_bd {c i : Nat} (hc : c < 128) (hi : i ≤ 9) (h9 : i = 9 → c ≤ 1) : c * 128 ^ i + 128 ^ i ≤ 18446744073709551616 := by
  have h4 : (128 : Nat) ^ 9 = 9223372036854775808 := by decide
  rcases Nat.lt_or_ge i 9 with h | h
  · have h1 : c * 128 ^ i ≤ 127 * 128 ^ i := Nat.mul_le_mul_right _ (by omega)
    have h2 : 128 ^ (i + 1) ≤ 128 ^ 9 := Nat.pow_le_pow_right (by omega) (by omega)
    have h3 : 128 ^ (i + 1) = 128 * 128 ^ i := by rw [Nat.pow_succ, Nat.mul_comm]
    omega
  · obtain rfl : i = 9 := by omega
    rcases (show c = 0 ∨ c = 1 by have := h9 rfl; omega) with rfl | rfl
    · rw [Nat.zero_mul]; decide
    · rw [Nat.one_mul]; decide
theorem acc_next {acc d i : Nat} (ha : acc < 128 ^ i) (hd : d < 128) : acc + d * 128 ^ i < 128 ^ (i + 1) := by
  have h1 : d * 128 ^ i ≤ 127 * 128 ^ i := Nat.mul_le_mul_right _ (by omega)
  have h3 : 128 ^ (i + 1) = 128 * 128 ^ i := by rw [Nat.pow_succ, Nat.mul_comm]
  omega
theorem shl_dig {c i : Nat} (h : c % 128 * 128 ^ i + 128 ^ i ≤ 18446744073709551616) : IntKind.u64.wrap ((c : Int) % 128 * 2 ^ (7 * i)) = ((c % 128 * 128 ^ i : Nat) : Int) := by
  have hp := pow128_pos i
  have e : (c : Int) % 128 * 2 ^ (7 * i) = ((c % 128 * 128 ^ i : Nat) : Int) := by rw [pow7]; simp
  rw [e, IntKind.wrap_u64]
  omega
set_option maxRecDepth 100000 in
set_option maxHeartbeats 4000000 in
theorem varGet_any (A : Option Addr) (n c : Nat) (l : List UInt8) (w : World) (hr : RdB w w.heap.size A n l) (hn : n ≤ 1000000000) :
    Calls Tryz.prog 157 #[.slice A n c] w fun e w' => VarP l e ∧ w = w' := by
  have hlen := hr.len
  have HR := Lib.hid hr
  go_enter Tryz.func157, Tryz.ntmps157
  go_wp2
  go_loop [5, 10] (fun s5 s10 => ∃ i acc : Nat, i ≤ n ∧ i ≤ 9 ∧ s10 = .int .i64 i ∧ s5 = .int .u64 acc ∧ varG l = varGo (l.drop i) i acc ∧ acc < 128 ^ i) (fun _ s10 => n - (intOf s10).toNat)
  case atStart => exact ⟨0, 0, by omega, by omega, rfl, rfl, rfl, by simp⟩
  case round =>
    obtain ⟨i, acc, hin, hi9, rfl, rfl, hgo, hacc⟩ := hrel
    have HGO := Lib.hid hgo
    have HACC := Lib.hid hacc
    have hacc64 : acc < 18446744073709551616 := by
      have h2 : 128 ^ i ≤ 128 ^ 9 := Nat.pow_le_pow_right (by omega) hi9
      have h4 : (128 : Nat) ^ 9 = 9223372036854775808 := by decide
      omega
    clear hgo hacc
    by_cases hlt : i < n
    · have hin2 : (i : Int) < n := by omega
      obtain ⟨a, rfl, hab, hcell⟩ := HR.out.at_ hlt
      have hdr := drop_getD l i (by omega)
      rw [hdr] at HGO
      obtain ⟨x, hx⟩ : ∃ x, x = l.getD i 0 := ⟨_, rfl⟩
      rw [← hx] at HGO hcell
      clear hdr hx
      have hx8 := x.toNat_lt
      unfold bv at hcell
      have hbd : i < 9 ∨ x.toNat ≤ 1 → x.toNat % 128 * 128 ^ i + 128 ^ i ≤ 18446744073709551616 := fun h => dig_bd (by omega) hi9 (fun h => by omega)
      have HX8 := Lib.hid hx8
      have HI := Lib.hid hi9
      have han := andnot_more x.toNat hx8
      have HBD := Lib.hid hbd
      clear hi9 hbd
      cases hb9 : ((i : Int) == 9)
      · have h9 : i < 9 := by
          have := HI.out
          have h : (i : Int) ≠ 9 := by simpa using hb9
          omega
        have H9 := Lib.hid h9
        have hsh := shl_dig (HBD.out (.inl h9))
        have hor := dig_add HACC.out (HBD.out (.inl h9))
        rw [← hsh] at hor
        have HOR := Lib.hid hor
        clear hor hsh
        cases h128 : decide ((x.toNat : Int) < 128)
        · have HV := Lib.hid (show varG l = varGo (l.drop (i + 1)) (i + 1) (acc + x.toNat % 128 * 128 ^ i) by rw [HGO.out, varGo_d (by have := H9.out; omega) (by have := of_decide_eq_false h128; omega)])
          clear HGO
          go_wp2
          refine ⟨⟨i + 1, acc + x.toNat % 128 * 128 ^ i, by omega, by have := H9.out; omega, by go_num, ?_, HV.out, acc_next HACC.out (by omega)⟩, ?_⟩
          · exact congrArg _ HOR.out
          · simp [intOf]; omega
        · skip
          cases hb0 : ((x.toNat : Int) == 0)
          · have HV := Lib.hid (show varG l = some (acc + x.toNat * 128 ^ i, i + 1) by
              rw [HGO.out, varGo_c (fun h => by have := H9.out; omega) (by have := of_decide_eq_true h128; omega) (fun h => by
                have h2 : (x.toNat : Int) ≠ 0 := by simpa using hb0
                omega)])
            clear HGO
            go_wp2
            all_goals
              go_ret3
              refine ⟨⟨2, .inl rfl, ?_⟩, rfl⟩
              have h := HOR.out
              rw [varR_some HV.out]
              rw [show ((acc + x.toNat * 128 ^ i : Nat) : Int) = ((acc + x.toNat % 128 * 128 ^ i : Nat) : Int) by rw [show x.toNat % 128 = x.toNat by have := of_decide_eq_true h128; omega], ← h]
              rfl
          · have h0 : x.toNat = 0 := by
              have h2 : (x.toNat : Int) = 0 := by simpa using hb0
              omega
            have H0 := Lib.hid h0
            clear h0
            cases hip : decide (0 < i)
            · have HV := Lib.hid (show varG l = some (acc + x.toNat * 128 ^ i, i + 1) by
                rw [HGO.out, varGo_c (fun h => by have := H9.out; omega) (by have := of_decide_eq_true h128; omega) (fun h => by have := of_decide_eq_false hip; omega)])
              have hip2 : decide ((0 : Int) < (i : Int)) = false := by rw [← hip]; simp
              clear HGO
              go_wp2
              all_goals
                go_ret3
                refine ⟨⟨2, .inl rfl, ?_⟩, rfl⟩
                have h := HOR.out
                rw [varR_some HV.out]
                rw [show ((acc + x.toNat * 128 ^ i : Nat) : Int) = ((acc + x.toNat % 128 * 128 ^ i : Nat) : Int) by rw [show x.toNat % 128 = x.toNat by have := of_decide_eq_true h128; omega], ← h]
                rfl
            · have HV := Lib.hid (show varG l = none by rw [HGO.out, varGo_b H0.out (by have := of_decide_eq_true hip; omega)])
              have hip2 : decide ((0 : Int) < (i : Int)) = true := by rw [← hip]; simp
              clear HGO
              go_wp2
              all_goals
                go_ret3
                exact ⟨⟨3, .inr rfl, by rw [varR_none HV.out]; rfl⟩, rfl⟩
      · have h9 : i = 9 := by
          have h : (i : Int) = 9 := by simpa using hb9
          omega
        have H9 := Lib.hid h9
        have hi9 : i ≤ 9 := by omega
        clear h9
        cases hgt : decide ((1 : Int) < (x.toNat : Int))
        · have hx1 : x.toNat ≤ 1 := by have := of_decide_eq_false hgt; omega
          have hsh := shl_dig (HBD.out (.inr hx1))
          have hor := dig_add HACC.out (HBD.out (.inr hx1))
          rw [← hsh] at hor
          have HOR := Lib.hid hor
          have HX1 := Lib.hid hx1
          clear hor hsh hx1
          cases h128 : decide ((x.toNat : Int) < 128)
          · exfalso
            have := of_decide_eq_false h128
            have := HX1.out
            omega
          · skip
            cases hb0 : ((x.toNat : Int) == 0)
            · have HV := Lib.hid (show varG l = some (acc + x.toNat * 128 ^ i, i + 1) by
                rw [HGO.out, varGo_c (fun h => by have := HX1.out; omega) (by have := of_decide_eq_true h128; omega) (fun h => by
                  have h2 : (x.toNat : Int) ≠ 0 := by simpa using hb0
                  omega)])
              clear HGO
              go_wp2
              all_goals
                go_ret3
                refine ⟨⟨2, .inl rfl, ?_⟩, rfl⟩
                have h := HOR.out
                rw [varR_some HV.out]
                rw [show ((acc + x.toNat * 128 ^ i : Nat) : Int) = ((acc + x.toNat % 128 * 128 ^ i : Nat) : Int) by rw [show x.toNat % 128 = x.toNat by have := of_decide_eq_true h128; omega], ← h]
                rfl
            · have h0 : x.toNat = 0 := by
                have h2 : (x.toNat : Int) = 0 := by simpa using hb0
                omega
              have H0 := Lib.hid h0
              clear h0
              cases hip : decide (0 < i)
              · exfalso
                have := of_decide_eq_false hip
                have := H9.out
                omega
              · have HV := Lib.hid (show varG l = none by rw [HGO.out, varGo_b H0.out (by have := of_decide_eq_true hip; omega)])
                have hip2 : decide ((0 : Int) < (i : Int)) = true := by rw [← hip]; simp
                clear HGO
                go_wp2
                all_goals
                  go_ret3
                  exact ⟨⟨3, .inr rfl, by rw [varR_none HV.out]; rfl⟩, rfl⟩
        · have HV := Lib.hid (show varG l = none by rw [HGO.out, varGo_a H9.out (by have := of_decide_eq_true hgt; omega)])
          clear HGO
          go_wp2
          all_goals
            go_ret3
            exact ⟨⟨3, .inr rfl, by rw [varR_none HV.out]; rfl⟩, rfl⟩
    · obtain rfl : i = n := by omega
      have hd : decide ((i : Int) < i) = false := by simp
      have HV := Lib.hid (show varG l = none by rw [HGO.out, List.drop_of_length_le (by omega)]; rfl)
      clear HGO
      go_wp2
      all_goals
        go_ret3
        exact ⟨⟨2, .inl rfl, by rw [varR_none HV.out]; rfl⟩, rfl⟩
end Go.Proofs.YtmpemeemlhmaaaaGreat

namespace Go.Proofs.YtmpemeemlhmaaaaGreat
open Go.RowKit

theorem dig_addN {acc d i sc : Nat} (hs : sc = 128 ^ i) (ha : acc < 128 ^ i) (hd : d * 128 ^ i + 128 ^ i ≤ 18446744073709551616) : ((d * sc : Nat) : Int) ≤ 18446744073709551615 ∧ (acc : Int) + ((d * sc : Nat) : Int) ≤ 18446744073709551615 := by
  subst hs
  have hp := pow128_pos i
  omega
theorem sc_bd {i : Nat} (h : i < 9) : 128 ^ i * 128 ≤ 9223372036854775808 := by
  have h2 : 128 ^ (i + 1) ≤ 128 ^ 9 := Nat.pow_le_pow_right (by omega) (by omega)
  have h4 : (128 : Nat) ^ 9 = 9223372036854775808 := by decide
  rw [Nat.pow_succ] at h2
  omega
set_option maxRecDepth 100000 in
set_option maxHeartbeats 4000000 in
theorem refVarGet_any (A : Option Addr) (n c : Nat) (l : List UInt8) (w : World) (hr : RdB w w.heap.size A n l) (hn : n ≤ 1000000000) :
    Calls Tryz.prog 102 #[.slice A n c] w fun e w' => VarP l e ∧ w = w' := by
  have hlen := hr.len
  have HR := Lib.hid hr
  go_enter Tryz.func102, Tryz.ntmps102
  go_wp2
  go_loop [5, 6, 7] (fun s5 s6 s7 => ∃ i acc sc : Nat, i ≤ n ∧ i ≤ 9 ∧ s7 = .int .i64 i ∧ s5 = .int .u64 acc ∧ s6 = .int .u64 sc ∧ sc = 128 ^ i ∧ varG l = varGo (l.drop i) i acc ∧ acc < 128 ^ i) (fun _ _ s7 => n - (intOf s7).toNat)
  case atStart => exact ⟨0, 0, 1, by omega, by omega, rfl, rfl, rfl, rfl, rfl, by simp⟩
  case round =>
    obtain ⟨i, acc, sc, hin, hi9, rfl, rfl, rfl, hsc, hgo, hacc⟩ := hrel
    have HGO := Lib.hid hgo
    have HACC := Lib.hid hacc
    have HSC := Lib.hid hsc
    have hacc64 : acc < 18446744073709551616 := by
      have h2 : 128 ^ i ≤ 128 ^ 9 := Nat.pow_le_pow_right (by omega) hi9
      have h4 : (128 : Nat) ^ 9 = 9223372036854775808 := by decide
      omega
    have hsc64 : sc ≤ 9223372036854775808 := by
      have h2 : 128 ^ i ≤ 128 ^ 9 := Nat.pow_le_pow_right (by omega) hi9
      have h4 : (128 : Nat) ^ 9 = 9223372036854775808 := by decide
      omega
    clear hgo hacc hsc
    by_cases hlt : i < n
    · have hin2 : (i : Int) < n := by omega
      obtain ⟨a, rfl, hab, hcell⟩ := HR.out.at_ hlt
      have hdr := drop_getD l i (by omega)
      rw [hdr] at HGO
      obtain ⟨x, hx⟩ : ∃ x, x = l.getD i 0 := ⟨_, rfl⟩
      rw [← hx] at HGO hcell
      clear hdr hx
      have hx8 := x.toNat_lt
      unfold bv at hcell
      have hbd : i < 9 ∨ x.toNat ≤ 1 → x.toNat % 128 * 128 ^ i + 128 ^ i ≤ 18446744073709551616 := fun h => dig_bd (by omega) hi9 (fun h => by omega)
      have HI := Lib.hid hi9
      have HBD := Lib.hid hbd
      have hi10 : ¬ (9 : Int) < i := by omega
      obtain ⟨p, hp⟩ : ∃ p, p = x.toNat % 128 * sc := ⟨_, rfl⟩
      have HP := Lib.hid hp
      have hpi : (x.toNat : Int) % 128 * (sc : Int) = (p : Int) := by rw [hp]; simp
      clear hi9 hbd hp
      cases hb9 : ((i : Int) == 9)
      · have h9 : i < 9 := by
          have := HI.out
          have h : (i : Int) ≠ 9 := by simpa using hb9
          omega
        have H9 := Lib.hid h9
        obtain ⟨hq1, hq2⟩ := dig_addN HSC.out HACC.out (HBD.out (.inl h9))
        rw [← HP.out] at hq1 hq2
        have hq3 : sc * 128 ≤ 9223372036854775808 := by rw [HSC.out]; exact sc_bd h9
        cases h128 : decide ((x.toNat : Int) < 128)
        · have HV := Lib.hid (show varG l = varGo (l.drop (i + 1)) (i + 1) (acc + x.toNat % 128 * 128 ^ i) by rw [HGO.out, varGo_d (by have := H9.out; omega) (by have := of_decide_eq_false h128; omega)])
          have hb0 : ((x.toNat : Int) == 0) = false := by
            have := of_decide_eq_false h128
            simp; omega
          clear HGO
          go_wp2
          refine ⟨⟨i + 1, acc + p, sc * 128, by omega, by have := H9.out; omega, by go_num, by go_num, by go_num, by rw [HSC.out, Nat.pow_succ], ?_, ?_⟩, ?_⟩
          · rw [HV.out, HP.out, HSC.out]
          · rw [HP.out, HSC.out]; exact acc_next HACC.out (by omega)
          · simp [intOf]; omega
        · cases hb0 : ((x.toNat : Int) == 0)
          · have HV := Lib.hid (show varG l = some (acc + x.toNat * 128 ^ i, i + 1) by
              rw [HGO.out, varGo_c (fun h => by have := H9.out; omega) (by have := of_decide_eq_true h128; omega) (fun h => by
                have h2 : (x.toNat : Int) ≠ 0 := by simpa using hb0
                omega)])
            clear HGO
            go_wp2
            all_goals
              go_ret3
              refine ⟨⟨2, .inl rfl, ?_⟩, rfl⟩
              rw [varR_some HV.out, show acc + x.toNat * 128 ^ i = acc + p by rw [HP.out, HSC.out, show x.toNat % 128 = x.toNat by have := of_decide_eq_true h128; omega]]
              rfl
          · have h0 : x.toNat = 0 := by
              have h2 : (x.toNat : Int) = 0 := by simpa using hb0
              omega
            have H0 := Lib.hid h0
            clear h0
            cases hip : decide (0 < i)
            · have HV := Lib.hid (show varG l = some (acc + x.toNat * 128 ^ i, i + 1) by
                rw [HGO.out, varGo_c (fun h => by have := H9.out; omega) (by have := of_decide_eq_true h128; omega) (fun h => by have := of_decide_eq_false hip; omega)])
              have hip2 : decide ((0 : Int) < (i : Int)) = false := by rw [← hip]; simp
              clear HGO
              go_wp2
              all_goals
                go_ret3
                refine ⟨⟨2, .inl rfl, ?_⟩, rfl⟩
                rw [varR_some HV.out, show acc + x.toNat * 128 ^ i = acc + p by rw [HP.out, HSC.out, show x.toNat % 128 = x.toNat by have := of_decide_eq_true h128; omega]]
                rfl
            · have HV := Lib.hid (show varG l = none by rw [HGO.out, varGo_b H0.out (by have := of_decide_eq_true hip; omega)])
              have hip2 : decide ((0 : Int) < (i : Int)) = true := by rw [← hip]; simp
              clear HGO
              go_wp2
              all_goals
                go_ret3
                exact ⟨⟨3, .inr rfl, by rw [varR_none HV.out]; rfl⟩, rfl⟩
      · have h9 : i = 9 := by
          have h : (i : Int) = 9 := by simpa using hb9
          omega
        have H9 := Lib.hid h9
        have hi9 : i ≤ 9 := by omega
        have hip : decide (0 < i) = true := decide_eq_true (by omega)
        have hip2 : decide ((0 : Int) < (i : Int)) = true := decide_eq_true (by omega)
        clear h9
        cases hgt : decide ((1 : Int) < (x.toNat : Int))
        · have hx1 : x.toNat ≤ 1 := by have := of_decide_eq_false hgt; omega
          have HX1 := Lib.hid hx1
          obtain ⟨hq1, hq2⟩ := dig_addN HSC.out HACC.out (HBD.out (.inr hx1))
          rw [← HP.out] at hq1 hq2
          have h128 : decide ((x.toNat : Int) < 128) = true := decide_eq_true (by omega)
          clear hx1
          cases hb0 : ((x.toNat : Int) == 0)
          · have HV := Lib.hid (show varG l = some (acc + x.toNat * 128 ^ i, i + 1) by
              rw [HGO.out, varGo_c (fun h => by have := HX1.out; omega) (by have := HX1.out; omega) (fun h => by
                have h2 : (x.toNat : Int) ≠ 0 := by simpa using hb0
                omega)])
            clear HGO
            go_wp2
            all_goals
              go_ret3
              refine ⟨⟨2, .inl rfl, ?_⟩, rfl⟩
              rw [varR_some HV.out, show acc + x.toNat * 128 ^ i = acc + p by rw [HP.out, HSC.out, show x.toNat % 128 = x.toNat by have := HX1.out; omega]]
              rfl
          · have h0 : x.toNat = 0 := by
              have h2 : (x.toNat : Int) = 0 := by simpa using hb0
              omega
            have HV := Lib.hid (show varG l = none by rw [HGO.out, varGo_b h0 (by have := H9.out; omega)])
            clear HGO h0
            go_wp2
            all_goals
              go_ret3
              exact ⟨⟨3, .inr rfl, by rw [varR_none HV.out]; rfl⟩, rfl⟩
        · have HV := Lib.hid (show varG l = none by rw [HGO.out, varGo_a H9.out (by have := of_decide_eq_true hgt; omega)])
          clear HGO
          go_wp2
          all_goals
            go_ret3
            exact ⟨⟨3, .inr rfl, by rw [varR_none HV.out]; rfl⟩, rfl⟩
    · obtain rfl : i = n := by omega
      have hd : decide ((i : Int) < i) = false := by simp
      have HV := Lib.hid (show varG l = none by rw [HGO.out, List.drop_of_length_le (by omega)]; rfl)
      clear HGO
      go_wp2
      go_ret3
      exact ⟨⟨2, .inl rfl, by rw [varR_none HV.out]; rfl⟩, rfl⟩
end Go.Proofs.YtmpemeemlhmaaaaGreat
