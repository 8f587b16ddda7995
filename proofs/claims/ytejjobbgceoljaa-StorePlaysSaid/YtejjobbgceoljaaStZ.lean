/- awake of the statements on stores: true, and it leaves all as it was. -/
import Derived.Test.YtejjobbgceoljaaStY
import Derived.Lib.SlBytesConst
set_option linter.unusedSimpArgs false
set_option linter.unusedVariables false
namespace Go.Proofs.Ytejjobbgceoljaa
open Go.RowKit

theorem Aw.cast {w W : World} {p : Nat} {q : Int} {m m' : Mo} (h : Aw w W p q m) (e : m = m') : Aw w W p q m' := e ▸ h
section
variable {w W : World} {p : Nat}
theorem awA1 (h : Aw w W p 5 ⟨[], -1, false⟩) (t : TypeId) (fr : Nat × Nat) (c : Nat) : Calls Try.prog 25 #[.pointer (some ⟨p, 0, none⟩), .string (textOf [97]), .slice (some ⟨W.heap.size, 0, none⟩) 3 c] (W.alloc (.cells (#[.int .u8 97, .int .u8 98, .int .u8 99] : Array Value) t fr)) fun e W' => e = .returned (.int .i64 0) ∧ Aw w W' p 5 ⟨[⟨[97], [97, 98, 99], 0⟩], -1, false⟩ :=
  (h.append_new [97] [97, 98, 99] (by decide) (by simp) 3 c _ t fr rfl rfl (by omega) (0, -1, false) (by decide +kernel)).mono fun e W' ⟨h1, h2⟩ => ⟨h1, h2.cast (by decide +kernel)⟩
theorem awA2 (h : Aw w W p 5 ⟨[⟨[97], [97, 98, 99], 0⟩], -1, false⟩) (t : TypeId) (fr : Nat × Nat) (c : Nat) : Calls Try.prog 25 #[.pointer (some ⟨p, 0, none⟩), .string (textOf [98]), .slice (some ⟨W.heap.size, 0, none⟩) 3 c] (W.alloc (.cells (#[.int .u8 97, .int .u8 98, .int .u8 99] : Array Value) t fr)) fun e W' => e = .returned (.int .i64 7) ∧ Aw w W' p 5 ⟨[⟨[97], [97, 98, 99], 0⟩], -1, false⟩ :=
  (h.append_new [98] [97, 98, 99] (by decide) (by simp) 3 c _ t fr rfl rfl (by omega) (7, -1, false) (by decide +kernel)).mono fun e W' ⟨h1, h2⟩ => ⟨h1, h2.cast (by decide +kernel)⟩
theorem awS (h : Aw w W p 5 ⟨[⟨[97], [97, 98, 99], 0⟩], -1, false⟩) : Calls Try.prog 26 #[.pointer (some ⟨p, 0, none⟩), .string (textOf [97])] W fun e W' => e = .returned (.int .i64 0) ∧ Aw w W' p 5 ⟨[⟨[97], [97, 98, 99], 3⟩], -1, false⟩ :=
  (h.sync [97] (by decide) (0, -1, false) (by decide +kernel)).mono fun e W' ⟨h1, h2⟩ => ⟨h1, h2.cast (by decide +kernel)⟩
theorem awA3 (h : Aw w W p 5 ⟨[⟨[97], [97, 98, 99], 3⟩], -1, false⟩) (t : TypeId) (fr : Nat × Nat) (c : Nat) : Calls Try.prog 25 #[.pointer (some ⟨p, 0, none⟩), .string (textOf [97]), .slice (some ⟨W.heap.size, 0, none⟩) 2 c] (W.alloc (.cells (#[.int .u8 100, .int .u8 101] : Array Value) t fr)) fun e W' => e = .returned (.int .i64 0) ∧ Aw w W' p 5 ⟨[⟨[97], [97, 98, 99, 100, 101], 3⟩], -1, false⟩ :=
  (h.append_new [97] [100, 101] (by decide) (by simp) 2 c _ t fr rfl rfl (by omega) (0, -1, false) (by decide +kernel)).mono fun e W' ⟨h1, h2⟩ => ⟨h1, h2.cast (by decide +kernel)⟩
theorem awF (h : Aw w W p 5 ⟨[⟨[97], [97, 98, 99, 100, 101], 3⟩], -1, false⟩) : Calls Try.prog 24 #[.pointer (some ⟨p, 0, none⟩), .int .i64 0] W fun e W' => e = .returned (.tuple #[]) ∧ Aw w W' p 5 ⟨[⟨[97], [97, 98, 99, 100, 101], 3⟩], 0, false⟩ :=
  (h.fuse_ 0 (by decide)).mono fun e W' ⟨h1, h2⟩ => ⟨h1, h2.cast (by decide +kernel)⟩
theorem awR1 (h : Aw w W p 5 ⟨[⟨[97], [97, 98, 99, 100, 101], 3⟩], 0, false⟩) : Calls Try.prog 27 #[.pointer (some ⟨p, 0, none⟩), .string (textOf [97])] W fun e W' => e = .returned (.int .i64 9) ∧ Aw w W' p 5 ⟨[⟨[97], [97, 98, 99, 100, 101], 3⟩], 0, true⟩ :=
  (h.remove [97] (by decide) (9, 0, true) (by decide +kernel)).mono fun e W' ⟨h1, h2⟩ => ⟨h1, h2.cast (by decide +kernel)⟩
theorem awR2 (h : Aw w W p 5 ⟨[⟨[97], [97, 98, 99, 100, 101], 3⟩], 0, true⟩) : Calls Try.prog 27 #[.pointer (some ⟨p, 0, none⟩), .string (textOf [97])] W fun e W' => e = .returned (.int .i64 9) ∧ Aw w W' p 5 ⟨[⟨[97], [97, 98, 99, 100, 101], 3⟩], 0, true⟩ :=
  (h.remove [97] (by decide) (9, 0, true) (by decide +kernel)).mono fun e W' ⟨h1, h2⟩ => ⟨h1, h2.cast (by decide +kernel)⟩
theorem awC (h : Aw w W p 5 ⟨[⟨[97], [97, 98, 99, 100, 101], 3⟩], 0, true⟩) (t : TypeId) (c : Nat) : Calls Try.prog 21 #[.pointer (some ⟨p, 0, none⟩), .slice (some ⟨W.heap.size, 0, none⟩) 1 c] (W.alloc (.cells (#[.int .i64 1] : Array Value) t)) fun e W' => e = .returned (.tuple #[]) ∧ Aw w W' p 5 ⟨[⟨[97], [97, 98, 99, 100], 4⟩], -1, false⟩ :=
  (h.crash_new (by simp) [1] 1 c _ t rfl rfl (by omega)).mono fun e W' ⟨h1, h2⟩ => ⟨h1, h2.cast (by decide +kernel)⟩
theorem awN1 (h : Aw w W p 5 ⟨[⟨[97], [97, 98, 99, 100], 4⟩], -1, false⟩) : Calls Try.prog 28 #[.pointer (some ⟨p, 0, none⟩), .string (textOf [97]), .string (textOf [98])] W fun e W' => e = .returned (.int .i64 0) ∧ Aw w W' p 5 ⟨[⟨[98], [97, 98, 99, 100], 4⟩], -1, false⟩ :=
  (h.rename [97] [98] (by decide) (by decide) (by simp) (0, -1, false) (by decide +kernel)).mono fun e W' ⟨h1, h2⟩ => ⟨h1, h2.cast (by decide +kernel)⟩
theorem awN2 (h : Aw w W p 5 ⟨[⟨[98], [97, 98, 99, 100], 4⟩], -1, false⟩) : Calls Try.prog 28 #[.pointer (some ⟨p, 0, none⟩), .string (textOf [97]), .string (textOf [99])] W fun e W' => e = .returned (.int .i64 5) ∧ Aw w W' p 5 ⟨[⟨[98], [97, 98, 99, 100], 4⟩], -1, false⟩ :=
  (h.rename [97] [99] (by decide) (by decide) (by simp) (5, -1, false) (by decide +kernel)).mono fun e W' ⟨h1, h2⟩ => ⟨h1, h2.cast (by decide +kernel)⟩
theorem awR3 (h : Aw w W p 5 ⟨[⟨[98], [97, 98, 99, 100], 4⟩], -1, false⟩) : Calls Try.prog 27 #[.pointer (some ⟨p, 0, none⟩), .string (textOf [98])] W fun e W' => e = .returned (.int .i64 0) ∧ Aw w W' p 5 ⟨[], -1, false⟩ :=
  (h.remove [98] (by decide) (0, -1, false) (by decide +kernel)).mono fun e W' ⟨h1, h2⟩ => ⟨h1, h2.cast (by decide +kernel)⟩
end
set_option maxRecDepth 100000 in
set_option maxHeartbeats 4000000 in
theorem awake_any (w : World) : Calls Try.prog 9 #[] w fun e w' => e = .returned (.bool true) ∧ Below w.heap.size w w' := by
  have kc := fun (w : World) (C : Array Value) (n c : Nat) => Lib.run_convert_bytes_const (P := Try.prog) w 32 5 C n c Try.underlying32 Try.underlying5
  go_enter Try.func9, Try.ntmps9
  go_wp2_with fail
  refine (Aw.new 5 w w (Below.refl _ _) (by decide)).mono ?_
  rintro e w1 ⟨p, rfl, h1⟩
  have A0 := Lib.hid h1
  clear h1
  go_wp2_with fail
  refine (new_no 0 w1 (by decide)).mono ?_
  rintro e w1 ⟨rfl, rfl⟩
  go_wp2_with fail
  refine (awA1 A0.out _ _ _).mono ?_
  rintro e w2 ⟨rfl, h2⟩
  have A1 := Lib.hid h2
  clear h2
  go_wp2_with fail
  refine (awA2 A1.out _ _ _).mono ?_
  rintro e w3 ⟨rfl, h3⟩
  have A2 := Lib.hid h3
  clear h3
  go_wp2_with fail
  refine (awS A2.out).mono ?_
  rintro e w4 ⟨rfl, h4⟩
  have A3 := Lib.hid h4
  clear h4
  go_wp2_with fail
  refine (awA3 A3.out _ _ _).mono ?_
  rintro e w5 ⟨rfl, h5⟩
  have A4 := Lib.hid h5
  clear h5
  go_wp2_with fail
  refine (awF A4.out).mono ?_
  rintro e w6 ⟨rfl, h6⟩
  have A5 := Lib.hid h6
  clear h6
  go_wp2_with fail
  refine (awR1 A5.out).mono ?_
  rintro e w7 ⟨rfl, h7⟩
  have A6 := Lib.hid h7
  clear h7
  go_wp2_with fail
  refine (awR2 A6.out).mono ?_
  rintro e w8 ⟨rfl, h8⟩
  have A7 := Lib.hid h8
  clear h8
  go_wp2_with fail
  refine (A7.out.read [97] (by decide)).mono ?_
  rintro e w9 ⟨Ar, cr, rfl, _, _, h9⟩
  have A8 := Lib.hid h9
  clear h9
  go_wp2_with fail
  refine A8.out.down.mono ?_
  rintro e w10 ⟨rfl, rfl⟩
  go_wp2_with fail
  refine (awC A8.out _ _).mono ?_
  rintro e w10 ⟨rfl, h10⟩
  have A9 := Lib.hid h10
  clear h10
  go_wp2_with fail
  refine (A9.out.read [97] (by decide)).mono ?_
  rintro e w11 ⟨Ax, cx, rfl, hox, _, h11⟩
  have A10 := Lib.hid h11
  have hcv := run_bytes_text (P := Try.prog) (RdB.of_own hox) 32 5 9 Try.underlying32 Try.underlying5 Try.underlying9 cx
  clear h11 hox
  go_wp2_with fail
  refine (A10.out.synced [97] (by decide)).mono ?_
  rintro e w12 ⟨rfl, rfl⟩
  go_wp2_with fail
  refine A10.out.down.mono ?_
  rintro e w12 ⟨rfl, rfl⟩
  go_wp2_with fail
  refine A10.out.size.mono ?_
  rintro e w12 ⟨rfl, rfl⟩
  go_wp2_with fail
  refine (A10.out.list (by simp)).mono ?_
  rintro e w12 ⟨Al, cl, rfl, _, _, h12⟩
  have A11 := Lib.hid h12
  clear h12
  go_wp2_with fail
  refine (awN1 A11.out).mono ?_
  rintro e w13 ⟨rfl, h13⟩
  have A12 := Lib.hid h13
  clear h13
  go_wp2_with fail
  refine (awN2 A12.out).mono ?_
  rintro e w14 ⟨rfl, h14⟩
  have A13 := Lib.hid h14
  clear h14
  go_wp2_with fail
  refine (awR3 A13.out).mono ?_
  rintro e w15 ⟨rfl, h15⟩
  have A14 := Lib.hid h15
  clear h15
  go_wp2_with fail
  refine A14.out.size.mono ?_
  rintro e w17 ⟨rfl, rfl⟩
  have FIN := Lib.hid A14.out.below
  go_wp2
  go_ret
  exact ⟨rfl, FIN.out⟩
end Go.Proofs.Ytejjobbgceoljaa
