/- The laws' own anchor: the answers that the document fixes. -/
import Derived.Test.YtobafaacojndiaaWgE
set_option linter.unusedSimpArgs false
set_option linter.unusedVariables false
namespace Go.Proofs.Ytobafaacojndiaa
open Go.RowKit

theorem ok_a : wOk 4609434218613702656 = true ∧ wQ 4609434218613702656 = 1536 := by decide +kernel
theorem ok_m0 : wOk 9223372036854775808 = true ∧ wQ 9223372036854775808 = 0 := by decide +kernel
theorem ok_nan : wOk 9221120237041090561 = false ∧ wQ 9221120237041090561 = 0 := by decide +kernel
theorem ok_inf : wOk 9218868437227405312 = false ∧ wQ 9218868437227405312 = 0 := by decide +kernel
theorem ok_m1 : wOk 13830554455654793216 = false ∧ wQ 13830554455654793216 = 0 := by decide +kernel
theorem right_a : wRight 4652007308841189376 = true ∧ wRight 4652011706887700480 = false := by decide +kernel
theorem plain_a : wPlain 9223372036854775808 = 0 := by decide +kernel
theorem same_a : wSame 0 0 = true ∧ wSame 9223372036854775808 0 = false ∧ wSame 9221120237041090561 9221120237041090561 = true ∧ wSame 4609434218613702656 4609434218613702656 = true := by decide +kernel
theorem of_a : wOf 1536 = 4609434218613702656 := by decide +kernel
theorem get_a : wGet [63, 248, 0, 0, 0, 0, 0, 0] = 4609434218613702656 ∧ wGetOk [63, 248, 0, 0, 0, 0, 0, 0] = true := by decide +kernel
theorem put_a : wPut 9221120237041090561 = [127, 248, 0, 0, 0, 0, 0, 0] := by decide +kernel

theorem lit8 (w : World) (a b c d e f g h : UInt8) : RdB (w.alloc (.cells #[.int .u8 (a.toNat : Nat), .int .u8 (b.toNat : Nat), .int .u8 (c.toNat : Nat), .int .u8 (d.toNat : Nat), .int .u8 (e.toNat : Nat), .int .u8 (f.toNat : Nat), .int .u8 (g.toNat : Nat), .int .u8 (h.toNat : Nat)] 5))
    (w.alloc (.cells #[.int .u8 (a.toNat : Nat), .int .u8 (b.toNat : Nat), .int .u8 (c.toNat : Nat), .int .u8 (d.toNat : Nat), .int .u8 (e.toNat : Nat), .int .u8 (f.toNat : Nat), .int .u8 (g.toNat : Nat), .int .u8 (h.toNat : Nat)] 5)).heap.size (some ⟨w.heap.size, 0, none⟩) 8 [a, b, c, d, e, f, g, h] := by
  refine RdB.of_rowIs (c := 0) (l := [a, b, c, d, e, f, g, h]) (World.rowIs_alloc w _ _ (fun j => bv (([a, b, c, d, e, f, g, h] : List UInt8).getD j 0)) (fun i hi => ?_)) (by simp) (by simp) (fun j hj => rfl)
  simp at hi
  have : i = 0 ∨ i = 1 ∨ i = 2 ∨ i = 3 ∨ i = 4 ∨ i = 5 ∨ i = 6 ∨ i = 7 := by omega
  rcases this with rfl | rfl | rfl | rfl | rfl | rfl | rfl | rfl <;> rfl

set_option maxRecDepth 100000 in
set_option maxHeartbeats 1000000 in
theorem awake_any (w : World) : Calls Try.prog 9 #[] w fun e w' => e = .returned (.bool true) ∧ Below w.heap.size w w' := by
  have g8 := lit8 w 63 248 0 0 0 0 0 0
  have G8 := Lib.hid g8
  clear g8
  go_enter Try.func9, Try.ntmps9
  go_wp2_with (first
    | (go_at_call 28; refine (copysign_any _ _ (by omega) (by omega) _).mono ?_; rintro e w' ⟨rfl, rfl⟩)
    | (go_at_call 11; refine (quanta_any _ (by omega) _).mono ?_; rintro e w' ⟨rfl, rfl⟩; first | rw [ok_a.1, ok_a.2] | rw [ok_m0.1, ok_m0.2] | rw [ok_nan.1, ok_nan.2] | rw [ok_inf.1, ok_inf.2] | rw [ok_m1.1, ok_m1.2])
    | (go_at_call 29; refine (nan_any _).mono ?_; rintro e w' ⟨rfl, rfl⟩)
    | (go_at_call 22; refine (inf_any _ _).mono ?_; rintro e w' ⟨rfl, rfl⟩)
    | (go_at_call 17; refine (get_any _ _ _ _ _ (by omega) (by omega) G8.out).mono ?_; rintro e w' ⟨rfl, hb1⟩; rw [get_a.1, get_a.2])
    | (go_at_call 13; refine (right_any _ _).mono ?_; rintro e w' ⟨rfl, rfl⟩; first | rw [right_a.1] | rw [right_a.2])
    | (go_at_call 15; refine (plain_any _ _).mono ?_; rintro e w' ⟨rfl, rfl⟩; rw [plain_a])
    | (go_at_call 14; refine (same_any _ _ _).mono ?_; rintro e w' ⟨rfl, rfl⟩; first | rw [same_a.1] | rw [same_a.2.1] | rw [same_a.2.2.1] | rw [same_a.2.2.2])
    | (go_at_call 26; refine (of_any 1536 (by omega) _).mono ?_; rintro e w' ⟨rfl, rfl⟩; rw [of_a])
    | (go_at_call 16; refine (put_any _ (by omega) _).mono ?_; rintro e w2 ⟨A, rfl, hr, hb2⟩; rw [put_a] at hr; obtain ⟨-, k2⟩ := text_later hr 8))
  go_ret
  exact ⟨by simp [text_toList], (((Below.refl _ _).alloc (Nat.le_refl _) _).trans (hb1.mono (by simp))).trans (hb2.mono (by have := hb1.size; simp at this; omega))⟩
end Go.Proofs.Ytobafaacojndiaa
