/- The document's laying: numbers, texts, truths, backends, tuples, behind bytes. -/
import Derived.Test.YtmpemeemlhmaaaaGreatQ34
set_option linter.unusedSimpArgs false
set_option linter.unusedVariables false
set_option maxRecDepth 100000
namespace Go.Proofs.YtmpemeemlhmaaaaGreat
open Go.RowKit

@[go_sem] theorem run_mkU8s2 (w : World) (a b : Int) : (mkU8s 2 #[(0, .int .u8 a), (1, .int .u8 b)]).run Tryz.prog w = .ok (.slice (some ⟨w.heap.size, 0, none⟩) 2 2) (w.alloc (.cells #[.int .u8 a, .int .u8 b] 5)) := by
  obtain ⟨i0, hi0, hz0, hz1, hz2⟩ := infoU8s
  simp [mkU8s, Instr.buildSlice, run_underlying Tryz.underlying32, zeroValue, sizeOf, typeInfo, hi0, hz0, hz1, Instr.fill, newRow, Value.cells, range2]
@[go_sem] theorem run_mkU8s5 (w : World) (a b c d e : Int) : (mkU8s 5 #[(0, .int .u8 a), (1, .int .u8 b), (2, .int .u8 c), (3, .int .u8 d), (4, .int .u8 e)]).run Tryz.prog w = .ok (.slice (some ⟨w.heap.size, 0, none⟩) 5 5) (w.alloc (.cells #[.int .u8 a, .int .u8 b, .int .u8 c, .int .u8 d, .int .u8 e] 5)) := by
  obtain ⟨i0, hi0, hz0, hz1, hz2⟩ := infoU8s
  simp [mkU8s, Instr.buildSlice, run_underlying Tryz.underlying32, zeroValue, sizeOf, typeInfo, hi0, hz0, hz1, Instr.fill, newRow, Value.cells, range5]
/-- bytes of a literal -/
theorem rd_u8l (w : World) (c : Array Value) (l : List UInt8) (h : c.toList = l.map bv) : RdB (w.alloc (.cells c 5)) (w.heap.size + 1) (some ⟨w.heap.size, 0, none⟩) l.length l := by
  refine ⟨by simp, fun _ => ⟨_, rfl, by simp, fun j u hu => ?_⟩⟩
  rw [Addr.add_mid, Nat.zero_add]
  have := cell_new w c 5 j
  rw [this, ← hu, ← h]
  simp
/-! ### numbers and texts -/
set_option maxRecDepth 100000 in
theorem rnum_ly {B : Nat} {L : List (Nat × Array Value)} {w0 W : World} {v : Value} {bs : List UInt8} (z : Int) (h : Ly B L w0 W v bs) (hz : 0 ≤ z ∧ z ≤ 9223372036854775807) (hb : bs.length ≤ 900000000) :
    Calls Tryz.prog 40 #[v, .int .i64 z] W (LyP B L w0 (bs ++ varB z.toNat)) := by
  obtain ⟨n, rfl⟩ : ∃ n : Nat, z = (n : Int) := ⟨z.toNat, by omega⟩
  have hn : n < 18446744073709551616 := by omega
  have PU := Lib.hid (refVarPut_any n hn W)
  have HH := Lib.hid h
  obtain ⟨A0, c0, rfl⟩ := h.o.form
  have cw : IntKind.u64.wrap (n : Int) = (n : Int) := by rw [IntKind.wrap_u64]; omega
  have HL := Lib.hid (show bs.length + (varB n).length ≤ 1000000000 by have := (varB_len n).2; omega)
  rw [Int.toNat_natCast]
  clear h hz hb
  go_enter Tryz.func40, Tryz.ntmps40
  go_wp2_with fail
  (with_reducible refine PU.out.mono ?_)
  rintro e w1 ⟨u, rfl, ho, hb1⟩
  obtain ⟨A1, c1, rfl, _, _⟩ := own_form ho
  have L1 := Lib.hid (HH.out.go hb1)
  have R1 := Lib.hid (RdB.of_own ho)
  clear ho hb1
  go_wp2_with (at_builtin; refine wpList_ow rfl (.tmp 5) (.tmp 8) rfl rfl L1.out.o rfl R1.out HL.out ?_; intro A2 n2 c2 w2 h2 h3; have L2 := Lib.hid (L1.out.step h3); clear h2 h3)
  go_ret
  exact ⟨A2, n2, c2, rfl, L2.out⟩
set_option maxRecDepth 100000 in
theorem rtext_ly {B : Nat} {L : List (Nat × Array Value)} {w0 W : World} {v : Value} {bs : List UInt8} (s : List UInt8) (h : Ly B L w0 W v bs) (hs : s.length ≤ 1000000) (hb : bs.length ≤ 900000000) :
    Calls Tryz.prog 42 #[v, .string (textOf s)] W (LyP B L w0 (bs ++ textB s)) := by
  have hz := text_size s
  have PU := Lib.hid (refVarPut_any s.length (by omega) W)
  have HH := Lib.hid h
  obtain ⟨A0, c0, rfl⟩ := h.o.form
  have cw : IntKind.u64.wrap (s.length : Int) = (s.length : Int) := by rw [IntKind.wrap_u64]; omega
  have HL := Lib.hid (show bs.length + (varB s.length).length ≤ 1000000000 by have := (varB_len s.length).2; omega)
  have HL2 := Lib.hid (show (bs ++ varB s.length).length + s.length ≤ 1000000000 by have := (varB_len s.length).2; rw [List.length_append]; omega)
  clear h hs hb
  go_enter Tryz.func42, Tryz.ntmps42
  go_wp2_with fail
  (with_reducible refine PU.out.mono ?_)
  rintro e w1 ⟨u, rfl, ho, hb1⟩
  obtain ⟨A1, c1, rfl, _, _⟩ := own_form ho
  have L1 := Lib.hid (HH.out.go hb1)
  have R1 := Lib.hid (RdB.of_own ho)
  clear ho hb1
  go_wp2_with (first | (at_builtin; refine wpList_ow rfl (.tmp 5) (.tmp 9) rfl rfl L1.out.o rfl R1.out HL.out ?_; intro A2 n2 c2 w2 h2 h3; have L2 := Lib.hid (L1.out.step h3); clear h2 h3) | (at_builtin; refine wpList_ow_text rfl (.tmp 11) (.tmp 12) rfl rfl L2.out.o rfl HL2.out ?_; intro A3 n3 c3 w3 h2 h3; have L3 := Lib.hid (L2.out.step h3); clear h2 h3))
  go_ret
  exact ⟨A3, n3, c3, rfl, by have := L3.out; rw [List.append_assoc] at this; exact this⟩
set_option maxRecDepth 100000 in
theorem rflag_ly {B : Nat} {L : List (Nat × Array Value)} {w0 W : World} {v : Value} {bs : List UInt8} (b : Bool) (h : Ly B L w0 W v bs) (hb : bs.length ≤ 900000000) :
    Calls Tryz.prog 92 #[v, .bool b] W (LyP B L w0 (bs ++ flagB b)) := by
  have HH := Lib.hid h
  obtain ⟨A0, c0, rfl⟩ := h.o.form
  have HL := Lib.hid (show bs.length + 1 ≤ 1000000000 by omega)
  have L1 := Lib.hid (fun a : Int => h.alloc (.cells #[.int .u8 a] 5))
  have R1 := Lib.hid (rd_u8 W 1 1 rfl)
  have R0 := Lib.hid (rd_u8 W 0 0 rfl)
  clear h hb
  cases b
  · go_enter Tryz.func92, Tryz.ntmps92
    go_wp2_with (at_builtin; refine wpList_ow rfl (.tmp 9) (.tmp 10) rfl rfl (L1.out 0).o rfl R0.out HL.out ?_; intro A2 n2 c2 w2 h2 h3; have L2 := Lib.hid ((L1.out 0).step h3); clear h2 h3)
    go_ret
    exact ⟨A2, n2, c2, rfl, L2.out⟩
  · go_enter Tryz.func92, Tryz.ntmps92
    go_wp2_with (at_builtin; refine wpList_ow rfl (.tmp 6) (.tmp 7) rfl rfl (L1.out 1).o rfl R1.out HL.out ?_; intro A2 n2 c2 w2 h2 h3; have L2 := Lib.hid ((L1.out 1).step h3); clear h2 h3)
    go_ret
    exact ⟨A2, n2, c2, rfl, L2.out⟩
end Go.Proofs.YtmpemeemlhmaaaaGreat

namespace Go.Proofs.YtmpemeemlhmaaaaGreat
open Go.RowKit

theorem numPut2 (n : Nat) (hn : n < 65536) : numPut n 2 true = [UInt8.ofNat (n / 256), UInt8.ofNat (n % 256)] := by
  unfold numPut lowPut
  simp [List.range_succ]
  constructor <;> (apply UInt8.toNat_inj.1; simp [lowB] <;> omega)
theorem take_snoc (l : List UInt8) (i : Nat) (h : i < l.length) : l.take (i + 1) = l.take i ++ [l.getD i 0] := by
  rw [List.take_add_one, List.getElem?_eq_getElem h, List.getD_eq_getElem?_getD, List.getElem?_eq_getElem h]; rfl
theorem port_rd (p : Int) (h1 : 0 ≤ p) (h2 : p ≤ 65535) (wr : World) : RdB (wr.alloc (.cells #[.int .u8 (p / 256), .int .u8 (p % 256)] 5)) (wr.heap.size + 1) (some ⟨wr.heap.size, 0, none⟩) 2 (numPut p.toNat 2 true) := by
  have := rd_u8l wr #[.int .u8 (p / 256), .int .u8 (p % 256)] (numPut p.toNat 2 true) (by
    rw [numPut2 _ (by omega)]
    simp only [List.map_cons, List.map_nil, bv]
    rw [dig _ (by omega), dig _ (by omega)]
    congr 3 <;> congr 1 <;> omega)
  rwa [numPut_len] at this
set_option maxRecDepth 100000 in
set_option maxHeartbeats 4000000 in
theorem rbk_ly {B : Nat} {L : List (Nat × Array Value)} {w0 W : World} {v : Value} {bs : List UInt8} (x : Bk) (h : Ly B L w0 W v bs) (hf : x.fine) (ht : okTold x) (hb : bs.length ≤ 800000000) :
    Calls Tryz.prog 41 #[v, .agg x.arr] W (LyP B L w0 (bs ++ bkB x)) := by
  obtain ⟨t1, t2, t3⟩ := ht
  have T := Lib.hid (h.new x.arr 60)
  have KS := Lib.hid (show ∀ W', Box W' W.heap.size x.arr → W'.cell? ⟨W.heap.size, 0, none⟩ = some (.string (textOf x.name)) ∧ W'.cell? ⟨W.heap.size, 1, none⟩ = some (.bool x.addr.six) from fun W' h => ⟨by rw [h.facts.1]; exact Bk.arr_0 x, by rw [h.facts.1]; exact Bk.arr_1 x⟩)
  obtain ⟨A0, c0, rfl⟩ := h.o.form
  have TX := Lib.hid (fun W2 v2 (hh : Ly B ((W.heap.size, x.arr) :: L) w0 W2 v2 bs) => rtext_ly x.name hh (by omega) (by omega))
  have HTL := Lib.hid (show (bs ++ textB x.name).length ≤ 800001000 by have := (varB_len x.name.length).2; rw [List.length_append, textB, List.length_append]; omega)
  have PR := Lib.hid (fun wr : World => port_rd x.port t2 t3 wr)
  have HW := Lib.hid hf.2
  clear h hb t1
  go_enter Tryz.func41, Tryz.ntmps41
  go_wp2_with fail
  go_region_held_law (fun W' => W'.cell? ⟨W.heap.size, 0, none⟩ = some (.string (textOf x.name)) ∧ W'.cell? ⟨W.heap.size, 1, none⟩ = some (.bool x.addr.six))
    (first | exact KS.out _ T.out.b0.drew | exact KS.out _ T1.out.b0 | exact KS.out _ T2.out.b0 | go_keep)
    (first | (go_at_call 42; (with_reducible refine (TX.out _ _ T.out.drew).mono ?_); rintro e w1 ⟨A1, n1, c1, rfl, h1⟩; have T1 := Lib.hid h1; clear h1) | (go_at_call 92; (with_reducible refine (rflag_ly _ T1.out (by have := HTL.out; omega)).mono ?_); rintro e w2 ⟨A2, n2, c2, rfl, h2⟩; have T2 := Lib.hid h2; clear h2))
  obtain ⟨bs2, hbs2⟩ : ∃ b, b = bs ++ textB x.name ++ flagB x.addr.six := ⟨_, rfl⟩
  have HB2 := Lib.hid (show bs2.length ≤ 800001001 by have := HTL.out; rw [hbs2, List.length_append]; have h1 : (flagB x.addr.six).length = 1 := rfl; omega)
  rw [← hbs2] at T2
  go_wp2
  go_loopw [0, 5] (fun s0 s5 wr => ∃ (i : Nat) (A' : Option Addr) (m' c' : Nat), i ≤ 16 ∧ s5 = .int .i64 i ∧ s0 = .slice A' m' c' ∧ Ly B ((W.heap.size, x.arr) :: L) w0 wr (.slice A' m' c') (bs2 ++ x.addr.b.toList.take i)) (fun _ s5 _ => 16 - (intOf s5).toNat)
  case atStart => exact ⟨0, A2, n2, c2, by omega, rfl, rfl, by simpa using T2.out⟩
  case round =>
    obtain ⟨i, A', m', c', hi, rfl, rfl, h⟩ := hrel
    have HO := Lib.hid h
    clear h
    obtain ⟨q1, q2, q3, q4⟩ := HO.out.b0.facts
    have hlq := HO.out.b0.lt
    by_cases hlt : i < 16
    · have hlt2 : (i : Int) < 16 := by omega
      have hc := Bk.arr_b x i hlt
      rw [Nat.add_comm i 2] at hc
      obtain ⟨u, hu⟩ : ∃ u, x.addr.b.toList.getD i 0 = u := ⟨_, rfl⟩
      rw [hu] at hc
      unfold bv at hc
      have HS := Lib.hid (take_snoc x.addr.b.toList i (by simp; omega))
      rw [hu] at HS
      have L1 := Lib.hid (HO.out.alloc (.cells #[.int .u8 (u.toNat : Int)] 5))
      have R1 := Lib.hid (rd_u8 wr u _ rfl)
      have HLL := Lib.hid (show (bs2 ++ x.addr.b.toList.take i).length + 1 ≤ 1000000000 by have := HB2.out; rw [List.length_append, List.length_take]; omega)
      go_wp2_with (at_builtin; refine wpList_ow rfl (.tmp 19) (.tmp 25) rfl rfl L1.out.o rfl R1.out HLL.out ?_; intro A5 n5 c5 w5 h2 h3; have L2 := Lib.hid (L1.out.step h3); clear h2 h3)
      go_roundw
      case rel => exact ⟨i + 1, A5, n5, c5, by omega, by go_num, rfl, by rw [HS.out, ← List.append_assoc]; exact L2.out⟩
      case measure => simp [intOf] <;> omega
    · have hge : ¬ (i : Int) < 16 := by omega
      have HF := Lib.hid (show x.addr.b.toList.take i = x.addr.b.toList from List.take_of_length_le (by simp; omega))
      rw [HF.out] at HO
      have HL3 := Lib.hid (show (bs2 ++ x.addr.b.toList).length ≤ 800001020 by have := HB2.out; rw [List.length_append]; simp; omega)
      have L4 := Lib.hid (HO.out.alloc (.cells #[.int .u8 (x.port / 256), .int .u8 (x.port % 256)] 5))
      have R4 := Lib.hid (PR.out wr)
      have HL4 := Lib.hid (show (bs2 ++ x.addr.b.toList).length + 2 ≤ 1000000000 by have := HL3.out; omega)
      clear q1 q2 q3 q4 hlq
      obtain ⟨q1, q2, q3, q4⟩ := HO.out.b0.facts
      have hlq := HO.out.b0.lt
      go_wp2_with (at_builtin; refine wpList_ow rfl (.tmp 27) (.tmp 36) rfl rfl L4.out.o rfl R4.out HL4.out ?_; intro A5 n5 c5 w5 h2 h3; have L5 := Lib.hid (L4.out.step h3); clear h2 h3)
      obtain ⟨bs3, hbs3⟩ : ∃ b, b = bs2 ++ x.addr.b.toList ++ numPut x.port.toNat 2 true := ⟨_, rfl⟩
      have HB3 := Lib.hid (show bs3.length ≤ 800001022 by have := HL3.out; rw [hbs3, List.length_append, numPut_len]; omega)
      rw [← hbs3] at L5
      clear q1 q2 q3 q4 hlq
      go_loopw [0, 6] (fun s0 s6 wr => ∃ (i : Nat) (A' : Option Addr) (m' c' : Nat), i ≤ 6 ∧ s6 = .int .i64 i ∧ s0 = .slice A' m' c' ∧ Ly B ((W.heap.size, x.arr) :: L) w0 wr (.slice A' m' c') (bs3 ++ x.mac.toList.take i)) (fun _ s6 _ => 6 - (intOf s6).toNat)
      case atStart => exact ⟨0, A5, n5, c5, by omega, rfl, rfl, by simpa using L5.out⟩
      case round =>
        obtain ⟨i, A', m', c', hi, rfl, rfl, h⟩ := hrel
        have HO := Lib.hid h
        clear h
        obtain ⟨q1, q2, q3, q4⟩ := HO.out.b0.facts
        have hlq := HO.out.b0.lt
        by_cases hlt : i < 6
        · have hlt2 : (i : Int) < 6 := by omega
          have hc := Bk.arr_m x i hlt
          rw [Nat.add_comm i 19] at hc
          obtain ⟨u, hu⟩ : ∃ u, x.mac.toList.getD i 0 = u := ⟨_, rfl⟩
          rw [hu] at hc
          unfold bv at hc
          have HS := Lib.hid (take_snoc x.mac.toList i (by simp; omega))
          rw [hu] at HS
          have L1 := Lib.hid (HO.out.alloc (.cells #[.int .u8 (u.toNat : Int)] 5))
          have R1 := Lib.hid (rd_u8 wr u _ rfl)
          have HLL := Lib.hid (show (bs3 ++ x.mac.toList.take i).length + 1 ≤ 1000000000 by have := HB3.out; rw [List.length_append, List.length_take]; omega)
          go_wp2_with (at_builtin; refine wpList_ow rfl (.tmp 42) (.tmp 47) rfl rfl L1.out.o rfl R1.out HLL.out ?_; intro A6 n6 c6 w6 h2 h3; have L2 := Lib.hid (L1.out.step h3); clear h2 h3)
          go_roundw
          case rel => exact ⟨i + 1, A6, n6, c6, by omega, by go_num, rfl, by rw [HS.out, ← List.append_assoc]; exact L2.out⟩
          case measure => simp [intOf] <;> omega
        · have hge : ¬ (i : Int) < 6 := by omega
          have HF := Lib.hid (show x.mac.toList.take i = x.mac.toList from List.take_of_length_le (by simp; omega))
          rw [HF.out] at HO
          have HL6 := Lib.hid (show (bs3 ++ x.mac.toList).length + 8 ≤ 800001040 by have := HB3.out; rw [List.length_append]; simp; omega)
          have HL5 := Lib.hid (show (bs3 ++ x.mac.toList).length + 8 ≤ 1000000000 from Nat.le_trans HL6.out (by omega))
          have RP := Lib.hid (refPut_any x.w HW.out wr)
          go_wp2_with (first | (go_at_call 65; (with_reducible refine RP.out.mono ?_); rintro e w6 ⟨A6, c6, rfl, hr6, hb6⟩; have L6 := Lib.hid (HO.out.go hb6); have R6 := Lib.hid hr6; clear hr6; obtain ⟨r1, r2, r3, r4⟩ := (HO.out.go hb6).b0.facts; have hl6 := (HO.out.go hb6).b0.lt) | (at_builtin; refine wpList_ow rfl (.tmp 49) (.tmp 52) rfl rfl L6.out.o rfl R6.out HL5.out ?_; intro A7 n7 c7 w7 h2 h3; have L7 := Lib.hid (L6.out.step h3); have FL := Lib.hid (rflag_ly x.drain (L6.out.step h3) (by have := HL6.out; rw [List.length_append, wPut_len]; omega)); obtain ⟨v1, v2, v3, v4⟩ := (L6.out.step h3).b0.facts; have hl7 := (L6.out.step h3).b0.lt; clear h2 h3) | (go_at_call 92; (with_reducible refine FL.out.mono ?_); rintro e w8 ⟨A8, n8, c8, rfl, h8⟩; have L8 := Lib.hid h8; clear h8))
          go_ret
          have h9 := L8.out.pop
          refine ⟨A8, n8, c8, rfl, ?_⟩
          have e9 : bs ++ bkB x = bs3 ++ x.mac.toList ++ wPut x.w ++ flagB x.drain := by rw [hbs3, hbs2, bkB]; simp only [List.append_assoc]
          rw [e9]
          exact h9
end Go.Proofs.YtmpemeemlhmaaaaGreat

namespace Go.Proofs.YtmpemeemlhmaaaaGreat
open Go.RowKit

theorem Ly.lit1 (w w1 : World) (hb : Below w.heap.size w w1) (b : UInt8) (a : Int) (ha : a = (b.toNat : Int)) : Ly w.heap.size [] w (w1.alloc (.cells #[.int .u8 a] 5)) (.slice (some ⟨w1.heap.size, 0, none⟩) 1 1) [b] := by
  subst ha
  have h1 : (w1.alloc (.cells #[.int .u8 (b.toNat : Int)] 5)).ownsRow w1.heap.size 5 1 (.slice (some ⟨w1.heap.size, 0, none⟩) 1 1) 1 ([b].map bv) := World.ownsRow_lit w1 #[.int .u8 (b.toNat : Int)] 1 (Nat.le_refl _) (by unfold maxLen; omega) rfl
  refine ⟨⟨own_less h1 hb.size, ?_, .inr ⟨_, rfl, hb.size⟩, Nat.le_refl _, fun k h => by cases h⟩, fun p hp => by cases hp⟩
  have h2 := hb.alloc hb.size (.cells #[.int .u8 (b.toNat : Int)] 5)
  exact ⟨h2.os, h2.tape, h2.output, h2.size, fun i hi _ => h2.block i hi⟩
theorem nums_rd (t : Tu) (h : okNums t) (wr : World) : RdB (wr.alloc (.cells #[.int .u8 t.proto, .int .u8 (t.sport / 256), .int .u8 (t.sport % 256), .int .u8 (t.dport / 256), .int .u8 (t.dport % 256)] 5)) (wr.heap.size + 1) (some ⟨wr.heap.size, 0, none⟩) 5 ([UInt8.ofNat t.proto.toNat] ++ (numPut t.sport.toNat 2 true ++ numPut t.dport.toNat 2 true)) := by
  obtain ⟨⟨p1, p2⟩, ⟨s1, s2⟩, d1, d2⟩ := h
  have := rd_u8l wr #[.int .u8 t.proto, .int .u8 (t.sport / 256), .int .u8 (t.sport % 256), .int .u8 (t.dport / 256), .int .u8 (t.dport % 256)] ([UInt8.ofNat t.proto.toNat] ++ (numPut t.sport.toNat 2 true ++ numPut t.dport.toNat 2 true)) (by
    rw [numPut2 _ (by omega), numPut2 _ (by omega)]
    simp only [List.map_cons, List.map_nil, bv, List.cons_append, List.nil_append]
    rw [dig _ (by omega), dig _ (by omega), dig _ (by omega), dig _ (by omega), dig _ (by omega)]
    have e1 : t.proto = (t.proto.toNat : Int) := by omega
    have e2 : t.sport / 256 = ((t.sport.toNat / 256 : Nat) : Int) := by omega
    have e3 : t.sport % 256 = ((t.sport.toNat % 256 : Nat) : Int) := by omega
    have e4 : t.dport / 256 = ((t.dport.toNat / 256 : Nat) : Int) := by omega
    have e5 : t.dport % 256 = ((t.dport.toNat % 256 : Nat) : Int) := by omega
    rw [e2, e3, e4, e5, ← e1])
  have hl : ([UInt8.ofNat t.proto.toNat] ++ (numPut t.sport.toNat 2 true ++ numPut t.dport.toNat 2 true)).length = 5 := by simp [numPut_len]
  rwa [hl] at this
set_option maxRecDepth 100000 in
set_option maxHeartbeats 4000000 in
theorem rBytes_any (t : Tu) (ht : okNums t) (w : World) : Calls Tryz.prog 43 #[.agg t.arr] w (NewP w (tuB t)) := by
  obtain ⟨⟨p1, p2⟩, ⟨s1, s2⟩, d1, d2⟩ := id ht
  have PR := Lib.hid (fun wr : World => nums_rd t ht wr)
  have T := Lib.hid (Box.new w t.arr 77)
  have HB := Lib.hid ((Below.refl w.heap.size w).alloc (Nat.le_refl _) (.cells t.arr 77))
  have hone : (w.alloc (.cells t.arr 77)).heap.size = w.heap.size + 1 := by simp
  have L0 := (Ly.lit1 w _ HB.out 4 4 rfl).add (q := w.heap.size) (c := t.arr) (T.out.alloc _) (by rw [hone]; simp [Value.ownBlock])
  have htwo : ((w.alloc (.cells t.arr 77)).alloc (.cells #[.int .u8 4] 5)).heap.size = w.heap.size + 1 + 1 := by simp
  have L1 := (Ly.lit1 w _ (HB.out.alloc (by simp) (.cells #[.int .u8 4] 5)) 6 6 rfl).add (q := w.heap.size) (c := t.arr) ((T.out.alloc _).alloc _) (by rw [htwo]; simp [Value.ownBlock]; omega)
  rw [hone] at L0
  rw [htwo] at L1
  have H0 := Lib.hid L0
  have H1 := Lib.hid L1
  obtain ⟨b6, hb6⟩ : ∃ b, t.src.six = b := ⟨_, rfl⟩
  have H6 := Lib.hid hb6
  have x0 := Tu.arr_0 t
  rw [hb6] at x0
  have HT := Lib.hid (show tuB t = ([if b6 then 6 else 4] ++ t.src.b.toList ++ t.dst.b.toList) ++ ([UInt8.ofNat t.proto.toNat] ++ (numPut t.sport.toNat 2 true ++ numPut t.dport.toNat 2 true)) by rw [tuB, hb6]; simp only [List.append_assoc])
  clear ht hb6 L0 L1 hone htwo
  obtain ⟨q1, q2, q3, q4⟩ := (T.out.alloc (.cells #[.int .u8 4] 5)).facts
  have hlq := (T.out.alloc (.cells #[.int .u8 4] 5)).lt
  obtain ⟨bs, hbs⟩ : ∃ bs : List UInt8, bs = [if b6 then 6 else 4] := ⟨_, rfl⟩
  have HBS := Lib.hid hbs
  have HBL := Lib.hid (show bs.length = 1 by rw [hbs]; rfl)
  rw [← hbs] at HT
  cases b6
  all_goals
    have S0 := Lib.hid (show Ly w.heap.size [(w.heap.size, t.arr)] w _ _ bs by rw [hbs]; first | exact H1.out | exact H0.out)
    clear hbs
    go_enter Tryz.func43, Tryz.ntmps43
    go_wp2
    go_loopw [3, 4] (fun s3 s4 wr => ∃ (i : Nat) (A' : Option Addr) (m' c' : Nat), i ≤ 16 ∧ s4 = .int .i64 i ∧ s3 = .slice A' m' c' ∧ Ly w.heap.size [(w.heap.size, t.arr)] w wr (.slice A' m' c') (bs ++ t.src.b.toList.take i)) (fun _ s4 _ => 16 - (intOf s4).toNat)
    case atStart => exact ⟨0, _, _, _, by omega, rfl, rfl, by simpa using S0.out⟩
    case round =>
      obtain ⟨i, A', m', c', hi, rfl, rfl, h⟩ := hrel
      have HO := Lib.hid h
      clear h q1 q2 q3 q4 hlq
      obtain ⟨q1, q2, q3, q4⟩ := HO.out.b0.facts
      have hlq := HO.out.b0.lt
      by_cases hlt : i < 16
      · have hlt2 : (i : Int) < 16 := by omega
        have hc := Tu.arr_s t (i + 1) (by omega)
        rw [Adr.arr_b _ i hlt, Nat.add_comm i 1] at hc
        obtain ⟨u, hu⟩ : ∃ u, t.src.b.toList.getD i 0 = u := ⟨_, rfl⟩
        rw [hu] at hc
        unfold bv at hc
        have HS := Lib.hid (take_snoc t.src.b.toList i (by simp; omega))
        rw [hu] at HS
        have L1 := Lib.hid (HO.out.alloc (.cells #[.int .u8 (u.toNat : Int)] 5))
        have R1 := Lib.hid (rd_u8 wr u _ rfl)
        have HLL := Lib.hid (show (bs ++ t.src.b.toList.take i).length + 1 ≤ 1000000000 by rw [List.length_append, List.length_take, HBL.out]; omega)
        go_wp2_with (at_builtin; refine wpList_ow rfl (.tmp 15) (.tmp 21) rfl rfl L1.out.o rfl R1.out HLL.out ?_; intro A5 n5 c5 w5 h2 h3; have L2 := Lib.hid (L1.out.step h3); clear h2 h3)
        go_roundw
        case rel => exact ⟨i + 1, A5, n5, c5, by omega, by go_num, rfl, by rw [HS.out, ← List.append_assoc]; exact L2.out⟩
        case measure => simp [intOf] <;> omega
      · have hge : ¬ (i : Int) < 16 := by omega
        have HF := Lib.hid (show t.src.b.toList.take i = t.src.b.toList from List.take_of_length_le (by simp; omega))
        rw [HF.out] at HO
        obtain ⟨bs2, hbs2⟩ : ∃ b, b = bs ++ t.src.b.toList := ⟨_, rfl⟩
        have HBL2 := Lib.hid (show bs2.length = 17 by rw [hbs2, List.length_append, HBL.out]; simp)
        rw [← hbs2] at HO HT
        clear hbs2 HF hge hi S0 H0 H1
        go_wp2
        clear q1 q2 q3 q4 hlq
        go_loopw [3, 5] (fun s3 s5 wr => ∃ (i : Nat) (A' : Option Addr) (m' c' : Nat), i ≤ 16 ∧ s5 = .int .i64 i ∧ s3 = .slice A' m' c' ∧ Ly w.heap.size [(w.heap.size, t.arr)] w wr (.slice A' m' c') (bs2 ++ t.dst.b.toList.take i)) (fun _ s5 _ => 16 - (intOf s5).toNat)
        case atStart => exact ⟨0, _, _, _, by omega, rfl, rfl, by simpa using HO.out⟩
        case round =>
          clear HO
          obtain ⟨i, A', m', c', hi, rfl, rfl, h⟩ := hrel
          have HO := Lib.hid h
          clear h
          obtain ⟨q1, q2, q3, q4⟩ := HO.out.b0.facts
          have hlq := HO.out.b0.lt
          by_cases hlt : i < 16
          · have hlt2 : (i : Int) < 16 := by omega
            have hc := Tu.arr_d t (i + 1) (by omega)
            rw [Adr.arr_b _ i hlt, show i + 1 + 17 = 18 + i by omega] at hc
            obtain ⟨u, hu⟩ : ∃ u, t.dst.b.toList.getD i 0 = u := ⟨_, rfl⟩
            rw [hu] at hc
            unfold bv at hc
            have HS := Lib.hid (take_snoc t.dst.b.toList i (by simp; omega))
            rw [hu] at HS
            have L1 := Lib.hid (HO.out.alloc (.cells #[.int .u8 (u.toNat : Int)] 5))
            have R1 := Lib.hid (rd_u8 wr u _ rfl)
            have HLL := Lib.hid (show (bs2 ++ t.dst.b.toList.take i).length + 1 ≤ 1000000000 by rw [List.length_append, List.length_take, HBL2.out]; omega)
            go_wp2_with (at_builtin; refine wpList_ow rfl (.tmp 27) (.tmp 33) rfl rfl L1.out.o rfl R1.out HLL.out ?_; intro A5 n5 c5 w5 h2 h3; have L2 := Lib.hid (L1.out.step h3); clear h2 h3)
            go_roundw
            case rel => exact ⟨i + 1, A5, n5, c5, by omega, by go_num, rfl, by rw [HS.out, ← List.append_assoc]; exact L2.out⟩
            case measure => simp [intOf] <;> omega
          · have hge : ¬ (i : Int) < 16 := by omega
            have HF := Lib.hid (show t.dst.b.toList.take i = t.dst.b.toList from List.take_of_length_le (by simp; omega))
            rw [HF.out] at HO
            have L4 := Lib.hid (HO.out.alloc (.cells #[.int .u8 t.proto, .int .u8 (t.sport / 256), .int .u8 (t.sport % 256), .int .u8 (t.dport / 256), .int .u8 (t.dport % 256)] 5))
            have R4 := Lib.hid (PR.out wr)
            have HL4 := Lib.hid (show (bs2 ++ t.dst.b.toList).length + 5 ≤ 1000000000 by rw [List.length_append, HBL2.out]; simp)
            go_wp2_with (at_builtin; refine wpList_ow rfl (.tmp 35) (.tmp 55) rfl rfl L4.out.o rfl R4.out HL4.out ?_; intro A5 n5 c5 w5 h2 h3; have L5 := Lib.hid (L4.out.step h3); clear h2 h3)
            go_ret
            rw [← HT.out] at L5
            have ho := L5.out.o
            obtain ⟨A9, c9, e9⟩ := ho.form
            injection e9 with e9 e10 e11
            subst e10
            exact ⟨A5, _, c5, rfl, rfl, ho.own, ho.bel⟩
end Go.Proofs.YtmpemeemlhmaaaaGreat
