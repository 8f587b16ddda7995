/- The document's store: put. -/
import Derived.Test.YtejjobbgceoljaaStE
import Derived.Test.YtejjobbgceoljaaQr
set_option linter.unusedSimpArgs false
set_option linter.unusedVariables false
namespace Go.Proofs.Ytejjobbgceoljaa
open Go.RowKit

theorem stepPut_len (f : Fi) (p : List Fi × Bool) (x : Fi) : (stepPut f p x).1.length ≤ p.1.length + 2 := by
  unfold stepPut
  split
  · omega
  · split <;> simp
theorem foldPut_next (f : Fi) (L : List Fi) (i : Nat) (hi : i < L.length) {x : Fi} (hx : x = L.getD i noFi) {o : List Fi × Bool} (ho : (L.take i).foldl (stepPut f) ([], false) = o) : (L.take (i + 1)).foldl (stepPut f) ([], false) = stepPut f o x := by
  rw [← take_snocR noFi L i hi, ← hx, List.foldl_append, ho]; rfl
theorem putP_of {w V : World} {p B k cap n c : Nat} {q fu : Int} {dn : Bool} {A O : Option Addr} {M : List Fi} (hbox : Box V p (rfC q A n c fu dn)) (hown : V.ownsRow B 69 3 (.slice O k cap) k (cellsF M)) (hk : M.length = k) (hB : w.heap.size ≤ B) (hp : p < B) (hg : Below w.heap.size w V) :
    PutP w p q fu dn M (.returned (.tuple #[])) (V.setCell ⟨p, 1, none⟩ (.slice O k cap)) := by
  subst hk
  have hgr : w.grownBy V (some p) := ⟨hg.os, hg.tape, hg.output, hg.size, fun k hk _ => hg.block k hk⟩
  refine ⟨rfl, O, cap, ?_, own_less (own_set hown hp _) hB, grown_setCells [.slice O M.length cap] 1 V hgr⟩
  have := hbox.set_same 1 (.slice O M.length cap)
  rwa [rfC_set1] at this
set_option maxRecDepth 100000 in
set_option maxHeartbeats 4000000 in
theorem put_any (f : Fi) (p : Nat) (q fu : Int) (A : Option Addr) (n c : Nat) (dn : Bool) (L : List Fi) (w : World) (hB : Box w p (rfC q A n c fu dn)) (hR : RdF w w.heap.size A n L) (hn : n ≤ 10000) (hS : SrtF L) :
    Calls Try.prog 43 #[.pointer (some ⟨p, 0, none⟩), .agg f.arr] w (PutP w p q fu dn (putF f L)) := by
  have hl := hB.lt
  have HB0 := Lib.hid (hB.alloc (.cells f.arr 69))
  have HR := Lib.hid (hR.up (.cells f.arr 69))
  have BF := Lib.hid (Box.new w f.arr 69)
  have HBW := Lib.hid ((Below.refl w.heap.size w).alloc (Nat.le_refl _) (.cells f.arr 69))
  have HN := Lib.hid hR.1
  obtain ⟨i0, hi0, hz0, hz1, hzb⟩ := infoFi
  have HI0 := Lib.hid hi0
  have HZ0 := Lib.hid hz0
  have HZ1 := Lib.hid hz1
  have HZB := Lib.hid hzb
  have HZ2 := Lib.hid (show (Value.agg noFi.arr).cells.size = 3 by simp [Value.cells, Fi.arr_size])
  clear hB hR hi0 hz0 hz1 hzb
  go_enter Try.func43, Try.ntmps43
  go_wp2
  obtain ⟨W0, hW0⟩ : ∃ W0, w.alloc (.cells f.arr 69) = W0 := ⟨_, rfl⟩
  rw [hW0] at HB0 HR BF HBW ⊢
  have hsz0 : W0.heap.size = w.heap.size + 1 := by rw [← hW0]; simp
  clear hW0
  go_loopw [4, 5, 6] (fun s4 s5 s6 wr => ∃ (i : Nat) (O : Option Addr) (k cap : Nat) (d : Bool) (o : List Fi), i ≤ n ∧ s4 = .slice O k cap ∧ s5 = .bool d ∧ s6 = .int .i64 i ∧ (L.take i).foldl (stepPut f) ([], false) = (o, d) ∧ o.length = k ∧ k ≤ 2 * i ∧ wr.ownsRow W0.heap.size 69 3 (.slice O k cap) k (cellsF o) ∧ Below W0.heap.size W0 wr) (fun _ _ s6 _ => n - (intOf s6).toNat)
  case atStart => exact ⟨0, none, 0, 0, false, [], by omega, rfl, rfl, rfl, rfl, rfl, by omega, by simpa [cellsF] using World.ownsRow_nil _ _ _ _, Below.refl _ _⟩
  case round =>
    obtain ⟨i, O, k, cap, d, o, hin, rfl, rfl, rfl, hst, hok, hk2, how, hb⟩ := hrel
    have HST := Lib.hid hst
    have HOK := Lib.hid hok
    have HOW := Lib.hid how
    have HB := Lib.hid hb
    obtain ⟨f1, f2, f3, f4⟩ := (HB0.out.below hb HB0.out.lt).facts
    obtain ⟨g1, g2, g3, g4⟩ := (BF.out.below hb BF.out.lt).facts
    have hsz := hb.size
    clear hst hok how hb
    by_cases hlt : i < n
    · have hi : (i : Int) < n := by omega
      obtain ⟨b, oo, rfl, hbb, hh, hcl, hc0, _, _⟩ := (HR.out.below HB.out).fi hlt
      obtain ⟨x, hx⟩ : ∃ x, x = L.getD i noFi := ⟨_, rfl⟩
      rw [← hx] at hcl hc0
      have HNX := Lib.hid (foldPut_next f L i (by rw [HN.out]; exact hlt) hx HST.out)
      have HXX := Lib.hid hx
      clear hx hbb
      by_cases hq : x.name = f.name
      · have hz1 : (x.name == f.name) = true := by simpa using hq
        have hz2 : (x.name != f.name) = false := by simpa using hq
        have hz3 : decide (x.name = f.name) = true := by simpa using hq
        have NX := Lib.hid (show (L.take (i + 1)).foldl (stepPut f) ([], false) = (o, d) from HNX.out.trans (by unfold stepPut; rw [if_pos hq]))
        clear hq
        go_wp2
        try go_quiet (fail)
        try go_wp2
        go_roundw
        case rel => exact ⟨i + 1, O, k, cap, d, o, by omega, rfl, rfl, by go_num, NX.out, HOK.out, by omega, HOW.out, by first | exact HB.out | exact below_drewN HB.out _ | exact below_drewN (below_drewN HB.out _) _⟩
        case measure => simp [intOf] <;> omega
      · have hz1 : (x.name == f.name) = false := by simpa using hq
        have hz2 : (x.name != f.name) = true := by simpa using hq
        have hz3 : decide (x.name = f.name) = false := by simpa using hq
        have FIB := Lib.hid (fun W (h : Below W0.heap.size W0 W) => show Has W b (oo + i * 3) 3 ∧ cellsAt W b (oo + i * 3) 3 = x.arr by
          obtain ⟨b', o', e, _, h1, h2, _⟩ := (HR.out.below h).fi hlt
          injection e with e
          injection e with e1 e2
          subst e1 e2
          exact ⟨h1, by rw [h2, HXX.out]⟩)
        have OA := Lib.hid (fun m ob => show ((wr.drewN m).alloc ob).ownsRow W0.heap.size 69 3 (.slice O k cap) k (cellsF o) from own_alloc (w := wr) HOW.out ob)
        have W1 := Lib.hid (fun m (y : Fi) => show Rd ((wr.drewN m).alloc (.cells y.arr 69)) (wr.heap.size + 1) 3 (some ⟨wr.heap.size, 0, none⟩) 1 y.arr.toList from row_rdR (wr.drewN m) y.arr 3 (Fi.arr_size _) 69)
        have BS := Lib.hid (fun m ob => show W0.heap.size ≤ ((wr.drewN m).alloc ob).heap.size by simp; omega)
        have HGR := Lib.hid (fun m ob w1 (hg : ((wr.drewN m).alloc ob).grownBy w1 (Value.slice O k cap).ownBlock) => ((below_drewN HB.out m).alloc hsz ob).grown hg (BS.out m ob) (fun k hk => (HOW.out.lt k hk).1))
        have H63 := Lib.hid (show k + 1 ≤ maxLen by unfold maxLen; omega)
        have HBY := Lib.hid (show (k + 1) * i0.bytes ≤ 140737488355328 from Nat.le_trans (Nat.mul_le_mul (show k + 1 ≤ 100002 by omega) HZB.out) (by omega))
        have H64 := Lib.hid (show k + 1 + 1 ≤ maxLen by unfold maxLen; omega)
        have HBZ := Lib.hid (show (k + 1 + 1) * i0.bytes ≤ 140737488355328 from Nat.le_trans (Nat.mul_le_mul (show k + 1 + 1 ≤ 100002 by omega) HZB.out) (by omega))
        have ONE := Lib.hid (fun y : Fi => show ∀ u ∈ y.arr.toList, u.oneCell' = true by simp [Fi.arr, Value.oneCell'])
        cases d with
        | true =>
          have NX := Lib.hid (show (L.take (i + 1)).foldl (stepPut f) ([], false) = (o ++ [x], true) from HNX.out.trans (by unfold stepPut; rw [if_neg hq, if_neg (by simp)]))
          clear hq
          go_wp2
          try go_quiet (fail)
          try go_wp2
          try go_quiet (fail)
          go_wp2_with (at_builtin; (refine wpList_app_rd _ rfl (.tmp 46) (.tmp 54) _ rfl W0.heap.size 69 i0 (.agg noFi.arr) 3 i0.bytes Try.underlying63 HI0.out HZ0.out HZ1.out rfl HZ2.out (Nat.succ_pos _) (.slice O k cap) k (cellsF o) rfl (OA.out _ _) (wr.heap.size + 1) (some ⟨wr.heap.size, 0, none⟩) 1 1 x.arr.toList rfl (W1.out _ x) (ONE.out x) H63.out HBY.out (BS.out _ _) ?_); intro v1 w1 hown1 hg1 hat1; have O1 := Lib.hid hown1; have G1 := Lib.hid (HGR.out _ _ _ hg1); clear hown1 hg1 hat1)
          obtain ⟨O', cap', rfl, _, _⟩ := own_form O1.out
          go_roundw
          case rel => exact ⟨i + 1, O', k + 1, cap', _, o ++ [x], by omega, rfl, rfl, by go_num, NX.out, by rw [List.length_append, HOK.out]; rfl, by omega, by have := O1.out; rwa [cellsF_snoc] at this, G1.out⟩
          case measure => simp [intOf] <;> omega
        | false =>
          cases hbl : Op.bytesLess f.name x.name
          · have hbl2 : Op.bytesLess x.name f.name = true := by
              cases hc : Op.bytesLess x.name f.name
              · exact absurd (bl_total _ _ hc hbl) hq
              · rfl
            have NX := Lib.hid (show (L.take (i + 1)).foldl (stepPut f) ([], false) = (o ++ [x], false) from HNX.out.trans (by unfold stepPut; rw [if_neg hq, if_neg (by simp [hbl])]))
            clear hq
            go_wp2
            try go_quiet (fail)
            try go_wp2
            try go_quiet (fail)
            go_wp2_with (at_builtin; (refine wpList_app_rd _ rfl (.tmp 46) (.tmp 54) _ rfl W0.heap.size 69 i0 (.agg noFi.arr) 3 i0.bytes Try.underlying63 HI0.out HZ0.out HZ1.out rfl HZ2.out (Nat.succ_pos _) (.slice O k cap) k (cellsF o) rfl (OA.out _ _) (wr.heap.size + 1) (some ⟨wr.heap.size, 0, none⟩) 1 1 x.arr.toList rfl (W1.out _ x) (ONE.out x) H63.out HBY.out (BS.out _ _) ?_); intro v1 w1 hown1 hg1 hat1; have O1 := Lib.hid hown1; have G1 := Lib.hid (HGR.out _ _ _ hg1); clear hown1 hg1 hat1)
            obtain ⟨O', cap', rfl, _, _⟩ := own_form O1.out
            go_roundw
            case rel => exact ⟨i + 1, O', k + 1, cap', _, o ++ [x], by omega, rfl, rfl, by go_num, NX.out, by rw [List.length_append, HOK.out]; rfl, by omega, by have := O1.out; rwa [cellsF_snoc] at this, G1.out⟩
            case measure => simp [intOf] <;> omega
          · have hbl2 := bl_asymm hbl
            have NX := Lib.hid (show (L.take (i + 1)).foldl (stepPut f) ([], false) = (o ++ [f, x], true) from HNX.out.trans (by unfold stepPut; rw [if_neg hq, if_pos ⟨rfl, hbl⟩]))
            clear hq
            go_wp2
            try go_quiet (fail)
            try go_wp2
            try go_quiet (fail)
            go_wp2_with (first | (at_builtin; refine wpList_app_rd _ rfl (.tmp 42) (.tmp 44) _ rfl W0.heap.size 69 i0 (.agg noFi.arr) 3 i0.bytes Try.underlying63 HI0.out HZ0.out HZ1.out rfl HZ2.out (Nat.succ_pos _) (.slice O k cap) k (cellsF o) rfl (OA.out _ _) (wr.heap.size + 1) (some ⟨wr.heap.size, 0, none⟩) 1 1 f.arr.toList rfl (W1.out _ f) (ONE.out f) H63.out HBY.out (BS.out _ _) ?_; intro v1 w1 hown1 hg1 hat1; obtain ⟨O', cap', rfl, _, _⟩ := own_form hown1; rw [cellsF_snoc] at hown1; have O1 := Lib.hid hown1; have G1 := Lib.hid (HGR.out _ _ _ hg1); clear hown1 hg1 hat1 f1 f2 f3 f4 hh hcl; obtain ⟨f1, f2, f3, f4⟩ := (HB0.out.below G1.out HB0.out.lt).facts; obtain ⟨hh, hcl⟩ := FIB.out _ G1.out; have OB := Lib.hid (fun ob => own_alloc O1.out ob); have W2 := Lib.hid (row_rdR w1 x.arr 3 (Fi.arr_size _) 69); have BT := Lib.hid (fun ob => show W0.heap.size ≤ (w1.alloc ob).heap.size by have := G1.out.size; simp; omega)) | (at_builtin; (refine wpList_app_rd _ rfl (.tmp 46) (.tmp 54) _ rfl W0.heap.size 69 i0 (.agg noFi.arr) 3 i0.bytes Try.underlying63 HI0.out HZ0.out HZ1.out rfl HZ2.out (Nat.succ_pos _) (.slice O' (k + 1) cap') (k + 1) (cellsF (o ++ [f])) rfl (OB.out _) (w1.heap.size + 1) (some ⟨w1.heap.size, 0, none⟩) 1 1 x.arr.toList rfl W2.out (ONE.out x) H64.out HBZ.out (BT.out _) ?_); intro v2 w2 hown2 hg2 hat2; rw [cellsF_snoc] at hown2; have O2 := Lib.hid hown2; have G2 := Lib.hid ((G1.out.alloc G1.out.size _).grown hg2 (BT.out _) (fun k hk => (O1.out.lt k hk).1)); clear hown2 hg2 hat2))
            obtain ⟨O2', cap2, rfl, _, _⟩ := own_form O2.out
            go_roundw
            case rel => exact ⟨i + 1, O2', k + 1 + 1, cap2, _, o ++ [f] ++ [x], by omega, rfl, rfl, by go_num, NX.out.trans (by simp), by rw [List.length_append, List.length_append, HOK.out]; rfl, by omega, O2.out, G2.out⟩
            case measure => simp [intOf] <;> omega
    · obtain rfl : i = n := by omega
      have hd : decide ((i : Int) < i) = false := by simp
      have HF := Lib.hid (show endPut f (o, d) = putF f L by
        have := put_steps f L [] hS
        rw [List.nil_append] at this
        rw [← this, ← HST.out, List.take_of_length_le (by rw [HN.out]; exact Nat.le_refl _)])
      have HFF := Lib.hid HF
      have HGW := Lib.hid (HBW.out.trans (HB.out.mono (by omega : w.heap.size ≤ W0.heap.size)))
      have OA := Lib.hid (fun ob => own_alloc HOW.out ob)
      have W1 := Lib.hid (row_rdR wr f.arr 3 (Fi.arr_size _) 69)
      have BS := Lib.hid (fun ob => show W0.heap.size ≤ (wr.alloc ob).heap.size by simp; omega)
      have HGR := Lib.hid (fun ob w1 (hg : (wr.alloc ob).grownBy w1 (Value.slice O k cap).ownBlock) => (HB.out.alloc hsz ob).grown hg (BS.out ob) (fun k hk => (HOW.out.lt k hk).1))
      have H63 := Lib.hid (show k + 1 ≤ maxLen by unfold maxLen; omega)
      have HBY := Lib.hid (show (k + 1) * i0.bytes ≤ 140737488355328 from Nat.le_trans (Nat.mul_le_mul (show k + 1 ≤ 100002 by omega) HZB.out) (by omega))
      have ONE := Lib.hid (fun y : Fi => show ∀ u ∈ y.arr.toList, u.oneCell' = true by simp [Fi.arr, Value.oneCell'])
      clear HF
      cases d with
      | true =>
        have HE := Lib.hid (show o = putF f L from HFF.out)
        have FIN := Lib.hid (putP_of (w := w) (HB0.out.below HB.out HB0.out.lt) (M := putF f L) (by rw [← HE.out]; exact HOW.out) (by rw [← HE.out]; exact HOK.out) (by omega) (by omega) HGW.out)
        go_wp2
        go_end0
        exact FIN.out
      | false =>
        have HE := Lib.hid (show o ++ [f] = putF f L from HFF.out)
        go_wp2_with (at_builtin; (refine wpList_app_rd _ rfl (.tmp 58) (.tmp 60) _ rfl W0.heap.size 69 i0 (.agg noFi.arr) 3 i0.bytes Try.underlying63 HI0.out HZ0.out HZ1.out rfl HZ2.out (Nat.succ_pos _) (.slice O k cap) k (cellsF o) rfl (OA.out _) (wr.heap.size + 1) (some ⟨wr.heap.size, 0, none⟩) 1 1 f.arr.toList rfl W1.out (ONE.out f) H63.out HBY.out (BS.out _) ?_); intro v1 w1 hown1 hg1 hat1; obtain ⟨O', cap', rfl, _, _⟩ := own_form hown1; rw [cellsF_snoc] at hown1; have O1 := Lib.hid hown1; have G1 := Lib.hid (HGR.out _ _ hg1); clear hown1 hg1 hat1 f1 f2 f3 f4 g1 g2 g3 g4; obtain ⟨f1, f2, f3, f4⟩ := (HB0.out.below G1.out HB0.out.lt).facts)
        have FIN := Lib.hid (putP_of (w := w) (HB0.out.below G1.out HB0.out.lt) (M := putF f L) (by rw [← HE.out]; exact O1.out) (by rw [← HE.out, List.length_append, HOK.out]; rfl) (by omega) (by omega) (HBW.out.trans (G1.out.mono (by omega : w.heap.size ≤ W0.heap.size))))
        go_end0
        exact FIN.out
end Go.Proofs.Ytejjobbgceoljaa
