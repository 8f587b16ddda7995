/- The document's store: cut, the walk. -/
import Derived.Test.YtejjobbgceoljaaStH
import Derived.Laws.Rows
set_option linter.unusedSimpArgs false
set_option linter.unusedVariables false
namespace Go.Proofs.Ytejjobbgceoljaa
open Go.RowKit

/-- a file is answered; the box tells the list without it -/
def CutP (w : World) (p : Nat) (q fu : Int) (dn : Bool) (f : Fi) (M : List Fi) (e : Ending) (w' : World) : Prop :=
  e = .returned (.agg f.arr) ∧ ∃ A c, Box w' p (rfC q A M.length c fu dn) ∧ w'.ownsRow w.heap.size 69 3 (.slice A M.length c) M.length (cellsF M) ∧ w.grownBy w' (some p)
theorem cutP_of {w V : World} {p B k cap n c : Nat} {q fu : Int} {dn : Bool} {A O : Option Addr} {M : List Fi} {f : Fi} (hbox : Box V p (rfC q A n c fu dn)) (hres : Box V w.heap.size noFi.arr) (hown : V.ownsRow B 69 3 (.slice O k cap) k (cellsF M)) (hk : M.length = k) (hB : w.heap.size < B) (hp : p < w.heap.size) (hg : Below w.heap.size w V) :
    CutP w p q fu dn f M (.returned (.agg f.arr)) (setFi (V.setCell ⟨p, 1, none⟩ (.slice O k cap)) w.heap.size 0 f) ∧ Box (setFi (V.setCell ⟨p, 1, none⟩ (.slice O k cap)) w.heap.size 0 f) w.heap.size f.arr ∧ World.there (V.setCell ⟨p, 1, none⟩ (.slice O k cap)) w.heap.size 0 3 := by
  subst hk
  have hgr : w.grownBy V (some p) := ⟨hg.os, hg.tape, hg.output, hg.size, fun k hk _ => hg.block k hk⟩
  have hg1 := grown_setCells [.slice O M.length cap] 1 V hgr
  have hr1 : Box (V.setCell ⟨p, 1, none⟩ (.slice O M.length cap)) w.heap.size noFi.arr := hres.set_other ⟨p, 1, none⟩ _ (by show p ≠ w.heap.size; omega)
  have hb1 := hbox.set_same 1 (.slice O M.length cap)
  rw [rfC_set1] at hb1
  have ho1 := own_set hown (p := ⟨p, 1, none⟩) (show p < B by omega) (.slice O M.length cap)
  have hgs := setFi_grown (w := V.setCell ⟨p, 1, none⟩ (.slice O M.length cap)) (g := w.heap.size) (World.grownBy.refl _ _) 0 f
  refine ⟨⟨rfl, O, cap, hb1.putFi_other f (by omega), own_less (ho1.kept hgs ?_) (by omega), ⟨?_, ?_, ?_, ?_, ?_⟩⟩, hr1.putFi (Fi.arr_size _) f, hr1.there 0 3 (by rw [Fi.arr_size]; omega)⟩
  · cases hv : (Value.slice O M.length cap).ownBlock with
    | none => exact .inl rfl
    | some k => exact .inr (fun e => by have h1 := (ho1.lt k hv).1; injection e with e; omega)
  · exact hgs.os.trans hg1.os
  · exact hgs.tape.trans hg1.tape
  · exact hgs.output.trans hg1.output
  · exact Nat.le_trans hg1.size hgs.size
  · intro k hk hne
    exact (hgs.block k (Nat.lt_of_lt_of_le hk hg1.size) (fun e => by injection e with e; omega)).trans (hg1.block k hk hne)
set_option maxRecDepth 100000 in
set_option maxHeartbeats 4000000 in
theorem cut_any (a : Nat) (p : Nat) (q fu : Int) (A : Option Addr) (n c : Nat) (dn : Bool) (L : List Fi) (w : World) (hB : Box w p (rfC q A n c fu dn)) (hR : RdF w w.heap.size A n L) (hn : n ≤ 10000) (ha : a < n) :
    Calls Try.prog 44 #[.pointer (some ⟨p, 0, none⟩), .int .i64 a] w (CutP w p q fu dn (L.getD a noFi) (L.eraseIdx a)) := by
  have hl := hB.lt
  have HB1 := Lib.hid (hB.alloc (.cells noFi.arr 69))
  have HR1 := Lib.hid (hR.up (.cells noFi.arr 69))
  have HN := Lib.hid hR.1
  obtain ⟨i0, hi0, hz0, hz1, hzb⟩ := infoFi
  have HI0 := Lib.hid hi0
  have HZ0 := Lib.hid hz0
  have HZ1 := Lib.hid hz1
  have HZB := Lib.hid hzb
  have HZ2 := Lib.hid (show (Value.agg noFi.arr).cells.size = 3 by simp [Value.cells, Fi.arr_size])
  obtain ⟨b, oo, rfl, hbb, hh, hcl, _⟩ := HR1.out.fi ha
  obtain ⟨f, hf⟩ : ∃ f, f = L.getD a noFi := ⟨_, rfl⟩
  rw [← hf] at hcl ⊢
  have hai : (a : Int) < n := by omega
  obtain ⟨f1, f2, f3, f4⟩ := HB1.out.facts
  clear hB hR hi0 hz0 hz1 hzb hbb hf
  go_enter Try.func44, Try.ntmps44
  go_wp2
  obtain ⟨W0, hW0⟩ : ∃ W0, (w.alloc (.cells noFi.arr 69)).alloc (.cells f.arr 69) = W0 := ⟨_, rfl⟩
  have HB0 := Lib.hid (HB1.out.alloc (.cells f.arr 69))
  have HR := Lib.hid (HR1.out.up (.cells f.arr 69))
  have BRS := Lib.hid ((Box.new w noFi.arr 69).alloc (.cells f.arr 69))
  have BV := Lib.hid (Box.new1 w (.cells noFi.arr 69) f.arr 69)
  have HBW := Lib.hid (((Below.refl w.heap.size w).alloc (Nat.le_refl _) (.cells noFi.arr 69)).alloc (by simp) (.cells f.arr 69))
  have hsz0 : W0.heap.size = w.heap.size + 2 := by rw [← hW0]; simp
  rw [hW0] at HB0 HR BRS BV HBW ⊢
  clear hW0 HB1 HR1 f1 f2 f3 f4 hh hcl
  go_loopw [6, 7] (fun s6 s7 wr => ∃ (i : Nat) (O : Option Addr) (k cap : Nat), i ≤ n ∧ s6 = .slice O k cap ∧ s7 = .int .i64 i ∧ (cutL L a i).length = k ∧ wr.ownsRow W0.heap.size 69 3 (.slice O k cap) k (cellsF (cutL L a i)) ∧ Below W0.heap.size W0 wr) (fun _ s7 _ => n - (intOf s7).toNat)
  case atStart => exact ⟨0, none, 0, 0, by omega, rfl, rfl, by simp [cutL], by simpa [cellsF, cutL] using World.ownsRow_nil _ _ _ _, Below.refl _ _⟩
  case round =>
    obtain ⟨i, O, k, cap, hin, rfl, rfl, hok, how, hb⟩ := hrel
    have hk2 : k ≤ i := by rw [← hok]; exact cutL_len L a i
    have HOK := Lib.hid hok
    have HOW := Lib.hid how
    have HB := Lib.hid hb
    obtain ⟨f1, f2, f3, f4⟩ := (HB0.out.below hb HB0.out.lt).facts
    have hsz := hb.size
    clear hok how hb
    by_cases hlt : i < n
    · have hi : (i : Int) < n := by omega
      by_cases hq : i = a
      · subst hq
        have hz1 : ((i : Int) != i) = false := by simp
        have hz3 : decide ((i : Int) = i) = true := by simp
        have SK := Lib.hid (cutL_skip L i)
        go_wp2
        try go_quiet (fail)
        try go_wp2
        go_roundw
        case rel => exact ⟨i + 1, O, k, cap, by omega, rfl, by go_num, by rw [SK.out]; exact HOK.out, by rw [SK.out]; exact HOW.out, by first | exact HB.out | exact below_drewN HB.out _⟩
        case measure => simp [intOf] <;> omega
      · obtain ⟨b', o', e, _, hh, hcl, _⟩ := (HR.out.below HB.out).fi hlt
        injection e with e
        injection e with e1 e2
        subst e1 e2
        obtain ⟨x, hx⟩ : ∃ x, x = L.getD i noFi := ⟨_, rfl⟩
        rw [← hx] at hcl
        have NX := Lib.hid (cutL_next L a i (by rw [HN.out]; exact hlt) hq hx)
        have hz1 : ((i : Int) != a) = true := by simp; omega
        have hz2 : ((i : Int) == a) = false := by simp; omega
        have hz3 : decide ((i : Int) = a) = false := decide_eq_false (by omega)
        have OA := Lib.hid (fun ob => own_alloc HOW.out ob)
        have W1 := Lib.hid (row_rdR wr x.arr 3 (Fi.arr_size _) 69)
        have BS := Lib.hid (fun ob => show W0.heap.size ≤ (wr.alloc ob).heap.size by simp; omega)
        have HGR := Lib.hid (fun ob w1 (hg : (wr.alloc ob).grownBy w1 (Value.slice O k cap).ownBlock) => (HB.out.alloc hsz ob).grown hg (BS.out ob) (fun k hk => (HOW.out.lt k hk).1))
        have H63 := Lib.hid (show k + 1 ≤ maxLen by unfold maxLen; omega)
        have HBY := Lib.hid (show (k + 1) * i0.bytes ≤ 140737488355328 from Nat.le_trans (Nat.mul_le_mul (show k + 1 ≤ 100002 by omega) HZB.out) (by omega))
        have ONE := Lib.hid (fun y : Fi => show ∀ u ∈ y.arr.toList, u.oneCell' = true by simp [Fi.arr, Value.oneCell'])
        clear hx
        go_wp2_with (at_builtin; (refine wpList_app_rd _ rfl (.tmp 27) (.tmp 35) _ rfl W0.heap.size 69 i0 (.agg noFi.arr) 3 i0.bytes Try.underlying63 HI0.out HZ0.out HZ1.out rfl HZ2.out (Nat.succ_pos _) (.slice O k cap) k (cellsF (cutL L a i)) rfl (OA.out _) (wr.heap.size + 1) (some ⟨wr.heap.size, 0, none⟩) 1 1 x.arr.toList rfl W1.out (ONE.out x) H63.out HBY.out (BS.out _) ?_); intro v1 w1 hown1 hg1 hat1; rw [cellsF_snoc, ← NX.out] at hown1; obtain ⟨O', cap', rfl, _, _⟩ := own_form hown1; have O1 := Lib.hid hown1; have G1 := Lib.hid (HGR.out _ _ hg1); clear hown1 hg1 hat1)
        go_roundw
        case rel => exact ⟨i + 1, O', k + 1, cap', by omega, rfl, by go_num, by rw [NX.out, List.length_append, HOK.out]; rfl, O1.out, G1.out⟩
        case measure => simp [intOf] <;> omega
    · obtain rfl : i = n := by omega
      have hd : decide ((i : Int) < i) = false := by simp
      have HE := Lib.hid (show cutL L a i = L.eraseIdx a by rw [← HN.out]; exact cutL_all L a (by rw [HN.out]; exact ha))
      have CP := cutP_of (w := w) (f := f) (HB0.out.below HB.out HB0.out.lt) (BRS.out.below HB.out BRS.out.lt) (M := L.eraseIdx a) (by rw [← HE.out]; exact HOW.out) (by rw [← HE.out]; exact HOK.out) (by omega) hl (HBW.out.trans (HB.out.mono (by omega)))
      obtain ⟨CP1, CP2, CP3⟩ := CP
      have bv := (BV.out.below HB.out BV.out.lt).set_other ⟨p, 1, none⟩ (.slice O k cap) (show p ≠ w.heap.size + 1 by omega)
      obtain ⟨g1, g2, g3, g4⟩ := bv.facts
      have C1 := Lib.hid CP1
      have C2 := Lib.hid CP2
      clear CP1 CP2 bv
      go_wp2
      obtain ⟨tt, ht⟩ := C2.out
      refine bodyPost_ret (results_cell_row rfl _ _ w.heap.size tt f.arr (0, 0) _ rfl ht Try.underlying69 rfl (by rw [Fi.arr_size]; kernel_rfl)) rfl ?_
      exact C1.out
end Go.Proofs.Ytejjobbgceoljaa
