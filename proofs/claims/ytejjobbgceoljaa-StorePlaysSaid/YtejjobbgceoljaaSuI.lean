/- StoreKeeps. -/
import Derived.Test.YtejjobbgceoljaaSuG
set_option linter.unusedSimpArgs false
set_option linter.unusedVariables false
namespace Go.Proofs.Ytejjobbgceoljaa
open Go.ChangeShapes Go.WideShapes Go.ChangeAt Go.RowKit

theorem text_app (a b : List UInt8) : textOf a ++ textOf b = textOf (a ++ b) := by
  apply ByteArray.ext
  simp [textOf]
/-- a store in a law, its blocks named -/
def AwF (F : List Nat) (w W : World) (p : Nat) (L : List Fi) : Prop := PgS F W p 100000 L (-1) false ∧ (∀ b ∈ F, w.heap.size ≤ b) ∧ Below w.heap.size w W
section
variable {F : List Nat} {w W : World} {p : Nat} {L : List Fi}
theorem AwF.go {W' : World} (h : AwF F w W p L) (hb : Below W.heap.size W W') : AwF F w W' p L := ⟨PgS.go h.1 hb, h.2.1, below2 h.2.2 hb⟩
theorem AwF.set (h : AwF F w W p L) (a : Addr) (u : Value) (hF : a.block ∉ F) (hw : w.heap.size ≤ a.block) : AwF F w (W.setCell a u) p L :=
  ⟨h.1.agree (fun g hg => Below.heap_setCell W a u g (fun e => hF (e ▸ hg))), h.2.1, h.2.2.setCell hw u⟩
theorem AwF.drewN (h : AwF F w W p L) (n : Nat) : AwF F w (W.drewN n) p L := ⟨h.1.agree (fun _ _ => rfl), h.2.1, below_drewN h.2.2 n⟩
theorem AwF.of_pg {L' : List Fi} {v : Value} {e : Ending} {W' : World} (h : AwF F w W p L) (hP : PgP F W p 100000 L' (-1) false v e W') : e = .returned v ∧ ∃ F', AwF F' w W' p L' ∧ Frm F W W' ∧ (∀ b ∈ F', b ∈ F ∨ W.heap.size ≤ b) := by
  obtain ⟨h1, F', h2, h3, h4⟩ := hP
  exact ⟨h1, F', ⟨h2, fun b hb' => by
    rcases h4 b hb' with h' | h'
    · exact h.2.1 b h'
    · exact Nat.le_trans h.2.2.size h', h.2.2.trans (h3.to_below h.2.1 h.2.2.size)⟩, h3, h4⟩
end
/-- cells from i on stand as they were, in a block that may be written -/
def Left (W : World) (g n i : Nat) (f : Nat → Value) : Prop := ∀ j, i ≤ j → j < n → W.cell? ⟨g, j, none⟩ = some (f j) ∧ W.frozen? ⟨g, j, none⟩ = false
theorem frozen_set (W : World) (a b : Addr) (v : Value) : (W.setCell a v).frozen? b = W.frozen? b := by
  by_cases h : b.block = a.block
  · unfold World.frozen? World.setCell
    rw [Array.getElem?_modify, if_pos h.symm]
    cases W.heap[b.block]? with
    | none => rfl
    | some o => cases o <;> rfl
  · unfold World.frozen?
    rw [Below.heap_setCell W a v b.block h]
theorem Left.next {W : World} {g n i : Nat} {f : Nat → Value} (h : Left W g n i f) (v : Value) : Left (W.setCell ⟨g, i, none⟩ v) g n (i + 1) f := fun j hj hn => by
  obtain ⟨h1, h2⟩ := h j (by omega) hn
  exact ⟨by rw [World.cell?_setCell_other _ _ _ _ (fun e => by injection e with _ e; omega)]; exact h1, by rw [frozen_set]; exact h2⟩
theorem Left.of_own {W : World} {base n c g : Nat} {e : TypeId} {xs : List Value} {f : Nat → Value} (h : W.ownsRow base e 1 (.slice (some ⟨g, 0, none⟩) n c) n xs) (hf : ∀ j, j < n → xs[j]? = some (f j)) : Left W g n 0 f := fun j _ hj => by
  rcases h.2 with ⟨hv, _⟩ | ⟨g', cap, cur, hv, _, hg, h1, _, h3, h4⟩
  · cases hv
  · injection hv with hv _ _
    injection hv with hv
    injection hv with hv _
    subst hv
    have hc : cur[j]? = some (f j) := by
      have := hf j hj
      rw [← h4, List.getElem?_take, if_pos (by omega)] at this
      simpa using this
    exact ⟨by rw [cell_of_row W g j cur e (0, 0) hg]; exact hc, by simp [World.frozen?, hg]⟩
/-- where an own row lies, if it has a place -/
theorem own_at_ {W : World} {base n c : Nat} {e : TypeId} {A : Option Addr} {xs : List Value} (h : W.ownsRow base e 1 (.slice A n c) n xs) : ∃ g, (0 < n → A = some ⟨g, 0, none⟩ ∧ base ≤ g ∧ g < W.heap.size) := by
  rcases h.2 with ⟨_, h0⟩ | ⟨g, cap, cur, hv, hb, hg, _⟩
  · exact ⟨0, fun h => by omega⟩
  · injection hv with hv _ _
    exact ⟨g, fun _ => ⟨hv, hb, (Array.getElem?_eq_some_iff.1 hg).1⟩⟩
theorem own_pos {W : World} {base n c : Nat} {e : TypeId} {A : Option Addr} {xs : List Value} (h : W.ownsRow base e 1 (.slice A n c) n xs) {g : Nat} (hg : (Value.slice A n c).ownBlock = some g) : ∃ a, A = some a ∧ a.block = g := by
  cases A with
  | none => cases hg
  | some a => exact ⟨a, rfl, by simpa [Value.ownBlock] using hg⟩
theorem own_frm {F : List Nat} {W W' : World} {base size n : Nat} {e : TypeId} {v : Value} {xs : List Value} (h : W.ownsRow base e size v n xs) (hf : Frm F W W') (hn : ∀ g, v.ownBlock = some g → g ∉ F) : W'.ownsRow base e size v n xs := by
  refine ⟨h.1, ?_⟩
  rcases h.2 with h0 | ⟨g, cap, cur, hv, hb, hg, r⟩
  · exact .inl h0
  · exact .inr ⟨g, cap, cur, hv, hb, (hf.block g (Array.getElem?_eq_some_iff.1 hg).1 (hn g (by rw [hv]; rfl))).trans hg, r⟩
theorem own_addr' {W : World} {base n c : Nat} {e : TypeId} {A : Option Addr} {xs : List Value} (h : W.ownsRow base e 1 (.slice A n c) n xs) (hn : 0 < n) : ∃ g, A = some ⟨g, 0, none⟩ := by
  rcases h.2 with ⟨_, h0⟩ | ⟨g, cap, cur, hv, _⟩
  · omega
  · injection hv with hv _ _; exact ⟨g, hv⟩
theorem bv_at {l : List UInt8} {n : Nat} (hn : l.length = n) : ∀ j, j < n → (l.map bv)[j]? = some (bv (l.getD j 0)) := fun j hj => by
  rw [List.getElem?_map, List.getElem?_eq_getElem (by omega), List.getD_eq_getElem?_getD, List.getElem?_eq_getElem (by omega)]; rfl
theorem ints_cells (ks : List Int) : (ks.flatMap fun x => (i64A x).toList) = ks.map (Value.int .i64) := by
  induction ks with
  | nil => rfl
  | cons x l ih => rw [List.flatMap_cons, ih]; rfl
def oneF (b : List UInt8) (s : Int) : List Fi := [⟨[97], b, s⟩]
theorem app_one (b : List UInt8) : appF [] [97] b (0, -1, false) = oneF b 0 := rfl
theorem app_two (b c : List UInt8) : appF (oneF b 0) [97] c (0, -1, false) = oneF (b ++ c) 0 := rfl
theorem syn_one (b : List UInt8) : synF (oneF b 0) [97] (0, -1, false) = oneF b (b.length : Nat) := rfl
theorem cr_one (b : List UInt8) (ks : List Int) : crL (oneF b (b.length : Nat)) ks = oneF b (b.length : Nat) := by
  have h : moreF ⟨[97], b, (b.length : Nat)⟩ ks[0]? = 0 := by
    unfold moreF
    cases ks[0]? with
    | none => rfl
    | some z => dsimp only; omega
  show [crX ⟨[97], b, (b.length : Nat)⟩ ks[0]?] = _
  unfold crX oneF
  rw [h]
  simp
theorem read_one (b : List UInt8) (s : Int) : readV (oneF b s) [97] false = (b, 0) := rfl
theorem why_one {L : List Fi} {n : Nat} (h : (sumF L : Int) + n ≤ 100000) : endsF (whyApp 100000 L [97] n) (-1) false = (0, -1, false) := by
  rw [show whyApp 100000 L [97] n = 0 by unfold whyApp; rw [if_neg (by decide), if_neg (by omega)]]; rfl
attribute [local go_sem] text_app
set_option maxHeartbeats 8000000 in
set_option maxRecDepth 100000 in
theorem storeKeeps_walk (A : Option Addr) (n c : Nat) (b : List UInt8) (A2 : Option Addr) (n2 c2 : Nat) (b2 : List UInt8) (A3 : Option Addr) (n3 c3 : Nat) (ks : List Int) (w : World)
    (hR : RdY w w.heap.size A n b) (hR2 : RdY w w.heap.size A2 n2 b2) (hR3 : RdZ w w.heap.size A3 n3 ks) (hn : n ≤ 9223372036854775807) (hn2 : n2 ≤ 9223372036854775807) (hn3 : n3 ≤ 9223372036854775807) :
    Calls Try.prog 8 #[.slice A n c, .slice A2 n2 c2, .slice A3 n3 c3] w fun e w' => e = .returned (.bool true) ∧ Below w.heap.size w w' := by
  have R1 := Lib.hid (RdR.toB hR)
  have R2 := Lib.hid (RdR.toB hR2)
  have R3 := Lib.hid hR3
  have hbl := (RdR.toB hR).len
  have hbl2 := (RdR.toB hR2).len
  have hkl := hR3.1
  have kc := fun (w : World) (C : Array Value) (n c : Nat) => Lib.run_convert_bytes_const (P := Try.prog) w 32 5 C n c Try.underlying32 Try.underlying5
  have CV := Lib.hid (fun (W : World) (A : Option Addr) (n c : Nat) (l : List UInt8) (h : RdB W W.heap.size A n l) => run_bytes_text (P := Try.prog) h 32 5 9 Try.underlying32 Try.underlying5 Try.underlying9 c)
  clear hR hR2 hR3 kc
  by_cases g1 : 1000 < n
  · have d1 : decide ((1000 : Int) < (n : Int)) = true := decide_eq_true (by omega)
    go_enter Try.func8, Try.ntmps8
    go_wp2_with fail
    refine (awake_any _).mono ?_
    rintro e w1 ⟨rfl, hb1⟩
    have HB1 := Lib.hid hb1
    clear hb1
    go_wp2_with fail
    refine (awake_any _).mono ?_
    rintro e w9 ⟨rfl, hb9⟩
    have HB9 := Lib.hid (below2 HB1.out hb9)
    clear hb9
    go_wp2
    go_ret
    exact ⟨rfl, HB9.out⟩
  have d1 : decide ((1000 : Int) < (n : Int)) = false := decide_eq_false (by omega)
  by_cases g2 : 1000 < n2
  · have d2 : decide ((1000 : Int) < (n2 : Int)) = true := decide_eq_true (by omega)
    go_enter Try.func8, Try.ntmps8
    go_wp2_with fail
    refine (awake_any _).mono ?_
    rintro e w1 ⟨rfl, hb1⟩
    have HB1 := Lib.hid hb1
    clear hb1
    go_wp2_with fail
    refine (awake_any _).mono ?_
    rintro e w9 ⟨rfl, hb9⟩
    have HB9 := Lib.hid (below2 HB1.out hb9)
    clear hb9
    go_wp2
    go_ret
    exact ⟨rfl, HB9.out⟩
  have d2 : decide ((1000 : Int) < (n2 : Int)) = false := decide_eq_false (by omega)
  by_cases g3 : 100 < n3
  · have d3 : decide ((100 : Int) < (n3 : Int)) = true := decide_eq_true (by omega)
    go_enter Try.func8, Try.ntmps8
    go_wp2_with fail
    refine (awake_any _).mono ?_
    rintro e w1 ⟨rfl, hb1⟩
    have HB1 := Lib.hid hb1
    clear hb1
    go_wp2_with fail
    refine (awake_any _).mono ?_
    rintro e w9 ⟨rfl, hb9⟩
    have HB9 := Lib.hid (below2 HB1.out hb9)
    clear hb9
    go_wp2
    go_ret
    exact ⟨rfl, HB9.out⟩
  have d3 : decide ((100 : Int) < (n3 : Int)) = false := decide_eq_false (by omega)
  obtain ⟨i0, hi0, hi1, hi2, hi3⟩ := infoU8
  obtain ⟨j0, hj0, hj1, hj2, hj3⟩ := infoI
  have HI0 := Lib.hid hi0
  have HI1 := Lib.hid hi1
  have HI2 := Lib.hid hi2
  have HJ0 := Lib.hid hj0
  have HJ1 := Lib.hid hj1
  have HJ2 := Lib.hid hj2
  have H63 := Lib.hid (show 0 + n ≤ maxLen by unfold maxLen; omega)
  have HBY := Lib.hid (show (0 + n) * i0.bytes ≤ 140737488355328 from Nat.le_trans (Nat.mul_le_mul (show 0 + n ≤ 1000 by omega) hi3) (by omega))
  have H632 := Lib.hid (show 0 + n2 ≤ maxLen by unfold maxLen; omega)
  have HBY2 := Lib.hid (show (0 + n2) * i0.bytes ≤ 140737488355328 from Nat.le_trans (Nat.mul_le_mul (show 0 + n2 ≤ 1000 by omega) hi3) (by omega))
  have H633 := Lib.hid (show 0 + n3 ≤ maxLen by unfold maxLen; omega)
  have HBY3 := Lib.hid (show (0 + n3) * j0.bytes ≤ 140737488355328 from Nat.le_trans (Nat.mul_le_mul (show 0 + n3 ≤ 1000 by omega) hj3) (by omega))
  have OL := Lib.hid (fun (W : World) (t : TypeId) => show (W.alloc (.cells #[] t)).ownsRow W.heap.size t 1 (.slice (some ⟨W.heap.size, 0, none⟩) 0 0) 0 [] from World.ownsRow_lit W #[] 0 (Nat.le_refl _) (by unfold maxLen; omega) rfl)
  have ON := Lib.hid (bvs_one b)
  have ON2 := Lib.hid (bvs_one b2)
  have ONK := Lib.hid (show ∀ u ∈ ks.map (Value.int .i64), u.oneCell' = true from fun u hu => by
    obtain ⟨z, _, rfl⟩ := List.mem_map.1 hu; rfl)
  have EK := Lib.hid (ints_cells ks)
  have ALB := Lib.hid (fun (W W' : World) (t : TypeId) (hg : (W.alloc (.cells #[] t)).grownBy W' (Value.slice (some ⟨W.heap.size, 0, none⟩) 0 0).ownBlock) => show Below W.heap.size W W' from gb_below ((Below.refl W.heap.size W).alloc (Nat.le_refl _) (.cells #[] t)) hg (Nat.le_refl _) (by simp))
  have hnb1 : n ≤ 1000 := by omega
  have hnb2 : n2 ≤ 1000 := by omega
  have hnb3 : n3 ≤ 100 := by omega
  have hadd : ∀ W, (Op.stringOp .add (textOf b) (textOf b2)).run Try.prog W = .ok (.string (textOf (b ++ b2))) W := fun W => by
    rw [run_string_add_sum W (textOf b) (textOf b2) (by rw [textOf_size, textOf_size]; omega), text_app]
  have hsz1 : (b.length : Int) + b2.length ≤ 9223372036854775807 := by omega
  have hsz2 : b.length + b2.length ≤ 9223372036854775807 := by omega
  clear hi0 hi1 hi2 hi3 hj0 hj1 hj2 hj3 g1 g2 g3
  go_enter Try.func8, Try.ntmps8
  go_wp2_with fail
  refine (awake_any _).mono ?_
  rintro e w1 ⟨rfl, hb1⟩
  have HB1 := Lib.hid hb1
  clear hb1
  go_wp2_with fail
  refine (new_any 100000 w1 (by decide)).mono ?_
  rintro e w2 ⟨p, F2, rfl, hP2, hb2, hF2⟩
  have A2' := Lib.hid (show AwF F2 w w2 p [] from ⟨hP2, fun g hg => Nat.le_trans HB1.out.size (hF2 g hg), below2 HB1.out hb2⟩)
  have RX := Lib.hid ((R1.out.to A2'.out.2.2 (Nat.le_refl _)).alloc A2'.out.2.2.size (.cells #[] 5))
  clear hP2 hb2 hF2
  go_wp2_with (first
    | (at_builtin; refine wpList_app_rd _ rfl (.tmp 45) (.tmp 46) _ rfl w2.heap.size 5 i0 (.int .u8 0) 1 i0.bytes Try.underlying32 HI0.out HI1.out HI2.out rfl rfl (Nat.succ_pos _) (.slice (some ⟨w2.heap.size, 0, none⟩) 0 0) 0 [] rfl (OL.out w2 _) w.heap.size A n c (b.map bv) rfl RX.out ON.out H63.out HBY.out (by simp) ?_; intro v1 w3 hown1 hg1 hat1; rw [Nat.zero_add, List.nil_append] at hown1; obtain ⟨Ax, cx, rfl, _, _⟩ := own_form hown1; have OX := Lib.hid hown1; have B23 := Lib.hid (ALB.out w2 w3 _ hg1); have A3' := Lib.hid (A2'.out.go (ALB.out w2 w3 _ hg1)); have RY := Lib.hid ((R2.out.to A3'.out.2.2 (Nat.le_refl _)).alloc A3'.out.2.2.size (.cells #[] 5)); clear hown1 hg1 hat1)
    | (at_builtin; refine wpList_app_rd _ rfl (.tmp 48) (.tmp 49) _ rfl w3.heap.size 5 i0 (.int .u8 0) 1 i0.bytes Try.underlying32 HI0.out HI1.out HI2.out rfl rfl (Nat.succ_pos _) (.slice (some ⟨w3.heap.size, 0, none⟩) 0 0) 0 [] rfl (OL.out w3 _) w.heap.size A2 n2 c2 (b2.map bv) rfl RY.out ON2.out H632.out HBY2.out (by simp) ?_; intro v1 w4 hown1 hg1 hat1; rw [Nat.zero_add, List.nil_append] at hown1; obtain ⟨Ay, cy, rfl, _, _⟩ := own_form hown1; have OY := Lib.hid hown1; have B34 := Lib.hid (ALB.out w3 w4 _ hg1); have A4' := Lib.hid (A3'.out.go (ALB.out w3 w4 _ hg1)); clear hown1 hg1 hat1))
  have OX4 := Lib.hid (own_below OX.out B34.out)
  have s23 := B23.out.size
  have s34 := B34.out.size
  have lX := Lib.hid OX.out.lt
  have lY := Lib.hid OY.out.lt
  have nX := Lib.hid (show ∀ g, (Value.slice Ax n cx).ownBlock = some g → g ∉ F2 from fun g hg hm => by
    have := lX.out g hg
    have := A2'.out.1.lt g hm
    omega)
  have nY := Lib.hid (show ∀ g, (Value.slice Ay n2 cy).ownBlock = some g → g ∉ F2 from fun g hg hm => by
    have := lY.out g hg
    have := A2'.out.1.lt g hm
    omega)
  have AP1 := Lib.hid (append_any F2 p 100000 (-1) false [] [97] b Ax n cx w4 A4'.out.1 (by decide) (by simp) (RdB.of_own OX4.out) (fun _ a ha => nX.out _ (by rw [ha]; rfl)) hn (0, -1, false) (why_one (by simp [sumF]; omega)))
  rw [app_one] at AP1
  go_wp2_with fail
  refine AP1.out.mono ?_
  intro e w5 hP5
  obtain ⟨rfl, F5, hA5, hf5, hs5⟩ := A4'.out.of_pg hP5
  have A5 := Lib.hid hA5
  have s45 := hf5.size
  have OX5 := Lib.hid (own_frm OX4.out hf5 nX.out)
  have OY5 := Lib.hid (own_frm OY.out hf5 nY.out)
  have nX5 := Lib.hid (show ∀ g, (Value.slice Ax n cx).ownBlock = some g → g ∉ F5 from fun g hg hm => by
    have := lX.out g hg
    rcases hs5 g hm with h | h
    · exact nX.out g hg h
    · omega)
  have nY5 := Lib.hid (show ∀ g, (Value.slice Ay n2 cy).ownBlock = some g → g ∉ F5 from fun g hg hm => by
    have := lY.out g hg
    rcases hs5 g hm with h | h
    · exact nY.out g hg h
    · omega)
  clear hP5 hA5 hf5 hs5
  have AP2 := Lib.hid (append_any F5 p 100000 (-1) false (oneF b 0) [97] b2 Ay n2 cy w5 A5.out.1 (by decide) (by simp [oneF]) (RdB.of_own OY5.out) (fun _ a ha => nY5.out _ (by rw [ha]; rfl)) hn2 (0, -1, false) (why_one (by simp [sumF, oneF]; omega)))
  rw [app_two] at AP2
  go_wp2_with fail
  refine AP2.out.mono ?_
  intro e w6 hP6
  obtain ⟨rfl, F6, hA6, hf6, hs6⟩ := A5.out.of_pg hP6
  have A6 := Lib.hid hA6
  have s56 := hf6.size
  have OX6 := Lib.hid (own_frm OX5.out hf6 nX5.out)
  have OY6 := Lib.hid (own_frm OY5.out hf6 nY5.out)
  have nX6 := Lib.hid (show ∀ g, (Value.slice Ax n cx).ownBlock = some g → g ∉ F6 from fun g hg hm => by
    have := lX.out g hg
    rcases hs6 g hm with h | h
    · exact nX5.out g hg h
    · omega)
  clear hP6 hA6 hf6 hs6
  have cvx := CV.out w6 Ax n cx b (RdB.of_own OX6.out)
  have cvy := CV.out w6 Ay n2 cy b2 (RdB.of_own OY6.out)
  have cvb := CV.out w6 A n c b ((R1.out.to A6.out.2.2 (Nat.le_refl _)).more A6.out.2.2.size)
  have cvc := CV.out w6 A2 n2 c2 b2 ((R2.out.to A6.out.2.2 (Nat.le_refl _)).more A6.out.2.2.size)
  have s02 := A2'.out.2.2.size
  have LX := Lib.hid (show ∀ g, Ax = some ⟨g, 0, none⟩ → Left w6 g n 0 (fun j => bv (b.getD j 0)) from fun g hg => by
    have h := OX6.out
    rw [hg] at h
    exact Left.of_own h (bv_at hbl))
  have PX := Lib.hid (fun h0 : 0 < n => own_addr' OX6.out h0)
  go_wp2
  go_loopw [11] (fun s11 wr => ∃ i : Nat, i ≤ n ∧ s11 = .int .i64 i ∧ AwF F6 w wr p (oneF (b ++ b2) 0) ∧ (∀ g, Ax = some ⟨g, 0, none⟩ → Left wr g n i (fun j => bv (b.getD j 0)))) (fun s11 _ => n - (intOf s11).toNat)
  case atStart => exact ⟨0, by omega, rfl, A6.out, LX.out⟩
  case round =>
    obtain ⟨i, hin, rfl, hA, hLf⟩ := hrel
    have HA := Lib.hid hA
    have HL := Lib.hid hLf
    clear hA hLf cvx cvy cvb cvc
    by_cases hlt : i < n
    · have hi : (i : Int) < n := by omega
      obtain ⟨g, hg⟩ := PX.out (by omega)
      obtain ⟨q1, q2⟩ := HL.out g hg i (Nat.le_refl _) hlt
      have hgF := nX6.out g (by rw [hg]; rfl)
      have hgw := (lX.out g (by rw [hg]; rfl)).1
      have HGE := Lib.hid hg
      unfold bv at q1
      subst hg
      go_wp2
      go_roundw
      case rel => exact ⟨i + 1, by omega, by go_num, HA.out.set _ _ hgF (by show w.heap.size ≤ g; omega), fun g' hg' => by injection hg' with hg'; injection hg' with hg'; subst hg'; exact (HL.out g rfl).next _⟩
      case measure => simp [intOf] <;> omega
    · obtain rfl : i = n := by omega
      have hd : decide ((i : Int) < i) = false := by simp
      clear HL LX PX OX OX4 OX5 OX6 OY OY5 OY6 nX nX5 nX6 nY nY5 lX lY A2' A3' A4' A5 AP1 AP2
      have RD := Lib.hid (fun (F : List Nat) (W : World) (s : Int) (h : AwF F w W p (oneF (b ++ b2) s)) => by
        have h2 := read_any F p 100000 (-1) false (oneF (b ++ b2) s) [97] W h.1 (by decide)
        rw [read_one] at h2
        exact h2)
      have HLN := Lib.hid (show (b ++ b2).length = i + n2 by rw [List.length_append, hbl, hbl2])
      go_wp2_with fail
      refine (RD.out F6 _ 0 HA.out).mono ?_
      rintro e w7 ⟨Az, cz, rfl, ho7, hb7⟩
      dsimp only at ho7 ⊢
      have A7 := Lib.hid (HA.out.go hb7)
      have OZ := Lib.hid ho7
      have cvz := CV.out w7 Az _ cz (b ++ b2) (RdB.of_own ho7)
      have cvb := CV.out w7 A i c b ((R1.out.to A7.out.2.2 (Nat.le_refl _)).more A7.out.2.2.size)
      have cvc := CV.out w7 A2 n2 c2 b2 ((R2.out.to A7.out.2.2 (Nat.le_refl _)).more A7.out.2.2.size)
      have lZ := Lib.hid ho7.lt
      have fZ := Lib.hid (HA.out.1.lt)
      have s07 := HA.out.2.2.size
      clear ho7 hb7
      obtain ⟨nz, hnz⟩ : ∃ nz, (b ++ b2).length = nz := ⟨_, rfl⟩
      have HNZ := Lib.hid hnz
      rw [hnz] at OZ cvz lZ ⊢
      have LZ := Lib.hid (show ∀ g, Az = some ⟨g, 0, none⟩ → Left w7 g nz 0 (fun j => bv ((b ++ b2).getD j 0)) from fun g hg => by
        have h := OZ.out
        rw [hg] at h
        exact Left.of_own h (bv_at hnz))
      have PZ := Lib.hid (fun h0 : 0 < nz => own_addr' OZ.out h0)
      have hnzb : nz ≤ 2000 := by have := HLN.out; omega
      clear hnz
      have nZ := Lib.hid (show ∀ g, (Value.slice Az nz cz).ownBlock = some g → g ∉ F6 from fun g hg hm => by
        have := lZ.out g hg
        have := fZ.out g hm
        omega)
      go_wp2
      clear cvz cvb cvc
      go_loopw [14] (fun s14 wx => ∃ j : Nat, j ≤ nz ∧ s14 = .int .i64 j ∧ AwF F6 w wx p (oneF (b ++ b2) 0) ∧ (∀ g, Az = some ⟨g, 0, none⟩ → Left wx g nz j (fun j => bv ((b ++ b2).getD j 0)))) (fun s14 _ => nz - (intOf s14).toNat)
      case atStart => exact ⟨0, by omega, rfl, A7.out, LZ.out⟩
      case round =>
        obtain ⟨j, hjn, rfl, hA, hLf⟩ := hrel
        have HA := Lib.hid hA
        have HL := Lib.hid hLf
        clear hA hLf
        by_cases hlt : j < nz
        · have hj : (j : Int) < nz := by omega
          obtain ⟨g, hg⟩ := PZ.out (by omega)
          obtain ⟨q1, q2⟩ := HL.out g hg j (Nat.le_refl _) hlt
          have hgF := nZ.out g (by rw [hg]; rfl)
          have hgw := (lZ.out g (by rw [hg]; rfl)).1
          unfold bv at q1
          subst hg
          go_wp2
          go_roundw
          case rel => exact ⟨j + 1, by omega, by go_num, HA.out.set _ _ hgF (by show w.heap.size ≤ g; omega), fun g' hg' => by injection hg' with hg'; injection hg' with hg'; subst hg'; exact (HL.out g rfl).next _⟩
          case measure => simp [intOf] <;> omega
        · obtain rfl : j = nz := by omega
          have hd4 : decide ((j : Int) < j) = false := by simp
          clear HL LZ PZ OZ nZ lZ fZ A7
          have s10 := HA.out.2.2.size
          have f10 := Lib.hid HA.out.1.lt
          go_wp2_with fail
          refine (list_any F6 p 100000 (-1) false (oneF (b ++ b2) 0) _ HA.out.1 (by simp [oneF])).mono ?_
          rintro e w10 ⟨A15, c15, rfl, ho, hb⟩
          rw [show (namesF (oneF (b ++ b2) 0)).length = 1 from rfl] at ho
          rw [show (namesF (oneF (b ++ b2) 0)).length = 1 from rfl]
          have A10 := Lib.hid (HA.out.go hb)
          have lN := Lib.hid ho.lt
          obtain ⟨gn, rfl⟩ := own_addr' ho (by omega)
          have LN := Lib.hid (show Left w10 gn 1 0 (fun _ => .string (textOf [97])) from Left.of_own ho (fun j hj => by
            have : j = 0 := by omega
            subst this; rfl))
          have nN := Lib.hid (show gn ∉ F6 from fun hm => by
            have := lN.out gn rfl
            have := f10.out gn hm
            omega)
          have sN := (lN.out gn rfl).1
          clear ho hb
          go_wp2
          go_loopw [16] (fun s16 wx => ∃ t : Nat, t ≤ 1 ∧ s16 = .int .i64 t ∧ AwF F6 w wx p (oneF (b ++ b2) 0) ∧ Left wx gn 1 t (fun _ => .string (textOf [97]))) (fun s16 _ => 1 - (intOf s16).toNat)
          case atStart => exact ⟨0, by omega, rfl, A10.out, LN.out⟩
          case round =>
            obtain ⟨t, htn, rfl, hA, hLf⟩ := hrel
            have HA := Lib.hid hA
            have HL := Lib.hid hLf
            clear hA hLf
            by_cases ht : t < 1
            · obtain rfl : t = 0 := by omega
              obtain ⟨q1, q2⟩ := HL.out 0 (Nat.le_refl _) (by omega)
              go_wp2
              go_roundw
              case rel => exact ⟨1, by omega, by go_num, HA.out.set _ _ nN.out (by show w.heap.size ≤ gn; omega), HL.out.next _⟩
              case measure => simp [intOf] <;> omega
            · obtain rfl : t = 1 := by omega
              clear HL LN nN lN A10 f10
              have RK := Lib.hid (show Rd (wr.alloc (.cells #[] 3)) w.heap.size 1 A3 n3 (ks.map (Value.int .i64)) from by
                have h := ((R3.out.to HA.out.2.2 (Nat.le_refl _)).alloc HA.out.2.2.size (.cells #[] 3)).2.1
                rw [EK.out] at h
                exact h)
              have s11 := HA.out.2.2.size
              have f11 := Lib.hid HA.out.1.lt
              obtain ⟨w11, hw11⟩ : ∃ w11, w11 = wr := ⟨_, rfl⟩
              rw [← hw11] at HA RK s11 f11 ⊢
              clear hw11
              go_wp2_with (at_builtin; refine wpList_app_rd _ rfl (.tmp 116) (.tmp 117) _ rfl w11.heap.size 3 j0 (.int .i64 0) 1 j0.bytes Try.underlying33 HJ0.out HJ1.out HJ2.out rfl rfl (Nat.succ_pos _) (.slice (some ⟨w11.heap.size, 0, none⟩) 0 0) 0 [] rfl (OL.out w11 _) w.heap.size A3 n3 c3 (ks.map (Value.int .i64)) rfl RK.out ONK.out H633.out HBY3.out (by simp) ?_; intro v1 w12 hown1 hg1 hat1; rw [Nat.zero_add, List.nil_append, ← EK.out] at hown1; obtain ⟨A17, c17, rfl, _, _⟩ := own_form hown1; have OK := Lib.hid hown1; have A12 := Lib.hid (HA.out.go (ALB.out w11 w12 _ hg1)); clear hown1 hg1 hat1)
              have lK := Lib.hid OK.out.lt
              have nK := Lib.hid (show ∀ g, (Value.slice A17 n3 c17).ownBlock = some g → g ∉ F6 from fun g hg hm => by
                have := lK.out g hg
                have := f11.out g hm
                omega)
              have SYN := Lib.hid (sync_any F6 p 100000 (-1) false (oneF (b ++ b2) 0) [97] w12 A12.out.1 (by decide) (0, -1, false) rfl)
              rw [syn_one] at SYN
              refine SYN.out.mono ?_
              intro e w13 hP
              obtain ⟨rfl, F7, hA7, hf7, hs7⟩ := A12.out.of_pg hP
              have A13 := Lib.hid hA7
              have OK13 := Lib.hid (own_frm OK.out hf7 nK.out)
              have nK7 := Lib.hid (show ∀ g, (Value.slice A17 n3 c17).ownBlock = some g → g ∉ F7 from fun g hg hm => by
                have := lK.out g hg
                rcases hs7 g hm with h | h
                · exact nK.out g hg h
                · omega)
              have CRK := Lib.hid (crash_any F7 p 100000 (-1) false (oneF (b ++ b2) ((b ++ b2).length : Nat)) ks A17 n3 c17 w13 A13.out.1 (by simp [oneF]) (RdR.of_own hkl OK13.out) (fun _ a ha => nK7.out _ (by rw [ha]; rfl)) hn3)
              rw [cr_one] at CRK
              clear hP hA7 hf7 hs7
              go_wp2_with fail
              refine CRK.out.mono ?_
              intro e w14 hP
              obtain ⟨rfl, F8, hA8, hf8, hs8⟩ := A13.out.of_pg hP
              have A14 := Lib.hid hA8
              have RK14 := Lib.hid (show RdZ w14 w14.heap.size A17 n3 ks from RdR.of_own hkl (own_frm OK13.out hf8 nK7.out))
              clear hP hA8 hf8 hs8
              go_wp2
              go_loopw [18] (fun s18 wx => ∃ t : Nat, t ≤ n3 ∧ s18 = .int .i64 t ∧ AwF F8 w wx p (oneF (b ++ b2) ((b ++ b2).length : Nat)) ∧ Below w14.heap.size w14 wx) (fun s18 _ => n3 - (intOf s18).toNat)
              case atStart => exact ⟨0, by omega, rfl, A14.out, Below.refl _ _⟩
              case round =>
                obtain ⟨t, htn, rfl, hA, hbt⟩ := hrel
                have HA := Lib.hid hA
                have HBT := Lib.hid hbt
                clear hA hbt
                by_cases ht : t < n3
                · have hti : (t : Int) < n3 := by omega
                  obtain ⟨kb, ko, rfl, _, q1⟩ := (RK14.out.to HBT.out (Nat.le_refl _)).int ht
                  obtain ⟨lb, lo, rfl, _, q2⟩ := (R3.out.to HA.out.2.2 (Nat.le_refl _)).int ht
                  go_wp2
                  go_quiet (fail)
                  go_wp2
                  go_roundw
                  case rel => exact ⟨t + 1, by omega, by go_num, HA.out.drewN _, below_drewN HBT.out _⟩
                  case measure => simp [intOf] <;> omega
                · obtain rfl : t = n3 := by omega
                  have hd5 : decide ((t : Int) < t) = false := by simp
                  go_wp2_with fail
                  refine (RD.out F8 _ _ HA.out).mono ?_
                  rintro e w15 ⟨Au, cu, rfl, ho, hb⟩
                  dsimp only at ho ⊢
                  have A15' := Lib.hid (HA.out.go hb)
                  have cvz := CV.out w15 Au _ cu (b ++ b2) (RdB.of_own ho)
                  have cvb := CV.out w15 A i c b ((R1.out.to A15'.out.2.2 (Nat.le_refl _)).more A15'.out.2.2.size)
                  have cvc := CV.out w15 A2 n2 c2 b2 ((R2.out.to A15'.out.2.2 (Nat.le_refl _)).more A15'.out.2.2.size)
                  rw [HNZ.out] at cvz ⊢
                  have FIN := Lib.hid A15'.out.2.2
                  clear ho hb
                  go_wp2
                  go_ret
                  exact ⟨rfl, FIN.out⟩
set_option maxRecDepth 100000 in
theorem storeKeeps_lifted (os : Os) (started : os.Started) (H : Type) (enc : TypeId × Value → H) :
    ReturnsInHanded {} Try.checked os 8 .any (Rows.storeKeepsSpec.pre6 enc Try.prog Try.f8 Rows.storeKeepsRow.domain false) (Rows.storeKeepsSpec.post enc Try.prog Try.f8 false true false false) := by
  refine returnsInHanded_of_change (C := Try.checked) own started (by kernel_rfl) Try.func8
    (ChangeSpec.witness6 (enc := enc) (C := Try.checked) false ⟨#[], #[.slice none 0 0, .slice none 0 0, .slice none 0 0], []⟩ 8 (by kernel_rfl) (by kernel_rfl) (by kernel_rfl) (by kernel_rfl)) ?_
  intro W base args ds gs before hval0 hW hcnd _
  have hval : ∀ (j : Nat) t v, Try.f8.params[j]? = some t → args[j]? = some v → Value.okWide Try.prog W .any base t v := hval0
  have hW' := hW
  obtain ⟨p, q, hA0, hV, rfl, hfz, hnd⟩ := hW
  have hA : DataW.TrodAll enc Try.prog W 0 (fun _ => true) true Try.f8.params.toList args.toList ds p := hA0
  rw [Try.params8] at hA hval
  obtain ⟨v0, vs0, d0, ds0, p0, q0, hargs, rfl, rfl, h0, r0⟩ := trodAll_cons hA
  obtain ⟨v1, vs1, d1, ds1, p1, q1, rfl, rfl, rfl, h1, r1⟩ := trodAll_cons r0
  obtain ⟨v2, vs2, d2, ds2, p2, q2, rfl, rfl, rfl, h2, r2⟩ := trodAll_cons r1
  obtain ⟨rfl, rfl, rfl⟩ := trodAll_nil r2
  obtain rfl : args = #[v0, v1, v2] := by cases args; simp_all
  obtain ⟨Ab, nb, cb, lb, rfl, hRb, hmb⟩ := open_bys (hval 0 32 v0 rfl rfl) h0
  obtain ⟨Ac, nc, cc, lc, rfl, hRc, hmc⟩ := open_bys (hval 1 32 v1 rfl rfl) h1
  obtain ⟨Ak, nk, ck, lk, rfl, hRk, hgk, hmk⟩ := open_ints (hval 2 33 v2 rfl rfl) h2
  clear hA0 hval0
  refine (storeKeeps_walk Ab nb cb lb Ac nc cc lc Ak nk ck lk W hRb hRc hRk hmb hmc hmk).mono fun e W' ⟨he, hb⟩ => ?_
  subst he
  exact ⟨_, rfl, law_post laidOut rfl (by kernel_rfl) 4 Try.underlying4 rfl hW' rfl hb⟩
theorem storeKeeps_holds : Rows.StoreKeepsSaid :=
  OpenClaim.holds_of_wide 8 Try.f8 rfl rfl rfl rfl rfl rfl rfl ⟨rfl, rfl, rfl, rfl, rfl⟩ rfl rfl rfl rfl rfl (by kernel_rfl) Try.func8 (by kernel_rfl)
    (of_decide_eq_true (by kernel_rfl)) (by unfold Func.isWrapper; first | (rw [if_pos (by decide +kernel)]; kernel_rfl) | (rw [if_neg (by decide +kernel)]; exact ⟨rfl, rfl⟩))
    (fun os started H enc _ => storeKeeps_lifted os started H enc)
#print axioms storeKeeps_holds
end Go.Proofs.Ytejjobbgceoljaa
