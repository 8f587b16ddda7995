/- HealthKeeps: what is answered does not change when what was handed in is overwritten. -/
import Derived.Test.YtjeeigdbfngjaaaHeO
set_option linter.unusedSimpArgs false
set_option linter.unusedVariables false
namespace Go.Proofs.Ytjeeigdbfngjaaa
open Go.ChangeShapes Go.WideShapes Go.ChangeAt Go.RowKit

@[go_sem] theorem lit_bang : Value.string { data := #[33] } = Value.string (textOf [33]) := rfl
theorem own_addr {W : World} {base size n c : Nat} {e : TypeId} {A : Option Addr} {xs : List Value} (h : W.ownsRow base e size (.slice A n c) n xs) (hn : 0 < n) : ∃ g, A = some ⟨g, 0, none⟩ := by
  rcases h.2 with ⟨_, h0⟩ | ⟨g, cap, cur, hv, _⟩
  · omega
  · injection hv with e1 _ _; exact ⟨g, e1⟩
theorem own_there {W : World} {base n g c k : Nat} {e : TypeId} {xs : List Value} (h : W.ownsRow base e 3 (.slice (some ⟨g, 0, none⟩) n c) n xs) (hk : k < n) : W.there g (k * 3) 3 := by
  rcases h.2 with ⟨hv, _⟩ | ⟨g', cap, cur, hv, _, h3, h4, _, h6, _⟩
  · cases hv
  · injection hv with e1 _ e3
    injection e1 with e1
    injection e1 with e1
    subst e1
    refine Box.there (c := cur) ⟨_, h3⟩ (k * 3) 3 ?_
    rw [h6]
    have : (k + 1) * 3 ≤ cap * 3 := Nat.mul_le_mul_right 3 (by omega)
    omega
theorem own_one {W : World} {base n g c k : Nat} {e : TypeId} {xs : List Value} (h : W.ownsRow base e 1 (.slice (some ⟨g, 0, none⟩) n c) n xs) (hk : k < n) : ∃ v, W.cell? ⟨g, k, none⟩ = some v ∧ W.frozen? ⟨g, k, none⟩ = false := by
  have h1 := h.1
  exact ⟨xs[k]'(by omega), by rw [h.cellAt k (by omega), List.getElem?_eq_getElem], h.frozenAt k⟩
/-- an own row stays where only a lower block turns -/
theorem own_grown {W W' : World} {base size n : Nat} {e : TypeId} {v : Value} {xs : List Value} {row : Option Nat} (h : W.ownsRow base e size v n xs) (hg : W.grownBy W' row) (hr : ∀ k, row = some k → k < base) : W'.ownsRow base e size v n xs := by
  refine h.kept hg ?_
  cases hv : v.ownBlock with
  | none => exact .inl rfl
  | some k => exact .inr (fun e => by have h1 := hr k e.symm; have h2 := (h.lt k hv).1; omega)

theorem setHl_grownO {w W : World} {g n c : Nat} (h : w.grownBy W (Value.slice (some ⟨g, 0, none⟩) n c).ownBlock) (o : Nat) (x : Hl) : w.grownBy (setHl W g o x) (Value.slice (some ⟨g, 0, none⟩) n c).ownBlock := setHl_grown h o x
theorem grown_put {w W : World} {g n c : Nat} (h : w.grownBy W (Value.slice (some ⟨g, 0, none⟩) n c).ownBlock) (j : Nat) (v : Value) : w.grownBy (W.setCell ⟨g, j, none⟩ v) (Value.slice (some ⟨g, 0, none⟩) n c).ownBlock := grown_setCells [v] j W h
set_option maxHeartbeats 16000000 in
set_option maxRecDepth 100000 in
theorem healthKeeps_walk (l : List Hl) (m : List (List UInt8)) (s : List UInt8) (A B : Option Addr) (n k ca cb : Nat) (w : World) (hR : RdH w w.heap.size A n l) (hg : ∀ x ∈ l, x.good) (hn : n ≤ 9223372036854775807) (hT : RdT w w.heap.size B k m) (hk : k ≤ 9223372036854775807) (hs : s.length ≤ 9223372036854775807) :
    Calls Try.prog 9 #[.slice A n ca, .slice B k cb, .string (textOf s)] w fun e w' => e = .returned (.bool true) ∧ Below w.heap.size w w' := by
  have R0 := Lib.hid hR
  have T0 := Lib.hid hT
  obtain ⟨y, hy⟩ : ∃ y, y = syncH l m := ⟨_, rfl⟩
  obtain ⟨ul, hul⟩ : ∃ ul, ul = y.length := ⟨_, rfl⟩
  obtain ⟨dl, hdl⟩ : ∃ dl, dl = downs l := ⟨_, rfl⟩
  obtain ⟨dk, hdk⟩ : ∃ dk, dk = dl.length := ⟨_, rfl⟩
  obtain ⟨q, hq⟩ : ∃ q, q = setH l s false 1 1 := ⟨_, rfl⟩
  obtain ⟨K, hK⟩ : ∃ K, K = fewT (namesH l) := ⟨_, rfl⟩
  obtain ⟨K2, hK2⟩ : ∃ K2, K2 = fewT m := ⟨_, rfl⟩
  have FW := Lib.hid (fun A n c2 W (hR : RdH W W.heap.size A n l) (hn : n ≤ 9223372036854775807) => hK ▸ few_any l A n c2 W hR hn)
  have SW := Lib.hid (fun A n c2 W (hR : RdT W W.heap.size A n m) (hn : n ≤ 9223372036854775807) => hK2 ▸ short_any m A n c2 W hR hn)
  cases K
  · clear hK hK2 hy hul hdl hdk hR hT hg hq
    go_enter Try.func9, Try.ntmps9
    go_wp2_with fail
    refine (awake_any _).mono ?_
    rintro e w1 ⟨rfl, hb1⟩
    have HB1 := Lib.hid hb1
    have R1 := Lib.hid (R0.out.go hb1)
    have T1 := Lib.hid (T0.out.go hb1)
    clear hb1
    go_wp2_with fail
    refine (FW.out A n _ _ R1.out hn).mono ?_
    rintro e w2 ⟨rfl, rfl⟩
    go_wp2_with fail
    refine (awake_any _).mono ?_
    rintro e w2 ⟨rfl, hb2⟩
    have HB2 := Lib.hid (below2 HB1.out hb2)
    clear hb2
    go_wp2
    go_ret
    exact ⟨rfl, HB2.out⟩
  have hn5 : n ≤ 50 := by have := fewT_le hK.symm; rw [namesH_len, hR.1] at this; exact this
  have HLN := Lib.hid (show ∀ x ∈ l, x.name.length ≤ 100000 from fun x hx => by have := fewT_names hK.symm x.name (by unfold namesH; exact List.mem_map_of_mem hx); omega)
  cases K2
  · clear hK hK2 hy hul hdl hdk hR hT hg hq HLN
    go_enter Try.func9, Try.ntmps9
    go_wp2_with fail
    refine (awake_any _).mono ?_
    rintro e w1 ⟨rfl, hb1⟩
    have HB1 := Lib.hid hb1
    have R1 := Lib.hid (R0.out.go hb1)
    have T1 := Lib.hid (T0.out.go hb1)
    clear hb1
    go_wp2_with fail
    refine (FW.out A n _ _ R1.out hn).mono ?_
    rintro e w2 ⟨rfl, rfl⟩
    go_wp2_with fail
    refine (SW.out B k _ _ T1.out hk).mono ?_
    rintro e w2 ⟨rfl, rfl⟩
    go_wp2_with fail
    refine (awake_any _).mono ?_
    rintro e w2 ⟨rfl, hb2⟩
    have HB2 := Lib.hid (below2 HB1.out hb2)
    clear hb2
    go_wp2
    go_ret
    exact ⟨rfl, HB2.out⟩
  have hk5 : k ≤ 50 := by have := fewT_le hK2.symm; rw [hT.1] at this; exact this
  have HNM := Lib.hid (show ∀ s ∈ m, s.length ≤ 100000 from fun s hs => by have := fewT_names hK2.symm s hs; omega)
  rcases Nat.lt_or_ge 60 s.length with hlen | hlen
  · have hd : decide ((60 : Int) < s.length) = true := decide_eq_true (by omega)
    clear hK hK2 hy hul hdl hdk hR hT hg hq HLN HNM hlen
    go_enter Try.func9, Try.ntmps9
    go_wp2_with fail
    refine (awake_any _).mono ?_
    rintro e w1 ⟨rfl, hb1⟩
    have HB1 := Lib.hid hb1
    have R1 := Lib.hid (R0.out.go hb1)
    have T1 := Lib.hid (T0.out.go hb1)
    clear hb1
    go_wp2_with fail
    refine (FW.out A n _ _ R1.out hn).mono ?_
    rintro e w2 ⟨rfl, rfl⟩
    go_wp2_with fail
    refine (SW.out B k _ _ T1.out hk).mono ?_
    rintro e w2 ⟨rfl, rfl⟩
    go_wp2_with fail
    refine (awake_any _).mono ?_
    rintro e w2 ⟨rfl, hb2⟩
    have HB2 := Lib.hid (below2 HB1.out hb2)
    clear hb2
    go_wp2
    go_ret
    exact ⟨rfl, HB2.out⟩
  · have hd : decide ((60 : Int) < s.length) = false := decide_eq_false (by omega)
    have hlu := len_uniq m
    have hlm := hT.1
    have hll := hR.1
    have hul5 : ul ≤ 50 := by rw [hul, hy]; unfold syncH; rw [List.length_map]; omega
    have hdl5 : dk ≤ 50 := by have := downs_len l; rw [hdk, hdl]; omega
    have LL := Lib.hid hll
    have LM := Lib.hid hlm
    have LY := Lib.hid hul
    have LD := Lib.hid hdk
    have LQ := Lib.hid (show q.1.length = n by rw [hq, setH_len]; exact hll)
    have OKR := Lib.hid (okRuns hg)
    have S1 := Lib.hid (fun A n ca A2 n2 c2 W h1 h2 h3 h4 => (show Calls Try.prog 17 #[.slice A n ca, .slice A2 n2 c2] W (ClP W ul y) by rw [hul, hy]; exact sync_any l m A n ca A2 n2 c2 W h1 h2 h3 h4 HLN.out HNM.out))
    have S2 := Lib.hid (fun A n ca A2 n2 c2 W h1 h2 h3 h4 => refSyncC_any l m A n ca A2 n2 c2 W h1 h2 h3 h4 ul (by rw [hul, hy]) y hy)
    have E1 := Lib.hid (fun A n c2 W (hR : RdH W W.heap.size A n l) (hn : n ≤ 100000) => hq ▸ set_any l s false 1 1 A n c2 W hR OKR.out hn)
    have E2 := Lib.hid (fun A n c2 W (hR : RdH W W.heap.size A n l) (hn : n ≤ 100000) => hq ▸ refSetC_any l s false 1 1 A n c2 W hR OKR.out hn)
    have D1 := Lib.hid (fun A n c W h1 h2 => hdl ▸ down_any l A n c W h1 h2)
    have D2 := Lib.hid (fun A n c W h1 h2 => refDownC_any l A n c W h1 h2 dl hdl dk hdk)
    clear hK hK2 hy hul hdl hdk hR hT hg hq HLN hlu hlm hll hlen
    obtain ⟨i0, hi0, hz0, hz1, hzb⟩ := infoHl
    have HI0 := Lib.hid hi0
    have HZ0 := Lib.hid hz0
    have HZ1 := Lib.hid hz1
    have HZ2 := Lib.hid (show (Value.agg noHl.arr).cells.size = 3 by simp [Value.cells, Hl.arr_size])
    have H63 := Lib.hid (show 0 + n ≤ maxLen by unfold maxLen; omega)
    have HBY := Lib.hid (show (0 + n) * i0.bytes ≤ 140737488355328 from Nat.le_trans (Nat.mul_le_mul (show 0 + n ≤ 100000 by omega) hzb) (by omega))
    have NO1 := Lib.hid (cellsH_one l)
    obtain ⟨i1, gi0, gz0, gz1, gzb⟩ := infoTx
    have GI0 := Lib.hid gi0
    have GZ0 := Lib.hid gz0
    have GZ1 := Lib.hid gz1
    have G63 := Lib.hid (show 0 + k ≤ maxLen by unfold maxLen; omega)
    have GBY := Lib.hid (show (0 + k) * i1.bytes ≤ 140737488355328 from Nat.le_trans (Nat.mul_le_mul (show 0 + k ≤ 100000 by omega) gzb) (by omega))
    have NO2 := Lib.hid (show ∀ u ∈ cellsT m, u.oneCell' = true from rows_one txA (fun s => by simp [txA, Value.oneCell']) m)
    clear hi0 hz0 hz1 hzb gi0 gz0 gz1 gzb
    go_enter Try.func9, Try.ntmps9
    go_wp2_with fail
    refine (awake_any _).mono ?_
    rintro e w1 ⟨rfl, hb1⟩
    have HB1 := Lib.hid hb1
    have R1 := Lib.hid (R0.out.go hb1)
    have T1 := Lib.hid (T0.out.go hb1)
    clear hb1
    go_wp2_with fail
    refine (FW.out A n _ _ R1.out hn).mono ?_
    rintro e w2 ⟨rfl, rfl⟩
    go_wp2_with fail
    refine (SW.out B k _ _ T1.out hk).mono ?_
    rintro e w2 ⟨rfl, rfl⟩
    have O1 := Lib.hid (show (w1.alloc (.cells #[] 23)).ownsRow w1.heap.size 23 3 (.slice (some ⟨w1.heap.size, 0, none⟩) 0 0) 0 [] from World.ownsRow_lit w1 #[] 0 (Nat.le_refl _) (by unfold maxLen; omega) rfl)
    have O3 := Lib.hid (show w1.heap.size ≤ (w1.alloc (.cells #[] 23)).heap.size by simp)
    have R1A := Lib.hid (R1.out.alloc (Nat.le_refl _) (.cells #[] 23)).2.1
    go_wp2_with (first | (at_builtin; refine wpList_app_rd _ rfl (.tmp 37) (.tmp 38) _ rfl w1.heap.size 23 i0 (.agg noHl.arr) 3 i0.bytes Try.underlying34 HI0.out HZ0.out HZ1.out rfl HZ2.out (Nat.succ_pos _) (.slice (some ⟨w1.heap.size, 0, none⟩) 0 0) 0 [] rfl O1.out w1.heap.size A n ca _ rfl R1A.out NO1.out H63.out HBY.out O3.out ?_; intro v1 x1 hown1 hg1 hat1; obtain ⟨A', c', hv, _, _⟩ := own_form hown1; subst hv; simp only [Nat.zero_add, List.nil_append] at hown1; have hbx := gb_below ((Below.refl w1.heap.size w1).alloc (Nat.le_refl _) (.cells #[] 23)) hg1 (Nat.le_refl _) O3.out; have OX := Lib.hid hown1; have BX1 := Lib.hid hbx; have Q1 := Lib.hid (show (x1.alloc (.cells #[] 9)).ownsRow x1.heap.size 9 1 (.slice (some ⟨x1.heap.size, 0, none⟩) 0 0) 0 [] from World.ownsRow_lit x1 #[] 0 (Nat.le_refl _) (by unfold maxLen; omega) rfl); have Q3 := Lib.hid (show x1.heap.size ≤ (x1.alloc (.cells #[] 9)).heap.size by simp); have T1A := Lib.hid ((T1.out.below hbx).more hbx.size |>.alloc (Nat.le_refl _) (.cells #[] 9)).2.1; clear hown1 hg1 hat1 hbx) | (at_builtin; refine wpList_app_rd _ rfl (.tmp 40) (.tmp 41) _ rfl x1.heap.size 9 i1 (.string ⟨#[]⟩) 1 i1.bytes Try.underlying35 GI0.out GZ0.out GZ1.out rfl rfl (Nat.succ_pos _) (.slice (some ⟨x1.heap.size, 0, none⟩) 0 0) 0 [] rfl Q1.out x1.heap.size B k cb _ rfl T1A.out NO2.out G63.out GBY.out Q3.out ?_; intro v2 x2 hown2 hg2 hat2; obtain ⟨B', d', hv2, _, _⟩ := own_form hown2; subst hv2; simp only [Nat.zero_add, List.nil_append] at hown2; have hby := gb_below ((Below.refl x1.heap.size x1).alloc (Nat.le_refl _) (.cells #[] 9)) hg2 (Nat.le_refl _) Q3.out; have OY := Lib.hid hown2; have BX2 := Lib.hid hby; clear hown2 hg2 hat2 hby))
    have OX2 := Lib.hid (own_below OX.out BX2.out)
    have BW2 := Lib.hid (BX1.out.trans (BX2.out.mono BX1.out.size))
    have C1 := Lib.hid (fun g (h : (Value.slice A' n c').ownBlock = some g) => (OX.out.lt g h))
    have C2 := Lib.hid (fun g (h : (Value.slice B' k d').ownBlock = some g) => (OY.out.lt g h))
    refine (S1.out A' n _ B' k _ _ (RdR.of_own LL.out OX2.out) (RdR.of_own LM.out OY.out) (by omega) (by omega)).mono ?_
    rintro e w3 ⟨A3, c3, rfl, ho3, hb3⟩
    have Y3 := Lib.hid ho3
    have OX3 := Lib.hid (own_below OX2.out hb3)
    have OY3 := Lib.hid (own_below OY.out hb3)
    have BW3 := Lib.hid (BW2.out.trans (hb3.mono BW2.out.size))
    have Z3 := hb3.size
    clear ho3 hb3
    go_wp2_with fail
    refine (E1.out A' n _ _ (RdR.of_own LL.out OX3.out) (by omega)).mono ?_
    rintro e w4 ⟨A4, c4, rfl, ho4, hb4⟩
    have Q4 := Lib.hid ho4
    have Y4 := Lib.hid (own_below Y3.out hb4)
    have OX4 := Lib.hid (own_below OX3.out hb4)
    have OY4 := Lib.hid (own_below OY3.out hb4)
    have BW4 := Lib.hid (BW3.out.trans (hb4.mono BW3.out.size))
    have Z4 := hb4.size
    clear ho4 hb4
    go_wp2_with fail
    refine (D1.out A' n _ _ (RdR.of_own LL.out OX4.out) (by omega)).mono ?_
    rintro e w5 ⟨A5, n5, c5, rfl, hl5, ho5, hb5⟩
    obtain rfl : n5 = dk := by rw [LD.out]; exact hl5.symm
    have D5 := Lib.hid ho5
    have Q5 := Lib.hid (own_below Q4.out hb5)
    have Y5 := Lib.hid (own_below Y4.out hb5)
    have OX5 := Lib.hid (own_below OX4.out hb5)
    have OY5 := Lib.hid (own_below OY4.out hb5)
    have BW5 := Lib.hid (BW4.out.trans (hb5.mono BW4.out.size))
    have Z5 := hb5.size
    clear ho5 hb5 hl5
    go_wp2_with fail
    refine (sameY_any l A' A n n c' ca _ (RdR.of_own LL.out OX5.out) ((R1.out.below BW5.out).more BW5.out.size) (by omega) (by omega)).mono ?_
    rintro e w6 ⟨rfl, hb6⟩
    have D6 := Lib.hid (own_below D5.out hb6)
    have Q6 := Lib.hid (own_below Q5.out hb6)
    have Y6 := Lib.hid (own_below Y5.out hb6)
    have OX6 := Lib.hid (own_below OX5.out hb6)
    have OY6 := Lib.hid (own_below OY5.out hb6)
    have BW6 := Lib.hid (BW5.out.trans (hb6.mono BW5.out.size))
    clear hb6
    go_wp2_with fail
    refine (textsY_any m B' B k k d' cb _ (RdR.of_own LM.out OY6.out) ((T1.out.below BW6.out).more BW6.out.size) (by omega) (by omega)).mono ?_
    rintro e w7 ⟨rfl, hb7⟩
    have D7 := Lib.hid (own_below D6.out hb7)
    have Q7 := Lib.hid (own_below Q6.out hb7)
    have Y7 := Lib.hid (own_below Y6.out hb7)
    have OX7 := Lib.hid (own_below OX6.out hb7)
    have OY7 := Lib.hid (own_below OY6.out hb7)
    have BW7 := Lib.hid (BW6.out.trans (hb7.mono BW6.out.size))
    clear hb7
    go_wp2_with fail
    go_loopw [14] (fun s14 wr => ∃ (i : Nat) (xs : List Value), i ≤ n ∧ s14 = .int .i64 i ∧ wr.ownsRow w1.heap.size 23 3 (.slice A' n c') n xs ∧ w7.grownBy wr (Value.slice A' n c').ownBlock) (fun s14 _ => n - (intOf s14).toNat)
    case atStart => exact ⟨0, _, by omega, rfl, OX7.out, World.grownBy.refl _ _⟩
    case round =>
      obtain ⟨i, xs, hin, rfl, hox, hgr⟩ := hrel
      have HO := Lib.hid hox
      have HG := Lib.hid hgr
      clear hox hgr
      by_cases hlt : i < n
      · have hi : (i : Int) < n := by omega
        obtain ⟨g, rfl⟩ := own_addr HO.out (by omega)
        have hth := own_there HO.out hlt
        have HO2 := Lib.hid (own_setCells (Hl.mk [33] false 0).arr.toList _ _ (i * 3) HO.out (by rw [Array.length_toList, Hl.arr_size]; have : (i + 1) * 3 ≤ n * 3 := Nat.mul_le_mul_right 3 hlt; omega))
        have HG2 := Lib.hid (setHl_grownO HG.out (i * 3) (Hl.mk [33] false 0))
        go_wp2_with fail
        go_roundw
        case rel => exact ⟨i + 1, _, by omega, by go_num, HO2.out, HG2.out⟩
        case measure => simp [intOf] <;> omega
      · obtain rfl : i = n := by omega
        have hd2 : decide ((i : Int) < i) = false := by simp
        have hlow : ∀ k, (Value.slice A' i c').ownBlock = some k → k < x1.heap.size := fun k h => (C1.out k h).2
        have D8 := Lib.hid (own_grown D7.out HG.out (fun k h => by have := hlow k h; have := BX2.out.size; omega))
        have Q8 := Lib.hid (own_grown Q7.out HG.out (fun k h => by have := hlow k h; have := BX2.out.size; omega))
        have Y8 := Lib.hid (own_grown Y7.out HG.out (fun k h => by have := hlow k h; have := BX2.out.size; omega))
        have OY8 := Lib.hid (own_grown OY7.out HG.out (fun k h => hlow k h))
        have BW8 := Lib.hid (BW7.out.grown HG.out BW7.out.size (fun k h => (C1.out k h).1))
        clear hlow
        go_wp2_with fail
        go_loopw [15] (fun s15 wq => ∃ (j : Nat) (xs : List Value), j ≤ k ∧ s15 = .int .i64 j ∧ wq.ownsRow x1.heap.size 9 1 (.slice B' k d') k xs ∧ wr.grownBy wq (Value.slice B' k d').ownBlock) (fun s15 _ => k - (intOf s15).toNat)
        case atStart => exact ⟨0, _, by omega, rfl, OY8.out, World.grownBy.refl _ _⟩
        case round =>
          obtain ⟨j, xs, hjn, rfl, hox, hgr⟩ := hrel
          have HP := Lib.hid hox
          have HH := Lib.hid hgr
          clear hox hgr
          by_cases hlt : j < k
          · have hi : (j : Int) < k := by omega
            obtain ⟨g, rfl⟩ := own_addr HP.out (by omega)
            obtain ⟨v0, hv0, hf0⟩ := own_one HP.out hlt
            have HO2 := Lib.hid (own_put HP.out j (by omega) (.string (textOf [33])))
            have HG2 := Lib.hid (grown_put HH.out j (.string (textOf [33])))
            go_wp2_with fail
            go_roundw
            case rel => exact ⟨j + 1, _, by omega, by go_num, HO2.out, HG2.out⟩
            case measure => simp [intOf] <;> omega
          · obtain rfl : j = k := by omega
            have hd3 : decide ((j : Int) < j) = false := by simp
            have hlow : ∀ k, (Value.slice B' j d').ownBlock = some k → x1.heap.size ≤ k ∧ k < x2.heap.size := fun k h => C2.out k h
            have DA := Lib.hid (own_grown D8.out HH.out (fun k h => by have := hlow k h; omega))
            have QA := Lib.hid (own_grown Q8.out HH.out (fun k h => by have := hlow k h; omega))
            have YA := Lib.hid (own_grown Y8.out HH.out (fun k h => by have := hlow k h; omega))
            have BWA := Lib.hid (BW8.out.grown HH.out BW8.out.size (fun k h => by have := hlow k h; have := BX1.out.size; omega))
            clear hlow
            go_wp2_with fail
            refine (E2.out A i _ _ ((R1.out.below BWA.out).more BWA.out.size) (by omega)).mono ?_
            rintro e wB ⟨AB, cB, rfl, hrB, hbB⟩
            have XB := Lib.hid hrB
            have DB := Lib.hid (own_below DA.out hbB)
            have QB := Lib.hid (own_below QA.out hbB)
            have YB := Lib.hid (own_below YA.out hbB)
            have BWB := Lib.hid (BWA.out.trans (hbB.mono BWA.out.size))
            clear hrB hbB
            go_wp2_with fail
            refine (S2.out A i _ B j _ _ ((R1.out.below BWB.out).more BWB.out.size) ((T1.out.below BWB.out).more BWB.out.size) (by omega) (by omega)).mono ?_
            rintro e wC ⟨AC, cC, rfl, hrC, hbC⟩
            have XC := Lib.hid (XB.out.go hbC)
            have RC := Lib.hid hrC
            have DC := Lib.hid (own_below DB.out hbC)
            have QC := Lib.hid (own_below QB.out hbC)
            have YC := Lib.hid (own_below YB.out hbC)
            have BWC := Lib.hid (BWB.out.trans (hbC.mono BWB.out.size))
            clear hrC hbC
            go_wp2_with fail
            refine (sameY_any y A3 AC ul ul c3 cC _ (RdR.of_own LY.out.symm YC.out) RC.out (by omega) (by omega)).mono ?_
            rintro e wD ⟨rfl, hbD⟩
            have XD := Lib.hid (XC.out.go hbD)
            have DD := Lib.hid (own_below DC.out hbD)
            have QD := Lib.hid (own_below QC.out hbD)
            have BWD := Lib.hid (BWC.out.trans (hbD.mono BWC.out.size))
            clear hbD
            go_wp2_with fail
            refine (sameY_any q.1 A4 AB i i c4 cB _ (RdR.of_own LQ.out QD.out) XD.out (by omega) (by omega)).mono ?_
            rintro e wE ⟨rfl, hbE⟩
            have DE := Lib.hid (own_below DD.out hbE)
            have BWE := Lib.hid (BWD.out.trans (hbE.mono BWD.out.size))
            clear hbE
            go_wp2_with fail
            refine (D2.out A i _ _ ((R1.out.below BWE.out).more BWE.out.size) (by omega)).mono ?_
            rintro e wF ⟨AF, cF, rfl, hrF, hbF⟩
            have RF := Lib.hid hrF
            have DF := Lib.hid (own_below DE.out hbF)
            have BWF := Lib.hid (BWE.out.trans (hbF.mono BWE.out.size))
            clear hrF hbF
            go_wp2_with fail
            refine (textsY_any dl A5 AF _ _ c5 cF _ (RdR.of_own LD.out.symm DF.out) RF.out (by omega) (by omega)).mono ?_
            rintro e wG ⟨rfl, hbG⟩
            have BWG := Lib.hid (BWF.out.trans (hbG.mono BWF.out.size))
            have HBG := Lib.hid (below2 HB1.out BWG.out)
            clear hbG
            go_wp2
            go_ret
            exact ⟨rfl, HBG.out⟩
theorem healthKeeps_walkB (l : List Hl) (m : List (List UInt8)) (s : ByteArray) (A B : Option Addr) (n k ca cb : Nat) (w : World) (hR : RdH w w.heap.size A n l) (hg : ∀ x ∈ l, x.good) (hn : n ≤ 9223372036854775807) (hT : RdT w w.heap.size B k m) (hk : k ≤ 9223372036854775807) (hs : s.size ≤ maxLen) :
    Calls Try.prog 9 #[.slice A n ca, .slice B k cb, .string s] w fun e w' => e = .returned (.bool true) ∧ Below w.heap.size w w' := by
  have h1 : s.data.toList.length ≤ 9223372036854775807 := by
    have h0 : s.data.toList.length = s.size := Array.length_toList
    unfold maxLen at hs
    omega
  have h := healthKeeps_walk l m s.data.toList A B n k ca cb w hR hg hn hT hk h1
  rwa [textOf_data] at h
set_option maxRecDepth 100000 in
theorem healthKeeps_lifted (os : Os) (started : os.Started) (H : Type) (enc : TypeId × Value → H) :
    ReturnsInHanded {} Try.checked os 9 .any (Rows.healthKeepsSpec.pre6 enc Try.prog Try.f9 Rows.healthKeepsRow.domain false) (Rows.healthKeepsSpec.post enc Try.prog Try.f9 false true false false) := by
  refine returnsInHanded_of_change (C := Try.checked) own started (by kernel_rfl) Try.func9
    (ChangeSpec.witness6 (enc := enc) (C := Try.checked) false ⟨#[], #[.slice none 0 0, .slice none 0 0, .string ⟨#[]⟩], []⟩ 8 (by kernel_rfl) (by kernel_rfl) (by kernel_rfl) (by kernel_rfl)) ?_
  intro W base args ds gs before hval0 hW hcnd _
  have hval : ∀ (j : Nat) t v, Try.f9.params[j]? = some t → args[j]? = some v → Value.okWide Try.prog W .any base t v := hval0
  have hW' := hW
  obtain ⟨p, q, hA0, hV, rfl, hfz, hnd⟩ := hW
  have hA : DataW.TrodAll enc Try.prog W 0 (fun _ => true) true Try.f9.params.toList args.toList ds p := hA0
  rw [Try.params9] at hA hval
  obtain ⟨v0, vs0, d0, ds0, p0, q0, hargs, rfl, rfl, h0, r0⟩ := trodAll_cons hA
  obtain ⟨v1, vs1, d1, ds1, p1, q1, rfl, rfl, rfl, h1, r1⟩ := trodAll_cons r0
  obtain ⟨v2, vs2, d2, ds2, p2, q2, rfl, rfl, rfl, h2, r2⟩ := trodAll_cons r1
  obtain ⟨rfl, rfl, rfl⟩ := trodAll_nil r2
  obtain rfl : args = #[v0, v1, v2] := by cases args; simp_all
  obtain ⟨Al, nl, cl, ll, rfl, hRl, hgl, hml⟩ := open_hls (hval 0 34 v0 rfl rfl) h0
  obtain ⟨Am, nm, cm, lm, rfl, hRm, hgm, hmm⟩ := open_txts (hval 1 35 v1 rfl rfl) h1
  obtain ⟨s, rfl, hs⟩ := open_str Try.underlying9 (hval 2 9 v2 rfl rfl) h2
  clear hA0 hval0
  refine (healthKeeps_walkB ll lm s Al Am nl nm cl cm W hRl hgl hml hRm hmm hs).mono fun e W' ⟨he, hb⟩ => ?_
  subst he
  exact ⟨_, rfl, law_post laidOut rfl (by kernel_rfl) 4 Try.underlying4 rfl hW' rfl hb⟩
theorem healthKeeps_holds : Rows.HealthKeepsSaid :=
  OpenClaim.holds_of_wide 9 Try.f9 rfl rfl rfl rfl rfl rfl rfl ⟨rfl, rfl, rfl, rfl, rfl⟩ rfl rfl rfl rfl rfl (by kernel_rfl) Try.func9 (by kernel_rfl)
    (of_decide_eq_true (by kernel_rfl)) (by unfold Func.isWrapper; first | (rw [if_pos (by decide +kernel)]; kernel_rfl) | (rw [if_neg (by decide +kernel)]; exact ⟨rfl, rfl⟩))
    (fun os started H enc _ => healthKeeps_lifted os started H enc)
#print axioms healthKeeps_holds
end Go.Proofs.Ytjeeigdbfngjaaa
