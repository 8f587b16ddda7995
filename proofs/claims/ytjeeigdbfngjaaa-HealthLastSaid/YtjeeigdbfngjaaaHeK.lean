/- Sync: the healths of the names in order, what is known of each taken over. -/
import Derived.Test.YtjeeigdbfngjaaaHeJ
set_option linter.unusedSimpArgs false
set_option linter.unusedVariables false
namespace Go.Proofs.Ytjeeigdbfngjaaa
open Go.RowKit Go.Shelf

attribute [local go_sem] Oper.semAt_some

theorem run_makeMapHint {P : Program} {t k e : TypeId} (hu : P.underlying t = some (.map k e)) (n : Int) (w : World) : (Instr.makeMap t (some (.int .i64 n))).run P w = .ok (.map (some w.heap.size)) (w.alloc (.map #[] 0)) := by
  simp [Instr.makeMap, run_underlying hu, asInt, asIntOf, Result.andThen]
theorem box_own (B : Nat) (c : Array Value) : Own (fun (_ : Unit) W => Box W B c) := fun s X Y row hs hg hrow =>
  hs.grown hg (fun e' => by obtain ⟨o, ho, hc⟩ := hrow B e'.symm; obtain ⟨t, hs⟩ := hs; rw [hs] at ho; cases ho; cases hc)
theorem box_of {W : World} {B : Nat} {t : TypeId} {v : Value} (h : Boxed W B t v) : Box W B #[v] := ⟨t, h⟩

theorem zero_hl (w : World) : (zeroValue 23).run Try.prog w = .ok (.agg noHl.arr) w := by
  obtain ⟨i0, hi0, hz0, hz1, hzb⟩ := infoHl
  simp [zeroValue, typeInfo, hi0, hz0]
theorem Boxed.kept' {W W' : World} {b B : Nat} {t : TypeId} {v : Value} (h : Boxed W b t v) (hb : Below B W W') (hl : b < B) : Boxed W' b t v := (hb.block b hl).trans h
/-- a map lies on where nothing below its block's bound turns -/
theorem own_map_below {H : Type} {P : Program} {k : TypeId} {R : Value → Option (DataW H × List MemPlace)} {b n B : Nat} {D : DataW H} {W W' : World} (h : W.ownsMap P k R b n D) (hb : Below B W W') (hl : b < B) : W'.ownsMap P k R b n D := by
  obtain ⟨es, ck, h1, h2⟩ := h
  exact ⟨es, ck, (hb.block b hl).trans h1, h2⟩
theorem own_map_lt {H : Type} {P : Program} {k : TypeId} {R : Value → Option (DataW H × List MemPlace)} {b n : Nat} {D : DataW H} {W : World} (h : W.ownsMap P k R b n D) : b < W.heap.size := by
  obtain ⟨es, ck, h1, h2⟩ := h
  exact (Array.getElem?_eq_some_iff.1 h1).1
theorem wpList_lookup_hl {ops : Array Oper} {rest : List Oper} {o : Oper} {a : Act} {Q : Exit → Act → World → Prop} {w : World} (hg : o.guard = none) (m x : Operand) (hop : o.op = Op.lookup 51 m x true)
    (b n : Nat) (D : DataW Unit) (hm : a.eval m = .map (some b)) (hown : w.ownsMap Try.prog 9 hlElem b n D) (f : List UInt8 → Option Hl) (hF : MapIs D f) (s : List UInt8) (hs : s.length ≤ 100000) (hx : a.eval x = .string (textOf s))
    (y : Hl) (ok : Bool) (hy : (f s).getD noHl = y) (hok : (f s).isSome = ok) (hK : wpList Try.prog ops Q rest (a.put o.dst (.tuple #[.agg y.arr, .bool ok])) w) : wpList Try.prog ops Q (o :: rest) a w := by
  have hkey : keyOf Try.prog 9 (.string (textOf s)) = some (.string s) := WideMaps.keyOf_string_mk (P := Try.prog) Try.underlying9 (by unfold maxLen; rw [textOf_size]; omega)
  refine wpList_lookup_own_ok w hg m x 51 hop 9 23 (Maps.string_keyed Try.underlying9) Try.underlying51 hlElem (zero_hl w) (hlD noHl) [] (hlElem_mk noHl) b n D hm hown _ (.string s) hx hkey ?_
  intro v ps hv
  obtain ⟨z, rfl, hz⟩ := hlElem_inv hv
  obtain ⟨h1, h2⟩ := hF.2 s
  have hzd := congrArg Prod.fst hz
  dsimp only at hzd
  rw [h2] at hzd
  have e1 : z = y := by
    rw [← hy]
    cases hf : f s with
    | none => rw [hf] at hzd; exact (hlD_inj hzd).symm
    | some u => rw [hf] at hzd; exact (hlD_inj hzd).symm
  rw [e1, h1, hok]
  exact hK
theorem pickH_find (l : List Hl) (s : List UInt8) : pickH l s = match l.find? (fun x => x.name == s) with | some x => x | none => ⟨s, false, 0⟩ := by
  unfold pickH posH
  cases hf : l.findIdx? (fun x => x.name == s) with
  | none =>
    have h1 : l.find? (fun x => x.name == s) = none := List.find?_eq_none.2 (fun x hx => by have := List.findIdx?_eq_none_iff.1 hf x hx; simpa using this)
    rw [h1]
    rfl
  | some i =>
    obtain ⟨hi, hn, hno⟩ := List.findIdx?_eq_some_iff_getElem.1 hf
    have h1 : l.find? (fun x => x.name == s) = some l[i] := List.find?_eq_some_iff_getElem.2 ⟨hn, i, hi, rfl, fun j hj => by simpa using hno j hj⟩
    rw [h1]
    dsimp only
    rw [if_neg (by omega), Int.toNat_natCast, List.getD_eq_getElem?_getD, List.getElem?_eq_getElem hi]; rfl
set_option maxRecDepth 100000 in
set_option maxHeartbeats 4000000 in
theorem sync_any (l : List Hl) (names : List (List UInt8)) (A : Option Addr) (n c : Nat) (A2 : Option Addr) (n2 c2 : Nat) (w : World) (hR : RdH w w.heap.size A n l) (hN : RdT w w.heap.size A2 n2 names) (hn : n ≤ 100000) (hn2 : n2 ≤ 100000) (hl : ∀ x ∈ l, x.name.length ≤ 100000) (hnm : ∀ s ∈ names, s.length ≤ 100000) :
    Calls Try.prog 17 #[.slice A n c, .slice A2 n2 c2] w (ClP w (syncH l names).length (syncH l names)) := by
  refine (callsIn_wide (n := 8)).1 ?_
  have HR := Lib.hid hR
  have HKL := Lib.hid (fun k => show (textOf (l.getD k noHl).name).size ≤ maxLen by
    have : (l.getD k noHl).name.length ≤ 100000 := by
      rw [List.getD_eq_getElem?_getD]
      rcases Nat.lt_or_ge k l.length with h | h
      · rw [List.getElem?_eq_getElem h]; exact hl _ (List.getElem_mem h)
      · rw [List.getElem?_eq_none h]; simp [noHl]
    unfold maxLen
    rw [textOf_size]; omega)
  have hfn : ∀ f, Fence.wide.fn f := fun _ => trivial
  have HN := Lib.hid hN
  have HNM := Lib.hid hnm
  have hmm := fun n w => run_makeMapHint (P := Try.prog) Try.underlying51 n w
  refine callsIn_of_wp_marks Try.func17 rfl trivial ?_ rfl
  simp only [Try.ntmps17, List.size_toArray, List.length_cons, List.length_nil, Nat.reduceAdd, Nat.reduceSub, Array.replicate_succ, Array.replicate_zero, List.push_toArray, List.append_toArray, List.nil_append, List.cons_append]
  clear hR hN hl hnm
  gi_wp2_with (gi_at_call 27; refine (callsIn_wide.2 (back_any A n c _)).mono ?_; rintro e w' ⟨rfl, rfl⟩)
  obtain ⟨W1, hW1⟩ : ∃ W1, w.alloc (.map #[] 0) = W1 := ⟨_, rfl⟩
  have hm0 := World.ownsMap_made w Try.prog 9 (hlElem (H := Unit))
  rw [hW1] at hm0
  have hs1 : W1.heap.size = w.heap.size + 1 := by rw [← hW1]; simp
  have bS := Boxed.new W1 51 (.map (some w.heap.size))
  have bN := Boxed.new (W1.alloc (.cells #[.map (some w.heap.size)] 51)) 34 (.slice A n c)
  rw [World.size_alloc] at bN
  have hB0 : Below w.heap.size w ((W1.alloc (.cells #[.map (some w.heap.size)] 51)).alloc (.cells #[.slice A n c] 34)) := by
    rw [← hW1]
    exact (((Below.refl _ w).alloc (Nat.le_refl _) _).alloc (by simp) _).alloc (by simp; omega) _
  have hm2 := (hm0.alloc (.cells #[.map (some w.heap.size)] 51)).alloc (.cells #[.slice A n c] 34)
  have bS2 := bS.alloc (.cells #[.slice A n c] 34)
  rw [hW1]
  rw [hs1] at bS bN bS2
  clear hW1 hm0 bS
  obtain ⟨W2, hW2⟩ : ∃ W2, (W1.alloc (.cells #[.map (some w.heap.size)] 51)).alloc (.cells #[.slice A n c] 34) = W2 := ⟨_, rfl⟩
  have hsz : W2.heap.size = w.heap.size + 3 := by rw [← hW2]; simp [hs1]
  try simp only [World.size_alloc, hs1]
  rw [hW2] at bS2 bN hB0 hm2 ⊢
  clear hW2
  refine wpIn_rangeFunc_ownH rfl (by omega) (gf := 35) (lb := #[.pointer (some ⟨w.heap.size + 1 + 1, 0, none⟩)]) rfl trivial (enters_of Try.func35 (by kernel_rfl) rfl)
    (back_stops Fence.wide 7 trivial rfl (by omega) (w.heap.size + 1 + 1) w.heap.size A n c l hn W2 (by omega) (by omega) bN.cell (HR.out.below hB0)) KpB.trans (fun W q o o' hq ho hc hw => ⟨belowK_b (w := w) (Nat.le_refl _) W q o o' (by omega) ho hc hw, (grownBy_putObj' W q o').block _ (by have := (Array.getElem?_eq_some_iff.1 ho).1; omega) (fun e => by injection e with e; omega)⟩) (Below.refl _ _) (fun _ => rfl)
    (fun pre W => (Boxed W (w.heap.size + 1) 51 (.map (some w.heap.size)) ∧ ∃ D, W.ownsMap Try.prog 9 (hlElem (H := Unit)) w.heap.size pre.length D ∧ MapIs D (knownF l pre) ∧ w.heap.size + 3 ≤ W.heap.size) ∧ Below w.heap.size w W)
    (fun _ _ _ => False)
    (OwnFrom.and (OwnFrom.and (Own.from (boxed_own _ _ _) _) (fun s X Y row hs hg hr => by obtain ⟨D, h1, h2, h3⟩ := hs; exact ⟨D, h1.kept hg (fun e => by have := (hr _ e.symm).1; omega), h2, Nat.le_trans h3 hg.size⟩)) (ownFrom_below (Nat.le_refl _) (by omega)))
    (fun _ _ _ _ _ hs _ _ => hs)
    ⟨⟨bS2, _, hm2, mapIs_nil l, by omega⟩, hB0⟩
    (fun x a' W => ∃ Bx, w.heap.size + 1 < Bx ∧ Box W Bx (l.getD x noHl).arr ∧ a' = { tmps := #[.slice A n c, .slice A2 n2 c2, undef, undef, .slice none 0 0, .pointer (some ⟨w.heap.size + 1, 0, none⟩), undef, .pointer (some ⟨Bx, 0, none⟩), undef, undef, undef, undef, undef, .slice A n c, .int .i64 n, .map (some w.heap.size), .slice A n c, .func (.func 35) #[] #[.pointer (some ⟨w.heap.size + 1 + 1, 0, none⟩)], .int .i64 (x : Nat), .agg (l.getD x noHl).arr, undef, undef, undef, undef, undef, undef, undef, undef, undef, undef, undef, undef, undef, undef, undef, undef, undef, undef, undef, undef, undef, undef, undef, undef, undef, undef, undef, undef, undef], defers := [] })
    (fun x a' _ X Y row hs hg hr => by obtain ⟨Bx, h1, h2, h3⟩ := hs; exact ⟨Bx, h1, box_own Bx (l.getD x noHl).arr () X Y row h2 hg (fun r e => (hr r e).2), h3⟩)
    ?assign ?body ?done ?stop
  case assign =>
    rintro q pre x W K ⟨⟨bS1, D, hD, hF, hsW⟩, hB1⟩ hK
    gi_wp2
    refine hK _ _ ((KeepsOthers.alloc _ _).from _) ⟨(Below.refl _ W).alloc hB1.size _, Below.heap_alloc W _ _ (by omega)⟩ ⟨⟨bS1.alloc _, D, hD.alloc _, hF, by simp; omega⟩, hB1.alloc hB1.size _⟩ ⟨W.heap.size, bS1.lt, Box.new W _ _, rfl⟩
  case body =>
    rintro q pre x a' W hq ⟨r, hr⟩ ⟨⟨bS1, D, hD, hF, hsW⟩, hB1⟩ ⟨Bx, hBx, bX, rfl⟩ hlt
    have cS := bS1.cell
    obtain ⟨f1, f2, f3, f4⟩ := bX.facts
    have HB1 := Lib.hid hB1
    have HF := Lib.hid hF
    have HX := Lib.hid bX
    have HS := Lib.hid bS1
    clear hB1 hF bX bS1
    obtain ⟨y, hy⟩ : ∃ y, y = l.getD x noHl := ⟨_, rfl⟩
    have HKY := HKL.out x
    rw [← hy] at f1 f3 f4 HKY
    have hkey : keyOf Try.prog 9 (.string (textOf y.name)) = some (.string y.name) := WideMaps.keyOf_string_mk (P := Try.prog) Try.underlying9 HKY
    have HY := Lib.hid hy
    try rw [← hy]
    clear hy HKY
    gi_wp2_with (gi_at_mapUpdate; refine wpListIn_mapUpdate_own _ rfl _ _ _ 51 rfl 9 23 (Maps.string_keyed Try.underlying9) Try.underlying51 _ w.heap.size pre.length D rfl hD (by unfold maxLen; omega) _ _ (.string y.name) rfl rfl hkey _ [] (hlElem_mk y) ?_; intro w1 hown1 hgrow1)
    have hsz1 := hgrow1.size
    exact ⟨KeepsFrom.of_grownBy hgrow1 (fun j e => by cases e; omega), ⟨(Below.refl _ W).grown hgrow1 HB1.out.size (fun k e => by cases e; exact Nat.le_refl _), hgrow1.block _ (by omega) (fun e => by injection e with e; omega)⟩,
      ⟨HS.out.kept hgrow1 (fun e => by injection e with e; omega), _, by rw [List.length_append]; exact hown1, mapIs_put HF.out x y HY.out, by omega⟩, HB1.out.grown hgrow1 HB1.out.size (fun k e => by cases e; exact Nat.le_refl _)⟩
  case done =>
    rintro D0 ys W hD0 rfl ⟨⟨bS1, D, hD, hF, hsW⟩, hB1⟩ hK
    have cS := bS1.cell
    rename_i K0 KA
    refine KA _ _ (wpIn_wide.2 ?_)
    have HB1 := Lib.hid hB1
    have hl2 := HR.out.1
    rw [← hl2] at hF
    have HF := Lib.hid (show MapIs D (fun s => l.find? (fun x => x.name == s)) by have := funext (knownF_all l); rw [← this]; exact hF)
    have HD := Lib.hid hD
    have HK := Lib.hid hK
    have HS := Lib.hid bS1
    have HM := Lib.hid (own_map_lt hD)
    have RN := Lib.hid ((HN.out.below hB1).more hB1.size : RdT W W.heap.size A2 n2 names)
    clear hB1 hF hD hK bS1 cS hB0 hm2 bN bS2 KA K0
    go_wp2_with fail
    refine (values_any A2 n2 c2 W).mono ?_
    rintro e w' ⟨rfl, rfl⟩
    obtain ⟨w2, hw2⟩ : ∃ w2, W.alloc (.cells #[.slice A2 n2 c2] 35) = w2 := ⟨_, rfl⟩
    have hwsz : w2.heap.size = W.heap.size + 1 := by rw [← hw2]; simp
    have SO := Lib.hid (sorted_any W.heap.size A2 n2 c2 names hn2 w2 (by omega) (by rw [← hw2]; exact cell_new W _ _ 0) (by rw [← hw2]; exact RN.out.up _))
    have B2 := Lib.hid (show Below W.heap.size W w2 by rw [← hw2]; exact (Below.refl _ W).alloc (Nat.le_refl _) _)
    have HW2 := Lib.hid hw2
    clear hw2
    go_wp2_with fail
    rw [HW2.out]
    refine SO.out.mono ?_
    rintro e w3 ⟨A3, c3, rfl, ho3, hb3⟩
    have hul := len_uniq names
    obtain ⟨U, hU⟩ : ∃ U, U = uniq names := ⟨_, rfl⟩
    obtain ⟨ul, hulen⟩ : ∃ ul, ul = U.length := ⟨_, rfl⟩
    have hnl := HN.out.1
    have CO := Lib.hid (compactT_any w2.heap.size (srtL names) A3 n2 c3 w3 hn2 (by rw [srtL_len]; exact hnl) ho3 ul (by rw [compact_uniq, ← hU]; exact hulen.symm))
    have hlt3 := ho3.lt
    rw [compact_uniq, ← hU] at CO
    have hul2 : ul ≤ 100000 := by rw [hulen, hU]; omega
    have HSY := Lib.hid (show syncH l names = U.map (pickH l) by rw [hU]; rfl)
    have HUN := Lib.hid (fun k (hk : k < ul) => show (U.getD k []).length ≤ 100000 by
      rw [hulen] at hk
      rw [List.getD_eq_getElem?_getD, List.getElem?_eq_getElem hk, Option.getD_some]
      refine HNM.out _ ?_
      rw [← mem_uniq, ← hU]
      exact List.getElem_mem hk)
    have HL := Lib.hid hulen
    clear hU hulen hul
    have B3 := Lib.hid (B2.out.trans (hb3.mono (by omega : W.heap.size ≤ w2.heap.size)))
    have H3 := Lib.hid hlt3
    clear hb3 ho3 hlt3
    go_wp2_with fail
    refine CO.out.mono ?_
    rintro e w4 ⟨rfl, ho4, hg4⟩
    have B4 := Lib.hid (B3.out.grown hg4 B3.out.size (fun k hk => by have := (H3.out k hk).1; omega))
    have RU := Lib.hid (RdR.of_own HL.out.symm ho4 : RdT w4 w4.heap.size A3 ul U)
    have hs4 := B4.out.size
    clear ho4 hg4
    obtain ⟨i0, hi0, hz0, hz1, hzb⟩ := infoHl
    have HI0 := Lib.hid hi0
    have HZ0 := Lib.hid hz0
    have HZ1 := Lib.hid hz1
    have HZ2 := Lib.hid (show (Value.agg noHl.arr).cells.size = 3 by simp [Value.cells, Hl.arr_size])
    have HZB := Lib.hid hzb
    clear hi0 hz0 hz1 hzb
    go_wp2_with fail
    go_loopw [8, 29] (fun s8 s29 wr => ∃ (k : Nat) (O : Option Addr) (cap : Nat), k ≤ ul ∧ s8 = .slice O k cap ∧ s29 = .int .i64 k ∧ wr.ownsRow w4.heap.size 23 3 (.slice O k cap) k (cellsH ((U.take k).map (pickH l))) ∧ Below w4.heap.size w4 wr) (fun _ s29 _ => ul - (intOf s29).toNat)
    case atStart => exact ⟨0, none, 0, by omega, rfl, rfl, by simpa [cellsH] using World.ownsRow_nil _ _ _ _, Below.refl _ _⟩
    case round =>
      obtain ⟨k, O, cap, hku, rfl, rfl, ho, hb⟩ := hrel
      have HO := Lib.hid ho
      have HB := Lib.hid hb
      have hsz := hb.size
      have hB := Lib.hid (B4.out.trans (hb.mono hs4))
      have cS := (Boxed.kept' HS.out hB.out (by omega)).cell
      have OM := Lib.hid (own_map_below HD.out hB.out HM.out)
      clear ho hb
      by_cases hlt : k < ul
      · have hi : (k : Int) < ul := by omega
        obtain ⟨bb, o, rfl, hbb, hc⟩ := (RU.out.below HB.out).text hlt
        have HKN := Lib.hid (HUN.out k hlt)
        have SN := Lib.hid (sync_snoc l U k (by rw [← HL.out]; exact hlt))
        obtain ⟨y, hy⟩ : ∃ y, y = U.getD k [] := ⟨_, rfl⟩
        rw [← hy] at hc HKN SN
        clear hy hbb
        have H63 := Lib.hid (show k + 1 ≤ maxLen by unfold maxLen; omega)
        have HBY := Lib.hid (show (k + 1) * i0.bytes ≤ 140737488355328 from Nat.le_trans (Nat.mul_le_mul (show k + 1 ≤ 100002 by omega) HZB.out) (by omega))
        have BS := Lib.hid (fun oa ob => show w4.heap.size ≤ ((wr.alloc oa).alloc ob).heap.size by simp; omega)
        have HGR := Lib.hid (fun oa ob w1 (hg : ((wr.alloc oa).alloc ob).grownBy w1 (Value.slice O k cap).ownBlock) => ((HB.out.alloc hsz oa).alloc (by simp; omega) ob).grown hg (BS.out oa ob) (fun k hk => (HO.out.lt k hk).1))
        have PF := pickH_find l y
        cases hfd : l.find? (fun x => x.name == y) with
        | none =>
          rw [hfd] at PF
          have PK := Lib.hid PF
          have HFS := Lib.hid (show ((fun s => l.find? (fun x => x.name == s)) y).getD noHl = noHl by dsimp only; rw [hfd]; rfl)
          have HFB := Lib.hid (show ((fun s => l.find? (fun x => x.name == s)) y).isSome = false by dsimp only; rw [hfd]; rfl)
          clear PF
          have OA := Lib.hid (own_alloc (own_alloc HO.out (.cells (Hl.mk y false 0).arr 23)) (.cells (Hl.mk y false 0).arr 23))
          have W1 := Lib.hid (show Rd ((wr.alloc (.cells (Hl.mk y false 0).arr 23)).alloc (.cells (Hl.mk y false 0).arr 23)) (wr.heap.size + 1 + 1) 3 (some ⟨wr.heap.size + 1, 0, none⟩) 1 (Hl.mk y false 0).arr.toList by simpa using row_rdR (wr.alloc (.cells (Hl.mk y false 0).arr 23)) (Hl.mk y false 0).arr 3 (Hl.arr_size _) 23)
          clear hfd
          go_wp2_with (first | (at_lookup; refine wpList_lookup_hl rfl _ _ rfl w.heap.size _ D rfl (OM.out) _ HF.out y HKN.out rfl noHl false HFS.out HFB.out ?_) | (at_builtin; refine wpList_app_rd _ rfl (.tmp 43) (.tmp 45) _ rfl w4.heap.size 23 i0 (.agg noHl.arr) 3 i0.bytes Try.underlying34 HI0.out HZ0.out HZ1.out rfl HZ2.out (Nat.succ_pos _) (.slice O k cap) k (cellsH ((U.take k).map (pickH l))) rfl OA.out (wr.heap.size + 1 + 1) (some ⟨wr.heap.size + 1, 0, none⟩) 1 1 (Hl.mk y false 0).arr.toList rfl W1.out (by simp [Hl.arr, Value.oneCell']) H63.out HBY.out (BS.out _ _) ?_; intro v1 w1 hown1 hg1 hat1; have O1 := Lib.hid hown1; have G1 := Lib.hid (HGR.out _ _ _ hg1); clear hown1 hg1 hat1))
          obtain ⟨O', cap', rfl, _, _⟩ := own_form O1.out
          go_roundw
          case rel => exact ⟨k + 1, O', cap', by omega, rfl, by go_num, by have h1 := O1.out; have h2 := SN.out; rw [PK.out] at h2; rw [h2] at h1; exact h1, G1.out⟩
          case measure => simp [intOf] <;> omega
        | some x =>
          rw [hfd] at PF
          have PK := Lib.hid PF
          have HFS := Lib.hid (show ((fun s => l.find? (fun x => x.name == s)) y).getD noHl = x by dsimp only; rw [hfd]; rfl)
          have HFB := Lib.hid (show ((fun s => l.find? (fun x => x.name == s)) y).isSome = true by dsimp only; rw [hfd]; rfl)
          clear PF
          have OA := Lib.hid (own_alloc (own_alloc HO.out (.cells (x).arr 23)) (.cells (x).arr 23))
          have W1 := Lib.hid (show Rd ((wr.alloc (.cells (x).arr 23)).alloc (.cells (x).arr 23)) (wr.heap.size + 1 + 1) 3 (some ⟨wr.heap.size + 1, 0, none⟩) 1 (x).arr.toList by simpa using row_rdR (wr.alloc (.cells (x).arr 23)) (x).arr 3 (Hl.arr_size _) 23)
          clear hfd
          go_wp2_with (first | (at_lookup; refine wpList_lookup_hl rfl _ _ rfl w.heap.size _ D rfl (OM.out) _ HF.out y HKN.out rfl x true HFS.out HFB.out ?_) | (at_builtin; refine wpList_app_rd _ rfl (.tmp 43) (.tmp 45) _ rfl w4.heap.size 23 i0 (.agg noHl.arr) 3 i0.bytes Try.underlying34 HI0.out HZ0.out HZ1.out rfl HZ2.out (Nat.succ_pos _) (.slice O k cap) k (cellsH ((U.take k).map (pickH l))) rfl OA.out (wr.heap.size + 1 + 1) (some ⟨wr.heap.size + 1, 0, none⟩) 1 1 (x).arr.toList rfl W1.out (by simp [Hl.arr, Value.oneCell']) H63.out HBY.out (BS.out _ _) ?_; intro v1 w1 hown1 hg1 hat1; have O1 := Lib.hid hown1; have G1 := Lib.hid (HGR.out _ _ _ hg1); clear hown1 hg1 hat1))
          obtain ⟨O', cap', rfl, _, _⟩ := own_form O1.out
          go_roundw
          case rel => exact ⟨k + 1, O', cap', by omega, rfl, by go_num, by have h1 := O1.out; have h2 := SN.out; rw [PK.out] at h2; rw [h2] at h1; exact h1, G1.out⟩
          case measure => simp [intOf] <;> omega
      · obtain rfl : k = ul := by omega
        have hd : decide ((k : Int) < k) = false := by simp
        have HDK := Lib.hid (show wr.heap[D0]? = some (.deferred (some [])) by
          rw [hB.out.block D0 (Array.getElem?_eq_some_iff.1 HK.out).1]; exact HK.out)
        have hle : w.heap.size ≤ W.heap.size := by omega
        have HBW := Lib.hid (HB1.out.trans (hB.out.mono hle))
        have h1 := HO.out
        rw [List.take_of_length_le (by rw [← HL.out]; exact Nat.le_refl _), ← HSY.out] at h1
        have h2 : (syncH l names).length = k := by rw [HSY.out, List.length_map, ← HL.out]
        have HO1 := Lib.hid (own_less h1 (Nat.le_trans hle hs4))
        have H2 := Lib.hid h2
        clear h1 h2
        go_wp2_with fail
        refine ⟨by simp, .inl ⟨_, _, rfl, run_takeDeferred HDK.out, ?_⟩⟩
        rw [H2.out]
        exact ⟨_, results_tmp rfl _ _ _, O, cap, rfl, ownsRow_putObj HO1.out _ HDK.out rfl, HBW.out.trans (belowK_b (w := w) (Nat.le_refl _) wr D0 _ _ (by omega) HDK.out rfl rfl)⟩
  case stop =>
    rintro D0 c0 pre W _ _ h _
    exact h.elim
end Go.Proofs.Ytjeeigdbfngjaaa
