/- The shares: the program's way. -/
import Derived.Test.YtgcahcjffoehfaaPoX
set_option linter.unusedSimpArgs false
set_option linter.unusedVariables false
namespace Go.Proofs.Ytgcahcjffoehfaa
open Go.RowKit

def SharesP (w : World) (m : List Shr) (e : Ending) (w' : World) : Prop :=
  ∃ A c, e = .returned (.slice A m.length c) ∧ w'.ownsRow w.heap.size 56 2 (.slice A m.length c) m.length (cellsSh m) ∧ Below w.heap.size w w'
theorem sharesP_of {w wr : World} {v : Value} {m : List Shr} {n : Nat} (hn : m.length = n) (ho : wr.ownsRow (w.heap.size + 1) 56 2 v n (cellsSh m)) (hb : Below w.heap.size w wr) : SharesP w m (.returned v) wr := by
  subst hn
  obtain ⟨A, c, rfl, _, _⟩ := own_form ho
  exact ⟨A, c, rfl, own_less ho (by omega), hb⟩
set_option maxHeartbeats 1000000 in
set_option maxRecDepth 100000 in
theorem shares_any (l : List Bk) (hf : ∀ x ∈ l, x.fine) (v : Int) (A : Option Addr) (c : Nat) (ls : List (List UInt8)) (D : Option Addr) (d : Nat) (w : World) (hR : RdK w w.heap.size A l.length l) (hD : RdS w w.heap.size D ls.length ls) (hn : l.length ≤ 100000) (hd : ls.length < 4611686018427387904) :
    Calls Try.prog 23 #[.agg #[.int .i64 v, .slice A l.length c], .slice D ls.length d] w (SharesP w (sharesOf ls l)) := by
  have HR := Lib.hid hR
  have HF := Lib.hid hf
  have HD := Lib.hid hD
  have HB0 := Lib.hid (fun ob => ((Below.refl w.heap.size w).alloc (Nat.le_refl _) ob : Below w.heap.size w (w.alloc ob)))
  have HSN := Lib.hid (fun i => sharesOf_snoc ls l i)
  have HSL := Lib.hid (show l.take l.length = l from List.take_length)
  obtain ⟨i0, hi0, hz0, hz1, hzb⟩ := infoSh
  have HI0 := Lib.hid hi0
  have HZ0 := Lib.hid hz0
  have HZ1 := Lib.hid hz1
  have HZ2 := Lib.hid (show (Value.agg #[Value.string ⟨#[]⟩, Value.int .i64 0]).cells.size = 2 from rfl)
  clear hR hf hD hi0 hz0 hz1
  obtain ⟨n, hnl⟩ : ∃ n, n = l.length := ⟨_, rfl⟩
  rw [← hnl] at HR hn HSL ⊢
  have HN := Lib.hid hnl
  clear hnl
  go_enter Try.func23, Try.ntmps23
  go_wp2
  go_loopw [5, 13] (fun s5 s13 wr => ∃ (i : Nat) (O : Option Addr) (cap : Nat), i ≤ n ∧ s5 = .slice O i cap ∧ s13 = .int .i64 i ∧ wr.ownsRow (w.heap.size + 1) 56 2 (.slice O i cap) i (cellsSh (sharesOf ls (l.take i))) ∧ Below (w.heap.size + 1) (w.alloc (.cells #[.int .i64 v, .slice A n c] 24)) wr) (fun _ s13 _ => n - (intOf s13).toNat)
  case atStart => exact ⟨0, none, 0, by omega, rfl, rfl, World.ownsRow_nil _ _ _ _, by simpa using Below.refl _ _⟩
  case round =>
    obtain ⟨i, O, cap, hin, rfl, rfl, ho, hb⟩ := hrel
    have HB := Lib.hid hb
    have hbw := (HB0.out (.cells #[.int .i64 v, .slice A n c] 24)).trans (hb.mono (by simp))
    have HBW := Lib.hid hbw
    have hsz := hb.size
    have OW := Lib.hid (fun ob ob' => (ho.alloc ob).alloc ob')
    have O0 := Lib.hid ho
    clear hb hbw ho
    by_cases hlt : i < n
    · have hi : (i : Int) < n := by omega
      obtain ⟨b, o, rfl, hbb, hh, hc⟩ := (HR.out.below HBW.out).at_ hlt
      have hbs : b < wr.heap.size := by simp at hsz; omega
      have hmem : l.getD i noBk ∈ l := by
        have := HN.out
        rw [List.getD_eq_getElem?_getD, List.getElem?_eq_getElem (by omega)]; simp
      obtain ⟨hx1, hx2⟩ := HF.out _ hmem
      have hsn := HSN.out i (by have := HN.out; omega)
      obtain ⟨x, hx⟩ : ∃ x, x = l.getD i noBk := ⟨_, rfl⟩
      rw [← hx] at hc hx1 hx2 hsn
      have HSNI := Lib.hid hsn
      clear hx hmem hsn hbb
      have HDB := Lib.hid (fun ob => (((HD.out.below HBW.out).alloc (show w.heap.size ≤ wr.heap.size by simp at hsz; omega) ob).more (B' := (wr.alloc ob).heap.size) (by simp at hsz ⊢; omega) : RdS (wr.alloc ob) (wr.alloc ob).heap.size D ls.length ls))
      have HQ : ∀ W, Calls Try.prog 45 #[.float .f64 x.w] W fun e w' => e = .returned (.tuple #[.int .i64 (wQ x.w), .bool (wOk x.w)]) ∧ W = w' := fun W => quanta_any x.w hx2 W
      have HQU := Lib.hid HQ
      have H63 := Lib.hid (show i + 1 ≤ maxLen by unfold maxLen; omega)
      have HBY := Lib.hid (show (i + 1) * i0.bytes ≤ 140737488355328 from Nat.le_trans (Nat.mul_le_mul (show i + 1 ≤ 100001 by omega) hzb) (by omega))
      have HBS := Lib.hid (fun ob ob' => show w.heap.size + 1 ≤ ((wr.alloc ob).alloc ob').heap.size by simp at hsz ⊢; omega)
      have HROW := Lib.hid (fun (ob : Obj) (cc : Array Value) (h2 : cc.size = 2) => (⟨by simp [h2], fun _ => ⟨_, rfl, Nat.lt_succ_self _, src_row _ _ cc _ _ (by have := heap_alloc_new (wr.alloc ob) (.cells cc 56); rwa [show (wr.alloc ob).heap.size = wr.heap.size + 1 by simp] at this)⟩⟩ : Rd ((wr.alloc ob).alloc (.cells cc 56)) (wr.heap.size + 1 + 1) 2 (some ⟨wr.heap.size + 1, 0, none⟩) 1 cc.toList))
      have HBN := Lib.hid (fun ob ob' => ((HB.out.alloc (show w.heap.size + 1 ≤ wr.heap.size by simpa using hsz) ob).alloc (by simp at hsz ⊢; omega) ob' : Below (w.heap.size + 1) _ ((wr.alloc ob).alloc ob')))
      clear HQ hx1 hx2
      have hso : shareOf ls x = ⟨x.name, if x.drain || isOne ls x.name then 0 else wQ x.w⟩ := rfl
      have HSO := Lib.hid hso
      clear hso
      cases kd : x.drain
      · have HKD := Lib.hid kd
        have HCO : ∀ ob, Calls Try.prog 46 #[.slice D ls.length d, .string (textOf x.name)] (wr.alloc ob) fun e w' => e = .returned (.bool (isOne ls x.name)) ∧ wr.alloc ob = w' := fun ob => contains_any ls x.name D d _ (HDB.out ob) hd
        cases kc : isOne ls x.name
        all_goals
          rw [kc] at HCO
          have HCON := Lib.hid HCO
          have HKC := Lib.hid kc
          clear HCO kc
        · go_wp2_with (first
            | (go_at_call 45; refine (HQU.out _).mono ?_; rintro e w' ⟨rfl, rfl⟩)
            | (go_at_call 46; refine (HCON.out _).mono ?_; rintro e w' ⟨rfl, rfl⟩)
            | (at_builtin; refine wpList_app_rd _ rfl (.tmp 31) (.tmp 36) _ rfl (w.heap.size + 1) 56 i0 (.agg #[.string ⟨#[]⟩, .int .i64 0]) 2 i0.bytes Try.underlying51 HI0.out HZ0.out HZ1.out rfl HZ2.out (Nat.succ_pos _) (.slice O i cap) i (cellsSh (sharesOf ls (l.take i))) rfl (OW.out _ _) (wr.heap.size + 1 + 1) (some ⟨wr.heap.size + 1, 0, none⟩) 1 1 [.string (textOf x.name), .int .i64 (wQ x.w)] rfl (HROW.out _ #[.string (textOf x.name), .int .i64 (wQ x.w)] rfl) (by simp [Value.oneCell']) H63.out HBY.out (HBS.out _ _) ?_
               intro v1 w1 hown1 hg1 hat1
               have O1 := Lib.hid hown1
               have G1 := Lib.hid hg1
               clear hown1 hg1 hat1))
          obtain ⟨O', cap', rfl, _, _⟩ := own_form O1.out
          go_roundw
          case rel => exact ⟨i + 1, O', cap', by omega, rfl, by go_num, by rw [HSNI.out, cellsSh_snoc, HSO.out, HKD.out, HKC.out]; exact O1.out, (HBN.out _ _).grown G1.out (by simp at hsz ⊢; omega) (fun k hk => (O0.out.lt k hk).1)⟩
          case measure => simp [intOf] <;> omega
        · go_wp2_with (first
            | (go_at_call 45; refine (HQU.out _).mono ?_; rintro e w' ⟨rfl, rfl⟩)
            | (go_at_call 46; refine (HCON.out _).mono ?_; rintro e w' ⟨rfl, rfl⟩)
            | (at_builtin; refine wpList_app_rd _ rfl (.tmp 31) (.tmp 36) _ rfl (w.heap.size + 1) 56 i0 (.agg #[.string ⟨#[]⟩, .int .i64 0]) 2 i0.bytes Try.underlying51 HI0.out HZ0.out HZ1.out rfl HZ2.out (Nat.succ_pos _) (.slice O i cap) i (cellsSh (sharesOf ls (l.take i))) rfl (OW.out _ _) (wr.heap.size + 1 + 1) (some ⟨wr.heap.size + 1, 0, none⟩) 1 1 [.string (textOf x.name), .int .i64 0] rfl (HROW.out _ #[.string (textOf x.name), .int .i64 0] rfl) (by simp [Value.oneCell']) H63.out HBY.out (HBS.out _ _) ?_
               intro v1 w1 hown1 hg1 hat1
               have O1 := Lib.hid hown1
               have G1 := Lib.hid hg1
               clear hown1 hg1 hat1))
          obtain ⟨O', cap', rfl, _, _⟩ := own_form O1.out
          go_roundw
          case rel => exact ⟨i + 1, O', cap', by omega, rfl, by go_num, by rw [HSNI.out, cellsSh_snoc, HSO.out, HKD.out, HKC.out]; exact O1.out, (HBN.out _ _).grown G1.out (by simp at hsz ⊢; omega) (fun k hk => (O0.out.lt k hk).1)⟩
          case measure => simp [intOf] <;> omega
      · have HKD := Lib.hid kd
        go_wp2_with (first
          | (go_at_call 45; refine (HQU.out _).mono ?_; rintro e w' ⟨rfl, rfl⟩)
          | (at_builtin; refine wpList_app_rd _ rfl (.tmp 31) (.tmp 36) _ rfl (w.heap.size + 1) 56 i0 (.agg #[.string ⟨#[]⟩, .int .i64 0]) 2 i0.bytes Try.underlying51 HI0.out HZ0.out HZ1.out rfl HZ2.out (Nat.succ_pos _) (.slice O i cap) i (cellsSh (sharesOf ls (l.take i))) rfl (OW.out _ _) (wr.heap.size + 1 + 1) (some ⟨wr.heap.size + 1, 0, none⟩) 1 1 [.string (textOf x.name), .int .i64 0] rfl (HROW.out _ #[.string (textOf x.name), .int .i64 0] rfl) (by simp [Value.oneCell']) H63.out HBY.out (HBS.out _ _) ?_
             intro v1 w1 hown1 hg1 hat1
             have O1 := Lib.hid hown1
             have G1 := Lib.hid hg1
             clear hown1 hg1 hat1))
        obtain ⟨O', cap', rfl, _, _⟩ := own_form O1.out
        go_roundw
        case rel => exact ⟨i + 1, O', cap', by omega, rfl, by go_num, by rw [HSNI.out, cellsSh_snoc, HSO.out, HKD.out]; exact O1.out, (HBN.out _ _).grown G1.out (by simp at hsz ⊢; omega) (fun k hk => (O0.out.lt k hk).1)⟩
        case measure => simp [intOf] <;> omega
    · obtain rfl : i = n := by omega
      have hd : decide ((i : Int) < i) = false := by simp
      go_wp2
      go_ret
      have hO := O0.out
      rw [HSL.out] at hO
      exact sharesP_of (n := i) (by rw [sharesOf, List.length_map]; exact HN.out.symm) hO HBW.out
end Go.Proofs.Ytgcahcjffoehfaa
