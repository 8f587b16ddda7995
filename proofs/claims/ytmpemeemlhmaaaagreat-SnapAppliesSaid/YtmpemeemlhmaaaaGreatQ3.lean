/- Appending onto a row of the call's own, the source nil, empty or not (after the kit's extra words, over this claim's own word for a slice that reads as a list). -/
import Derived.Test.YtmpemeemlhmaaaaGreatQ1
import Derived.Maps.AppendAt
import Derived.Deep.AppendLies
import Derived.RegionTactic
import Derived.OwnWalk
import Derived.Test.YtmpemeemlhmaaaaGreatRows
import Derived.Deep.LoopGhost
import Derived.BigRegion
set_option linter.unusedSimpArgs false
set_option linter.unusedVariables false
set_option maxRecDepth 100000
namespace Go.Proofs.YtmpemeemlhmaaaaGreat
open Go.RowKit

theorem own_form {w : World} {base : Nat} {e : TypeId} {size : Nat} {v : Value} {n : Nat} {xs : List Value} (h : w.ownsRow base e size v n xs) : ∃ A cap, v = .slice A n cap ∧ n ≤ cap ∧ cap ≤ maxLen := by
  rcases h.2 with ⟨rfl, rfl⟩ | ⟨g, cap, cur, rfl, _, _, h1, h2, _, _⟩
  · exact ⟨_, _, rfl, Nat.le_refl _, by unfold maxLen; omega⟩
  · exact ⟨_, _, rfl, h1, h2⟩
section
variable {P : Program} (w : World)

theorem run_app_nil (base : Nat) (t ty e : TypeId) (i : TypeInfo) (size : Nat) (ht : P.underlying t = some (.slice e)) (hi : P.info? e = some i)
    (v : Value) (n : Nat) (xs : List Value) (hown : w.ownsRow base e size v n xs) (c : Nat) : (Builtin.append_ #[t, t] ty #[v, .slice none 0 c]).run P w = .ok v w := by
  rcases hown.2 with ⟨rfl, rfl⟩ | ⟨g, cap, cur, rfl, _, _, hnc, _⟩
  · simp [Builtin.append_, run_underlying ht, sizeOf, typeInfo, hi, Builtin.lenOf, Builtin.firstCells]
  · simp [Builtin.append_, run_underlying ht, sizeOf, typeInfo, hi, Builtin.lenOf, Builtin.firstCells, hnc, storeCells]

theorem run_app_rd (base : Nat) (t ty e : TypeId) (i : TypeInfo) (z : Value) (size bytes : Nat) (ht : P.underlying t = some (.slice e)) (hi : P.info? e = some i) (hz : i.zero = some z)
    (hsize : i.size = size) (hby : i.bytes = bytes) (hzs : z.cells.size = size) (hsz : 0 < size)
    (v : Value) (n : Nat) (xs : List Value) (hown : w.ownsRow base e size v n xs)
    (B : Nat) (A : Option Addr) (m c : Nat) (news : List Value) (hr : Rd w B size A m news) (h1 : ∀ u ∈ news, u.oneCell' = true)
    (h63 : n + m ≤ maxLen) (hbytes : (n + m) * bytes ≤ 140737488355328) (hbase : base ≤ w.heap.size) :
    ∃ v' w', (Builtin.append_ #[t, t] ty #[v, .slice A m c]).run P w = .ok v' w' ∧ w'.ownsRow base e size v' (n + m) (xs ++ news) ∧ w.grownBy w' v.ownBlock ∧
      (v'.ownBlock = v.ownBlock ∨ v'.ownBlock = some w.heap.size) := by
  rcases A with _ | ad
  · have hm : m = 0 := by
      rcases Nat.eq_zero_or_pos m with h0 | h0
      · exact h0
      · obtain ⟨ad, h, _⟩ := hr.2 h0
        cases h
    subst hm
    have hn : news = [] := List.eq_nil_of_length_eq_zero (by simpa using hr.1)
    subst hn
    exact ⟨v, w, run_app_nil w base t ty e i size ht hi v n xs hown c, by simpa using hown, World.grownBy.refl w _, .inl rfl⟩
  · have hcells : ∀ j u, news[j]? = some u → w.cell? (ad.add j) = some u := by
      intro j u hu
      rcases Nat.eq_zero_or_pos m with h0 | h0
      · subst h0
        have hn : news = [] := List.eq_nil_of_length_eq_zero (by simpa using hr.1)
        subst hn
        simp at hu
      · obtain ⟨ad', h, _, hc⟩ := hr.2 h0
        injection h with h
        subst h
        exact hc j u hu
    obtain ⟨v', w', hrun, h2, h3, _, h5⟩ := run_append_own_at (P := P) w base t ty e i z size bytes ht hi hz hsize hby hzs hsz v n xs hown ad m c news hr.1 hcells h1 h63 hbytes hbase
    exact ⟨v', w', hrun, h2, h3, h5⟩

theorem wp_app_rd {o : Oper} {a : Act} {K : Act → World → Prop} {Q : Exit → Act → World → Prop} (s x : Operand) (t : TypeId)
    (ho : o.op = .call { callee := .builtin .append, args := #[s, x], argTypes := #[t, t] })
    (base : Nat) (e : TypeId) (i : TypeInfo) (z : Value) (size bytes : Nat) (ht : P.underlying t = some (.slice e)) (hi : P.info? e = some i) (hz : i.zero = some z)
    (hsize : i.size = size) (hby : i.bytes = bytes) (hzs : z.cells.size = size) (hsz : 0 < size)
    (v : Value) (n : Nat) (xs : List Value) (hs : a.eval s = v) (hown : w.ownsRow base e size v n xs)
    (B : Nat) (A : Option Addr) (m c : Nat) (news : List Value) (hx : a.eval x = .slice A m c) (hr : Rd w B size A m news) (h1 : ∀ u ∈ news, u.oneCell' = true)
    (h63 : n + m ≤ maxLen) (hbytes : (n + m) * bytes ≤ 140737488355328) (hbase : base ≤ w.heap.size)
    (h : ∀ v' w', w'.ownsRow base e size v' (n + m) (xs ++ news) → w.grownBy w' v.ownBlock → (v'.ownBlock = v.ownBlock ∨ v'.ownBlock = some w.heap.size) → K (a.put o.dst v') w') : o.wp P a w K Q := by
  obtain ⟨v', w', hrun, h2, h3, h4⟩ := run_app_rd (P := P) w base t o.type e i z size bytes ht hi hz hsize hby hzs hsz v n xs hown B A m c news hr h1 h63 hbytes hbase
  unfold Oper.wp execOp
  simp only [ho, resolve, invoke, builtin, Sem.run_bind, Sem.run_pure, Result.andThen_ok, List.map_toArray, List.map_cons, List.map_nil, hs, hx, hrun]
  exact h v' w' h2 h3 h4

theorem wpList_app_rd {ops : Array Oper} {rest : List Oper} {o : Oper} {a : Act} {Q : Exit → Act → World → Prop} (hgd : o.guard = none) (s x : Operand) (t : TypeId)
    (ho : o.op = .call { callee := .builtin .append, args := #[s, x], argTypes := #[t, t] })
    (base : Nat) (e : TypeId) (i : TypeInfo) (z : Value) (size bytes : Nat) (ht : P.underlying t = some (.slice e)) (hi : P.info? e = some i) (hz : i.zero = some z)
    (hsize : i.size = size) (hby : i.bytes = bytes) (hzs : z.cells.size = size) (hsz : 0 < size)
    (v : Value) (n : Nat) (xs : List Value) (hs : a.eval s = v) (hown : w.ownsRow base e size v n xs)
    (B : Nat) (A : Option Addr) (m c : Nat) (news : List Value) (hx : a.eval x = .slice A m c) (hr : Rd w B size A m news) (h1 : ∀ u ∈ news, u.oneCell' = true)
    (h63 : n + m ≤ maxLen) (hbytes : (n + m) * bytes ≤ 140737488355328) (hbase : base ≤ w.heap.size)
    (h : ∀ v' w', w'.ownsRow base e size v' (n + m) (xs ++ news) → w.grownBy w' v.ownBlock → (v'.ownBlock = v.ownBlock ∨ v'.ownBlock = some w.heap.size) → wpList P ops Q rest (a.put o.dst v') w') : wpList P ops Q (o :: rest) a w :=
  wpList_plain hgd fun _ hK => wp_app_rd w s x t ho base e i z size bytes ht hi hz hsize hby hzs hsz v n xs hs hown B A m c news hx hr h1 h63 hbytes hbase fun v' w' h2 h3 h4 => hK _ _ (h v' w' h2 h3 h4)

theorem step_app_rd {ops : Array Oper} {o : Oper} {a : Act} {K : Act → World → Prop} {Q : Exit → Act → World → Prop} {E : Prop} (hgd : o.guard = none) (s x : Operand) (t : TypeId)
    (ho : o.op = .call { callee := .builtin .append, args := #[s, x], argTypes := #[t, t] })
    (base : Nat) (e : TypeId) (i : TypeInfo) (z : Value) (size bytes : Nat) (ht : P.underlying t = some (.slice e)) (hi : P.info? e = some i) (hz : i.zero = some z)
    (hsize : i.size = size) (hby : i.bytes = bytes) (hzs : z.cells.size = size) (hsz : 0 < size)
    (v : Value) (n : Nat) (xs : List Value) (hs : a.eval s = v) (hown : w.ownsRow base e size v n xs)
    (B : Nat) (A : Option Addr) (m c : Nat) (news : List Value) (hx : a.eval x = .slice A m c) (hr : Rd w B size A m news) (h1 : ∀ u ∈ news, u.oneCell' = true)
    (h63 : n + m ≤ maxLen) (hbytes : (n + m) * bytes ≤ 140737488355328) (hbase : base ≤ w.heap.size)
    (h : ∀ v' w', w'.ownsRow base e size v' (n + m) (xs ++ news) → w.grownBy w' v.ownBlock → (v'.ownBlock = v.ownBlock ∨ v'.ownBlock = some w.heap.size) → K (a.put o.dst v') w') :
    if Region.wanted o (yielded ops a.tmps) = true then Oper.wp P o a w K Q else E := by
  have hw : Region.wanted o (yielded ops a.tmps) = true := by simp [Region.wanted, hgd]
  rw [if_pos hw]
  exact wp_app_rd w s x t ho base e i z size bytes ht hi hz hsize hby hzs hsz v n xs hs hown B A m c news hx hr h1 h63 hbytes hbase h
end
end Go.Proofs.YtmpemeemlhmaaaaGreat

namespace Go.Proofs.YtmpemeemlhmaaaaGreat
open Go.RowKit

theorem infoU8 : (Tryz.prog.info? 5).map (fun i => (i.zero, i.size, i.bytes)) = some (some (.int .u8 0), 1, 1) := by kernel_rfl

/-- the bytes of a number, the least first -/
def lowB (n i : Nat) : UInt8 := UInt8.ofNat (n / 2 ^ (8 * i))
def lowPut (n k : Nat) : List UInt8 := (List.range k).map (lowB n)
def numPut (n k : Nat) (big : Bool) : List UInt8 := if big then (lowPut n k).reverse else lowPut n k

theorem rev_step (f : Nat → Int) (k m n i : Nat) (hm : m + k + 1 = n) (hkm : k < m) (hi : i < n) (x y : Int) (hx : x = f k) (hy : y = f m) :
    (if i = m then Value.int .u8 x else if i = k then Value.int .u8 y else Value.int .u8 (if i < k ∨ n - k ≤ i then f (n - 1 - i) else f i)) =
      Value.int .u8 (if i < k + 1 ∨ n - (k + 1) ≤ i then f (n - 1 - i) else f i) := by
  subst hx hy
  by_cases h1 : i = m
  · subst h1
    rw [if_pos rfl, if_pos (by omega)]
    congr 2; omega
  · rw [if_neg h1]
    by_cases h2 : i = k
    · subst h2
      rw [if_pos rfl, if_pos (by omega)]
      congr 2; omega
    · rw [if_neg h2]
      by_cases h3 : i < k ∨ n - k ≤ i
      · rw [if_pos h3, if_pos (by omega)]
      · rw [if_neg h3, if_neg (by omega)]

set_option maxRecDepth 100000 in
theorem reverse_any (g n c : Nat) (f : Nat → Int) (w : World) (hb : w.rowIs g 5 n (fun j => .int .u8 (f j))) (hn : n ≤ 4611686018427387904) :
    Calls Tryz.prog 124 #[.slice (some ⟨g, 0, none⟩) n c] w fun e w' => e = .returned (.tuple #[]) ∧
      w'.rowIs g 5 n (fun j => .int .u8 (f (n - 1 - j))) ∧ w.grownBy w' (some g) := by
  go_enter Tryz.func124, Tryz.ntmps124
  go_wp2
  go_loopw [2, 3] (fun s2 s3 wr => ∃ k : Nat, 2 * k ≤ n + 1 ∧ s2 = .int .i64 k ∧ s3 = .int .i64 ((n : Int) - 1 - k) ∧ wr.rowIs g 5 n (fun j => .int .u8 (if j < k ∨ n - k ≤ j then f (n - 1 - j) else f j)) ∧ w.grownBy wr (some g)) (fun _ s3 _ => (intOf s3 + 1).toNat)
  case atStart => exact ⟨0, by omega, rfl, by simp, hb.congr (fun i hi => by rw [if_neg (by omega)]), World.grownBy.refl _ _⟩
  case round =>
    obtain ⟨k, hk, rfl, rfl, hrow, hg⟩ := hrel
    by_cases hlt : (k : Int) < (n : Int) - 1 - k
    · obtain ⟨m, hm⟩ : ∃ m : Nat, (n : Int) - 1 - k = m := ⟨n - 1 - k, by omega⟩
      have hm1 : k < m := by omega
      have hm2 : m + k + 1 = n := by omega
      rw [hm] at hlt ⊢
      clear hm
      have HM := Lib.hid hm2
      have c1 := hrow.cell (i := k) (by omega)
      have c2 := hrow.cell (i := m) (by omega)
      have f1 := hrow.frozen k
      have f2 := hrow.frozen m
      rw [if_neg (by omega)] at c1 c2
      have hb1 : (k : Int) < n := by omega
      have hb2 : (m : Int) < n := by omega
      clear hm2
      obtain ⟨x, hx⟩ : ∃ x, x = f k := ⟨_, rfl⟩
      obtain ⟨y, hy⟩ : ∃ y, y = f m := ⟨_, rfl⟩
      rw [← hx] at c1
      rw [← hy] at c2
      have HX := Lib.hid hx
      have HY := Lib.hid hy
      clear hx hy
      have HR := Lib.hid hrow
      clear hrow
      go_wp2
      go_region
      all_goals go_wp2
      all_goals go_roundw
      case rel =>
        have hm2 := HM.out
        refine ⟨k + 1, by omega, by go_num, by simp <;> omega, ?_, ?_⟩
        · refine (((HR.out.drew.set k _).set m _)).congr (fun i hi => ?_)
          exact rev_step f k m n i hm2 hm1 hi x y HX.out HY.out
        · exact gb_set (gb_set (gb_drew hg) (.inl rfl) _) (.inl rfl) _
      case measure => simp [intOf] <;> omega
    · go_wp2
      go_end0
      refine ⟨rfl, hrow.congr (fun i hi => ?_), hg⟩
      by_cases h1 : i < k ∨ n - k ≤ i
      · rw [if_pos h1]
      · rw [if_neg h1]
        have : n - 1 - i = i := by omega
        rw [this]

theorem reverse_none (c : Nat) (A : Option Addr) (w : World) : Calls Tryz.prog 124 #[.slice A 0 c] w fun e w' => e = .returned (.tuple #[]) ∧ w = w' := by
  go_enter Tryz.func124, Tryz.ntmps124
  go_wp2
  go_loop [2, 3] (fun s2 s3 => s2 = .int .i64 0 ∧ s3 = .int .i64 (-1)) (fun _ _ => 0)
  case atStart => exact ⟨rfl, rfl⟩
  case round =>
    obtain ⟨rfl, rfl⟩ := hrel
    go_wp2
    go_end0
    exact ⟨rfl, rfl⟩
theorem lowB_int (n i : Nat) : ((lowB n i).toNat : Int) = (n : Int) / 2 ^ (8 * i) % 256 := by
  unfold lowB
  simp [UInt8.toNat_ofNat]

set_option maxRecDepth 100000 in
theorem put_low (n k : Nat) (hk : k ≤ 8) (hn : n < 18446744073709551616) (big : Bool) (w : World) :
    Calls Tryz.prog 84 #[.int .u64 n, .int .i64 k, .bool big] w fun e w' => e = .returned (.slice (some ⟨w.heap.size, 0, none⟩) k k) ∧
      w'.rowIs w.heap.size 5 k (fun j => bv ((numPut n k big).getD j 0)) ∧ Below w.heap.size w w' := by
  have hmk := run_make_row' (P := Tryz.prog) 32 5 (.int .u8 0) 1 Tryz.underlying32 infoU8 rfl .i64 .i64 k (by omega) (by omega)
  go_enter Tryz.func84, Tryz.ntmps84
  go_wp2
  go_loopw [15] (fun s15 wr => ∃ i : Nat, i ≤ k ∧ s15 = .int .i64 i ∧ wr.rowIs w.heap.size 5 k (fun j => if j < i then bv (lowB n j) else .int .u8 0) ∧ Below w.heap.size w wr) (fun s15 _ => k - (intOf s15).toNat)
  case atStart =>
    refine ⟨0, by omega, rfl, ?_, (Below.refl _ _).alloc (Nat.le_refl _) _⟩
    exact (World.rowIs_made w (.int .u8 0) k _).congr (fun i hi => by simp)
  case round =>
    obtain ⟨i, hi, rfl, hrow, hb⟩ := hrel
    by_cases hlt : i < k
    · have c1 := hrow.cell hlt
      have f1 := hrow.frozen i
      rw [if_neg (by omega)] at c1
      have hlb := lowB_int n i
      have HL := Lib.hid hlb
      have HR := Lib.hid hrow
      have HB := Lib.hid hb
      clear hlb hrow hb hmk
      go_wp2
      go_roundw
      case rel =>
        refine ⟨i + 1, by omega, by go_num, ?_, ?_⟩
        · refine (HR.out.set i _).congr (fun j hj => ?_)
          by_cases e : j = i
          · subst e
            rw [if_pos rfl, if_pos (by omega)]
            unfold bv
            rw [HL.out]
          · rw [if_neg e]
            by_cases e2 : j < i
            · rw [if_pos e2, if_pos (by omega)]
            · rw [if_neg e2, if_neg (by omega)]
        · exact HB.out.setCell (Nat.le_refl _) _
      case measure => simp [intOf] <;> omega
    · obtain rfl : i = k := by omega
      have HB := Lib.hid hb
      clear hb hmk
      cases big
      · have HR := Lib.hid hrow
        clear hrow
        go_wp2
        go_ret
        refine ⟨rfl, HR.out.congr (fun j hj => ?_), HB.out⟩
        rw [if_pos hj]
        simp [numPut, lowPut, List.getD_eq_getElem?_getD, hj]
      · have hrow2 : wr.rowIs w.heap.size 5 i (fun j => .int .u8 ((lowB n j).toNat : Nat)) := hrow.congr (fun j hj => by rw [if_pos hj]; rfl)
        have hrev := fun c => reverse_any w.heap.size i c (fun j => ((lowB n j).toNat : Nat)) wr hrow2 (by omega)
        clear hrow hrow2
        go_wp2_with (go_at_call 124; refine (hrev _).mono ?_; rintro e w' ⟨rfl, hr', hg'⟩)
        go_ret
        refine ⟨rfl, hr'.congr (fun j hj => ?_), gb_below HB.out hg' (Nat.le_refl _) HB.out.size⟩
        simp [numPut, lowPut, List.getD_eq_getElem?_getD, List.getElem?_reverse, hj, bv]
/-- the number of bytes, the greatest first -/
def bigNum (l : List UInt8) : Nat := l.foldl (fun a c => a * 256 + c.toNat) 0
theorem bigNum_snoc (l : List UInt8) (c : UInt8) : bigNum (l ++ [c]) = bigNum l * 256 + c.toNat := by simp [bigNum]
theorem bigNum_lt (l : List UInt8) : bigNum l < 256 ^ l.length := by
  have key : ∀ (l : List UInt8) (a k : Nat), a < 256 ^ k → l.foldl (fun a c => a * 256 + c.toNat) a < 256 ^ (k + l.length) := by
    intro l
    induction l with
    | nil => intro a k h; simpa using h
    | cons c l ih =>
      intro a k h
      have := ih (a * 256 + c.toNat) (k + 1) (by rw [Nat.pow_succ]; have := c.toNat_lt; omega)
      simp only [List.foldl_cons, List.length_cons]
      rw [show k + (l.length + 1) = k + 1 + l.length by omega]
      exact this
  have := key l 0 0 (by simp)
  rw [Nat.zero_add] at this
  exact this
theorem bigNum_lt64 (l : List UInt8) (h : l.length ≤ 8) : bigNum l < 18446744073709551616 := by
  have h1 := bigNum_lt l
  have h2 : 256 ^ l.length ≤ 256 ^ 8 := Nat.pow_le_pow_right (by omega) h
  omega
theorem take_succ_getD (l : List UInt8) (k : Nat) (h : k < l.length) : l.take (k + 1) = l.take k ++ [l.getD k 0] := by
  rw [List.take_succ_eq_append_getElem h, List.getD_eq_getElem?_getD, List.getElem?_eq_getElem h]
  rfl

theorem or_byte (a c : Nat) (ha : a * 256 < 18446744073709551616) (hc : c < 256) : bits .or .u64 ((a : Int) * 256) (c : Int) = ((a * 256 + c : Nat) : Int) := by
  rw [show (a : Int) * 256 = ((a * 256 : Nat) : Int) by omega, bits_or_u64_nat _ _ ha (by omega)]
  rw [show a * 256 = a <<< 8 by rw [Nat.shiftLeft_eq], Nat.shiftLeft_add_eq_or_of_lt (by omega)]

set_option maxRecDepth 100000 in
theorem get_big (A : Option Addr) (n c : Nat) (l : List UInt8) (w : World) (hnc : n ≤ c) (hc : c ≤ 9223372036854775807) (hr : RdB w w.heap.size A n l) :
    Calls Tryz.prog 135 #[.slice A n c, .bool true] w fun e w' => e = .returned (.int .u64 (bigNum (l.take 8))) ∧ Below w.heap.size w w' := by
  have hlen := hr.len
  have hr2 := hr.alloc (Nat.le_refl _) (.cells #[.int .u64 0] 137)
  obtain ⟨m, hm, hm8, hmn⟩ : ∃ m : Nat, (if (8 : Int) < (n : Int) then (8 : Int) else (n : Int)) = m ∧ m ≤ 8 ∧ m ≤ n := ⟨min n 8, by split <;> omega, by omega, by omega⟩
  have hmm : m = min n 8 := by split at hm <;> omega
  have HMM := Lib.hid hmm
  have hnl : n ≤ l.length := by omega
  have HLEN := Lib.hid hlen
  clear hlen hmm
  go_enter Tryz.func135, Tryz.ntmps135
  go_wp2
  have HM := Lib.hid hm
  clear hm
  go_loopw [18] (fun s18 wr => ∃ i : Nat, i ≤ m ∧ s18 = .int .i64 i ∧ wr.rowIs w.heap.size 137 1 (fun _ => .int .u64 (bigNum (l.take i))) ∧ RdB wr w.heap.size A n l ∧ Below w.heap.size w wr) (fun s18 _ => m - (intOf s18).toNat)
  case atStart => exact ⟨0, by omega, rfl, (World.rowIs_alloc w #[.int .u64 0] _ _ (fun i hi => by simp at hi; subst hi; rfl)), hr2, (Below.refl _ _).alloc (Nat.le_refl _) _⟩
  case round =>
    obtain ⟨i, hi, rfl, hrow, hrd, hb⟩ := hrel
    by_cases hlt : i < m
    · obtain ⟨a, rfl, hab, hcell⟩ := hrd.at_ (k := i) (by omega)
      have c1 := hrow.cell (i := 0) (by omega)
      have f1 := hrow.frozen 0
      have hbn := bigNum_lt (l.take i)
      have hsn := bigNum_snoc (l.take i) (l.getD i 0)
      rw [← take_succ_getD l i (by omega)] at hsn
      have hb8 : bigNum (l.take i) * 256 < 18446744073709551616 := by
        have h1 : (l.take i).length ≤ 7 := by rw [List.length_take]; omega
        have h2 : 256 ^ (l.take i).length ≤ 256 ^ 7 := Nat.pow_le_pow_right (by omega) h1
        omega
      have hor := or_byte (bigNum (l.take i)) (l.getD i 0).toNat hb8 (l.getD i 0).toNat_lt
      have HSN := Lib.hid hsn
      have HR := Lib.hid hrow
      have HD := Lib.hid hrd
      have HB := Lib.hid hb
      have hlt8 := (l.getD i 0).toNat_lt
      unfold bv at hcell
      generalize (l.getD i 0).toNat = ch at hcell hor hlt8 HSN
      generalize bigNum (l.take i) = nn at c1 hb8 hor HSN HR
      clear hrow hrd hb hsn hbn hr hr2
      go_wp2
      go_roundw
      case rel =>
        refine ⟨i + 1, by omega, by go_num, ?_, ?_, ?_⟩
        · refine (HR.out.set 0 _).congr (fun j hj => ?_)
          rw [if_pos (by omega), HSN.out]
          go_num
        · exact HD.out.setCell (Nat.le_refl _) _
        · exact HB.out.setCell (Nat.le_refl _) _
      case measure => simp [intOf] <;> omega
    · obtain rfl : i = m := by omega
      have c1 := hrow.cell (i := 0) (by omega)
      have HB := Lib.hid hb
      clear hrow hrd hb hr hr2
      go_wp2
      go_ret
      refine ⟨?_, HB.out⟩
      have hmm := HMM.out
      have hlen := HLEN.out
      have e : l.take 8 = l.take i := by
        rw [hmm]
        by_cases h8 : n ≤ 8
        · rw [Nat.min_eq_left h8, List.take_of_length_le (by omega), List.take_of_length_le (by omega)]
        · rw [Nat.min_eq_right (by omega)]
      rw [e]
      rfl
end Go.Proofs.YtmpemeemlhmaaaaGreat
