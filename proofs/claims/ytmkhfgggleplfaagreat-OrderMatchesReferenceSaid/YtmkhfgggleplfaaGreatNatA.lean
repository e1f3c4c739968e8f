/-
  The walks of the small functions on words: norm, at, Add32, Sub32, add, sub. Conditions: lengths below 2^40.
-/
import Derived.Test.YtmkhfgggleplfaaGreatBase
import Derived.Test.YtmkhfgggleplfaaGreatChecked
import Derived.BigQuiet
namespace Go.Proofs.YtmkhfgggleplfaaGreat
set_option linter.unusedSimpArgs false
set_option linter.unusedVariables false
open Go.RowKit

set_option maxHeartbeats 400000 in
theorem norm_any (A : Option Addr) (n c : Nat) (l : List Nat) (w : World) (h : WordsAt w A l) (hn : l.length = n) (hl : n ≤ c) (hc : c ≤ 9223372036854775807) :
    Calls Tryz.prog 111 #[.slice A n c] w fun e w' => e = .returned (.slice A (trimLen l) (trimLen l)) ∧ w = w' := by
  subst hn
  go_enter Tryz.func111, Tryz.ntmps111
  go_wp2
  go_loop [3] (fun n => ∃ k : Nat, k ≤ l.length ∧ trimLen l ≤ k ∧ n = .int .i64 k) (fun n => (intOf n).toNat)
  case atStart => exact ⟨l.length, Nat.le_refl _, trimLen_le l, rfl⟩
  case round =>
    obtain ⟨k, hk, ht, rfl⟩ := hrel
    by_cases hk0 : 0 < k
    · obtain ⟨b, off, rfl, hb, hcell⟩ := h (by omega)
      obtain ⟨k, rfl⟩ : ∃ j, k = j + 1 := ⟨k - 1, by omega⟩
      have hc1 := hcell k (by omega)
      clear hcell
      by_cases hz : dg l k = 0
      · have hz' : ((dg l k : Int) == 0) = true := by rw [beq_iff_eq]; omega
        have htk : trimLen l ≤ k := by
          rcases Nat.lt_or_ge k (trimLen l) with h1 | h1
          · have := trimLen_last l (by omega)
            rw [show trimLen l - 1 = k from by omega] at this
            exact absurd hz this
          · exact h1
        clear hz
        go_wp2
        go_round
        case rel => exact ⟨k, by omega, htk, rfl⟩
        case measure => simp [intOf]
      · have hz' : ((dg l k : Int) == 0) = false := by rw [beq_eq_false_iff_ne]; omega
        have htk : Hid (trimLen l = k + 1) := by
          rcases Nat.lt_or_ge k (trimLen l) with h1 | h1
          · show trimLen l = k + 1; omega
          · exact absurd (trimLen_zero l k h1) hz
        clear hz
        go_wp2
        go_ret
        exact ⟨by rw [htk.out]; rfl, rfl⟩
    · have hk1 : k = 0 := by omega
      subst hk1
      have ht0 : Hid (trimLen l = 0) := by show trimLen l = 0; omega
      go_wp2
      go_ret
      exact ⟨by rw [ht0.out]; rfl, rfl⟩

theorem at_any (A : Option Addr) (n c : Nat) (l : List Nat) (i : Int) (w : World) (h : WordsAt w A l) (hn : l.length = n) (hi0 : 0 ≤ i) (hl : n ≤ 9223372036854775807) :
    Calls Tryz.prog 129 #[.slice A n c, .int .i64 i] w fun e w' => e = .returned (.int .u32 (dg l i.toNat : Int)) ∧ w = w' := by
  subst hn
  obtain ⟨i, rfl⟩ := Int.eq_ofNat_of_zero_le hi0
  rw [Int.toNat_natCast]
  by_cases hi : i < l.length
  · obtain ⟨b, off, rfl, hb, hcell⟩ := h (by omega)
    have hc1 := hcell i hi
    clear hcell
    go_enter Tryz.func129, Tryz.ntmps129
    go_wp2
    go_ret
    exact ⟨rfl, rfl⟩
  · have hz : Hid (dg l i = 0) := dg_ge (by omega)
    go_enter Tryz.func129, Tryz.ntmps129
    go_wp2
    go_ret
    exact ⟨by rw [hz.out]; rfl, rfl⟩

theorem add32_any (x y z : Int) (w : World) (hx : 0 ≤ x) (hx' : x < 4294967296) (hy : 0 ≤ y) (hy' : y < 4294967296) (hz : 0 ≤ z) (hz' : z ≤ 1) :
    Calls Tryz.prog 128 #[.int .u32 x, .int .u32 y, .int .u32 z] w fun e w' =>
      e = .returned (.tuple #[.int .u32 ((x + y + z) % 4294967296), .int .u32 ((x + y + z) / 4294967296)]) ∧ w = w' := by
  go_enter Tryz.func128, Tryz.ntmps128
  go_wp2
  go_ret2
  exact ⟨rfl, rfl⟩

def bor32 (x y z : Int) : Int := if x < y + z then 1 else 0
theorem top32 {n : Nat} (hn : n < 4294967296) : n / 2147483648 = (n.testBit 31).toNat := by
  rw [Nat.testBit_eq_decide_div_mod_eq]
  simp only [Nat.reducePow]
  have h : n / 2147483648 < 2 := by omega
  rcases Nat.lt_or_ge (n / 2147483648) 1 with h1 | h1
  · rw [show n / 2147483648 = 0 from by omega]; decide
  · rw [show n / 2147483648 = 1 from by omega]; decide
theorem borrow32 (x y z : Int) (hx : 0 ≤ x) (hx' : x < 4294967296) (hy : 0 ≤ y) (hy' : y < 4294967296) (hz : 0 ≤ z) (hz' : z ≤ 1) :
    bits BinOp.or IntKind.u32 (bits BinOp.and IntKind.u32 (bits BinOp.xor IntKind.u32 IntKind.u32.max x) y)
      (bits BinOp.and IntKind.u32 (bits BinOp.xor IntKind.u32 IntKind.u32.max (bits BinOp.xor IntKind.u32 x y)) ((x - y - z) % 4294967296)) / 2147483648 = bor32 x y z := by
  obtain ⟨x, rfl⟩ := Int.eq_ofNat_of_zero_le hx
  obtain ⟨y, rfl⟩ := Int.eq_ofNat_of_zero_le hy
  obtain ⟨d, hd⟩ := Int.eq_ofNat_of_zero_le (show 0 ≤ ((x : Int) - y - z) % 4294967296 by omega)
  have hd' : d < 4294967296 := by omega
  have hX : x < 2 ^ 32 := by omega
  have hY : y < 2 ^ 32 := by omega
  have hm : IntKind.u32.max = ((4294967295 : Nat) : Int) := by decide
  have b1 : 4294967295 ^^^ x < 4294967296 := Nat.xor_lt_two_pow (n := 32) (by omega) hX
  have b2 : x ^^^ y < 4294967296 := Nat.xor_lt_two_pow (n := 32) hX hY
  have b3 : 4294967295 ^^^ (x ^^^ y) < 4294967296 := Nat.xor_lt_two_pow (n := 32) (by omega) b2
  have b4 : (4294967295 ^^^ x) &&& y < 4294967296 := Nat.and_lt_two_pow (n := 32) _ hY
  have b5 : (4294967295 ^^^ (x ^^^ y)) &&& d < 4294967296 := Nat.and_lt_two_pow (n := 32) _ hd'
  have b6 : ((4294967295 ^^^ x) &&& y) ||| ((4294967295 ^^^ (x ^^^ y)) &&& d) < 4294967296 := Nat.or_lt_two_pow (n := 32) b4 b5
  rw [hd, hm, u32_xor_nat _ _ (by omega) (by omega), u32_xor_nat _ _ (by omega) (by omega), u32_and_nat _ _ b1 (by omega), u32_xor_nat _ _ (by omega) b2, u32_and_nat _ _ b3 hd', u32_or_nat _ _ b4 b5]
  have ht := top32 b6
  have tx := top32 (show x < 4294967296 by omega)
  have ty := top32 (show y < 4294967296 by omega)
  have td := top32 hd'
  simp only [Nat.testBit_or, Nat.testBit_and, Nat.testBit_xor, show Nat.testBit 4294967295 31 = true from by decide] at ht
  have e : (((4294967295 ^^^ x) &&& y) ||| ((4294967295 ^^^ (x ^^^ y)) &&& d) : Nat) / 2147483648 = (if (x : Int) < y + z then 1 else 0) := by
    rw [ht]
    cases hbx : x.testBit 31 <;> cases hby : y.testBit 31 <;> cases hbd : d.testBit 31 <;> simp only [hbx, hby, hbd, Bool.toNat_true, Bool.toNat_false] at tx ty td <;> split <;> simp <;> omega
  unfold bor32
  have e2 : (((((4294967295 ^^^ x) &&& y) ||| ((4294967295 ^^^ (x ^^^ y)) &&& d) : Nat) : Int) / 2147483648) = (((((4294967295 ^^^ x) &&& y) ||| ((4294967295 ^^^ (x ^^^ y)) &&& d) : Nat) / 2147483648 : Nat) : Int) := by omega
  rw [e2, e]; split <;> rfl
theorem ret_u32pair {a b b' : Int} (h : b = b') : Ending.returned (.tuple #[.int .u32 a, .int .u32 b]) = .returned (.tuple #[.int .u32 a, .int .u32 b']) := by rw [h]
theorem sub32_any (x y z : Int) (w : World) (hx : 0 ≤ x) (hx' : x < 4294967296) (hy : 0 ≤ y) (hy' : y < 4294967296) (hz : 0 ≤ z) (hz' : z ≤ 1) :
    Calls Tryz.prog 130 #[.int .u32 x, .int .u32 y, .int .u32 z] w fun e w' =>
      e = .returned (.tuple #[.int .u32 ((x - y - z) % 4294967296), .int .u32 (bor32 x y z)]) ∧ w = w' := by
  go_enter Tryz.func130, Tryz.ntmps130
  go_wp2
  go_ret2
  exact ⟨ret_u32pair (borrow32 x y z hx hx' hy hy' hz hz'), rfl⟩

theorem info_u32 : (Tryz.prog.info? 110).map (fun i => (i.zero, i.size, i.bytes)) = some (some (.int .u32 0), 1, 4) := by kernel_rfl
/-- make(nat, n) -/
theorem make_nat (n : Nat) (hn : n ≤ 70368744177664) (W : World) : (Instr.makeSlice 114 (.int .i64 (n : Int)) (.int .i64 (n : Int))).run Tryz.prog W =
    .ok (.slice (some ⟨W.heap.size, 0, none⟩) n n) (W.alloc (.cells (madeCells (Value.int .u32 0).cells n) 110)) := by
  obtain ⟨i0, hi, hz0, hz1, hz2⟩ := info_parts info_u32
  have := run_make (P := Tryz.prog) W 114 110 i0 _ Tryz.underlying114 hi hz0 .i64 .i64 (n : Int) (n : Int) (by omega) (by omega) (by rw [hz2]; omega) (by omega)
  rw [hz1, Nat.mul_one, Int.toNat_natCast] at this
  exact this
theorem make_nat1 (n : Nat) (hn : n ≤ 35184372088832) (W : World) : (Instr.makeSlice 114 (.int .i64 ((n : Int) + 1)) (.int .i64 ((n : Int) + 1))).run Tryz.prog W =
    .ok (.slice (some ⟨W.heap.size, 0, none⟩) (n + 1) (n + 1)) (W.alloc (.cells (madeCells (Value.int .u32 0).cells (n + 1)) 110)) := by
  have := make_nat (n + 1) (by omega) W
  rwa [show ((n + 1 : Nat) : Int) = (n : Int) + 1 from by omega] at this

theorem NatV.of_trim {w : World} {g : Nat} {o : List Nat} {t : TypeId} (h : Own w t g o) (d : Ds o) (hl : o.length ≤ 9223372036854775807) :
    NatV w (.slice (some ⟨g, 0, none⟩) (trimLen o) (trimLen o)) (val o) :=
  ⟨_, _, trim o, by rw [trim_length], by rw [trim_length]; exact Nat.le_refl _, by have := trimLen_le o; omega, h.words.take _, canon_trim d, val_trim o⟩

def AddRel (x y : List Nat) (w : World) (N : Nat) (i cv : Value) (wr : World) : Prop :=
  ∃ (k cy : Nat) (o : List Nat), k ≤ N ∧ i = .int .i64 k ∧ cv = .int .u32 cy ∧ cy ≤ 1 ∧ Own wr 110 w.heap.size o ∧ o.length = N + 1 ∧ Ds o ∧ vs o k + cy * pw k = vs x k + vs y k ∧ Below w.heap.size w wr

theorem add_step {x y o : List Nat} {k cy s cy' : Nat} (h : vs o k + cy * pw k = vs x k + vs y k) (hk : k < o.length) (hs : s + 4294967296 * cy' = dg x k + dg y k + cy) :
    vs (o.set k s) (k + 1) + cy' * pw (k + 1) = vs x (k + 1) + vs y (k + 1) := by
  simp only [vs, pw]
  rw [vs_set_ge (Nat.le_refl k), dg_set_self hk]
  have e : (s + 4294967296 * cy') * pw k = (dg x k + dg y k + cy) * pw k := by rw [hs]
  rw [Nat.add_mul, Nat.add_mul, Nat.add_mul, Nat.mul_assoc] at e
  rw [Nat.mul_left_comm cy']
  have e2 : 4294967296 * (cy' * pw k) = 4294967296 * cy' * pw k := by rw [Nat.mul_assoc]
  omega

set_option maxHeartbeats 1000000 in
set_option maxRecDepth 100000 in
theorem add_any (A A' : Option Addr) (c c' : Nat) (x y : List Nat) (w : World) (hx : WordsAt w A x) (hy : WordsAt w A' y) (dx : Ds x) (dy : Ds y)
    (lx : x.length ≤ 1099511627776) (ly : y.length ≤ 1099511627776) :
    Calls Tryz.prog 115 #[.slice A x.length c, .slice A' y.length c'] w fun e w' => ∃ r, e = .returned r ∧ NatV w' r (val x + val y) ∧ Below w.heap.size w w' := by
  have hmk1 := make_nat1 x.length (by omega)
  have hmk2 := make_nat1 y.length (by omega)
  rcases Nat.lt_or_ge x.length y.length with h | h
  all_goals
    go_enter Tryz.func115, Tryz.ntmps115
    go_wp2_with fail
    go_loopw [7, 18] (fun cv i wr => AddRel x y w (max x.length y.length) i cv wr) (fun _ i _ => max x.length y.length - (intOf i).toNat)
    case atStart =>
      refine ⟨0, 0, List.replicate (max x.length y.length + 1) 0, Nat.zero_le _, rfl, rfl, Nat.zero_le _, ?_, by simp, Ds.zeros _, by simp [vs], (Below.refl _ _).alloc (Nat.le_refl _) _⟩
      have := Own.made w 110 (max x.length y.length + 1)
      rw [show max x.length y.length = _ from by first | exact Nat.max_eq_right (Nat.le_of_lt h) | exact Nat.max_eq_left h] at this ⊢
      exact this
    case round =>
      obtain ⟨k, cy, o, hk, rfl, rfl, hcy, hown, hlo, hdo, hv, hb⟩ := hrel
      have hx1 := hx.below hb
      have hy1 := hy.below hb
      clear hx hy hmk1 hmk2
      by_cases hlt : k < max x.length y.length
      · have hc1 := hown.cell (i := k) (by omega)
        have hf1 := hown.frozen k
        have dxk := dx k
        have dyk := dy k
        obtain ⟨s, hs⟩ : ∃ s : Nat, ((dg x k : Int) + (dg y k : Int) + (cy : Int)) % 4294967296 = (s : Int) := ⟨(dg x k + dg y k + cy) % 4294967296, by omega⟩
        obtain ⟨cy', hcy'⟩ : ∃ s : Nat, ((dg x k : Int) + (dg y k : Int) + (cy : Int)) / 4294967296 = (s : Int) := ⟨(dg x k + dg y k + cy) / 4294967296, by omega⟩
        have hsn : s < 4294967296 := by omega
        have hst : Hid (s + 4294967296 * cy' = dg x k + dg y k + cy) := by show s + 4294967296 * cy' = dg x k + dg y k + cy; omega
        have hcy1 : cy' ≤ 1 := by omega
        have hstep := Lib.hid (add_step hv (k := k) (by omega) hst.out)
        have hown' := Lib.hid (hown.set k s)
        have hlo' : Hid (o.length = _) := hlo
        clear hlo hv hst dx dy hown
        go_wp2_with (first | (go_at_call 129; refine (at_any _ _ _ _ _ _ (by assumption) rfl (by omega) (by omega)).mono ?_; rintro e w' ⟨rfl, rfl⟩) | (go_at_call 128; refine (add32_any _ _ _ _ (by omega) (by omega) (by omega) (by omega) (by omega) (by omega)).mono ?_; rintro e w' ⟨rfl, rfl⟩))
        go_roundw
        case rel => exact ⟨k + 1, cy', o.set k s, by omega, by go_num, rfl, hcy1, hown'.out, by rw [List.length_set]; exact hlo'.out, hdo.set hsn, hstep.out, hb.setCell (Nat.le_refl _) _⟩
        case measure => simp [intOf]; omega
      · have hk' : k = max x.length y.length := by omega
        subst hk'
        have hc1 := hown.cell (i := max x.length y.length) (by omega)
        have hf1 := hown.frozen (max x.length y.length)
        have hown' := hown.set (max x.length y.length) cy
        have hfin : Hid (val (o.set (max x.length y.length) cy) = val x + val y) := by
          show val (o.set (max x.length y.length) cy) = val x + val y
          unfold val
          rw [List.length_set, hlo]
          simp only [vs]
          rw [vs_set_ge (Nat.le_refl _), dg_set_self (by omega), hv, vs_len (l := x) (by omega), vs_len (l := y) (by omega)]
          rfl
        have hd' := hdo.set (i := max x.length y.length) (show cy < 4294967296 by omega)
        have hlo' : Hid (o.length = _) := hlo
        have hl1 : (o.set (max x.length y.length) cy).length ≤ max x.length y.length + 1 := by rw [List.length_set]; omega
        have hw := hown'.words
        have hb' := hb.setCell (p := ⟨w.heap.size, max x.length y.length, none⟩) (Nat.le_refl _) (.int .u32 (cy : Int))
        clear hlo hv dx dy hown hb hx1 hy1
        first | rw [Nat.max_eq_right (Nat.le_of_lt h)] at * | rw [Nat.max_eq_left h] at *
        go_wp2_with fail
        refine (norm_any _ _ _ _ _ hw (by rw [List.length_set]; exact hlo'.out) (Nat.le_refl _) (by omega)).mono ?_
        rintro e w' ⟨rfl, rfl⟩
        go_wp2
        go_ret
        exact ⟨_, rfl, by rw [← hfin.out]; exact NatV.of_trim hown' hd' (by omega), hb'⟩

end Go.Proofs.YtmkhfgggleplfaaGreat
