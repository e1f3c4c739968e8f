/-
  The walks of each, Valid and Mul of monomials. Conditions: exponents of at most 2^40.
-/
import Derived.Test.YtmkhfgggleplfaaLawF
import Derived.StillTailTactics
namespace Go.Proofs.Ytmkhfgggleplfaa
set_option linter.unusedSimpArgs false
set_option linter.unusedVariables false
open Go.RowKit

theorem mulf_any (x y : Int) (w : World) (hx : -1099511627776 ≤ x ∧ x ≤ 1099511627776) (hy : -1099511627776 ≤ y ∧ y ≤ 1099511627776) :
    Calls Try.prog 47 #[.int .i64 x, .int .i64 y] w fun e w' => e = .returned (.int .i64 (x + y)) ∧ w' = w := by
  have hs : IntKind.i64.wrap (x + y) = x + y := IntWalk.i64_in _ (by omega)
  go_enter Try.func47, Try.ntmps47
  go_wp2
  go_ret
  exact ⟨rfl, rfl⟩
set_option maxHeartbeats 1000000 in
set_option maxRecDepth 100000 in
theorem each_mul (a b : Nat → Int) (w : World) (ha : ∀ k, k < 8 → -1099511627776 ≤ a k ∧ a k ≤ 1099511627776) (hb : ∀ k, k < 8 → -1099511627776 ≤ b k ∧ b k ≤ 1099511627776) :
    Calls Try.prog 46 #[.agg (vec8 a), .agg (vec8 b), .func (.func 47) #[] #[]] w fun e w' => e = .returned (.agg (vec8 fun k => a k + b k)) ∧ Below w.heap.size w w' := by
  go_enter Try.func46, Try.ntmps46
  go_wp2_with fail
  obtain ⟨W0, hW0, hbl, hA, hB, hC, hsz⟩ := boxes3 w 35 35 35 (vec8 a) (vec8 b) (vec8 fun _ => 0)
  rw [← hW0]
  clear hW0 hsz
  go_loopw [8] (fun kv wr => ∃ k : Nat, k ≤ 8 ∧ kv = .int .i64 k ∧ Blk wr w.heap.size 35 (vec8 fun j => if j < k then a j + b j else a j) ∧ Blk wr (w.heap.size + 1) 35 (vec8 b) ∧ Blk wr (w.heap.size + 1 + 1) 35 (vec8 fun _ => 0) ∧ Below w.heap.size w wr) (fun k _ => 8 - (intOf k).toNat)
  case atStart => exact ⟨0, Nat.zero_le _, rfl, hA, hB, hC, hbl⟩
  case round =>
    obtain ⟨k, hk, rfl, h2, h3, h4, hbw⟩ := hrel
    by_cases hk8 : k < 8
    · have hki : (k : Int) < 8 := by omega
      have hk0 : (0 : Int) ≤ (k : Int) := by omega
      have ca := (h2.cell k).trans (vec8_get _ hk8)
      rw [if_neg (Nat.lt_irrefl k)] at ca
      have cb := (h3.cell k).trans (vec8_get b hk8)
      have hf := h2.frozen k
      have hak := ha k hk8
      have hbk := hb k hk8
      have H2 := Lib.hid h2
      have H3 := Lib.hid h3
      have H4 := Lib.hid h4
      have HA := Lib.hid ha
      have HB := Lib.hid hb
      clear h2 h3 h4 ha hb
      go_wp2_with fail
      go_still_tail 10, (by kernel_rfl)
      still_call (mulf_any (a k) (b k) _ hak hbk)
      repeat still_step
      refine wpStill_nil ?_
      change wpList _ _ _ _ _ wr.drew
      have H2' := Lib.hid H2.out.drew
      have H3' := Lib.hid H3.out.drew
      have H4' := Lib.hid H4.out.drew
      have hbw' : Below w.heap.size w wr.drew := hbw.drewN 1
      clear ca cb H2 H3 H4 hbw
      replace hf : wr.drew.frozen? ⟨w.heap.size, k, none⟩ = false := hf
      generalize wr.drew = w1 at *
      have hf1 := H2'.out.frozen k
      have hc1 := (H2'.out.cell k).trans (vec8_get _ hk8)
      go_wp2_with fail
      go_roundw
      case rel =>
        refine ⟨k + 1, by omega, by go_num, ?_, H3'.out.far (by show w.heap.size + 1 ≠ w.heap.size; omega) _, H4'.out.far (by show w.heap.size + 1 + 1 ≠ w.heap.size; omega) _, hbw'.setCell (by show w.heap.size ≤ w.heap.size; omega) _⟩
        have := H2'.out.set8 hk8 (a k + b k)
        rwa [vec8_congr (h := fun j => if j < k + 1 then a j + b j else a j)] at this
        intro j hj
        by_cases e : j = k
        · subst e; rw [if_pos rfl, if_pos (Nat.lt_succ_self j)]
        · rw [if_neg e]
          by_cases h : j < k
          · rw [if_pos h, if_pos (by omega)]
          · rw [if_neg h, if_neg (by omega)]
      case measure => simp [intOf]; omega
    · obtain rfl : k = 8 := by omega
      have h5 : Blk wr w.heap.size 35 (vec8 fun j => a j + b j) := by rwa [vec8_congr (h := fun j => a j + b j)] at h2; intro j hj; rw [if_pos hj]
      obtain ⟨c0, c1, c2, c3, c4, c5, c6, c7⟩ := h5.eight
      obtain ⟨d0, d1, d2, d3, d4, d5, d6, d7⟩ := h4.eight
      obtain ⟨e0, e1, e2, e3, e4, e5, e6, e7⟩ := h4.eightF
      go_wp2
      refine bodyPost_ret (v := .agg (vec8 fun k => a k + b k)) (by simp [results, Try.results46, go_sem, d0, d1, d2, d3, d4, d5, d6, d7]) rfl ⟨rfl, ?_⟩
      have hs : w.heap.size ≤ w.heap.size + 1 + 1 := by omega
      exact (((((((hbw.setCell hs _).setCell hs _).setCell hs _).setCell hs _).setCell hs _).setCell hs _).setCell hs _).setCell hs _

/-- a monomial whose exponents are in their range -/
def validM (a : Nat → Int) : Prop := ∀ k, k < 8 → 0 ≤ a k ∧ a k ≤ 65535
set_option maxHeartbeats 1000000 in
set_option maxRecDepth 100000 in
theorem mvalid_any (a : Nat → Int) (w : World) :
    Calls Try.prog 48 #[.agg (vec8 a)] w fun e w' => Says (validM a) e ∧ Below w.heap.size w w' := by
  obtain ⟨W0, hW0, hb0, hB0⟩ : ∃ W0, W0 = w.alloc (.cells (vec8 a) 35) ∧ Below w.heap.size w W0 ∧ Blk W0 w.heap.size 35 (vec8 a) := ⟨_, rfl, (Below.refl _ _).alloc (Nat.le_refl _) _, Blk.new _ _ _⟩
  obtain ⟨c0, c1, c2, c3, c4, c5, c6, c7⟩ := hB0.eight
  go_enter Try.func48, Try.ntmps48
  go_wp2_with fail
  rw [← hW0]
  clear hW0
  go_wp2_with fail
  clear c0 c1 c2 c3 c4 c5 c6 c7
  go_loopw [6] (fun kv wr => ∃ k : Nat, k ≤ 8 ∧ kv = .int .i64 k ∧ (∀ j, j < k → 0 ≤ a j ∧ a j ≤ 65535) ∧ Below w.heap.size w wr) (fun k _ => 8 - (intOf k).toNat)
  case atStart => exact ⟨0, Nat.zero_le _, rfl, fun j hj => absurd hj (by omega), hb0⟩
  case round =>
    obtain ⟨k, hk, rfl, hz, hb⟩ := hrel
    have HZ := Lib.hid hz
    clear hz
    by_cases hk8 : k < 8
    · have hki : (k : Int) < 8 := by omega
      have hix := index_mono (vec8_get a hk8) hk8
      by_cases h1 : a k < 0
      · go_wp2
        go_ret
        exact ⟨⟨false, rfl, ⟨fun h => (by cases h), fun h => by have := h k hk8; omega⟩⟩, hb⟩
      · by_cases h2 : 65535 < a k
        · go_wp2
          go_ret
          exact ⟨⟨false, rfl, ⟨fun h => (by cases h), fun h => by have := h k hk8; omega⟩⟩, hb⟩
        · go_wp2_with fail
          go_roundw
          case rel =>
            refine ⟨k + 1, by omega, by go_num, fun j hj => ?_, hb⟩
            by_cases h : j < k
            · exact HZ.out j h
            · rw [show j = k from by omega]; omega
          case measure => simp [intOf]; omega
    · obtain rfl : k = 8 := by omega
      go_wp2
      go_ret
      exact ⟨⟨true, rfl, ⟨fun _ => HZ.out, fun _ => rfl⟩⟩, hb⟩

set_option maxHeartbeats 1000000 in
set_option maxRecDepth 100000 in
/-- the product of two small monomials -/
theorem mono_mul (a b : Nat → Int) (w : World) (ha : Small a) (hb : Small b) (hv : validM fun k => a k + b k) :
    Calls Try.prog 33 #[.agg (vec8 a), .agg (vec8 b)] w fun e w' => e = .returned (.tuple #[.agg (vec8 fun k => a k + b k), .int .i64 0]) ∧ Below w.heap.size w w' := by
  have ha40 : ∀ k, k < 8 → -1099511627776 ≤ a k ∧ a k ≤ 1099511627776 := fun k hk => by have := ha k hk; omega
  have hb40 : ∀ k, k < 8 → -1099511627776 ≤ b k ∧ b k ≤ 1099511627776 := fun k hk => by have := hb k hk; omega
  have HA := Lib.hid ha40
  have HB := Lib.hid hb40
  have HV := Lib.hid hv
  clear ha hb ha40 hb40 hv
  go_enter Try.func33, Try.ntmps33
  go_upto_region 1 with fail
  obtain ⟨W0, hW0, hbl, hA, hB, hC, hsz⟩ := boxes3 w 35 35 35 (vec8 a) (vec8 b) (vec8 fun _ => 0)
  rw [← hW0]
  clear hW0
  obtain ⟨a0, a1, a2, a3, a4, a5, a6, a7⟩ := hA.eight
  obtain ⟨b0, b1, b2, b3, b4, b5, b6, b7⟩ := hB.eight
  go_wp2_with fail
  (with_reducible refine (each_mul a b W0 HA.out HB.out).mono ?_)
  rintro e w1 ⟨rfl, hb1⟩
  clear a0 a1 a2 a3 a4 a5 a6 a7 b0 b1 b2 b3 b4 b5 b6 b7
  have hC1 := hC.below hb1 (by omega)
  have hbw := hbl.trans (hb1.mono hbl.size)
  have hs1 := hb1.size
  go_upto_region 2 with fail
  obtain ⟨W1, hW1, hbl1, hD, hs2⟩ : ∃ W1, W1 = w1.alloc (.cells (vec8 fun k => a k + b k) 35) ∧ Below w1.heap.size w1 W1 ∧ Blk W1 w1.heap.size 35 (vec8 fun k => a k + b k) ∧ w1.heap.size < W1.heap.size := ⟨_, rfl, (Below.refl _ _).alloc (Nat.le_refl _) _, Blk.new _ _ _, by simp⟩
  rw [← hW1]
  clear hW1
  have hC2 := hC1.below hbl1 (by omega)
  have hbw1 := hbw.trans (hbl1.mono hbw.size)
  obtain ⟨a0, a1, a2, a3, a4, a5, a6, a7⟩ := hD.eight
  go_wp2_with fail
  (with_reducible refine (mvalid_any (fun k => a k + b k) W1).mono ?_)
  rintro e w2 ⟨⟨r, rfl, hr⟩, hb2⟩
  obtain rfl : r = true := hr.2 HV.out
  clear hr a0 a1 a2 a3 a4 a5 a6 a7
  have hC3 := hC2.below hb2 (by omega)
  have hD3 := hD.below hb2 (by omega)
  have hbw2 := hbw1.trans (hb2.mono hbw1.size)
  obtain ⟨a0, a1, a2, a3, a4, a5, a6, a7⟩ := hD3.eight
  obtain ⟨d0, d1, d2, d3, d4, d5, d6, d7⟩ := hC3.eight
  obtain ⟨e0, e1, e2, e3, e4, e5, e6, e7⟩ := hC3.eightF
  go_wp2
  refine bodyPost_ret (v := .tuple #[.agg (vec8 fun k => a k + b k), .int .i64 0]) (by simp [results, Try.results33, go_sem, d0, d1, d2, d3, d4, d5, d6, d7]) rfl ⟨rfl, ?_⟩
  have hs : w.heap.size ≤ w.heap.size + 1 + 1 := by omega
  exact (((((((hbw2.setCell hs _).setCell hs _).setCell hs _).setCell hs _).setCell hs _).setCell hs _).setCell hs _).setCell hs _

end Go.Proofs.Ytmkhfgggleplfaa
