/-
  The walk of OrderEliminates: true. Conditions: entries of type int8, exponents of type uint16.
-/
import Derived.Test.YtmkhfgggleplfaaElimP
import Derived.Test.YtmkhfgggleplfaaInvM
namespace Go.Proofs.Ytmkhfgggleplfaa
set_option linter.unusedSimpArgs false
set_option linter.unusedVariables false
open Go.RowKit

theorem ofInt_u8 (a : Nat) (ha : a < 256) : (BitVec.ofInt 8 (a : Int)).toNat = a := by
  rw [BitVec.ofInt_natCast, BitVec.toNat_ofNat]; exact Nat.mod_eq_of_lt (by omega)
theorem u8_and_nat (a b : Nat) (ha : a < 256) (hb : b < 256) : bits .and .u8 (a : Int) (b : Int) = ((a &&& b : Nat) : Int) := by
  have hx : a &&& b < 2 ^ 8 := Nat.and_lt_two_pow _ (by omega)
  show IntKind.u8.wrap ((BitVec.ofInt 8 (a : Int) &&& BitVec.ofInt 8 (b : Int)).toNat : Int) = _
  rw [BitVec.toNat_and, ofInt_u8 a ha, ofInt_u8 b hb]
  exact IntWalk.u8_in _ (by omega)
theorem and_bits {a b : Nat} (ha : a < 256) (h : (a &&& b) ≠ 0) : ∃ k, k < 8 ∧ a / 2 ^ k % 2 = 1 ∧ b / 2 ^ k % 2 = 1 := by
  obtain ⟨k, hk⟩ := Nat.exists_testBit_of_ne_zero h
  rw [Nat.testBit_and, Bool.and_eq_true, Nat.testBit_eq_decide_div_mod_eq, Nat.testBit_eq_decide_div_mod_eq, decide_eq_true_eq, decide_eq_true_eq] at hk
  refine ⟨k, ?_, hk.1, hk.2⟩
  rcases Nat.lt_or_ge k 8 with h1 | h1
  · exact h1
  · have h2 : 256 ≤ 2 ^ k := Nat.pow_le_pow_right (n := 2) (by omega) (show 8 ≤ k from h1)
    rw [Nat.div_eq_of_lt (by omega)] at hk
    exact absurd hk.1 (by decide)
theorem validP.rows {n : Nat} {f : Nat → Nat → Int} (h : validP n f) : ∀ i, i < n → ∀ k, k < 8 → okAt f i k := h.2
theorem elim_yes {w : World} {v : Value} (m : Nat) (hm : m < 256) (ho : OrdV w v 9 (elimF m)) : Calls Try.prog 22 #[v, .int .u8 m] w fun e w' => e = .returned (.bool true) ∧ Below w.heap.size w w' :=
  (eliminates_any ho hm).mono fun e w' ⟨⟨r, h, hr⟩, hb⟩ => ⟨by rw [h, hr.2 (elim_elims m)], hb⟩
theorem valid_yes {w : World} {v : Value} {n : Nat} {f : Nat → Nat → Int} (hv : validP n f) (ho : OrdV w v n f) : Calls Try.prog 24 #[v] w fun e w' => e = .returned (.bool true) ∧ Below w.heap.size w w' :=
  (valid_any ho).mono fun e w' ⟨⟨r, h, hr⟩, hb⟩ => ⟨by rw [h, hr.2 hv], hb⟩
set_option maxHeartbeats 4000000 in
set_option maxRecDepth 100000 in
theorem elimlaw_any {w : World} {s : Value} {n m : Nat} {y x : Nat → Nat → Int} (hr : RowsV w s n y) (hy : ∀ i, i < n → ∀ k, k < 8 → -128 ≤ y i k ∧ y i k ≤ 127) (hm : m < 256) (hx : ∀ i, i < 2 → U16 (x i)) :
    Calls Try.prog 5 #[.agg #[s], .int .u8 m, .agg (vecU2 x)] w fun e w' => e = .returned (.bool true) ∧ Below w.heap.size w w' := by
  obtain ⟨W0, hW0, hb0, hBr, hBx, hs0⟩ := boxes2 w 24 42 #[s] (vecU2 x)
  have hx0 := Lib.hid (hx 0 (by omega))
  have hx1 := Lib.hid (hx 1 (by omega))
  have HR := Lib.hid hr
  have HY := Lib.hid hy
  clear hx hr hy
  go_enter Try.func5, Try.ntmps5
  go_wp2_with fail
  rw [← hW0]
  clear hW0
  refine (examples_any W0).mono ?_
  rintro e w1 ⟨rfl, hb1⟩
  have hBx1 := hBx.below hb1 (by omega)
  have hBr1 := hBr.below hb1 (by omega)
  have hb01 := hb0.trans (hb1.mono hb0.size)
  have hs1 : w.heap.size + 1 < w1.heap.size := by have := hb1.size; omega
  clear hBx hBr hb1 hb0 hs0
  go_wp2_with fail
  refine (eliminating_any m _ hm).mono ?_
  rintro e w2 ⟨v2, rfl, hO2, hb2⟩
  go_wp2_with fail
  (with_reducible refine (elim_yes m hm hO2.ordV).mono ?_)
  rintro e w3 ⟨rfl, hb3⟩
  have hb13 := below_step3 hb2 hb3
  clear hO2 hb2 hb3
  go_wp2_with fail
  refine (eliminating_any m _ hm).mono ?_
  rintro e w4 ⟨v4, rfl, hO4, hb4⟩
  go_wp2_with fail
  (with_reducible refine (valid_yes (valid_elim m) hO4.ordV).mono ?_)
  rintro e w5 ⟨rfl, hb5⟩
  have hb15 := below_step3 hb13 (below_step3 hb4 hb5)
  have hBx5 := hBx1.below hb15 (by omega)
  have hBr5 := hBr1.below hb15 (by omega)
  have hb05 := hb01.trans (hb15.mono hb01.size)
  have hs5 : w.heap.size + 1 < w5.heap.size := by have := hb15.size; omega
  clear hO4 hb4 hb5 hb13 hb15 hBx1 hBr1 hb01 hs1
  have lx : ∀ X k, Below w5.heap.size w5 X → X.cell? ⟨w.heap.size + 1, k, none⟩ = (vecU2 x)[k]? := fun X k hX => (hX.cell (p := ⟨w.heap.size + 1, k, none⟩) (by show w.heap.size + 1 < _; omega)).trans (hBx5.cell k)
  have HRB := Lib.hid hBr5
  clear hBr5 hBx5
  go_upto_region 6 with fail
  go_cut [8, 9] (fun xp xq wx => ∃ p q, xp = ptr p ∧ xq = ptr q ∧ p ≠ q ∧ w5.heap.size ≤ p ∧ w5.heap.size ≤ q ∧ Blk wx p 35 (vec8 (monoF (x 0))) ∧ Blk wx q 35 (vec8 (monoF (x 1))) ∧ Below w5.heap.size w5 wx)
  case first =>
    refine wp_region_noPanic ?_
    refine wp_region_held_drew (S := fun w' => Below w5.heap.size w5 w') (by kernel_rfl) ((Below.refl _ _).drew) (fun hHeld => ?_)
    refine wpAnyH_pure (i := 0) (d := some 26) (v := ?_) rfl rfl (by kernel_rfl) (by kernel_rfl) (by kernel_rfl) (fun _ _ _ h => h) (by rfl) ?_ (by assumption) ?_
    rotate_left
    · intro w hSw; (try dsimp only at hSw); go_simp; all_goals with_reducible rfl
    try simp only [Act.put, List.setIfInBounds_toArray, List.set_cons_zero, List.set_cons_succ]
    refine wpAnyH_pure (i := 1) (d := some 27) (v := ?_) rfl rfl (by kernel_rfl) (by kernel_rfl) (by kernel_rfl) (fun _ _ _ h => h) (by rfl) ?_ (by assumption) ?_
    rotate_left
    · intro w hSw; (try dsimp only at hSw); go_simp; all_goals with_reducible rfl
    try simp only [Act.put, List.setIfInBounds_toArray, List.set_cons_zero, List.set_cons_succ]
    refine wpAnyH_pure (i := 3) (d := some 29) (v := ?_) rfl rfl (by kernel_rfl) (by kernel_rfl) (by kernel_rfl) (fun _ _ _ h => h) (by rfl) ?_ (by assumption) ?_
    rotate_left
    · intro w hSw; (try dsimp only at hSw); go_simp; all_goals with_reducible rfl
    try simp only [Act.put, List.setIfInBounds_toArray, List.set_cons_zero, List.set_cons_succ]
    refine wpAnyH_pure (i := 4) (d := some 30) (v := ?_) rfl rfl (by kernel_rfl) (by kernel_rfl) (by kernel_rfl) (fun _ _ _ h => h) (by rfl) ?_ (by assumption) ?_
    rotate_left
    · intro w hSw; (try dsimp only at hSw); go_simp; all_goals with_reducible rfl
    try simp only [Act.put, List.setIfInBounds_toArray, List.set_cons_zero, List.set_cons_succ]
    refine wpAnyH_inv' (R := fun fr0 l a w' => ∃ (c0 c1 a0 a1 s0 s1 : Bool) (p0 p1 x0 x1 : Value), l = #[true, true, c0, true, true, c1, a0, a1, s0, s1] ∧ a = ((((fr0.put (some 8) p0).put (some 9) p1).put (some 28) x0).put (some 31) x1) ∧ Below w5.heap.size w5 w' ∧ (c0 = true → x0 = .agg (vec8 (monoF (x 0)))) ∧ (c1 = true → x1 = .agg (vec8 (monoF (x 1)))) ∧ (s0 = true → a0 = true) ∧ (s1 = true → a1 = true) ∧ (a0 = true → ∃ q, p0 = ptr q ∧ w5.heap.size ≤ q ∧ Blk w' q 35 (vec8 (if s0 then monoF (x 0) else fun _ => 0))) ∧ (a1 = true → ∃ q, p1 = ptr q ∧ w5.heap.size ≤ q ∧ Blk w' q 35 (vec8 (if s1 then monoF (x 1) else fun _ => 0))) ∧ (a0 = true → a1 = true → p0 ≠ p1)) ?step ?fin ?beg ?fuel
    case beg => exact ⟨false, false, false, false, false, false, undef, undef, undef, undef, by kernel_rfl, rfl, hHeld, by simp, by simp, by simp, by simp, by simp, by simp, by simp⟩
    case fuel => decide +kernel
    case fin =>
      rintro l a w' ⟨c0, c1, a0, a1, s0, s1, p0, p1, x0, x1, rfl, rfl, hb, fc0, fc1, fs0, fs1, fa0, fa1, fp01⟩ hr
      clear fs0 fs1
      have hall := ready_nil (by kernel_rfl) hr
      obtain rfl : c0 = true := by simpa using hall 2 (by simp)
      obtain rfl : c1 = true := by simpa using hall 5 (by simp)
      obtain rfl : a0 = true := by simpa using hall 6 (by simp)
      obtain rfl : a1 = true := by simpa using hall 7 (by simp)
      obtain rfl : s0 = true := by simpa using hall 8 (by simp)
      obtain rfl : s1 = true := by simpa using hall 9 (by simp)
      clear hall
      obtain ⟨q0, rfl, hq0, hbq0⟩ := fa0 rfl
      obtain ⟨q1, rfl, hq1, hbq1⟩ := fa1 rfl
      have hne01 : q0 ≠ q1 := fun e => fp01 rfl rfl (by rw [e])
      refine NoPanic.normal ?_
      simp only [Act.put, List.setIfInBounds_toArray, List.set_cons_zero, List.set_cons_succ]
      clear hr fc0 fc1 fa0 fa1 fp01
      go_wp2_with fail
      go_meet
      case rel => exact ⟨q0, q1, rfl, rfl, hne01, hq0, hq1, hbq0, hbq1, hb⟩
    case step =>
      rintro l a w' i ⟨c0, c1, a0, a1, s0, s1, p0, p1, x0, x1, rfl, rfl, hb, fc0, fc1, fs0, fs1, fa0, fa1, fp01⟩ hi
      obtain ⟨h0, o, ho, hall⟩ := mem_ready.1 hi
      have hi10 : i < 10 := (Array.getElem?_eq_some_iff.1 ho).1
      have FC0 := Lib.hid fc0
      have FC1 := Lib.hid fc1
      have FS0 := Lib.hid fs0
      have FS1 := Lib.hid fs1
      have FA0 := Lib.hid fa0
      have FA1 := Lib.hid fa1
      have FP01 := Lib.hid fp01
      clear fc0 fc1 fs0 fs1 fa0 fa1 fp01
      rcases (by omega : i = 0 ∨ i = 1 ∨ i = 2 ∨ i = 3 ∨ i = 4 ∨ i = 5 ∨ i = 6 ∨ i = 7 ∨ i = 8 ∨ i = 9) with h | h | h | h | h | h | h | h | h | h <;> subst h
      · simp at h0
      · simp at h0
      · obtain rfl : c0 = false := by simpa using h0
        clear h0 ho hall hi hi10
        refine wpOp_step rfl (fun K hK => ?_)
        simp only [Act.put, List.setIfInBounds_toArray, List.set_cons_zero, List.set_cons_succ]
        go_simp
        (with_reducible refine (mono_at (x 0) _ hx0.out).mono ?_)
        rintro e w2 ⟨rfl, hb2⟩
        have hc := below_step3 hb hb2
        refine hK _ _ ⟨hc, true, c1, a0, a1, s0, s1, p0, p1, _, x1, rfl, (by first | with_reducible rfl | simp only [Act.put, List.setIfInBounds_toArray, List.set_cons_zero, List.set_cons_succ, ptr]), hc, fun _ => rfl, FC1.out, FS0.out, FS1.out, fun h => ?_, fun h => ?_, FP01.out⟩
        · obtain ⟨q, h1, h2, h3⟩ := FA0.out h; exact ⟨q, h1, h2, h3.below hb2 h3.lt⟩
        · obtain ⟨q, h1, h2, h3⟩ := FA1.out h; exact ⟨q, h1, h2, h3.below hb2 h3.lt⟩
      · simp at h0
      · simp at h0
      · obtain rfl : c1 = false := by simpa using h0
        clear h0 ho hall hi hi10
        refine wpOp_step rfl (fun K hK => ?_)
        simp only [Act.put, List.setIfInBounds_toArray, List.set_cons_zero, List.set_cons_succ]
        go_simp
        (with_reducible refine (mono_at (x 1) _ hx1.out).mono ?_)
        rintro e w2 ⟨rfl, hb2⟩
        have hc := below_step3 hb hb2
        refine hK _ _ ⟨hc, c0, true, a0, a1, s0, s1, p0, p1, x0, _, rfl, (by first | with_reducible rfl | simp only [Act.put, List.setIfInBounds_toArray, List.set_cons_zero, List.set_cons_succ, ptr]), hc, FC0.out, fun _ => rfl, FS0.out, FS1.out, fun h => ?_, fun h => ?_, FP01.out⟩
        · obtain ⟨q, h1, h2, h3⟩ := FA0.out h; exact ⟨q, h1, h2, h3.below hb2 h3.lt⟩
        · obtain ⟨q, h1, h2, h3⟩ := FA1.out h; exact ⟨q, h1, h2, h3.below hb2 h3.lt⟩
      · obtain rfl : a0 = false := by simpa using h0
        obtain rfl : s0 = false := by cases s0; exact rfl; exact absurd (FS0.out rfl) (by decide)
        clear h0 ho hall hi hi10
        refine wpOp_step rfl (fun K hK => ?_)
        simp only [Act.put, List.setIfInBounds_toArray, List.set_cons_zero, List.set_cons_succ]
        go_simp
        have hc := hb.alloc hb.size (.cells (vec8 fun _ => 0) 35)
        refine hK _ _ ⟨hc, c0, c1, true, a1, false, s1, _, p1, x0, x1, rfl, (by first | with_reducible rfl | simp only [Act.put, List.setIfInBounds_toArray, List.set_cons_zero, List.set_cons_succ, ptr]), hc, FC0.out, FC1.out, fun _ => rfl, FS1.out, fun _ => ⟨_, rfl, hb.size, Blk.new _ _ _⟩, fun h => ?_, fun _ h => ?_⟩
        · obtain ⟨q, h1, h2, h3⟩ := FA1.out h; exact ⟨q, h1, h2, h3.alloc _⟩
        · obtain ⟨q, rfl, h2, h3⟩ := FA1.out h; exact ptr_ne (by have := h3.lt; omega)
      · obtain rfl : a1 = false := by simpa using h0
        obtain rfl : s1 = false := by cases s1; exact rfl; exact absurd (FS1.out rfl) (by decide)
        clear h0 ho hall hi hi10
        refine wpOp_step rfl (fun K hK => ?_)
        simp only [Act.put, List.setIfInBounds_toArray, List.set_cons_zero, List.set_cons_succ]
        go_simp
        have hc := hb.alloc hb.size (.cells (vec8 fun _ => 0) 35)
        refine hK _ _ ⟨hc, c0, c1, a0, true, s0, false, p0, _, x0, x1, rfl, (by first | with_reducible rfl | simp only [Act.put, List.setIfInBounds_toArray, List.set_cons_zero, List.set_cons_succ, ptr]), hc, FC0.out, FC1.out, FS0.out, fun _ => rfl, fun h => ?_, fun _ => ⟨_, rfl, hb.size, Blk.new _ _ _⟩, fun h _ => ?_⟩
        · obtain ⟨q, h1, h2, h3⟩ := FA0.out h; exact ⟨q, h1, h2, h3.alloc _⟩
        · obtain ⟨q, rfl, h2, h3⟩ := FA0.out h; exact ptr_ne (by have := h3.lt; omega)
      · obtain rfl : s0 = false := by simpa using h0
        have d2 : c0 = true := ready_on (k := 2) hi rfl (e := ⟨2, .data⟩) (by simp) rfl rfl
        have d6 : a0 = true := ready_on (k := 6) hi rfl (e := ⟨6, .data⟩) (by simp) rfl rfl
        subst d2 d6
        clear h0 ho hall hi hi10
        obtain ⟨q, rfl, hq, hbq⟩ := FA0.out rfl
        obtain rfl := FC0.out rfl
        rw [if_neg (by decide)] at hbq
        obtain ⟨d0, d1, d2, d3, d4, d5, d6, d7⟩ := hbq.eight
        obtain ⟨e0, e1, e2, e3, e4, e5, e6, e7⟩ := hbq.eightF
        refine wpOp_step rfl (fun K hK => ?_)
        simp only [Act.put, List.setIfInBounds_toArray, List.set_cons_zero, List.set_cons_succ]
        unfold ptr
        go_simp
        clear d0 d1 d2 d3 d4 d5 d6 d7 e0 e1 e2 e3 e4 e5 e6 e7
        have hc := below_put8 (monoF (x 0)) hb hq
        refine hK _ _ ⟨hc, true, c1, true, a1, true, s1, ptr q, p1, _, x1, rfl, (by first | with_reducible rfl | simp only [Act.put, List.setIfInBounds_toArray, List.set_cons_zero, List.set_cons_succ, ptr]), hc, FC0.out, FC1.out, fun _ => rfl, FS1.out, fun _ => ⟨q, rfl, hq, hbq.put8 _⟩, fun h => ?_, FP01.out⟩
        · obtain ⟨r, h1, h2, h3⟩ := FA1.out h; exact ⟨r, h1, h2, h3.far8 _ (fun e => FP01.out rfl h (by rw [h1, e]))⟩
      · obtain rfl : s1 = false := by simpa using h0
        have d2 : c1 = true := ready_on (k := 5) hi rfl (e := ⟨5, .data⟩) (by simp) rfl rfl
        have d6 : a1 = true := ready_on (k := 7) hi rfl (e := ⟨7, .data⟩) (by simp) rfl rfl
        subst d2 d6
        clear h0 ho hall hi hi10
        obtain ⟨q, rfl, hq, hbq⟩ := FA1.out rfl
        obtain rfl := FC1.out rfl
        rw [if_neg (by decide)] at hbq
        obtain ⟨d0, d1, d2, d3, d4, d5, d6, d7⟩ := hbq.eight
        obtain ⟨e0, e1, e2, e3, e4, e5, e6, e7⟩ := hbq.eightF
        refine wpOp_step rfl (fun K hK => ?_)
        simp only [Act.put, List.setIfInBounds_toArray, List.set_cons_zero, List.set_cons_succ]
        unfold ptr
        go_simp
        clear d0 d1 d2 d3 d4 d5 d6 d7 e0 e1 e2 e3 e4 e5 e6 e7
        have hc := below_put8 (monoF (x 1)) hb hq
        refine hK _ _ ⟨hc, c0, true, a0, true, s0, true, p0, ptr q, x0, _, rfl, (by first | with_reducible rfl | simp only [Act.put, List.setIfInBounds_toArray, List.set_cons_zero, List.set_cons_succ, ptr]), hc, FC0.out, FC1.out, FS0.out, fun _ => rfl, fun h => ?_, fun _ => ⟨q, rfl, hq, hbq.put8 _⟩, FP01.out⟩
        · obtain ⟨r, h1, h2, h3⟩ := FA0.out h; exact ⟨r, h1, h2, h3.far8 _ (fun e => FP01.out h rfl (by rw [h1, e]))⟩
  obtain ⟨p, q, rfl, rfl, hne, hp, hq, hbp, hbq, hb⟩ := hcut
  have ha0 : ∀ k, k < 8 → 0 ≤ monoF (x 0) k ∧ monoF (x 0) k ≤ 20000 := fun k hk => by have := hx0.out k hk; unfold monoF; omega
  have hb0 : ∀ k, k < 8 → 0 ≤ monoF (x 1) k ∧ monoF (x 1) k ≤ 20000 := fun k hk => by have := hx1.out k hk; unfold monoF; omega
  generalize monoF (x 0) = a at *
  generalize monoF (x 1) = b at *
  have hA : Small a := fun k hk => by have := ha0 k hk; omega
  have HB := Lib.hid hb0
  clear ha0 hb0 hx0 hx1 lx
  unfold ptr
  go_wp2_with fail
  go_loopw [10] (fun kv wx => ∃ k : Nat, k ≤ 8 ∧ kv = .int .i64 k ∧ Blk wx p 35 (vec8 a) ∧ Blk wx q 35 (vec8 fun j => if j < k ∧ bitOf m j = true then 0 else b j) ∧ Below w5.heap.size w5 wx) (fun k _ => 8 - (intOf k).toNat)
  case atStart => exact ⟨0, Nat.zero_le _, rfl, hbp, by rwa [vec8_congr (h := fun j => if j < 0 ∧ bitOf m j = true then 0 else b j)] at hbq; intro j hj; rw [if_neg (by omega)], hb⟩
  case round =>
    obtain ⟨k, hk, rfl, hP, hQ, hbx⟩ := hrel
    by_cases hk8 : k < 8
    · have hki : (k : Int) < 8 := by omega
      have hk0 : (0 : Int) ≤ (k : Int) := by omega
      go_wp2_with fail
      (with_reducible refine (in_any m k _ hm hk8).mono ?_)
      rintro e w7 ⟨rfl, hb7⟩
      have hP7 := hP.below hb7 hP.lt
      have hQ7 := hQ.below hb7 hQ.lt
      have hbx7 := below_step3 hbx hb7
      clear hP hQ hb7 hbx
      cases hbit : bitOf m k
      · have HBIT := Lib.hid hbit
        clear hbit
        go_wp2_with fail
        go_roundw
        case rel =>
          refine ⟨k + 1, by omega, by go_num, hP7, ?_, hbx7⟩
          rwa [vec8_congr (h := fun j => if j < k + 1 ∧ bitOf m j = true then 0 else b j)] at hQ7
          intro j hj
          by_cases e : j = k
          · subst e; rw [if_neg (by omega), if_neg (by rw [HBIT.out]; simp)]
          · by_cases h : j < k ∧ bitOf m j = true
            · rw [if_pos h, if_pos ⟨by omega, h.2⟩]
            · rw [if_neg h, if_neg (fun h' => h ⟨by omega, h'.2⟩)]
        case measure => simp [intOf]; omega
      · have HBIT := Lib.hid hbit
        clear hbit
        have hc := hQ7.at8 hk8
        have hf := hQ7.frozen k
        go_wp2_with fail
        go_roundw
        case rel =>
          refine ⟨k + 1, by omega, by go_num, hP7.far (by show p ≠ q; exact hne) _, ?_, hbx7.setCell hq _⟩
          have := hQ7.set8 hk8 0
          rwa [vec8_congr (h := fun j => if j < k + 1 ∧ bitOf m j = true then 0 else b j)] at this
          intro j hj
          by_cases e : j = k
          · subst e; rw [if_pos rfl, if_pos ⟨by omega, HBIT.out⟩]
          · rw [if_neg e]
            by_cases h : j < k ∧ bitOf m j = true
            · rw [if_pos h, if_pos ⟨by omega, h.2⟩]
            · rw [if_neg h, if_neg (fun h' => h ⟨by omega, h'.2⟩)]
        case measure => simp [intOf]; omega
    · obtain rfl : k = 8 := by omega
      have hQ8 : Blk wr q 35 (vec8 fun j => if bitOf m j = true then 0 else b j) := by
        rwa [vec8_congr (h := fun j => if bitOf m j = true then 0 else b j)] at hQ
        intro j hj
        by_cases h : bitOf m j = true
        · rw [if_pos h, if_pos ⟨hj, h⟩]
        · rw [if_neg h, if_neg (fun h' => h h'.2)]
      have hbS : Hid (Small fun j => if bitOf m j = true then 0 else b j) := fun k hk => by
        have := HB.out k hk
        show 0 ≤ (if bitOf m k = true then 0 else b k) ∧ (if bitOf m k = true then 0 else b k) ≤ 131070
        split <;> omega
      have hbZ : Hid (∀ k, k < 8 → bitOf m k = true → (fun j => if bitOf m j = true then 0 else b j) k = 0) := fun k hk h => if_pos h
      generalize (fun j => if bitOf m j = true then 0 else b j) = c at *
      clear hQ
      obtain ⟨a0, a1, a2, a3, a4, a5, a6, a7⟩ := hP.eight
      go_wp2_with fail
      (with_reducible refine (support_any a _).mono ?_)
      rintro e w7 ⟨⟨sp, rfl, hsp⟩, hb7⟩
      clear a0 a1 a2 a3 a4 a5 a6 a7
      have hP7 := hP.below hb7 hP.lt
      have hQ7 := hQ8.below hb7 hQ8.lt
      have hbx7 := below_step3 hbx hb7
      have hs256 : sp < 256 := hsp.1
      have hbits := u8_and_nat sp m hs256 hm
      clear hP hQ8 hb7 hbx
      by_cases hz : sp &&& m = 0
      · rw [hz] at hbits
        have hbits' : bits .and .u8 (sp : Int) (m : Int) = 0 := hbits
        clear hbits hz
        go_wp2
        go_ret
        exact ⟨rfl, hb05.trans (hbx7.mono hb05.size)⟩
      · have hocc : Hid (∃ k, k < 8 ∧ occ m a k) := by
          obtain ⟨k, h1, h2, h3⟩ := and_bits hs256 hz
          exact ⟨k, h1, by unfold bitOf; simp [h3], (hsp.2 k h1).1 h2⟩
        have hbt : (bits .and .u8 (sp : Int) (m : Int) == 0) = false := by rw [hbits]; simp; omega
        have HBT := Lib.hid hbt
        have hanz : Hid (∀ k, k < 8 → 0 ≤ a k) := fun k hk => (hA k hk).1
        have hbr7 : w7.cell? ⟨w.heap.size, 0, none⟩ = some s := by
          have := (HRB.out.below hbx7 (by omega)).cell 0
          exact this
        clear hbits hz hsp
        go_wp2_with fail
        have hr7 := HR.out.below (hb05.trans (hbx7.mono hb05.size))
        (with_reducible refine (made_any hr7 HY.out).mono ?_)
        rintro e w8 ⟨o, rfl, n', hn6, hn', hO, hb8⟩
        have hV : validP n' (madeF y n') := made_valid hn6 (fun i hi => HY.out i (by omega))
        have hP8 := hP7.below hb8 hP7.lt
        have hQ8 := hQ7.below hb8 hQ7.lt
        have hb58 := below_step3 hbx7 hb8
        have HO := Lib.hid hO.ordV
        have HV := Lib.hid hV
        clear hO hV hP7 hQ7 hbx7 hb8 hbr7 hr7
        go_wp2_with fail
        (with_reducible refine (eliminates_any HO.out hm).mono ?_)
        rintro e w9 ⟨⟨r, rfl, hr9⟩, hb9⟩
        have HR9 := Lib.hid hr9
        have hP9 := hP8.below hb9 hP8.lt
        have hQ9 := hQ8.below hb9 hQ8.lt
        have hb59 := below_step3 hb58 hb9
        have hO9 := Lib.hid (HO.out.below hb9)
        clear hr9 hP8 hQ8 hb58 hb9
        have fin : ∀ (W : World), Below w5.heap.size w5 W → Blk W p 35 (vec8 a) → Blk W q 35 (vec8 c) → True := fun _ _ _ _ => trivial
        clear fin
        cases r
        · go_upto_region 17 with fail
          have lA := hP9.reads8 hP9.lt
          have lC := hQ9.reads8 hQ9.lt
          go_region_held3 (fun w' => Below w9.heap.size w9 w')
            ((first | with_reducible assumption | with_reducible exact (Below.refl _ _).drew | with_reducible exact (by assumption : Below w9.heap.size w9 _).drew))
            (first
              | (go_at_call 23; (with_reducible refine (eliminating_any m _ hm).mono ?_); rintro e wl ⟨vl, rfl, hO, hbl⟩; have hcur := below_step3 (W := w9) (by assumption) hbl; clear hbl)
              | (go_at_call 13; (with_reducible refine (cmp_fix hO.ordV (valid_elim m) hA.out hbS.out.out (elim_greater (valid_elim m).rows (elim_elims m) hanz.out hbZ.out hocc.out)).mono ?_); rintro e wl ⟨rfl, hbl⟩; have hcur := below_step3 (W := w9) (by assumption) hbl; clear hbl))
          go_wp2
          go_ret
          exact ⟨rfl, hb05.trans ((below_step3 hb59 hcur).mono hb05.size)⟩
        · have hE : Hid (ElimP n' (madeF y n') m) := HR9.out.1 rfl
          obtain ⟨a0, a1, a2, a3, a4, a5, a6, a7⟩ := hP9.eight
          obtain ⟨c0, c1, c2, c3, c4, c5, c6, c7⟩ := hQ9.eight
          go_wp2_with fail
          (with_reducible refine (cmp_fix hO9.out HV.out hA.out hbS.out.out (elim_greater HV.out.rows hE.out hanz.out hbZ.out hocc.out)).mono ?_)
          rintro e w10 ⟨rfl, hb10⟩
          clear a0 a1 a2 a3 a4 a5 a6 a7 c0 c1 c2 c3 c4 c5 c6 c7
          have hP10 := hP9.below hb10 hP9.lt
          have hQ10 := hQ9.below hb10 hQ9.lt
          have hb510 := below_step3 hb59 hb10
          clear hP9 hQ9 hb59 hb10
          go_upto_region 17 with fail
          have lA := hP10.reads8 hP10.lt
          have lC := hQ10.reads8 hQ10.lt
          go_region_held3 (fun w' => Below w10.heap.size w10 w')
            ((first | with_reducible assumption | with_reducible exact (Below.refl _ _).drew | with_reducible exact (by assumption : Below w10.heap.size w10 _).drew))
            (first
              | (go_at_call 23; (with_reducible refine (eliminating_any m _ hm).mono ?_); rintro e wl ⟨vl, rfl, hO, hbl⟩; have hcur := below_step3 (W := w10) (by assumption) hbl; clear hbl)
              | (go_at_call 13; (with_reducible refine (cmp_fix hO.ordV (valid_elim m) hA.out hbS.out.out (elim_greater (valid_elim m).rows (elim_elims m) hanz.out hbZ.out hocc.out)).mono ?_); rintro e wl ⟨rfl, hbl⟩; have hcur := below_step3 (W := w10) (by assumption) hbl; clear hbl))
          go_wp2
          go_ret
          exact ⟨rfl, hb05.trans ((below_step3 hb510 hcur).mono hb05.size)⟩

end Go.Proofs.Ytmkhfgggleplfaa
