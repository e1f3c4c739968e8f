/-
  The walk of OrderNamed: true. Conditions: exponents of type uint16.
-/
import Derived.Test.YtmkhfgggleplfaaInvM
namespace Go.Proofs.Ytmkhfgggleplfaa
set_option linter.unusedSimpArgs false
set_option linter.unusedVariables false
open Go.RowKit

theorem cmpL {w : World} {v : Value} {a b : Nat → Int} (ho : OrdV w v 0 (fun _ _ => 0)) (ha : Small a) (hb : Small b) :
    Calls Try.prog 13 #[v, .agg (vec8 a), .agg (vec8 b)] w fun e w' => e = .returned (.int .i64 (lexC a b 8)) ∧ Below w.heap.size w w' := cmp_fix ho valid_lex ha hb (ordC_lexV a b)
theorem cmpG {w : World} {v : Value} {a b : Nat → Int} {r : Int} (ho : OrdV w v 1 (fun _ => bit8 255)) (ha : Small a) (hb : Small b) (hr : gradedV a b = r) :
    Calls Try.prog 13 #[v, .agg (vec8 a), .agg (vec8 b)] w fun e w' => e = .returned (.int .i64 r) ∧ Below w.heap.size w w' := cmp_fix ho valid_graded ha hb ((ordC_gradedV a b).trans hr)
theorem cmpR {w : World} {v : Value} {a b : Nat → Int} {r : Int} (ho : OrdV w v 8 revF) (ha : Small a) (hb : Small b) (hr : reverseV a b = r) :
    Calls Try.prog 13 #[v, .agg (vec8 a), .agg (vec8 b)] w fun e w' => e = .returned (.int .i64 r) ∧ Below w.heap.size w w' := cmp_fix ho valid_reverse ha hb ((ordC_reverseV a b).trans hr)
theorem mono_cmp' {w : World} (a b : Nat → Int) : Calls Try.prog 17 #[.agg (vec8 a), .agg (vec8 b)] w fun e w' => e = .returned (.int .i64 (lexC a b 8)) ∧ Below w.heap.size w w' := (mono_cmp a b).mono fun _ _ h => ⟨h.1, h.2.1⟩
set_option maxHeartbeats 4000000 in
set_option maxRecDepth 100000 in
theorem named_any {w : World} {x : Nat → Nat → Int} {same : Bool} (hx : ∀ i, i < 2 → U16 (x i)) :
    Calls Try.prog 4 #[.agg (vecU2 x), .bool same] w fun e w' => e = .returned (.bool true) ∧ Below w.heap.size w w' := by
  obtain ⟨W0, hW0, hb0, hBx, hs0⟩ : ∃ W0, W0 = w.alloc (.cells (vecU2 x) 42) ∧ Below w.heap.size w W0 ∧ Blk W0 w.heap.size 42 (vecU2 x) ∧ w.heap.size < W0.heap.size :=
    ⟨_, rfl, (Below.refl _ _).alloc (Nat.le_refl _) _, Blk.new _ _ _, by simp⟩
  have hx0 := Lib.hid (hx 0 (by omega))
  have hx1 := Lib.hid (hx 1 (by omega))
  clear hx
  go_enter Try.func4, Try.ntmps4
  go_wp2_with fail
  rw [← hW0]
  clear hW0
  refine (examples_any W0).mono ?_
  rintro e w1 ⟨rfl, hb1⟩
  have hBx1 := hBx.below hb1 (by omega)
  have hb01 := hb0.trans (hb1.mono hb0.size)
  have hs1 : w.heap.size < w1.heap.size := by have := hb1.size; omega
  clear hBx hb1 hb0 hs0
  have lx : ∀ X k, Below w1.heap.size w1 X → X.cell? ⟨w.heap.size, k, none⟩ = (vecU2 x)[k]? := fun X k hX => (hX.cell (p := ⟨w.heap.size, k, none⟩) hs1).trans (hBx1.cell k)
  go_upto_region 4 with fail
  go_cut [6, 7] (fun xp xq wx => ∃ p q, xp = ptr p ∧ xq = ptr q ∧ p ≠ q ∧ w1.heap.size ≤ p ∧ w1.heap.size ≤ q ∧ Blk wx p 35 (vec8 (monoF (x 0))) ∧ Blk wx q 35 (vec8 (monoF (x 1))) ∧ Below w1.heap.size w1 wx)
  case first =>
    refine wp_region_noPanic ?_
    refine wp_region_held_drew (S := fun w' => Below w1.heap.size w1 w') (by kernel_rfl) ((Below.refl _ _).drew) (fun hHeld => ?_)
    refine wpAnyH_pure (i := 0) (d := some 13) (v := ?_) rfl rfl (by kernel_rfl) (by kernel_rfl) (by kernel_rfl) (fun _ _ _ h => h) (by rfl) ?_ (by assumption) ?_
    rotate_left
    · intro w hSw; (try dsimp only at hSw); go_simp; all_goals with_reducible rfl
    try simp only [Act.put, List.setIfInBounds_toArray, List.set_cons_zero, List.set_cons_succ]
    refine wpAnyH_pure (i := 1) (d := some 14) (v := ?_) rfl rfl (by kernel_rfl) (by kernel_rfl) (by kernel_rfl) (fun _ _ _ h => h) (by rfl) ?_ (by assumption) ?_
    rotate_left
    · intro w hSw; (try dsimp only at hSw); go_simp; all_goals with_reducible rfl
    try simp only [Act.put, List.setIfInBounds_toArray, List.set_cons_zero, List.set_cons_succ]
    refine wpAnyH_pure (i := 3) (d := some 16) (v := ?_) rfl rfl (by kernel_rfl) (by kernel_rfl) (by kernel_rfl) (fun _ _ _ h => h) (by rfl) ?_ (by assumption) ?_
    rotate_left
    · intro w hSw; (try dsimp only at hSw); go_simp; all_goals with_reducible rfl
    try simp only [Act.put, List.setIfInBounds_toArray, List.set_cons_zero, List.set_cons_succ]
    refine wpAnyH_pure (i := 4) (d := some 17) (v := ?_) rfl rfl (by kernel_rfl) (by kernel_rfl) (by kernel_rfl) (fun _ _ _ h => h) (by rfl) ?_ (by assumption) ?_
    rotate_left
    · intro w hSw; (try dsimp only at hSw); go_simp; all_goals with_reducible rfl
    try simp only [Act.put, List.setIfInBounds_toArray, List.set_cons_zero, List.set_cons_succ]
    refine wpAnyH_inv' (R := fun a0 l a w' => ∃ (b2 b5 b6 b7 b8 b9 : Bool) (x6 x7 x15 x18 : Value), l = #[true, true, b2, true, true, b5, b6, b7, b8, b9] ∧ a = (((a0.put (some 6) x6).put (some 7) x7).put (some 15) x15).put (some 18) x18 ∧ Below w1.heap.size w1 w' ∧
      (b2 = true → x15 = .agg (vec8 (monoF (x 0)))) ∧ (b5 = true → x18 = .agg (vec8 (monoF (x 1)))) ∧ (b8 = true → b6 = true) ∧ (b9 = true → b7 = true) ∧
      (b6 = true → ∃ p, x6 = ptr p ∧ w1.heap.size ≤ p ∧ Blk w' p 35 (vec8 (if b8 then monoF (x 0) else fun _ => 0))) ∧ (b7 = true → ∃ q, x7 = ptr q ∧ w1.heap.size ≤ q ∧ Blk w' q 35 (vec8 (if b9 then monoF (x 1) else fun _ => 0))) ∧
      (b6 = true → b7 = true → x6 ≠ x7)) ?step ?fin ?beg ?fuel
    case beg => exact ⟨false, false, false, false, false, false, undef, undef, undef, undef, by kernel_rfl, rfl, hHeld, by simp, by simp, by simp, by simp, by simp, by simp, by simp⟩
    case fuel => decide +kernel
    case fin =>
      rintro l a w' ⟨b2, b5, b6, b7, b8, b9, x6, x7, x15, x18, rfl, rfl, hb, f2, f5, f86, f97, f6, f7, f67⟩ hr
      have hall : b2 = true ∧ b5 = true ∧ b6 = true ∧ b7 = true ∧ b8 = true ∧ b9 = true := by
        clear f2 f5 f86 f97 f6 f7 f67 hb
        revert hr
        cases b2 <;> cases b5 <;> cases b6 <;> cases b7 <;> cases b8 <;> cases b9 <;> first | (intro _; exact ⟨rfl, rfl, rfl, rfl, rfl, rfl⟩) | (intro h; exact absurd h (by decide +kernel))
      obtain ⟨rfl, rfl, rfl, rfl, rfl, rfl⟩ := hall
      obtain ⟨p, rfl, hp, hbp⟩ := f6 rfl
      obtain ⟨q, rfl, hq, hbq⟩ := f7 rfl
      have hne : p ≠ q := fun e => f67 rfl rfl (by rw [e])
      refine NoPanic.normal ?_
      simp only [Act.put, List.setIfInBounds_toArray, List.set_cons_zero, List.set_cons_succ]
      clear hr f2 f5 f86 f97 f6 f7 f67
      go_wp2_with fail
      go_meet
      case rel => exact ⟨p, q, rfl, rfl, hne, hp, hq, hbp, hbq, hb⟩
    case step =>
      rintro l a w' i ⟨b2, b5, b6, b7, b8, b9, x6, x7, x15, x18, rfl, rfl, hb, f2, f5, f86, f97, f6, f7, f67⟩ hi
      obtain ⟨h0, o, ho, hall⟩ := mem_ready.1 hi
      have hi10 : i < 10 := (Array.getElem?_eq_some_iff.1 ho).1
      have F2 := Lib.hid f2
      have F5 := Lib.hid f5
      have F86 := Lib.hid f86
      have F97 := Lib.hid f97
      have F6 := Lib.hid f6
      have F7 := Lib.hid f7
      have F67 := Lib.hid f67
      clear f2 f5 f86 f97 f6 f7 f67 lx
      rcases (by omega : i = 0 ∨ i = 1 ∨ i = 2 ∨ i = 3 ∨ i = 4 ∨ i = 5 ∨ i = 6 ∨ i = 7 ∨ i = 8 ∨ i = 9) with h | h | h | h | h | h | h | h | h | h <;> subst h
      · simp at h0
      · simp at h0
      · obtain rfl : b2 = false := by simpa using h0
        clear h0 ho hall hi hi10
        refine wpOp_step rfl (fun K hK => ?_)
        simp only [Act.put, List.setIfInBounds_toArray, List.set_cons_zero, List.set_cons_succ]
        go_simp
        (with_reducible refine (mono_at (x 0) _ hx0.out).mono ?_)
        rintro e w2 ⟨rfl, hb2⟩
        have hc := below_step3 hb hb2
        refine hK _ _ ⟨hc, true, b5, b6, b7, b8, b9, x6, x7, _, x18, rfl, rfl, hc, fun _ => rfl, F5.out, F86.out, F97.out, fun h => ?_, fun h => ?_, F67.out⟩
        · obtain ⟨p, h1, h2, h3⟩ := F6.out h; exact ⟨p, h1, h2, h3.below hb2 h3.lt⟩
        · obtain ⟨p, h1, h2, h3⟩ := F7.out h; exact ⟨p, h1, h2, h3.below hb2 h3.lt⟩
      · simp at h0
      · simp at h0
      · obtain rfl : b5 = false := by simpa using h0
        clear h0 ho hall hi hi10
        refine wpOp_step rfl (fun K hK => ?_)
        simp only [Act.put, List.setIfInBounds_toArray, List.set_cons_zero, List.set_cons_succ]
        go_simp
        (with_reducible refine (mono_at (x 1) _ hx1.out).mono ?_)
        rintro e w2 ⟨rfl, hb2⟩
        have hc := below_step3 hb hb2
        refine hK _ _ ⟨hc, b2, true, b6, b7, b8, b9, x6, x7, x15, _, rfl, rfl, hc, F2.out, fun _ => rfl, F86.out, F97.out, fun h => ?_, fun h => ?_, F67.out⟩
        · obtain ⟨p, h1, h2, h3⟩ := F6.out h; exact ⟨p, h1, h2, h3.below hb2 h3.lt⟩
        · obtain ⟨p, h1, h2, h3⟩ := F7.out h; exact ⟨p, h1, h2, h3.below hb2 h3.lt⟩
      · obtain rfl : b6 = false := by simpa using h0
        obtain rfl : b8 = false := by cases b8; exact rfl; exact absurd (F86.out rfl) (by decide)
        clear h0 ho hall hi hi10
        refine wpOp_step rfl (fun K hK => ?_)
        simp only [Act.put, List.setIfInBounds_toArray, List.set_cons_zero, List.set_cons_succ]
        go_simp
        have hc := hb.alloc hb.size (.cells (vec8 fun _ => 0) 35)
        refine hK _ _ ⟨hc, b2, b5, true, b7, false, b9, _, x7, x15, x18, rfl, rfl, hc, F2.out, F5.out, fun _ => rfl, F97.out, fun _ => ⟨_, rfl, hb.size, Blk.new _ _ _⟩, fun h => ?_, fun _ h => ?_⟩
        · obtain ⟨p, h1, h2, h3⟩ := F7.out h; exact ⟨p, h1, h2, h3.alloc _⟩
        · obtain ⟨p, rfl, h2, h3⟩ := F7.out h
          exact ptr_ne (by have := h3.lt; omega)
      · obtain rfl : b7 = false := by simpa using h0
        obtain rfl : b9 = false := by cases b9; exact rfl; exact absurd (F97.out rfl) (by decide)
        clear h0 ho hall hi hi10
        refine wpOp_step rfl (fun K hK => ?_)
        simp only [Act.put, List.setIfInBounds_toArray, List.set_cons_zero, List.set_cons_succ]
        go_simp
        have hc := hb.alloc hb.size (.cells (vec8 fun _ => 0) 35)
        refine hK _ _ ⟨hc, b2, b5, b6, true, b8, false, x6, _, x15, x18, rfl, rfl, hc, F2.out, F5.out, F86.out, fun _ => rfl, fun h => ?_, fun _ => ⟨_, rfl, hb.size, Blk.new _ _ _⟩, fun h _ => ?_⟩
        · obtain ⟨p, h1, h2, h3⟩ := F6.out h; exact ⟨p, h1, h2, h3.alloc _⟩
        · obtain ⟨p, rfl, h2, h3⟩ := F6.out h
          exact ptr_ne (by have := h3.lt; omega)
      · obtain rfl : b8 = false := by simpa using h0
        have d2 : b2 = true := ready_on (k := 2) hi rfl (e := ⟨2, .data⟩) (by simp) rfl rfl
        have d6 : b6 = true := ready_on (k := 6) hi rfl (e := ⟨6, .data⟩) (by simp) rfl rfl
        subst d2 d6
        clear h0 ho hall hi hi10
        obtain ⟨p, rfl, hp, hbp⟩ := F6.out rfl
        obtain rfl := F2.out rfl
        rw [if_neg (by decide)] at hbp
        obtain ⟨d0, d1, d2, d3, d4, d5, d6, d7⟩ := hbp.eight
        obtain ⟨e0, e1, e2, e3, e4, e5, e6, e7⟩ := hbp.eightF
        refine wpOp_step rfl (fun K hK => ?_)
        simp only [Act.put, List.setIfInBounds_toArray, List.set_cons_zero, List.set_cons_succ]
        unfold ptr
        go_simp
        clear d0 d1 d2 d3 d4 d5 d6 d7 e0 e1 e2 e3 e4 e5 e6 e7
        have hc := below_put8 (monoF (x 0)) hb hp
        refine hK _ _ ⟨hc, true, b5, true, b7, true, b9, ptr p, x7, _, x18, rfl, rfl, hc, F2.out, F5.out, fun _ => rfl, F97.out, fun _ => ⟨p, rfl, hp, hbp.put8 _⟩, fun h => ?_, F67.out⟩
        obtain ⟨q, h1, h2, h3⟩ := F7.out h
        exact ⟨q, h1, h2, h3.far8 _ (fun e => F67.out rfl h (by rw [h1, e]))⟩
      · obtain rfl : b9 = false := by simpa using h0
        have d2 : b5 = true := ready_on (k := 5) hi rfl (e := ⟨5, .data⟩) (by simp) rfl rfl
        have d6 : b7 = true := ready_on (k := 7) hi rfl (e := ⟨7, .data⟩) (by simp) rfl rfl
        subst d2 d6
        clear h0 ho hall hi hi10
        obtain ⟨p, rfl, hp, hbp⟩ := F7.out rfl
        obtain rfl := F5.out rfl
        rw [if_neg (by decide)] at hbp
        obtain ⟨d0, d1, d2, d3, d4, d5, d6, d7⟩ := hbp.eight
        obtain ⟨e0, e1, e2, e3, e4, e5, e6, e7⟩ := hbp.eightF
        refine wpOp_step rfl (fun K hK => ?_)
        simp only [Act.put, List.setIfInBounds_toArray, List.set_cons_zero, List.set_cons_succ]
        unfold ptr
        go_simp
        clear d0 d1 d2 d3 d4 d5 d6 d7 e0 e1 e2 e3 e4 e5 e6 e7
        have hc := below_put8 (monoF (x 1)) hb hp
        refine hK _ _ ⟨hc, b2, true, b6, true, b8, true, x6, ptr p, x15, _, rfl, rfl, hc, F2.out, F5.out, F86.out, fun _ => rfl, fun h => ?_, fun _ => ⟨p, rfl, hp, hbp.put8 _⟩, F67.out⟩
        obtain ⟨q, h1, h2, h3⟩ := F6.out h
        exact ⟨q, h1, h2, h3.far8 _ (fun e => F67.out h rfl (by rw [h1, e]))⟩
  obtain ⟨p, q, rfl, rfl, hne, hp, hq, hbp, hbq, hb⟩ := hcut
  have ha0 : ∀ k, k < 8 → 0 ≤ monoF (x 0) k ∧ monoF (x 0) k ≤ 20000 := fun k hk => by have := hx0.out k hk; unfold monoF; omega
  have hb0 : ∀ k, k < 8 → 0 ≤ monoF (x 1) k ∧ monoF (x 1) k ≤ 20000 := fun k hk => by have := hx1.out k hk; unfold monoF; omega
  generalize monoF (x 0) = a at *
  generalize monoF (x 1) = b at *
  have hda := degF_le (a := a) (m := 20000) (fun k hk => by have := ha0 k hk; omega) 8 (Nat.le_refl _)
  have hdb := degF_le (a := b) (m := 20000) (fun k hk => by have := hb0 k hk; omega) 8 (Nat.le_refl _)
  have HA := Lib.hid ha0
  have HB := Lib.hid hb0
  have hpl := hbp.lt
  have hql := hbq.lt
  clear ha0 hb0 hx0 hx1 lx
  unfold ptr
  go_upto_if 19 with fail
  go_cut [] (fun wx => ∃ b' : Nat → Int, (∀ k, k < 8 → 0 ≤ b' k ∧ (k < 7 → b' k ≤ 20000)) ∧ Blk wx p 35 (vec8 a) ∧ Blk wx q 35 (vec8 b') ∧ Below w1.heap.size w1 wx)
  case first =>
    cases same
    · go_wp2_with fail
      go_meet
      case rel => exact ⟨b, fun k hk => by have := HB.out k hk; omega, hbp, hbq, hb⟩
    · have lA := hbp.reads8 hpl
      have lB := hbq.reads8 hql
      have fB : ∀ X, Below wc.heap.size wc X → X.frozen? ⟨q, 7, none⟩ = false := fun X hX => (hX.frozen (p := ⟨q, 7, none⟩) hql).trans (hbq.frozen 7)
      have b7 := HB.out 7 (by omega)
      have s1 : IntKind.i64.wrap (b 7 + degF a 8) = b 7 + degF a 8 := IntWalk.i64_in _ (by omega)
      have s2 : IntKind.i64.wrap (b 7 + degF a 8 - degF b 8) = b 7 + degF a 8 - degF b 8 := IntWalk.i64_in _ (by omega)
      have hcur : Below wc.heap.size wc wc.drew := (Below.refl _ _).drew
      have HP := Lib.hid hbp
      have HQ := Lib.hid hbq
      clear hbp hbq
      go_wp2_with fail
      go_region_with (first
        | (go_at_call 16; (with_reducible refine (degree_any a _ (fun k hk => by have := HA.out k hk; omega)).mono ?_); rintro e wl ⟨rfl, hbl⟩; have hcur := below_step3 (W := wc) (by assumption) hbl; clear hbl)
        | (go_at_call 16; (with_reducible refine (degree_any b _ (fun k hk => by have := HB.out k hk; omega)).mono ?_); rintro e wl ⟨rfl, hbl⟩; have hcur := below_step3 (W := wc) (by assumption) hbl; clear hbl))
      all_goals
        go_wp2_with fail
        go_meet
      all_goals
        refine ⟨fun k => if k = 7 then max 0 (b 7 + degF a 8 - degF b 8) else b k, fun k hk => ⟨?_, fun h7 => ?_⟩, (HP.out.below hcur hpl).far hne _, (HQ.out.below hcur hql).set8 (by omega) _, (below_step3 hb hcur).setCell hq _⟩
        · have := HB.out k hk
          show 0 ≤ if k = 7 then max 0 (b 7 + degF a 8 - degF b 8) else b k
          split
          · exact Int.le_max_left _ _
          · omega
        · have := HB.out k hk
          show (if k = 7 then max 0 (b 7 + degF a 8 - degF b 8) else b k) ≤ 20000
          rw [if_neg (by omega)]; omega
  case rest =>
    obtain ⟨b', hb', hbp, hbq, hbx⟩ := hcut
    have hpl := hbp.lt
    have hql := hbq.lt
    have lA := hbp.reads8 hpl
    have lB := hbq.reads8 hql
    by_cases hbig : 65535 < b' 7
    · obtain ⟨a0, a1, a2, a3, a4, a5, a6, a7⟩ := hbq.eight
      go_wp2
      go_ret
      exact ⟨rfl, hb01.trans (hbx.mono hb01.size)⟩
    · have hbs : Small b' := fun k hk => by
        have := hb' k hk
        by_cases h : k < 7
        · have := this.2 h; omega
        · obtain rfl : k = 7 := by omega
          omega
      have ha5 : Small a := fun k hk => by have := HA.out k hk; omega
      obtain ⟨da, hda⟩ : ∃ d, d = degF a 8 := ⟨_, rfl⟩
      obtain ⟨db, hdb⟩ : ∃ d, d = degF b' 8 := ⟨_, rfl⟩
      have DA : Hid (∀ W, Calls Try.prog 16 #[.agg (vec8 a)] W fun e w' => e = .returned (.int .i64 da) ∧ Below W.heap.size W w') := fun W => by rw [hda]; exact degree_any a W (fun k hk => by have := ha5 k hk; omega)
      have DB : Hid (∀ W, Calls Try.prog 16 #[.agg (vec8 b')] W fun e w' => e = .returned (.int .i64 db) ∧ Below W.heap.size W w') := fun W => by rw [hdb]; exact degree_any b' W (fun k hk => by have := hbs k hk; omega)
      have VG : Hid (gradedV a b' = if da < db then -1 else if db < da then 1 else lexC a b' 8) := by rw [hda, hdb]; rfl
      have VR : Hid (reverseV a b' = if da < db then -1 else if db < da then 1 else lastC a b' 8) := by rw [hda, hdb]; rfl
      clear hda hdb hb' HA HB
      obtain ⟨a0, a1, a2, a3, a4, a5, a6, a7⟩ := hbq.eight
      go_upto_region 9 with fail
      clear a0 a1 a2 a3 a4 a5 a6 a7 hbp hbq
      go_region_held3 (fun w' => Below wc.heap.size wc w')
        ((first | with_reducible assumption | with_reducible exact (Below.refl _ _).drew | with_reducible exact (by assumption : Below wc.heap.size wc _).drew))
        (first
          | (go_at_call 17; (with_reducible refine (mono_cmp' a b').mono ?_); rintro e wl ⟨rfl, hbl⟩; have hcur := below_step3 (W := wc) (by assumption) hbl; clear hbl)
          | (go_at_call 18; (with_reducible refine (last_any a b' _).mono ?_); rintro e wl ⟨rfl, hbl⟩; have hcur := below_step3 (W := wc) (by assumption) hbl; clear hbl))
      rcases Int.lt_trichotomy da db with hlt | hlt | hlt
      · have HG : Hid (gradedV a b' = -1) := by have := VG.out; rwa [if_pos hlt] at this
        have HR : Hid (reverseV a b' = -1) := by have := VR.out; rwa [if_pos hlt] at this
        have hn : ¬ db < da := by omega
        clear VG VR
        go_wp2_with fail
        go_region_held3 (fun w' => Below wc.heap.size wc w')
          ((first | with_reducible assumption | with_reducible exact (Below.refl _ _).drew | with_reducible exact (by assumption : Below wc.heap.size wc _).drew))
          (first
            | (go_at_call 16; (with_reducible refine (DA.out _).mono ?_); rintro e wl ⟨rfl, hbl⟩; have hcur := below_step3 (W := wc) (by assumption) hbl; clear hbl)
            | (go_at_call 16; (with_reducible refine (DB.out _).mono ?_); rintro e wl ⟨rfl, hbl⟩; have hcur := below_step3 (W := wc) (by assumption) hbl; clear hbl))
        go_wp2_with fail
        go_region_held3 (fun w' => Below wc.heap.size wc w')
          ((first | with_reducible assumption | with_reducible exact (Below.refl _ _).drew | with_reducible exact (by assumption : Below wc.heap.size wc _).drew))
          (first
            | (go_at_call 16; (with_reducible refine (DA.out _).mono ?_); rintro e wl ⟨rfl, hbl⟩; have hcur := below_step3 (W := wc) (by assumption) hbl; clear hbl)
            | (go_at_call 16; (with_reducible refine (DB.out _).mono ?_); rintro e wl ⟨rfl, hbl⟩; have hcur := below_step3 (W := wc) (by assumption) hbl; clear hbl))
        go_wp2_with fail
        go_region_held3 (fun w' => Below wc.heap.size wc w')
          ((first | with_reducible assumption | with_reducible exact (Below.refl _ _).drew | with_reducible exact (by assumption : Below wc.heap.size wc _).drew))
          (first
            | (go_at_call 19; (with_reducible refine (lex_any _).mono ?_); rintro e wl ⟨vl, rfl, hO, hbl⟩; have hcur := below_step3 (W := wc) (by assumption) hbl; clear hbl)
            | (go_at_call 20; (with_reducible refine (graded_any _).mono ?_); rintro e wl ⟨vl, rfl, hO, hbl⟩; have hcur := below_step3 (W := wc) (by assumption) hbl; clear hbl)
            | (go_at_call 21; (with_reducible refine (reverse_any _).mono ?_); rintro e wl ⟨vl, rfl, hO, hbl⟩; have hcur := below_step3 (W := wc) (by assumption) hbl; clear hbl)
            | (go_at_call 17; (with_reducible refine (mono_cmp' a b').mono ?_); rintro e wl ⟨rfl, hbl⟩; have hcur := below_step3 (W := wc) (by assumption) hbl; clear hbl)
            | (go_at_call 13; (with_reducible refine (cmpL hO.ordV ha5 hbs).mono ?_); rintro e wl ⟨rfl, hbl⟩; have hcur := below_step3 (W := wc) (by assumption) hbl; clear hbl)
            | (go_at_call 13; (with_reducible refine (cmpG hO.ordV ha5 hbs HG.out).mono ?_); rintro e wl ⟨rfl, hbl⟩; have hcur := below_step3 (W := wc) (by assumption) hbl; clear hbl)
            | (go_at_call 13; (with_reducible refine (cmpR hO.ordV ha5 hbs HR.out).mono ?_); rintro e wl ⟨rfl, hbl⟩; have hcur := below_step3 (W := wc) (by assumption) hbl; clear hbl))
        go_wp2
        go_ret
        exact ⟨rfl, hb01.trans ((below_step3 hbx hcur).mono hb01.size)⟩
      · have h1 : ¬ da < db := by omega
        have h2 : ¬ db < da := by omega
        have HG : Hid (gradedV a b' = lexC a b' 8) := by have := VG.out; rwa [if_neg h1, if_neg h2] at this
        have HR : Hid (reverseV a b' = lastC a b' 8) := by have := VR.out; rwa [if_neg h1, if_neg h2] at this
        clear VG VR hlt
        go_wp2_with fail
        go_region_held3 (fun w' => Below wc.heap.size wc w')
          ((first | with_reducible assumption | with_reducible exact (Below.refl _ _).drew | with_reducible exact (by assumption : Below wc.heap.size wc _).drew))
          (first
            | (go_at_call 16; (with_reducible refine (DA.out _).mono ?_); rintro e wl ⟨rfl, hbl⟩; have hcur := below_step3 (W := wc) (by assumption) hbl; clear hbl)
            | (go_at_call 16; (with_reducible refine (DB.out _).mono ?_); rintro e wl ⟨rfl, hbl⟩; have hcur := below_step3 (W := wc) (by assumption) hbl; clear hbl))
        go_wp2_with fail
        go_region_held3 (fun w' => Below wc.heap.size wc w')
          ((first | with_reducible assumption | with_reducible exact (Below.refl _ _).drew | with_reducible exact (by assumption : Below wc.heap.size wc _).drew))
          (first
            | (go_at_call 16; (with_reducible refine (DA.out _).mono ?_); rintro e wl ⟨rfl, hbl⟩; have hcur := below_step3 (W := wc) (by assumption) hbl; clear hbl)
            | (go_at_call 16; (with_reducible refine (DB.out _).mono ?_); rintro e wl ⟨rfl, hbl⟩; have hcur := below_step3 (W := wc) (by assumption) hbl; clear hbl))
        go_wp2_with fail
        go_region_held3 (fun w' => Below wc.heap.size wc w')
          ((first | with_reducible assumption | with_reducible exact (Below.refl _ _).drew | with_reducible exact (by assumption : Below wc.heap.size wc _).drew))
          (first
            | (go_at_call 19; (with_reducible refine (lex_any _).mono ?_); rintro e wl ⟨vl, rfl, hO, hbl⟩; have hcur := below_step3 (W := wc) (by assumption) hbl; clear hbl)
            | (go_at_call 20; (with_reducible refine (graded_any _).mono ?_); rintro e wl ⟨vl, rfl, hO, hbl⟩; have hcur := below_step3 (W := wc) (by assumption) hbl; clear hbl)
            | (go_at_call 21; (with_reducible refine (reverse_any _).mono ?_); rintro e wl ⟨vl, rfl, hO, hbl⟩; have hcur := below_step3 (W := wc) (by assumption) hbl; clear hbl)
            | (go_at_call 17; (with_reducible refine (mono_cmp' a b').mono ?_); rintro e wl ⟨rfl, hbl⟩; have hcur := below_step3 (W := wc) (by assumption) hbl; clear hbl)
            | (go_at_call 13; (with_reducible refine (cmpL hO.ordV ha5 hbs).mono ?_); rintro e wl ⟨rfl, hbl⟩; have hcur := below_step3 (W := wc) (by assumption) hbl; clear hbl)
            | (go_at_call 13; (with_reducible refine (cmpG hO.ordV ha5 hbs HG.out).mono ?_); rintro e wl ⟨rfl, hbl⟩; have hcur := below_step3 (W := wc) (by assumption) hbl; clear hbl)
            | (go_at_call 13; (with_reducible refine (cmpR hO.ordV ha5 hbs HR.out).mono ?_); rintro e wl ⟨rfl, hbl⟩; have hcur := below_step3 (W := wc) (by assumption) hbl; clear hbl))
        go_wp2
        go_ret
        exact ⟨rfl, hb01.trans ((below_step3 hbx hcur).mono hb01.size)⟩
      · have h1 : ¬ da < db := by omega
        have HG : Hid (gradedV a b' = 1) := by have := VG.out; rwa [if_neg h1, if_pos hlt] at this
        have HR : Hid (reverseV a b' = 1) := by have := VR.out; rwa [if_neg h1, if_pos hlt] at this
        clear VG VR
        go_wp2_with fail
        go_region_held3 (fun w' => Below wc.heap.size wc w')
          ((first | with_reducible assumption | with_reducible exact (Below.refl _ _).drew | with_reducible exact (by assumption : Below wc.heap.size wc _).drew))
          (first
            | (go_at_call 16; (with_reducible refine (DA.out _).mono ?_); rintro e wl ⟨rfl, hbl⟩; have hcur := below_step3 (W := wc) (by assumption) hbl; clear hbl)
            | (go_at_call 16; (with_reducible refine (DB.out _).mono ?_); rintro e wl ⟨rfl, hbl⟩; have hcur := below_step3 (W := wc) (by assumption) hbl; clear hbl))
        go_wp2_with fail
        go_region_held3 (fun w' => Below wc.heap.size wc w')
          ((first | with_reducible assumption | with_reducible exact (Below.refl _ _).drew | with_reducible exact (by assumption : Below wc.heap.size wc _).drew))
          (first
            | (go_at_call 16; (with_reducible refine (DA.out _).mono ?_); rintro e wl ⟨rfl, hbl⟩; have hcur := below_step3 (W := wc) (by assumption) hbl; clear hbl)
            | (go_at_call 16; (with_reducible refine (DB.out _).mono ?_); rintro e wl ⟨rfl, hbl⟩; have hcur := below_step3 (W := wc) (by assumption) hbl; clear hbl))
        go_wp2_with fail
        go_region_held3 (fun w' => Below wc.heap.size wc w')
          ((first | with_reducible assumption | with_reducible exact (Below.refl _ _).drew | with_reducible exact (by assumption : Below wc.heap.size wc _).drew))
          (first
            | (go_at_call 19; (with_reducible refine (lex_any _).mono ?_); rintro e wl ⟨vl, rfl, hO, hbl⟩; have hcur := below_step3 (W := wc) (by assumption) hbl; clear hbl)
            | (go_at_call 20; (with_reducible refine (graded_any _).mono ?_); rintro e wl ⟨vl, rfl, hO, hbl⟩; have hcur := below_step3 (W := wc) (by assumption) hbl; clear hbl)
            | (go_at_call 21; (with_reducible refine (reverse_any _).mono ?_); rintro e wl ⟨vl, rfl, hO, hbl⟩; have hcur := below_step3 (W := wc) (by assumption) hbl; clear hbl)
            | (go_at_call 17; (with_reducible refine (mono_cmp' a b').mono ?_); rintro e wl ⟨rfl, hbl⟩; have hcur := below_step3 (W := wc) (by assumption) hbl; clear hbl)
            | (go_at_call 13; (with_reducible refine (cmpL hO.ordV ha5 hbs).mono ?_); rintro e wl ⟨rfl, hbl⟩; have hcur := below_step3 (W := wc) (by assumption) hbl; clear hbl)
            | (go_at_call 13; (with_reducible refine (cmpG hO.ordV ha5 hbs HG.out).mono ?_); rintro e wl ⟨rfl, hbl⟩; have hcur := below_step3 (W := wc) (by assumption) hbl; clear hbl)
            | (go_at_call 13; (with_reducible refine (cmpR hO.ordV ha5 hbs HR.out).mono ?_); rintro e wl ⟨rfl, hbl⟩; have hcur := below_step3 (W := wc) (by assumption) hbl; clear hbl))
        go_wp2
        go_ret
        exact ⟨rfl, hb01.trans ((below_step3 hbx hcur).mono hb01.size)⟩

end Go.Proofs.Ytmkhfgggleplfaa
