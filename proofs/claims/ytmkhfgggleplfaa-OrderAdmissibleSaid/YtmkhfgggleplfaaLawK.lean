/-
  The walk of OrderAdmissible: true. Conditions: entries of type int8, exponents of type uint16.
-/
import Derived.Test.YtmkhfgggleplfaaLawJ
namespace Go.Proofs.Ytmkhfgggleplfaa
set_option linter.unusedSimpArgs false
set_option linter.unusedVariables false
open Go.RowKit

abbrev vecU3 (g : Nat → Nat → Int) : Array Value := #[.int .u16 (g 0 0), .int .u16 (g 0 1), .int .u16 (g 0 2), .int .u16 (g 0 3), .int .u16 (g 0 4), .int .u16 (g 0 5), .int .u16 (g 0 6), .int .u16 (g 0 7), .int .u16 (g 1 0), .int .u16 (g 1 1), .int .u16 (g 1 2), .int .u16 (g 1 3), .int .u16 (g 1 4), .int .u16 (g 1 5), .int .u16 (g 1 6), .int .u16 (g 1 7), .int .u16 (g 2 0), .int .u16 (g 2 1), .int .u16 (g 2 2), .int .u16 (g 2 3), .int .u16 (g 2 4), .int .u16 (g 2 5), .int .u16 (g 2 6), .int .u16 (g 2 7)]
theorem ordC_ge {n : Nat} {f : Nat → Nat → Int} {a b c : Nat → Int} (h1 : 0 ≤ ordC n f a b) (h2 : 0 ≤ ordC n f b c) : 0 ≤ ordC n f a c := by
  rcases ordC_range n f a b with h3 | h3 | h3
  · rw [ordC_congr (a' := b) (b' := c) (fun _ _ _ _ => rfl) (ordC_zero.1 h3) (fun _ _ => rfl)]; exact h2
  · rcases ordC_range n f b c with h4 | h4 | h4
    · rw [← ordC_congr (a := a) (b := b) (fun _ _ _ _ => rfl) (fun _ _ => rfl) (ordC_zero.1 h4)]; exact h1
    · rw [ordC_trans h3 h4]; decide
    · omega
  · omega
theorem ordC_up {n : Nat} {f : Nat → Nat → Int} {a c : Nat → Int} (hv : validP n f) (hc : ∀ k, k < 8 → 0 ≤ c k) : 0 ≤ ordC n f (fun k => a k + c k) a := by
  have h := ordC_least hv.2 hc
  rw [← ordC_mul n f c (fun _ => 0) a] at h
  rwa [ordC_congr (a' := fun k => a k + c k) (b' := a) (fun _ _ _ _ => rfl) (fun k _ => Int.add_comm _ _) (fun k _ => Int.zero_add _)] at h
theorem mono_mul' (a b : Nat → Int) (w : World) (ha : ∀ k, k < 8 → 0 ≤ a k ∧ a k ≤ 20000) (hb : ∀ k, k < 8 → 0 ≤ b k ∧ b k ≤ 20000) :
    Calls Try.prog 33 #[.agg (vec8 a), .agg (vec8 b)] w fun e w' => e = .returned (.tuple #[.agg (vec8 fun k => a k + b k), .int .i64 0]) ∧ Below w.heap.size w w' :=
  mono_mul a b w (fun k hk => by have := ha k hk; omega) (fun k hk => by have := hb k hk; omega) (fun k hk => by have := ha k hk; have := hb k hk; show 0 ≤ a k + b k ∧ a k + b k ≤ 65535; omega)
set_option maxHeartbeats 4000000 in
set_option maxRecDepth 100000 in
theorem admissible_any {w : World} {s : Value} {n : Nat} {y x : Nat → Nat → Int} (hr : RowsV w s n y) (hy : ∀ i, i < n → ∀ k, k < 8 → -128 ≤ y i k ∧ y i k ≤ 127) (hx : ∀ i, i < 3 → U16 (x i)) :
    Calls Try.prog 7 #[.agg #[s], .agg (vecU3 x)] w fun e w' => e = .returned (.bool true) ∧ Below w.heap.size w w' := by
  obtain ⟨W0, hW0, hb0, hBr, hBx, hs0⟩ := boxes2 w 24 62 #[s] (vecU3 x)
  have hx0 := Lib.hid (hx 0 (by omega))
  have hx1 := Lib.hid (hx 1 (by omega))
  have hx2 := Lib.hid (hx 2 (by omega))
  have HY := Lib.hid hy
  have HR := Lib.hid hr
  clear hx hy hr
  go_enter Try.func7, Try.ntmps7
  go_wp2_with fail
  rw [← hW0]
  clear hW0
  refine (examples_any W0).mono ?_
  rintro e w1 ⟨rfl, hb1⟩
  have hBx1 := hBx.below hb1 (by omega)
  have hBr1 := hBr.below hb1 (by omega)
  have hb01 := hb0.trans (hb1.mono hb0.size)
  have hs1 : w.heap.size + 1 < w1.heap.size := by have := hb1.size; omega
  have HR1 := Lib.hid (HR.out.below hb01)
  clear hBx hBr hb1 hb0 hs0
  have lx : ∀ X k, Below w1.heap.size w1 X → X.cell? ⟨w.heap.size + 1, k, none⟩ = (vecU3 x)[k]? := fun X k hX => (hX.cell (p := ⟨w.heap.size + 1, k, none⟩) (by show w.heap.size + 1 < _; omega)).trans (hBx1.cell k)
  have lr : ∀ X, Below w1.heap.size w1 X → X.cell? ⟨w.heap.size, 0, none⟩ = some s := fun X hX => (hX.cell (p := ⟨w.heap.size, 0, none⟩) (by show w.heap.size < _; omega)).trans (hBr1.cell 0)
  clear hBx1 hBr1
  go_upto_region 4 with fail
  go_cut [6, 7, 8, 9] (fun xo xp xq xr wx => ∃ p q r, xp = ptr p ∧ xq = ptr q ∧ xr = ptr r ∧ p ≠ q ∧ p ≠ r ∧ q ≠ r ∧ MadeP n y wx xo ∧ Blk wx p 35 (vec8 (monoF (x 0))) ∧ Blk wx q 35 (vec8 (monoF (x 1))) ∧ Blk wx r 35 (vec8 (monoF (x 2))) ∧ Below w1.heap.size w1 wx)
  case first =>
    refine wp_region_noPanic ?_
    refine wp_region_held_drew (S := fun w' => Below w1.heap.size w1 w') (by kernel_rfl) ((Below.refl _ _).drew) (fun hHeld => ?_)
    refine wpAnyH_pure (i := 0) (d := some 18) (v := ?_) rfl rfl (by kernel_rfl) (by kernel_rfl) (by kernel_rfl) (fun _ _ _ h => h) (by rfl) ?_ (by assumption) ?_
    rotate_left
    · intro w hSw; (try dsimp only at hSw); go_simp; all_goals with_reducible rfl
    try simp only [Act.put, List.setIfInBounds_toArray, List.set_cons_zero, List.set_cons_succ]
    refine wpAnyH_pure (i := 2) (d := some 20) (v := ?_) rfl rfl (by kernel_rfl) (by kernel_rfl) (by kernel_rfl) (fun _ _ _ h => h) (by rfl) ?_ (by assumption) ?_
    rotate_left
    · intro w hSw; (try dsimp only at hSw); go_simp; all_goals with_reducible rfl
    try simp only [Act.put, List.setIfInBounds_toArray, List.set_cons_zero, List.set_cons_succ]
    refine wpAnyH_pure (i := 3) (d := some 21) (v := ?_) rfl rfl (by kernel_rfl) (by kernel_rfl) (by kernel_rfl) (fun _ _ _ h => h) (by rfl) ?_ (by assumption) ?_
    rotate_left
    · intro w hSw; (try dsimp only at hSw); go_simp; all_goals with_reducible rfl
    try simp only [Act.put, List.setIfInBounds_toArray, List.set_cons_zero, List.set_cons_succ]
    refine wpAnyH_pure (i := 5) (d := some 23) (v := ?_) rfl rfl (by kernel_rfl) (by kernel_rfl) (by kernel_rfl) (fun _ _ _ h => h) (by rfl) ?_ (by assumption) ?_
    rotate_left
    · intro w hSw; (try dsimp only at hSw); go_simp; all_goals with_reducible rfl
    try simp only [Act.put, List.setIfInBounds_toArray, List.set_cons_zero, List.set_cons_succ]
    refine wpAnyH_pure (i := 6) (d := some 24) (v := ?_) rfl rfl (by kernel_rfl) (by kernel_rfl) (by kernel_rfl) (fun _ _ _ h => h) (by rfl) ?_ (by assumption) ?_
    rotate_left
    · intro w hSw; (try dsimp only at hSw); go_simp; all_goals with_reducible rfl
    try simp only [Act.put, List.setIfInBounds_toArray, List.set_cons_zero, List.set_cons_succ]
    refine wpAnyH_pure (i := 8) (d := some 26) (v := ?_) rfl rfl (by kernel_rfl) (by kernel_rfl) (by kernel_rfl) (fun _ _ _ h => h) (by rfl) ?_ (by assumption) ?_
    rotate_left
    · intro w hSw; (try dsimp only at hSw); go_simp; all_goals with_reducible rfl
    try simp only [Act.put, List.setIfInBounds_toArray, List.set_cons_zero, List.set_cons_succ]
    refine wpAnyH_pure (i := 9) (d := some 27) (v := ?_) rfl rfl (by kernel_rfl) (by kernel_rfl) (by kernel_rfl) (fun _ _ _ h => h) (by rfl) ?_ (by assumption) ?_
    rotate_left
    · intro w hSw; (try dsimp only at hSw); go_simp; all_goals with_reducible rfl
    try simp only [Act.put, List.setIfInBounds_toArray, List.set_cons_zero, List.set_cons_succ]
    refine wpAnyH_inv' (R := fun fr0 l a w' => ∃ (m c0 c1 c2 a0 a1 a2 g s0 s1 s2 : Bool) (xg p0 p1 p2 xm x0 x1 x2 : Value), l = #[true, m, true, true, c0, true, true, c1, true, true, c2, a0, a1, a2, g, s0, s1, s2] ∧ a = ((((((((fr0.put (some 6) xg).put (some 7) p0).put (some 8) p1).put (some 9) p2).put (some 19) xm).put (some 22) x0).put (some 25) x1).put (some 28) x2) ∧ Below w1.heap.size w1 w' ∧ (m = true → MadeP n y w' xm) ∧ (g = true → m = true) ∧ (g = true → xg = xm) ∧ (c0 = true → x0 = .agg (vec8 (monoF (x 0)))) ∧ (c1 = true → x1 = .agg (vec8 (monoF (x 1)))) ∧ (c2 = true → x2 = .agg (vec8 (monoF (x 2)))) ∧ (s0 = true → a0 = true) ∧ (s1 = true → a1 = true) ∧ (s2 = true → a2 = true) ∧ (a0 = true → ∃ q, p0 = ptr q ∧ w1.heap.size ≤ q ∧ Blk w' q 35 (vec8 (if s0 then monoF (x 0) else fun _ => 0)) ∧ (m = true → FarV xm q)) ∧ (a1 = true → ∃ q, p1 = ptr q ∧ w1.heap.size ≤ q ∧ Blk w' q 35 (vec8 (if s1 then monoF (x 1) else fun _ => 0)) ∧ (m = true → FarV xm q)) ∧ (a2 = true → ∃ q, p2 = ptr q ∧ w1.heap.size ≤ q ∧ Blk w' q 35 (vec8 (if s2 then monoF (x 2) else fun _ => 0)) ∧ (m = true → FarV xm q)) ∧ (a0 = true → a1 = true → p0 ≠ p1) ∧ (a0 = true → a2 = true → p0 ≠ p2) ∧ (a1 = true → a2 = true → p1 ≠ p2)) ?step ?fin ?beg ?fuel
    case beg => exact ⟨false, false, false, false, false, false, false, false, false, false, false, undef, undef, undef, undef, undef, undef, undef, undef, by kernel_rfl, rfl, hHeld, by simp, by simp, by simp, by simp, by simp, by simp, by simp, by simp, by simp, by simp, by simp, by simp, by simp, by simp, by simp⟩
    case fuel => decide +kernel
    case fin =>
      rintro l a w' ⟨m, c0, c1, c2, a0, a1, a2, g, s0, s1, s2, xg, p0, p1, p2, xm, x0, x1, x2, rfl, rfl, hb, fm, fgm, fg, fc0, fc1, fc2, fs0, fs1, fs2, fa0, fa1, fa2, fp01, fp02, fp12⟩ hr
      clear fgm fs0 fs1 fs2
      have hall := ready_nil (by kernel_rfl) hr
      obtain rfl : m = true := by simpa using hall 1 (by simp)
      obtain rfl : c0 = true := by simpa using hall 4 (by simp)
      obtain rfl : c1 = true := by simpa using hall 7 (by simp)
      obtain rfl : c2 = true := by simpa using hall 10 (by simp)
      obtain rfl : a0 = true := by simpa using hall 11 (by simp)
      obtain rfl : a1 = true := by simpa using hall 12 (by simp)
      obtain rfl : a2 = true := by simpa using hall 13 (by simp)
      obtain rfl : g = true := by simpa using hall 14 (by simp)
      obtain rfl : s0 = true := by simpa using hall 15 (by simp)
      obtain rfl : s1 = true := by simpa using hall 16 (by simp)
      obtain rfl : s2 = true := by simpa using hall 17 (by simp)
      clear hall
      obtain ⟨q0, rfl, hq0, hbq0, hf0⟩ := fa0 rfl
      obtain ⟨q1, rfl, hq1, hbq1, hf1⟩ := fa1 rfl
      obtain ⟨q2, rfl, hq2, hbq2, hf2⟩ := fa2 rfl
      have hne01 : q0 ≠ q1 := fun e => fp01 rfl rfl (by rw [e])
      have hne02 : q0 ≠ q2 := fun e => fp02 rfl rfl (by rw [e])
      have hne12 : q1 ≠ q2 := fun e => fp12 rfl rfl (by rw [e])
      have hM := fm rfl
      obtain rfl := fg rfl
      refine NoPanic.normal ?_
      simp only [Act.put, List.setIfInBounds_toArray, List.set_cons_zero, List.set_cons_succ]
      clear hr fm fc0 fc1 fc2 fa0 fa1 fa2 fp01 fp02 fp12
      go_wp2_with fail
      go_meet
      case rel => exact ⟨q0, q1, q2, rfl, rfl, rfl, hne01, hne02, hne12, hM, hbq0, hbq1, hbq2, hb⟩
    case step =>
      rintro l a w' i ⟨m, c0, c1, c2, a0, a1, a2, g, s0, s1, s2, xg, p0, p1, p2, xm, x0, x1, x2, rfl, rfl, hb, fm, fgm, fg, fc0, fc1, fc2, fs0, fs1, fs2, fa0, fa1, fa2, fp01, fp02, fp12⟩ hi
      obtain ⟨h0, o, ho, hall⟩ := mem_ready.1 hi
      have hi18 : i < 18 := (Array.getElem?_eq_some_iff.1 ho).1
      have FM := Lib.hid fm
      have FGM := Lib.hid fgm
      have FG := Lib.hid fg
      have FC0 := Lib.hid fc0
      have FC1 := Lib.hid fc1
      have FC2 := Lib.hid fc2
      have FS0 := Lib.hid fs0
      have FS1 := Lib.hid fs1
      have FS2 := Lib.hid fs2
      have FA0 := Lib.hid fa0
      have FA1 := Lib.hid fa1
      have FA2 := Lib.hid fa2
      have FP01 := Lib.hid fp01
      have FP02 := Lib.hid fp02
      have FP12 := Lib.hid fp12
      clear fm fgm fg fc0 fc1 fc2 fs0 fs1 fs2 fa0 fa1 fa2 fp01 fp02 fp12
      rcases (by omega : i = 0 ∨ i = 1 ∨ i = 2 ∨ i = 3 ∨ i = 4 ∨ i = 5 ∨ i = 6 ∨ i = 7 ∨ i = 8 ∨ i = 9 ∨ i = 10 ∨ i = 11 ∨ i = 12 ∨ i = 13 ∨ i = 14 ∨ i = 15 ∨ i = 16 ∨ i = 17) with h | h | h | h | h | h | h | h | h | h | h | h | h | h | h | h | h | h <;> subst h
      · simp at h0
      · obtain rfl : m = false := by simpa using h0
        obtain rfl : g = false := by cases g; exact rfl; exact absurd (FGM.out rfl) (by decide)
        clear h0 ho hall hi hi18
        refine wpOp_step rfl (fun K hK => ?_)
        simp only [Act.put, List.setIfInBounds_toArray, List.set_cons_zero, List.set_cons_succ]
        go_simp
        (with_reducible refine (made_at HR1.out HY.out hb).mono ?_)
        rintro e w2 ⟨r, rfl, hMr, hOr, hb2⟩
        have hc := below_step3 hb hb2
        refine hK _ _ ⟨hc, true, c0, c1, c2, a0, a1, a2, false, s0, s1, s2, xg, p0, p1, p2, _, x0, x1, x2, rfl, (by first | with_reducible rfl | simp only [Act.put, List.setIfInBounds_toArray, List.set_cons_zero, List.set_cons_succ, ptr]), hc, fun _ => hMr, fun h => absurd h (by decide), fun h => absurd h (by decide), FC0.out, FC1.out, FC2.out, FS0.out, FS1.out, FS2.out, fun h => ?_, fun h => ?_, fun h => ?_, FP01.out, FP02.out, FP12.out⟩
        · obtain ⟨q, h1, h2, h3, _⟩ := FA0.out h; exact ⟨q, h1, h2, h3.below hb2 h3.lt, fun _ => hOr q h3.lt⟩
        · obtain ⟨q, h1, h2, h3, _⟩ := FA1.out h; exact ⟨q, h1, h2, h3.below hb2 h3.lt, fun _ => hOr q h3.lt⟩
        · obtain ⟨q, h1, h2, h3, _⟩ := FA2.out h; exact ⟨q, h1, h2, h3.below hb2 h3.lt, fun _ => hOr q h3.lt⟩
      · simp at h0
      · simp at h0
      · obtain rfl : c0 = false := by simpa using h0
        clear h0 ho hall hi hi18
        refine wpOp_step rfl (fun K hK => ?_)
        simp only [Act.put, List.setIfInBounds_toArray, List.set_cons_zero, List.set_cons_succ]
        go_simp
        (with_reducible refine (mono_at (x 0) _ hx0.out).mono ?_)
        rintro e w2 ⟨rfl, hb2⟩
        have hc := below_step3 hb hb2
        refine hK _ _ ⟨hc, m, true, c1, c2, a0, a1, a2, g, s0, s1, s2, xg, p0, p1, p2, xm, _, x1, x2, rfl, (by first | with_reducible rfl | simp only [Act.put, List.setIfInBounds_toArray, List.set_cons_zero, List.set_cons_succ, ptr]), hc, fun h => (FM.out h).below hb2, FGM.out, FG.out, fun _ => rfl, FC1.out, FC2.out, FS0.out, FS1.out, FS2.out, fun h => ?_, fun h => ?_, fun h => ?_, FP01.out, FP02.out, FP12.out⟩
        · obtain ⟨q, h1, h2, h3, h4⟩ := FA0.out h; exact ⟨q, h1, h2, h3.below hb2 h3.lt, h4⟩
        · obtain ⟨q, h1, h2, h3, h4⟩ := FA1.out h; exact ⟨q, h1, h2, h3.below hb2 h3.lt, h4⟩
        · obtain ⟨q, h1, h2, h3, h4⟩ := FA2.out h; exact ⟨q, h1, h2, h3.below hb2 h3.lt, h4⟩
      · simp at h0
      · simp at h0
      · obtain rfl : c1 = false := by simpa using h0
        clear h0 ho hall hi hi18
        refine wpOp_step rfl (fun K hK => ?_)
        simp only [Act.put, List.setIfInBounds_toArray, List.set_cons_zero, List.set_cons_succ]
        go_simp
        (with_reducible refine (mono_at (x 1) _ hx1.out).mono ?_)
        rintro e w2 ⟨rfl, hb2⟩
        have hc := below_step3 hb hb2
        refine hK _ _ ⟨hc, m, c0, true, c2, a0, a1, a2, g, s0, s1, s2, xg, p0, p1, p2, xm, x0, _, x2, rfl, (by first | with_reducible rfl | simp only [Act.put, List.setIfInBounds_toArray, List.set_cons_zero, List.set_cons_succ, ptr]), hc, fun h => (FM.out h).below hb2, FGM.out, FG.out, FC0.out, fun _ => rfl, FC2.out, FS0.out, FS1.out, FS2.out, fun h => ?_, fun h => ?_, fun h => ?_, FP01.out, FP02.out, FP12.out⟩
        · obtain ⟨q, h1, h2, h3, h4⟩ := FA0.out h; exact ⟨q, h1, h2, h3.below hb2 h3.lt, h4⟩
        · obtain ⟨q, h1, h2, h3, h4⟩ := FA1.out h; exact ⟨q, h1, h2, h3.below hb2 h3.lt, h4⟩
        · obtain ⟨q, h1, h2, h3, h4⟩ := FA2.out h; exact ⟨q, h1, h2, h3.below hb2 h3.lt, h4⟩
      · simp at h0
      · simp at h0
      · obtain rfl : c2 = false := by simpa using h0
        clear h0 ho hall hi hi18
        refine wpOp_step rfl (fun K hK => ?_)
        simp only [Act.put, List.setIfInBounds_toArray, List.set_cons_zero, List.set_cons_succ]
        go_simp
        (with_reducible refine (mono_at (x 2) _ hx2.out).mono ?_)
        rintro e w2 ⟨rfl, hb2⟩
        have hc := below_step3 hb hb2
        refine hK _ _ ⟨hc, m, c0, c1, true, a0, a1, a2, g, s0, s1, s2, xg, p0, p1, p2, xm, x0, x1, _, rfl, (by first | with_reducible rfl | simp only [Act.put, List.setIfInBounds_toArray, List.set_cons_zero, List.set_cons_succ, ptr]), hc, fun h => (FM.out h).below hb2, FGM.out, FG.out, FC0.out, FC1.out, fun _ => rfl, FS0.out, FS1.out, FS2.out, fun h => ?_, fun h => ?_, fun h => ?_, FP01.out, FP02.out, FP12.out⟩
        · obtain ⟨q, h1, h2, h3, h4⟩ := FA0.out h; exact ⟨q, h1, h2, h3.below hb2 h3.lt, h4⟩
        · obtain ⟨q, h1, h2, h3, h4⟩ := FA1.out h; exact ⟨q, h1, h2, h3.below hb2 h3.lt, h4⟩
        · obtain ⟨q, h1, h2, h3, h4⟩ := FA2.out h; exact ⟨q, h1, h2, h3.below hb2 h3.lt, h4⟩
      · obtain rfl : a0 = false := by simpa using h0
        obtain rfl : s0 = false := by cases s0; exact rfl; exact absurd (FS0.out rfl) (by decide)
        clear h0 ho hall hi hi18
        refine wpOp_step rfl (fun K hK => ?_)
        simp only [Act.put, List.setIfInBounds_toArray, List.set_cons_zero, List.set_cons_succ]
        go_simp
        have hc := hb.alloc hb.size (.cells (vec8 fun _ => 0) 35)
        have hb2 : Below w'.heap.size w' (w'.alloc (.cells (vec8 fun _ => 0) 35)) := (Below.refl _ _).alloc (Nat.le_refl _) _
        refine hK _ _ ⟨hc, m, c0, c1, c2, true, a1, a2, g, false, s1, s2, xg, _, p1, p2, xm, x0, x1, x2, rfl, (by first | with_reducible rfl | simp only [Act.put, List.setIfInBounds_toArray, List.set_cons_zero, List.set_cons_succ, ptr]), hc, fun h => (FM.out h).below hb2, FGM.out, FG.out, FC0.out, FC1.out, FC2.out, fun _ => rfl, FS1.out, FS2.out, fun _ => ⟨_, rfl, hb.size, Blk.new _ _ _, fun h => (FM.out h).far⟩, fun h => ?_, fun h => ?_, fun _ h => ?_, fun _ h => ?_, FP12.out⟩
        · obtain ⟨q, h1, h2, h3, h4⟩ := FA1.out h; exact ⟨q, h1, h2, h3.alloc _, h4⟩
        · obtain ⟨q, h1, h2, h3, h4⟩ := FA2.out h; exact ⟨q, h1, h2, h3.alloc _, h4⟩
        · obtain ⟨q, rfl, h2, h3, h4⟩ := FA1.out h; exact ptr_ne (by have := h3.lt; omega)
        · obtain ⟨q, rfl, h2, h3, h4⟩ := FA2.out h; exact ptr_ne (by have := h3.lt; omega)
      · obtain rfl : a1 = false := by simpa using h0
        obtain rfl : s1 = false := by cases s1; exact rfl; exact absurd (FS1.out rfl) (by decide)
        clear h0 ho hall hi hi18
        refine wpOp_step rfl (fun K hK => ?_)
        simp only [Act.put, List.setIfInBounds_toArray, List.set_cons_zero, List.set_cons_succ]
        go_simp
        have hc := hb.alloc hb.size (.cells (vec8 fun _ => 0) 35)
        have hb2 : Below w'.heap.size w' (w'.alloc (.cells (vec8 fun _ => 0) 35)) := (Below.refl _ _).alloc (Nat.le_refl _) _
        refine hK _ _ ⟨hc, m, c0, c1, c2, a0, true, a2, g, s0, false, s2, xg, p0, _, p2, xm, x0, x1, x2, rfl, (by first | with_reducible rfl | simp only [Act.put, List.setIfInBounds_toArray, List.set_cons_zero, List.set_cons_succ, ptr]), hc, fun h => (FM.out h).below hb2, FGM.out, FG.out, FC0.out, FC1.out, FC2.out, FS0.out, fun _ => rfl, FS2.out, fun h => ?_, fun _ => ⟨_, rfl, hb.size, Blk.new _ _ _, fun h => (FM.out h).far⟩, fun h => ?_, fun h _ => ?_, FP02.out, fun _ h => ?_⟩
        · obtain ⟨q, h1, h2, h3, h4⟩ := FA0.out h; exact ⟨q, h1, h2, h3.alloc _, h4⟩
        · obtain ⟨q, h1, h2, h3, h4⟩ := FA2.out h; exact ⟨q, h1, h2, h3.alloc _, h4⟩
        · obtain ⟨q, rfl, h2, h3, h4⟩ := FA0.out h; exact ptr_ne (by have := h3.lt; omega)
        · obtain ⟨q, rfl, h2, h3, h4⟩ := FA2.out h; exact ptr_ne (by have := h3.lt; omega)
      · obtain rfl : a2 = false := by simpa using h0
        obtain rfl : s2 = false := by cases s2; exact rfl; exact absurd (FS2.out rfl) (by decide)
        clear h0 ho hall hi hi18
        refine wpOp_step rfl (fun K hK => ?_)
        simp only [Act.put, List.setIfInBounds_toArray, List.set_cons_zero, List.set_cons_succ]
        go_simp
        have hc := hb.alloc hb.size (.cells (vec8 fun _ => 0) 35)
        have hb2 : Below w'.heap.size w' (w'.alloc (.cells (vec8 fun _ => 0) 35)) := (Below.refl _ _).alloc (Nat.le_refl _) _
        refine hK _ _ ⟨hc, m, c0, c1, c2, a0, a1, true, g, s0, s1, false, xg, p0, p1, _, xm, x0, x1, x2, rfl, (by first | with_reducible rfl | simp only [Act.put, List.setIfInBounds_toArray, List.set_cons_zero, List.set_cons_succ, ptr]), hc, fun h => (FM.out h).below hb2, FGM.out, FG.out, FC0.out, FC1.out, FC2.out, FS0.out, FS1.out, fun _ => rfl, fun h => ?_, fun h => ?_, fun _ => ⟨_, rfl, hb.size, Blk.new _ _ _, fun h => (FM.out h).far⟩, FP01.out, fun h _ => ?_, fun h _ => ?_⟩
        · obtain ⟨q, h1, h2, h3, h4⟩ := FA0.out h; exact ⟨q, h1, h2, h3.alloc _, h4⟩
        · obtain ⟨q, h1, h2, h3, h4⟩ := FA1.out h; exact ⟨q, h1, h2, h3.alloc _, h4⟩
        · obtain ⟨q, rfl, h2, h3, h4⟩ := FA0.out h; exact ptr_ne (by have := h3.lt; omega)
        · obtain ⟨q, rfl, h2, h3, h4⟩ := FA1.out h; exact ptr_ne (by have := h3.lt; omega)
      · obtain rfl : g = false := by simpa using h0
        have d0 : m = true := ready_on (k := 1) hi rfl (e := ⟨1, .data⟩) (by simp) rfl rfl
        subst d0
        clear h0 ho hall hi hi18
        refine wpOp_step rfl (fun K hK => ?_)
        simp only [Act.put, List.setIfInBounds_toArray, List.set_cons_zero, List.set_cons_succ]
        go_simp
        have hc := hb
        refine hK _ _ ⟨hc, true, c0, c1, c2, a0, a1, a2, true, s0, s1, s2, _, p0, p1, p2, xm, x0, x1, x2, rfl, (by first | with_reducible rfl | simp only [Act.put, List.setIfInBounds_toArray, List.set_cons_zero, List.set_cons_succ, ptr]), hc, FM.out, fun _ => rfl, fun _ => rfl, FC0.out, FC1.out, FC2.out, FS0.out, FS1.out, FS2.out, FA0.out, FA1.out, FA2.out, FP01.out, FP02.out, FP12.out⟩
      · obtain rfl : s0 = false := by simpa using h0
        have d2 : c0 = true := ready_on (k := 4) hi rfl (e := ⟨4, .data⟩) (by simp) rfl rfl
        have d6 : a0 = true := ready_on (k := 11) hi rfl (e := ⟨11, .data⟩) (by simp) rfl rfl
        subst d2 d6
        clear h0 ho hall hi hi18
        obtain ⟨q, rfl, hq, hbq, hf⟩ := FA0.out rfl
        obtain rfl := FC0.out rfl
        rw [if_neg (by decide)] at hbq
        obtain ⟨d0, d1, d2, d3, d4, d5, d6, d7⟩ := hbq.eight
        obtain ⟨e0, e1, e2, e3, e4, e5, e6, e7⟩ := hbq.eightF
        refine wpOp_step rfl (fun K hK => ?_)
        simp only [Act.put, List.setIfInBounds_toArray, List.set_cons_zero, List.set_cons_succ]
        unfold ptr
        go_simp
        clear d0 d1 d2 d3 d4 d5 d6 d7 e0 e1 e2 e3 e4 e5 e6 e7
        have hc := below_put8 (monoF (x 0)) hb hq
        refine hK _ _ ⟨hc, m, true, c1, c2, true, a1, a2, g, true, s1, s2, xg, ptr q, p1, p2, xm, _, x1, x2, rfl, (by first | with_reducible rfl | simp only [Act.put, List.setIfInBounds_toArray, List.set_cons_zero, List.set_cons_succ, ptr]), hc, fun h => (FM.out h).put8 _ (hf h), FGM.out, FG.out, FC0.out, FC1.out, FC2.out, fun _ => rfl, FS1.out, FS2.out, fun _ => ⟨q, rfl, hq, hbq.put8 _, hf⟩, fun h => ?_, fun h => ?_, FP01.out, FP02.out, FP12.out⟩
        · obtain ⟨r, h1, h2, h3, h4⟩ := FA1.out h; exact ⟨r, h1, h2, h3.far8 _ (fun e => FP01.out rfl h (by rw [h1, e])), h4⟩
        · obtain ⟨r, h1, h2, h3, h4⟩ := FA2.out h; exact ⟨r, h1, h2, h3.far8 _ (fun e => FP02.out rfl h (by rw [h1, e])), h4⟩
      · obtain rfl : s1 = false := by simpa using h0
        have d2 : c1 = true := ready_on (k := 7) hi rfl (e := ⟨7, .data⟩) (by simp) rfl rfl
        have d6 : a1 = true := ready_on (k := 12) hi rfl (e := ⟨12, .data⟩) (by simp) rfl rfl
        subst d2 d6
        clear h0 ho hall hi hi18
        obtain ⟨q, rfl, hq, hbq, hf⟩ := FA1.out rfl
        obtain rfl := FC1.out rfl
        rw [if_neg (by decide)] at hbq
        obtain ⟨d0, d1, d2, d3, d4, d5, d6, d7⟩ := hbq.eight
        obtain ⟨e0, e1, e2, e3, e4, e5, e6, e7⟩ := hbq.eightF
        refine wpOp_step rfl (fun K hK => ?_)
        simp only [Act.put, List.setIfInBounds_toArray, List.set_cons_zero, List.set_cons_succ]
        unfold ptr
        go_simp
        clear d0 d1 d2 d3 d4 d5 d6 d7 e0 e1 e2 e3 e4 e5 e6 e7
        have hc := below_put8 (monoF (x 1)) hb hq
        refine hK _ _ ⟨hc, m, c0, true, c2, a0, true, a2, g, s0, true, s2, xg, p0, ptr q, p2, xm, x0, _, x2, rfl, (by first | with_reducible rfl | simp only [Act.put, List.setIfInBounds_toArray, List.set_cons_zero, List.set_cons_succ, ptr]), hc, fun h => (FM.out h).put8 _ (hf h), FGM.out, FG.out, FC0.out, FC1.out, FC2.out, FS0.out, fun _ => rfl, FS2.out, fun h => ?_, fun _ => ⟨q, rfl, hq, hbq.put8 _, hf⟩, fun h => ?_, FP01.out, FP02.out, FP12.out⟩
        · obtain ⟨r, h1, h2, h3, h4⟩ := FA0.out h; exact ⟨r, h1, h2, h3.far8 _ (fun e => FP01.out h rfl (by rw [h1, e])), h4⟩
        · obtain ⟨r, h1, h2, h3, h4⟩ := FA2.out h; exact ⟨r, h1, h2, h3.far8 _ (fun e => FP12.out rfl h (by rw [h1, e])), h4⟩
      · obtain rfl : s2 = false := by simpa using h0
        have d2 : c2 = true := ready_on (k := 10) hi rfl (e := ⟨10, .data⟩) (by simp) rfl rfl
        have d6 : a2 = true := ready_on (k := 13) hi rfl (e := ⟨13, .data⟩) (by simp) rfl rfl
        subst d2 d6
        clear h0 ho hall hi hi18
        obtain ⟨q, rfl, hq, hbq, hf⟩ := FA2.out rfl
        obtain rfl := FC2.out rfl
        rw [if_neg (by decide)] at hbq
        obtain ⟨d0, d1, d2, d3, d4, d5, d6, d7⟩ := hbq.eight
        obtain ⟨e0, e1, e2, e3, e4, e5, e6, e7⟩ := hbq.eightF
        refine wpOp_step rfl (fun K hK => ?_)
        simp only [Act.put, List.setIfInBounds_toArray, List.set_cons_zero, List.set_cons_succ]
        unfold ptr
        go_simp
        clear d0 d1 d2 d3 d4 d5 d6 d7 e0 e1 e2 e3 e4 e5 e6 e7
        have hc := below_put8 (monoF (x 2)) hb hq
        refine hK _ _ ⟨hc, m, c0, c1, true, a0, a1, true, g, s0, s1, true, xg, p0, p1, ptr q, xm, x0, x1, _, rfl, (by first | with_reducible rfl | simp only [Act.put, List.setIfInBounds_toArray, List.set_cons_zero, List.set_cons_succ, ptr]), hc, fun h => (FM.out h).put8 _ (hf h), FGM.out, FG.out, FC0.out, FC1.out, FC2.out, FS0.out, FS1.out, fun _ => rfl, fun h => ?_, fun h => ?_, fun _ => ⟨q, rfl, hq, hbq.put8 _, hf⟩, FP01.out, FP02.out, FP12.out⟩
        · obtain ⟨r, h1, h2, h3, h4⟩ := FA0.out h; exact ⟨r, h1, h2, h3.far8 _ (fun e => FP02.out h rfl (by rw [h1, e])), h4⟩
        · obtain ⟨r, h1, h2, h3, h4⟩ := FA1.out h; exact ⟨r, h1, h2, h3.far8 _ (fun e => FP12.out h rfl (by rw [h1, e])), h4⟩
  obtain ⟨p, q, r, rfl, rfl, rfl, -, -, -, ⟨n', hn6, hn', hO, -⟩, hbp, hbq, hbr, hb⟩ := hcut
  have hV : validP n' (madeF y n') := made_valid hn6 (fun i hi => HY.out i (by omega))
  have ha0 : ∀ k, k < 8 → 0 ≤ monoF (x 0) k ∧ monoF (x 0) k ≤ 20000 := fun k hk => by have := hx0.out k hk; unfold monoF; omega
  have hb0 : ∀ k, k < 8 → 0 ≤ monoF (x 1) k ∧ monoF (x 1) k ≤ 20000 := fun k hk => by have := hx1.out k hk; unfold monoF; omega
  have hc0 : ∀ k, k < 8 → 0 ≤ monoF (x 2) k ∧ monoF (x 2) k ≤ 20000 := fun k hk => by have := hx2.out k hk; unfold monoF; omega
  generalize monoF (x 0) = a at *
  generalize monoF (x 1) = b at *
  generalize monoF (x 2) = c at *
  generalize madeF y n' = f at *
  have lA := hbp.reads8 hbp.lt
  have lB := hbq.reads8 hbq.lt
  have lC := hbr.reads8 hbr.lt
  have A0 := Lib.hid ha0
  have B0 := Lib.hid hb0
  have C0 := Lib.hid hc0
  have HA : Hid (Small a) := fun k hk => by have := ha0 k hk; omega
  have HB : Hid (Small b) := fun k hk => by have := hb0 k hk; omega
  have HC : Hid (Small c) := fun k hk => by have := hc0 k hk; omega
  have HAC : Hid (Small fun k => a k + c k) := fun k hk => by have := ha0 k hk; have := hc0 k hk; show 0 ≤ a k + c k ∧ a k + c k ≤ 131070; omega
  have HBC : Hid (Small fun k => b k + c k) := fun k hk => by have := hb0 k hk; have := hc0 k hk; show 0 ≤ b k + c k ∧ b k + c k ≤ 131070; omega
  have H1 : Hid (Small fun _ => 0) := fun _ _ => ⟨Int.le_refl _, by show (0 : Int) ≤ 131070; omega⟩
  have HM : Hid (ordC n' f (fun k => a k + c k) (fun k => b k + c k) = ordC n' f a b) := ordC_mul n' f a b c
  have HL : Hid (0 ≤ ordC n' f a fun _ => 0) := ordC_least hV.2 fun k hk => (ha0 k hk).1
  have HU : Hid (0 ≤ ordC n' f (fun k => a k + c k) a) := ordC_up hV fun k hk => (hc0 k hk).1
  have HT : Hid (0 ≤ ordC n' f a b → 0 ≤ ordC n' f b c → 0 ≤ ordC n' f a c) := ordC_ge
  have HNEG : Hid (ordC n' f b a = -ordC n' f a b) := ordC_neg n' f a b
  have heq := eq_mono HA.out.in64 HB.out.in64
  have HSM : Hid (same8 a b = true ↔ ordC n' f a b = 0) := (same8_iff a b).trans ordC_zero.symm
  have HO := Lib.hid hO
  have HV := Lib.hid hV
  have hcur : Below wc.heap.size wc wc := Below.refl _ _
  clear ha0 hb0 hc0 hx0 hx1 hx2 lx lr hO hV hbp hbq hbr hn6 hn'
  unfold ptr
  obtain ⟨mv, hmv⟩ : ∃ v, ordC n' f a (fun _ => 0) = v := ⟨_, rfl⟩
  have hmv0 : ¬ mv < 0 := by have := HL.out; omega
  have HMV := Lib.hid hmv
  obtain ⟨uv, huv⟩ : ∃ v, ordC n' f (fun k => a k + c k) a = v := ⟨_, rfl⟩
  have huv0 : 0 ≤ uv := by have := HU.out; omega
  have HUV := Lib.hid huv
  clear hmv huv HL HU
  have hcases : ∃ (nv : Int) (sb : Bool), ordC n' f a b = nv ∧ same8 a b = sb ∧ ((nv = 0 ∧ sb = true) ∨ (nv = 1 ∧ sb = false) ∨ (nv = -1 ∧ sb = false)) := by
    refine ⟨_, _, rfl, rfl, ?_⟩
    have := HSM.out
    rcases ordC_range n' f a b with h | h | h
    · exact .inl ⟨h, this.2 h⟩
    · refine .inr (.inl ⟨h, ?_⟩)
      cases hs : same8 a b
      · rfl
      · rw [hs] at this; have := this.1 rfl; omega
    · refine .inr (.inr ⟨h, ?_⟩)
      cases hs : same8 a b
      · rfl
      · rw [hs] at this; have := this.1 rfl; omega
  obtain ⟨nv, sb, hnv, hsb, hcs⟩ := hcases
  rw [hsb] at heq
  have HN := Lib.hid hnv
  have HN2 : Hid (ordC n' f b a = -nv) := by rw [← hnv]; exact HNEG.out
  have HN3 : Hid (ordC n' f (fun k => a k + c k) (fun k => b k + c k) = nv) := by rw [← hnv]; exact HM.out
  have HT2 : Hid (0 ≤ nv → 0 ≤ ordC n' f b c → 0 ≤ ordC n' f a c) := by rw [← hnv]; exact HT.out
  obtain ⟨bc, hbc⟩ : ∃ v, ordC n' f b c = v := ⟨_, rfl⟩
  obtain ⟨ac, hac⟩ : ∃ v, ordC n' f a c = v := ⟨_, rfl⟩
  have HT3 : Hid (0 ≤ nv → 0 ≤ bc → ¬ ac < 0) := fun h1 h2 => by have := HT2.out h1 (by rw [hbc]; exact h2); omega
  have HBCV := Lib.hid hbc
  have HACV := Lib.hid hac
  clear hnv hsb HSM HNEG HM HT HT2 hbc hac
  have hO1 := HO
  rcases hcs with ⟨rfl, rfl⟩ | ⟨rfl, rfl⟩ | ⟨rfl, rfl⟩
  all_goals
    have h3 := HT3.out
    by_cases hbcv : 0 ≤ bc
    all_goals
      try (have hacv : ¬ ac < 0 := h3 (by decide) hbcv)
      clear h3
      go_wp2_with fail
      (with_reducible refine (cmp_fix hO1.out HV.out HA.out.out HB.out.out HN.out).mono ?_)
      rintro e wl ⟨rfl, hbl⟩
      have hcur := below_step3 hcur hbl
      have hO1 := Lib.hid (hO1.out.below hbl)
      clear hbl
      go_wp2_with fail
      (with_reducible refine (valid_yes HV.out hO1.out).mono ?_)
      rintro e wl ⟨rfl, hbl⟩
      have hcur := below_step3 hcur hbl
      have hO1 := Lib.hid (hO1.out.below hbl)
      clear hbl
      go_wp2_with fail
      (with_reducible refine (cmp_fix hO1.out HV.out HB.out.out HA.out.out HN2.out).mono ?_)
      rintro e wl ⟨rfl, hbl⟩
      have hcur := below_step3 hcur hbl
      have hO1 := Lib.hid (hO1.out.below hbl)
      clear hbl
      go_wp2_with fail
      (with_reducible refine (cmp_fix hO1.out HV.out HA.out.out H1.out.out HMV.out).mono ?_)
      rintro e wl ⟨rfl, hbl⟩
      have hcur := below_step3 hcur hbl
      have hO1 := Lib.hid (hO1.out.below hbl)
      clear hbl
      go_wp2_with fail
      (with_reducible refine (mono_mul' a c _ A0.out C0.out).mono ?_)
      rintro e wl ⟨rfl, hbl⟩
      have hcur := below_step3 hcur hbl
      have hO1 := Lib.hid (hO1.out.below hbl)
      clear hbl
      go_upto_region 9 with fail
      obtain ⟨W1, hW1, hbw1, hD⟩ : ∃ W1, W1 = wl.alloc (.cells (vec8 fun k => a k + c k) 35) ∧ Below wl.heap.size wl W1 ∧ Blk W1 wl.heap.size 35 (vec8 fun k => a k + c k) := ⟨_, rfl, (Below.refl _ _).alloc (Nat.le_refl _) _, Blk.new _ _ _⟩
      rw [← hW1]
      clear hW1
      have lD := hD.reads8 hD.lt
      have hcur := below_step3 hcur hbw1
      have hcurD : Below W1.heap.size W1 W1 := Below.refl _ _
      have hO1 := Lib.hid (hO1.out.below hbw1)
      clear hbw1 hD
      generalize wl.heap.size = pd at *
      go_wp2_with fail
      (with_reducible refine (mono_mul' b c _ B0.out C0.out).mono ?_)
      rintro e wl ⟨rfl, hbl⟩
      have hcur := below_step3 hcur hbl
      have hO1 := Lib.hid (hO1.out.below hbl)
      have hcurD := below_step3 hcurD hbl
      clear hbl
      go_upto_region 10 with fail
      obtain ⟨W2, hW2, hbw1, hE⟩ : ∃ W2, W2 = wl.alloc (.cells (vec8 fun k => b k + c k) 35) ∧ Below wl.heap.size wl W2 ∧ Blk W2 wl.heap.size 35 (vec8 fun k => b k + c k) := ⟨_, rfl, (Below.refl _ _).alloc (Nat.le_refl _) _, Blk.new _ _ _⟩
      rw [← hW2]
      clear hW2
      have lE := hE.reads8 hE.lt
      have hcur := below_step3 hcur hbw1
      have hcurD := below_step3 hcurD hbw1
      have hcurE : Below W2.heap.size W2 W2 := Below.refl _ _
      have hO1 := Lib.hid (hO1.out.below hbw1)
      clear hbw1 hE
      generalize wl.heap.size = pe at *
      go_wp2_with fail
      (with_reducible refine (cmp_fix hO1.out HV.out HAC.out.out HBC.out.out HN3.out).mono ?_)
      rintro e wl ⟨rfl, hbl⟩
      have hcur := below_step3 hcur hbl
      have hO1 := Lib.hid (hO1.out.below hbl)
      have hcurD := below_step3 hcurD hbl
      have hcurE := below_step3 hcurE hbl
      clear hbl
      go_wp2_with fail
      first
        | (with_reducible refine (cmp_fix hO1.out HV.out HB.out.out HC.out.out HBCV.out).mono ?_
           rintro e wl ⟨rfl, hbl⟩
           have hcur := below_step3 hcur hbl
           have hO1 := Lib.hid (hO1.out.below hbl)
           have hcurD := below_step3 hcurD hbl
           have hcurE := below_step3 hcurE hbl
           clear hbl
           go_wp2_with fail
           first
             | (with_reducible refine (cmp_fix hO1.out HV.out HA.out.out HC.out.out HACV.out).mono ?_
                rintro e wl ⟨rfl, hbl⟩
                have hcur := below_step3 hcur hbl
                have hO1 := Lib.hid (hO1.out.below hbl)
                have hcurD := below_step3 hcurD hbl
                have hcurE := below_step3 hcurE hbl
                clear hbl
                go_wp2_with fail
                (with_reducible refine (cmp_fix hO1.out HV.out HAC.out.out HA.out.out HUV.out).mono ?_)
                rintro e wl ⟨rfl, hbl⟩
                have hcur := below_step3 hcur hbl
                go_wp2
                go_ret
                exact ⟨rfl, hb01.trans ((below_step3 hb hcur).mono hb01.size)⟩)
             | (with_reducible refine (cmp_fix hO1.out HV.out HAC.out.out HA.out.out HUV.out).mono ?_
                rintro e wl ⟨rfl, hbl⟩
                have hcur := below_step3 hcur hbl
                go_wp2
                go_ret
                exact ⟨rfl, hb01.trans ((below_step3 hb hcur).mono hb01.size)⟩))
        | (with_reducible refine (cmp_fix hO1.out HV.out HAC.out.out HA.out.out HUV.out).mono ?_
           rintro e wl ⟨rfl, hbl⟩
           have hcur := below_step3 hcur hbl
           go_wp2
           go_ret
           exact ⟨rfl, hb01.trans ((below_step3 hb hcur).mono hb01.size)⟩)

end Go.Proofs.Ytmkhfgggleplfaa
