/-
  The walk of OrderPermutes: true. Conditions: entries of type int8, exponents and the number of type uint16.
  Proved: OrderPermutes returns true for every input. Conditions: none but the statement's own.
-/
import Derived.Test.YtmkhfgggleplfaaLawJ
import Derived.Test.YtmkhfgggleplfaaPermA
import Derived.Test.YtmkhfgggleplfaaRows
import Derived.Test.YtmkhfgggleplfaaFrame2
namespace Go.Proofs.Ytmkhfgggleplfaa
set_option linter.unusedSimpArgs false
set_option linter.unusedVariables false
open Go.RowKit

theorem OrdV.only {w w' : World} {v : Value} {n g : Nat} {f : Nat → Nat → Int} (h : OrdV w v n f) (hO : Only g w w') (hf : FarV v g) : OrdV w' v n f := by
  obtain ⟨A, c, rfl, h1, h2, h3⟩ := h
  refine ⟨A, c, rfl, h1, h2, fun h0 => ?_⟩
  obtain ⟨b, off, rfl, hlt, hc⟩ := h3 h0
  exact ⟨b, off, rfl, Nat.lt_of_lt_of_le hlt hO.size, fun i hi k hk => (hO.cell (p := ⟨b, off + i * 8 + k, none⟩) hlt (hf b rfl)).trans (hc i hi k hk)⟩
theorem same_yes {w : World} {v v' : Value} {n : Nat} {d d' : Nat → Nat → Int} (ho : OrdV w v n d) (ho' : OrdV w v' n d') (hd : ∀ i, i < n → In64 (d i)) (hd' : ∀ i, i < n → In64 (d' i)) (he : ∀ i, i < n → ∀ c, c < 8 → d i c = d' i c) :
    Calls Try.prog 32 #[v, v'] w fun e w' => e = .returned (.bool true) ∧ Below w.heap.size w w' :=
  (same_any ho ho' hd hd').mono fun e w' ⟨⟨r, h, hr⟩, hb⟩ => ⟨by rw [h, hr.2 ⟨rfl, he⟩], hb⟩
theorem rows_yes {w : World} {v : Value} {n : Nat} {f : Nat → Nat → Int} {a b : Nat → Int} {r : Int} (ho : OrdV w v n f) (hv : validP n f) (ha : Small a) (hb : Small b) (hr : rowsC f a b n = r) :
    Calls Try.prog 30 #[v, .agg (vec8 a), .agg (vec8 b)] w fun e w' => e = .returned (.int .i64 r) ∧ Below w.heap.size w w' :=
  (rows_any ho (vb hv) ha hb).mono fun e w' ⟨h, hb⟩ => ⟨by rw [h, hr], hb⟩
def MovedYes (m : Nat → Int) (s : Nat → Nat) (e : Ending) : Prop := ∃ g, e = .returned (.agg (vec8 g)) ∧ ∀ k, k < 8 → g (s k) = m k
theorem moved_yes {w : World} (m : Nat → Int) {s : Nat → Nat} (hs : PermS s) : Calls Try.prog 31 #[.agg (vec8 m), .agg (vec8 (permI s))] w fun e w' => MovedYes m s e ∧ Below w.heap.size w w' := moved_any m hs.1
theorem validP.in64 {n : Nat} {f : Nat → Nat → Int} (h : validP n f) : ∀ i, i < n → In64 (f i) := fun i hi k hk => by have := vb h i hi k hk; omega
theorem Small.moved {a g : Nat → Int} {s : Nat → Nat} (hs : PermS s) (ha : Small a) (hg : ∀ k, k < 8 → g (s k) = a k) : Small g := fun j hj => by
  obtain ⟨k, hk, rfl⟩ := hs.2 j hj
  rw [hg k hk]; exact ha k hk
theorem ordC_moved {n : Nat} {f F G : Nat → Nat → Int} {N : Nat} {s : Nat → Nat} {a b a' b' : Nat → Int} (hs : PermS s) (hF : FullOf n f N F) (hG : ∀ i, i < N → ∀ k, k < 8 → G i (s k) = F i k)
    (ha : ∀ k, k < 8 → a' (s k) = a k) (hb : ∀ k, k < 8 → b' (s k) = b k) : ordC N G a' b' = ordC n f a b := by
  have h1 := rowsC_perm hs ha hb N hG
  rw [hF.rows] at h1
  unfold ordC at h1 ⊢
  by_cases h0 : rowsC G a' b' N = 0
  · rw [if_neg (by simp [h0])]
    have hi := indep_apart (indep_perm hs hG hF.indep) h0
    rw [lexC_same a' b' 8 hi, ← h1, h0]
  · rw [if_pos h0]; exact h1
theorem ordC_full {n : Nat} {f F : Nat → Nat → Int} {N : Nat} (hF : FullOf n f N F) (a b : Nat → Int) : ordC N F a b = ordC n f a b := by
  have h1 := hF.rows a b
  by_cases h0 : rowsC F a b N = 0
  · rw [ordC_lex h0, lexC_same a b 8 (indep_apart hF.indep h0), ← h1, h0]
  · have h2 : ordC N F a b = rowsC F a b N := if_pos h0
    rw [h2, h1]
set_option maxHeartbeats 4000000 in
set_option maxRecDepth 100000 in
theorem permutes_any {w : World} {s : Value} {n u : Nat} {y x : Nat → Nat → Int} (hr : RowsV w s n y) (hy : ∀ i, i < n → ∀ k, k < 8 → -128 ≤ y i k ∧ y i k ≤ 127) (hx : ∀ i, i < 2 → U16 (x i)) (hu : u < 65536) :
    Calls Try.prog 6 #[.agg #[s], .agg (vecU2 x), .int .u16 u] w fun e w' => e = .returned (.bool true) ∧ Below w.heap.size w w' := by
  obtain ⟨W0, hW0, hb0, hBr, hBx, hs0⟩ := boxes2 w 24 42 #[s] (vecU2 x)
  have hx0 := Lib.hid (hx 0 (by omega))
  have hx1 := Lib.hid (hx 1 (by omega))
  have HY := Lib.hid hy
  have HR := Lib.hid hr
  clear hx hy hr
  go_enter Try.func6, Try.ntmps6
  go_wp2_with fail
  rw [← hW0]
  clear hW0
  refine (examples_any W0).mono ?_
  rintro e w1 ⟨rfl, hb1⟩
  have hBx1 := hBx.below hb1 (by omega)
  have hBr1 := hBr.below hb1 (by omega)
  have hb01 := hb0.trans (hb1.mono hb0.size)
  have hs1 : w.heap.size + 1 < w1.heap.size := by have := hb1.size; omega
  have HR1 := Lib.hid (HR.out.below hb01)
  clear hBx hBr hb1 hb0 hs0
  have lx : ∀ X k, Below w1.heap.size w1 X → X.cell? ⟨w.heap.size + 1, k, none⟩ = (vecU2 x)[k]? := fun X k hX => (hX.cell (p := ⟨w.heap.size + 1, k, none⟩) (by show w.heap.size + 1 < _; omega)).trans (hBx1.cell k)
  have lr : ∀ X, Below w1.heap.size w1 X → X.cell? ⟨w.heap.size, 0, none⟩ = some s := fun X hX => (hX.cell (p := ⟨w.heap.size, 0, none⟩) (by show w.heap.size < _; omega)).trans (hBr1.cell 0)
  clear hBx1 hBr1
  go_upto_region 4 with fail
  go_cut [8, 9, 10, 11] (fun xo xp xq xr wx => ∃ p q r, xp = ptr p ∧ xq = ptr q ∧ xr = ptr r ∧ p ≠ q ∧ p ≠ r ∧ q ≠ r ∧ MadeP n y wx xo ∧ Blk wx p 35 (vec8 (monoF (x 0))) ∧ Blk wx q 35 (vec8 (monoF (x 1))) ∧ Blk wx r 34 (vec8 (permI (shufP u))) ∧ Below w1.heap.size w1 wx)
  case first =>
    refine wp_region_noPanic ?_
    refine wp_region_held_drew (S := fun w' => Below w1.heap.size w1 w') (by kernel_rfl) ((Below.refl _ _).drew) (fun hHeld => ?_)
    refine wpAnyH_pure (i := 0) (d := some 24) (v := ?_) rfl rfl (by kernel_rfl) (by kernel_rfl) (by kernel_rfl) (fun _ _ _ h => h) (by rfl) ?_ (by assumption) ?_
    rotate_left
    · intro w hSw; (try dsimp only at hSw); go_simp; all_goals with_reducible rfl
    try simp only [Act.put, List.setIfInBounds_toArray, List.set_cons_zero, List.set_cons_succ]
    refine wpAnyH_pure (i := 2) (d := some 26) (v := ?_) rfl rfl (by kernel_rfl) (by kernel_rfl) (by kernel_rfl) (fun _ _ _ h => h) (by rfl) ?_ (by assumption) ?_
    rotate_left
    · intro w hSw; (try dsimp only at hSw); go_simp; all_goals with_reducible rfl
    try simp only [Act.put, List.setIfInBounds_toArray, List.set_cons_zero, List.set_cons_succ]
    refine wpAnyH_pure (i := 3) (d := some 27) (v := ?_) rfl rfl (by kernel_rfl) (by kernel_rfl) (by kernel_rfl) (fun _ _ _ h => h) (by rfl) ?_ (by assumption) ?_
    rotate_left
    · intro w hSw; (try dsimp only at hSw); go_simp; all_goals with_reducible rfl
    try simp only [Act.put, List.setIfInBounds_toArray, List.set_cons_zero, List.set_cons_succ]
    refine wpAnyH_pure (i := 5) (d := some 29) (v := ?_) rfl rfl (by kernel_rfl) (by kernel_rfl) (by kernel_rfl) (fun _ _ _ h => h) (by rfl) ?_ (by assumption) ?_
    rotate_left
    · intro w hSw; (try dsimp only at hSw); go_simp; all_goals with_reducible rfl
    try simp only [Act.put, List.setIfInBounds_toArray, List.set_cons_zero, List.set_cons_succ]
    refine wpAnyH_pure (i := 6) (d := some 30) (v := ?_) rfl rfl (by kernel_rfl) (by kernel_rfl) (by kernel_rfl) (fun _ _ _ h => h) (by rfl) ?_ (by assumption) ?_
    rotate_left
    · intro w hSw; (try dsimp only at hSw); go_simp; all_goals with_reducible rfl
    try simp only [Act.put, List.setIfInBounds_toArray, List.set_cons_zero, List.set_cons_succ]
    refine wpAnyH_pure (i := 8) (d := some 32) (v := ?_) rfl rfl (by kernel_rfl) (by kernel_rfl) (by kernel_rfl) (fun _ _ _ h => h) (by rfl) ?_ (by assumption) ?_
    rotate_left
    · intro w hSw; (try dsimp only at hSw); go_simp; all_goals with_reducible rfl
    try simp only [Act.put, List.setIfInBounds_toArray, List.set_cons_zero, List.set_cons_succ]
    refine wpAnyH_inv' (R := fun fr0 l a w' => ∃ (m c0 c1 c2 a0 a1 a2 g s0 s1 s2 : Bool) (xg p0 p1 p2 xm x0 x1 x2 : Value), l = #[true, m, true, true, c0, true, true, c1, true, c2, a0, a1, a2, g, s0, s1, s2] ∧ a = ((((((((fr0.put (some 8) xg).put (some 9) p0).put (some 10) p1).put (some 11) p2).put (some 25) xm).put (some 28) x0).put (some 31) x1).put (some 33) x2) ∧ Below w1.heap.size w1 w' ∧ (m = true → MadeP n y w' xm) ∧ (g = true → m = true) ∧ (g = true → xg = xm) ∧ (c0 = true → x0 = .agg (vec8 (monoF (x 0)))) ∧ (c1 = true → x1 = .agg (vec8 (monoF (x 1)))) ∧ (c2 = true → x2 = .agg (vec8 (permI (shufP u)))) ∧ (s0 = true → a0 = true) ∧ (s1 = true → a1 = true) ∧ (s2 = true → a2 = true) ∧ (a0 = true → ∃ q, p0 = ptr q ∧ w1.heap.size ≤ q ∧ Blk w' q 35 (vec8 (if s0 then monoF (x 0) else fun _ => 0)) ∧ (m = true → FarV xm q)) ∧ (a1 = true → ∃ q, p1 = ptr q ∧ w1.heap.size ≤ q ∧ Blk w' q 35 (vec8 (if s1 then monoF (x 1) else fun _ => 0)) ∧ (m = true → FarV xm q)) ∧ (a2 = true → ∃ q, p2 = ptr q ∧ w1.heap.size ≤ q ∧ Blk w' q 34 (vec8 (if s2 then permI (shufP u) else fun _ => 0)) ∧ (m = true → FarV xm q)) ∧ (a0 = true → a1 = true → p0 ≠ p1) ∧ (a0 = true → a2 = true → p0 ≠ p2) ∧ (a1 = true → a2 = true → p1 ≠ p2)) ?step ?fin ?beg ?fuel
    case beg => exact ⟨false, false, false, false, false, false, false, false, false, false, false, undef, undef, undef, undef, undef, undef, undef, undef, by kernel_rfl, rfl, hHeld, by simp, by simp, by simp, by simp, by simp, by simp, by simp, by simp, by simp, by simp, by simp, by simp, by simp, by simp, by simp⟩
    case fuel => decide +kernel
    case fin =>
      rintro l a w' ⟨m, c0, c1, c2, a0, a1, a2, g, s0, s1, s2, xg, p0, p1, p2, xm, x0, x1, x2, rfl, rfl, hb, fm, fgm, fg, fc0, fc1, fc2, fs0, fs1, fs2, fa0, fa1, fa2, fp01, fp02, fp12⟩ hr
      clear fgm fs0 fs1 fs2
      have hall := ready_nil (by kernel_rfl) hr
      obtain rfl : m = true := by simpa using hall 1 (by simp)
      obtain rfl : c0 = true := by simpa using hall 4 (by simp)
      obtain rfl : c1 = true := by simpa using hall 7 (by simp)
      obtain rfl : c2 = true := by simpa using hall 9 (by simp)
      obtain rfl : a0 = true := by simpa using hall 10 (by simp)
      obtain rfl : a1 = true := by simpa using hall 11 (by simp)
      obtain rfl : a2 = true := by simpa using hall 12 (by simp)
      obtain rfl : g = true := by simpa using hall 13 (by simp)
      obtain rfl : s0 = true := by simpa using hall 14 (by simp)
      obtain rfl : s1 = true := by simpa using hall 15 (by simp)
      obtain rfl : s2 = true := by simpa using hall 16 (by simp)
      clear hall
      obtain ⟨q0, rfl, hq0, hbq0, hf0⟩ := fa0 rfl
      obtain ⟨q1, rfl, hq1, hbq1, hf1⟩ := fa1 rfl
      obtain ⟨q2, rfl, hq2, hbq2, hf2⟩ := fa2 rfl
      have hne01 : q0 ≠ q1 := fun e => fp01 rfl rfl (by rw [e])
      have hne02 : q0 ≠ q2 := fun e => fp02 rfl rfl (by rw [e])
      have hne12 : q1 ≠ q2 := fun e => fp12 rfl rfl (by rw [e])
      have hM := fm rfl
      obtain rfl := fg rfl
      refine NoPanic.normal ?_
      simp only [Act.put, List.setIfInBounds_toArray, List.set_cons_zero, List.set_cons_succ]
      clear hr fm fc0 fc1 fc2 fa0 fa1 fa2 fp01 fp02 fp12
      go_wp2_with fail
      go_meet
      case rel => exact ⟨q0, q1, q2, rfl, rfl, rfl, hne01, hne02, hne12, hM, hbq0, hbq1, hbq2, hb⟩
    case step =>
      rintro l a w' i ⟨m, c0, c1, c2, a0, a1, a2, g, s0, s1, s2, xg, p0, p1, p2, xm, x0, x1, x2, rfl, rfl, hb, fm, fgm, fg, fc0, fc1, fc2, fs0, fs1, fs2, fa0, fa1, fa2, fp01, fp02, fp12⟩ hi
      obtain ⟨h0, o, ho, hall⟩ := mem_ready.1 hi
      have hi17 : i < 17 := (Array.getElem?_eq_some_iff.1 ho).1
      have FM := Lib.hid fm
      have FGM := Lib.hid fgm
      have FG := Lib.hid fg
      have FC0 := Lib.hid fc0
      have FC1 := Lib.hid fc1
      have FC2 := Lib.hid fc2
      have FS0 := Lib.hid fs0
      have FS1 := Lib.hid fs1
      have FS2 := Lib.hid fs2
      have FA0 := Lib.hid fa0
      have FA1 := Lib.hid fa1
      have FA2 := Lib.hid fa2
      have FP01 := Lib.hid fp01
      have FP02 := Lib.hid fp02
      have FP12 := Lib.hid fp12
      clear fm fgm fg fc0 fc1 fc2 fs0 fs1 fs2 fa0 fa1 fa2 fp01 fp02 fp12
      rcases (by omega : i = 0 ∨ i = 1 ∨ i = 2 ∨ i = 3 ∨ i = 4 ∨ i = 5 ∨ i = 6 ∨ i = 7 ∨ i = 8 ∨ i = 9 ∨ i = 10 ∨ i = 11 ∨ i = 12 ∨ i = 13 ∨ i = 14 ∨ i = 15 ∨ i = 16) with h | h | h | h | h | h | h | h | h | h | h | h | h | h | h | h | h <;> subst h
      · simp at h0
      · obtain rfl : m = false := by simpa using h0
        obtain rfl : g = false := by cases g; exact rfl; exact absurd (FGM.out rfl) (by decide)
        clear h0 ho hall hi hi17
        refine wpOp_step rfl (fun K hK => ?_)
        simp only [Act.put, List.setIfInBounds_toArray, List.set_cons_zero, List.set_cons_succ]
        go_simp
        (with_reducible refine (made_at HR1.out HY.out hb).mono ?_)
        rintro e w2 ⟨r, rfl, hMr, hOr, hb2⟩
        have hc := below_step3 hb hb2
        refine hK _ _ ⟨hc, true, c0, c1, c2, a0, a1, a2, false, s0, s1, s2, xg, p0, p1, p2, _, x0, x1, x2, rfl, (by first | with_reducible rfl | simp only [Act.put, List.setIfInBounds_toArray, List.set_cons_zero, List.set_cons_succ, ptr]), hc, fun _ => hMr, fun h => absurd h (by decide), fun h => absurd h (by decide), FC0.out, FC1.out, FC2.out, FS0.out, FS1.out, FS2.out, fun h => ?_, fun h => ?_, fun h => ?_, FP01.out, FP02.out, FP12.out⟩
        · obtain ⟨q, h1, h2, h3, _⟩ := FA0.out h; exact ⟨q, h1, h2, h3.below hb2 h3.lt, fun _ => hOr q h3.lt⟩
        · obtain ⟨q, h1, h2, h3, _⟩ := FA1.out h; exact ⟨q, h1, h2, h3.below hb2 h3.lt, fun _ => hOr q h3.lt⟩
        · obtain ⟨q, h1, h2, h3, _⟩ := FA2.out h; exact ⟨q, h1, h2, h3.below hb2 h3.lt, fun _ => hOr q h3.lt⟩
      · simp at h0
      · simp at h0
      · obtain rfl : c0 = false := by simpa using h0
        clear h0 ho hall hi hi17
        refine wpOp_step rfl (fun K hK => ?_)
        simp only [Act.put, List.setIfInBounds_toArray, List.set_cons_zero, List.set_cons_succ]
        go_simp
        (with_reducible refine (mono_at (x 0) _ hx0.out).mono ?_)
        rintro e w2 ⟨rfl, hb2⟩
        have hc := below_step3 hb hb2
        refine hK _ _ ⟨hc, m, true, c1, c2, a0, a1, a2, g, s0, s1, s2, xg, p0, p1, p2, xm, _, x1, x2, rfl, (by first | with_reducible rfl | simp only [Act.put, List.setIfInBounds_toArray, List.set_cons_zero, List.set_cons_succ, ptr]), hc, fun h => (FM.out h).below hb2, FGM.out, FG.out, fun _ => rfl, FC1.out, FC2.out, FS0.out, FS1.out, FS2.out, fun h => ?_, fun h => ?_, fun h => ?_, FP01.out, FP02.out, FP12.out⟩
        · obtain ⟨q, h1, h2, h3, h4⟩ := FA0.out h; exact ⟨q, h1, h2, h3.below hb2 h3.lt, h4⟩
        · obtain ⟨q, h1, h2, h3, h4⟩ := FA1.out h; exact ⟨q, h1, h2, h3.below hb2 h3.lt, h4⟩
        · obtain ⟨q, h1, h2, h3, h4⟩ := FA2.out h; exact ⟨q, h1, h2, h3.below hb2 h3.lt, h4⟩
      · simp at h0
      · simp at h0
      · obtain rfl : c1 = false := by simpa using h0
        clear h0 ho hall hi hi17
        refine wpOp_step rfl (fun K hK => ?_)
        simp only [Act.put, List.setIfInBounds_toArray, List.set_cons_zero, List.set_cons_succ]
        go_simp
        (with_reducible refine (mono_at (x 1) _ hx1.out).mono ?_)
        rintro e w2 ⟨rfl, hb2⟩
        have hc := below_step3 hb hb2
        refine hK _ _ ⟨hc, m, c0, true, c2, a0, a1, a2, g, s0, s1, s2, xg, p0, p1, p2, xm, x0, _, x2, rfl, (by first | with_reducible rfl | simp only [Act.put, List.setIfInBounds_toArray, List.set_cons_zero, List.set_cons_succ, ptr]), hc, fun h => (FM.out h).below hb2, FGM.out, FG.out, FC0.out, fun _ => rfl, FC2.out, FS0.out, FS1.out, FS2.out, fun h => ?_, fun h => ?_, fun h => ?_, FP01.out, FP02.out, FP12.out⟩
        · obtain ⟨q, h1, h2, h3, h4⟩ := FA0.out h; exact ⟨q, h1, h2, h3.below hb2 h3.lt, h4⟩
        · obtain ⟨q, h1, h2, h3, h4⟩ := FA1.out h; exact ⟨q, h1, h2, h3.below hb2 h3.lt, h4⟩
        · obtain ⟨q, h1, h2, h3, h4⟩ := FA2.out h; exact ⟨q, h1, h2, h3.below hb2 h3.lt, h4⟩
      · simp at h0
      · obtain rfl : c2 = false := by simpa using h0
        clear h0 ho hall hi hi17
        refine wpOp_step rfl (fun K hK => ?_)
        simp only [Act.put, List.setIfInBounds_toArray, List.set_cons_zero, List.set_cons_succ]
        go_simp
        (with_reducible refine (shuf_at u _ hu).mono ?_)
        rintro e w2 ⟨rfl, hb2⟩
        have hc := below_step3 hb hb2
        refine hK _ _ ⟨hc, m, c0, c1, true, a0, a1, a2, g, s0, s1, s2, xg, p0, p1, p2, xm, x0, x1, _, rfl, (by first | with_reducible rfl | simp only [Act.put, List.setIfInBounds_toArray, List.set_cons_zero, List.set_cons_succ, ptr]), hc, fun h => (FM.out h).below hb2, FGM.out, FG.out, FC0.out, FC1.out, fun _ => rfl, FS0.out, FS1.out, FS2.out, fun h => ?_, fun h => ?_, fun h => ?_, FP01.out, FP02.out, FP12.out⟩
        · obtain ⟨q, h1, h2, h3, h4⟩ := FA0.out h; exact ⟨q, h1, h2, h3.below hb2 h3.lt, h4⟩
        · obtain ⟨q, h1, h2, h3, h4⟩ := FA1.out h; exact ⟨q, h1, h2, h3.below hb2 h3.lt, h4⟩
        · obtain ⟨q, h1, h2, h3, h4⟩ := FA2.out h; exact ⟨q, h1, h2, h3.below hb2 h3.lt, h4⟩
      · obtain rfl : a0 = false := by simpa using h0
        obtain rfl : s0 = false := by cases s0; exact rfl; exact absurd (FS0.out rfl) (by decide)
        clear h0 ho hall hi hi17
        refine wpOp_step rfl (fun K hK => ?_)
        simp only [Act.put, List.setIfInBounds_toArray, List.set_cons_zero, List.set_cons_succ]
        go_simp
        have hc := hb.alloc hb.size (.cells (vec8 fun _ => 0) 35)
        have hb2 : Below w'.heap.size w' (w'.alloc (.cells (vec8 fun _ => 0) 35)) := (Below.refl _ _).alloc (Nat.le_refl _) _
        refine hK _ _ ⟨hc, m, c0, c1, c2, true, a1, a2, g, false, s1, s2, xg, _, p1, p2, xm, x0, x1, x2, rfl, (by first | with_reducible rfl | simp only [Act.put, List.setIfInBounds_toArray, List.set_cons_zero, List.set_cons_succ, ptr]), hc, fun h => (FM.out h).below hb2, FGM.out, FG.out, FC0.out, FC1.out, FC2.out, fun _ => rfl, FS1.out, FS2.out, fun _ => ⟨_, rfl, hb.size, Blk.new _ _ _, fun h => (FM.out h).far⟩, fun h => ?_, fun h => ?_, fun _ h => ?_, fun _ h => ?_, FP12.out⟩
        · obtain ⟨q, h1, h2, h3, h4⟩ := FA1.out h; exact ⟨q, h1, h2, h3.alloc _, h4⟩
        · obtain ⟨q, h1, h2, h3, h4⟩ := FA2.out h; exact ⟨q, h1, h2, h3.alloc _, h4⟩
        · obtain ⟨q, rfl, h2, h3, h4⟩ := FA1.out h; exact ptr_ne (by have := h3.lt; omega)
        · obtain ⟨q, rfl, h2, h3, h4⟩ := FA2.out h; exact ptr_ne (by have := h3.lt; omega)
      · obtain rfl : a1 = false := by simpa using h0
        obtain rfl : s1 = false := by cases s1; exact rfl; exact absurd (FS1.out rfl) (by decide)
        clear h0 ho hall hi hi17
        refine wpOp_step rfl (fun K hK => ?_)
        simp only [Act.put, List.setIfInBounds_toArray, List.set_cons_zero, List.set_cons_succ]
        go_simp
        have hc := hb.alloc hb.size (.cells (vec8 fun _ => 0) 35)
        have hb2 : Below w'.heap.size w' (w'.alloc (.cells (vec8 fun _ => 0) 35)) := (Below.refl _ _).alloc (Nat.le_refl _) _
        refine hK _ _ ⟨hc, m, c0, c1, c2, a0, true, a2, g, s0, false, s2, xg, p0, _, p2, xm, x0, x1, x2, rfl, (by first | with_reducible rfl | simp only [Act.put, List.setIfInBounds_toArray, List.set_cons_zero, List.set_cons_succ, ptr]), hc, fun h => (FM.out h).below hb2, FGM.out, FG.out, FC0.out, FC1.out, FC2.out, FS0.out, fun _ => rfl, FS2.out, fun h => ?_, fun _ => ⟨_, rfl, hb.size, Blk.new _ _ _, fun h => (FM.out h).far⟩, fun h => ?_, fun h _ => ?_, FP02.out, fun _ h => ?_⟩
        · obtain ⟨q, h1, h2, h3, h4⟩ := FA0.out h; exact ⟨q, h1, h2, h3.alloc _, h4⟩
        · obtain ⟨q, h1, h2, h3, h4⟩ := FA2.out h; exact ⟨q, h1, h2, h3.alloc _, h4⟩
        · obtain ⟨q, rfl, h2, h3, h4⟩ := FA0.out h; exact ptr_ne (by have := h3.lt; omega)
        · obtain ⟨q, rfl, h2, h3, h4⟩ := FA2.out h; exact ptr_ne (by have := h3.lt; omega)
      · obtain rfl : a2 = false := by simpa using h0
        obtain rfl : s2 = false := by cases s2; exact rfl; exact absurd (FS2.out rfl) (by decide)
        clear h0 ho hall hi hi17
        refine wpOp_step rfl (fun K hK => ?_)
        simp only [Act.put, List.setIfInBounds_toArray, List.set_cons_zero, List.set_cons_succ]
        go_simp
        have hc := hb.alloc hb.size (.cells (vec8 fun _ => 0) 34)
        have hb2 : Below w'.heap.size w' (w'.alloc (.cells (vec8 fun _ => 0) 34)) := (Below.refl _ _).alloc (Nat.le_refl _) _
        refine hK _ _ ⟨hc, m, c0, c1, c2, a0, a1, true, g, s0, s1, false, xg, p0, p1, _, xm, x0, x1, x2, rfl, (by first | with_reducible rfl | simp only [Act.put, List.setIfInBounds_toArray, List.set_cons_zero, List.set_cons_succ, ptr]), hc, fun h => (FM.out h).below hb2, FGM.out, FG.out, FC0.out, FC1.out, FC2.out, FS0.out, FS1.out, fun _ => rfl, fun h => ?_, fun h => ?_, fun _ => ⟨_, rfl, hb.size, Blk.new _ _ _, fun h => (FM.out h).far⟩, FP01.out, fun h _ => ?_, fun h _ => ?_⟩
        · obtain ⟨q, h1, h2, h3, h4⟩ := FA0.out h; exact ⟨q, h1, h2, h3.alloc _, h4⟩
        · obtain ⟨q, h1, h2, h3, h4⟩ := FA1.out h; exact ⟨q, h1, h2, h3.alloc _, h4⟩
        · obtain ⟨q, rfl, h2, h3, h4⟩ := FA0.out h; exact ptr_ne (by have := h3.lt; omega)
        · obtain ⟨q, rfl, h2, h3, h4⟩ := FA1.out h; exact ptr_ne (by have := h3.lt; omega)
      · obtain rfl : g = false := by simpa using h0
        have d0 : m = true := ready_on (k := 1) hi rfl (e := ⟨1, .data⟩) (by simp) rfl rfl
        subst d0
        clear h0 ho hall hi hi17
        refine wpOp_step rfl (fun K hK => ?_)
        simp only [Act.put, List.setIfInBounds_toArray, List.set_cons_zero, List.set_cons_succ]
        go_simp
        have hc := hb
        refine hK _ _ ⟨hc, true, c0, c1, c2, a0, a1, a2, true, s0, s1, s2, _, p0, p1, p2, xm, x0, x1, x2, rfl, (by first | with_reducible rfl | simp only [Act.put, List.setIfInBounds_toArray, List.set_cons_zero, List.set_cons_succ, ptr]), hc, FM.out, fun _ => rfl, fun _ => rfl, FC0.out, FC1.out, FC2.out, FS0.out, FS1.out, FS2.out, FA0.out, FA1.out, FA2.out, FP01.out, FP02.out, FP12.out⟩
      · obtain rfl : s0 = false := by simpa using h0
        have d2 : c0 = true := ready_on (k := 4) hi rfl (e := ⟨4, .data⟩) (by simp) rfl rfl
        have d6 : a0 = true := ready_on (k := 10) hi rfl (e := ⟨10, .data⟩) (by simp) rfl rfl
        subst d2 d6
        clear h0 ho hall hi hi17
        obtain ⟨q, rfl, hq, hbq, hf⟩ := FA0.out rfl
        obtain rfl := FC0.out rfl
        rw [if_neg (by decide)] at hbq
        obtain ⟨d0, d1, d2, d3, d4, d5, d6, d7⟩ := hbq.eight
        obtain ⟨e0, e1, e2, e3, e4, e5, e6, e7⟩ := hbq.eightF
        refine wpOp_step rfl (fun K hK => ?_)
        simp only [Act.put, List.setIfInBounds_toArray, List.set_cons_zero, List.set_cons_succ]
        unfold ptr
        go_simp
        clear d0 d1 d2 d3 d4 d5 d6 d7 e0 e1 e2 e3 e4 e5 e6 e7
        have hc := below_put8 (monoF (x 0)) hb hq
        refine hK _ _ ⟨hc, m, true, c1, c2, true, a1, a2, g, true, s1, s2, xg, ptr q, p1, p2, xm, _, x1, x2, rfl, (by first | with_reducible rfl | simp only [Act.put, List.setIfInBounds_toArray, List.set_cons_zero, List.set_cons_succ, ptr]), hc, fun h => (FM.out h).put8 _ (hf h), FGM.out, FG.out, FC0.out, FC1.out, FC2.out, fun _ => rfl, FS1.out, FS2.out, fun _ => ⟨q, rfl, hq, hbq.put8 _, hf⟩, fun h => ?_, fun h => ?_, FP01.out, FP02.out, FP12.out⟩
        · obtain ⟨r, h1, h2, h3, h4⟩ := FA1.out h; exact ⟨r, h1, h2, h3.far8 _ (fun e => FP01.out rfl h (by rw [h1, e])), h4⟩
        · obtain ⟨r, h1, h2, h3, h4⟩ := FA2.out h; exact ⟨r, h1, h2, h3.far8 _ (fun e => FP02.out rfl h (by rw [h1, e])), h4⟩
      · obtain rfl : s1 = false := by simpa using h0
        have d2 : c1 = true := ready_on (k := 7) hi rfl (e := ⟨7, .data⟩) (by simp) rfl rfl
        have d6 : a1 = true := ready_on (k := 11) hi rfl (e := ⟨11, .data⟩) (by simp) rfl rfl
        subst d2 d6
        clear h0 ho hall hi hi17
        obtain ⟨q, rfl, hq, hbq, hf⟩ := FA1.out rfl
        obtain rfl := FC1.out rfl
        rw [if_neg (by decide)] at hbq
        obtain ⟨d0, d1, d2, d3, d4, d5, d6, d7⟩ := hbq.eight
        obtain ⟨e0, e1, e2, e3, e4, e5, e6, e7⟩ := hbq.eightF
        refine wpOp_step rfl (fun K hK => ?_)
        simp only [Act.put, List.setIfInBounds_toArray, List.set_cons_zero, List.set_cons_succ]
        unfold ptr
        go_simp
        clear d0 d1 d2 d3 d4 d5 d6 d7 e0 e1 e2 e3 e4 e5 e6 e7
        have hc := below_put8 (monoF (x 1)) hb hq
        refine hK _ _ ⟨hc, m, c0, true, c2, a0, true, a2, g, s0, true, s2, xg, p0, ptr q, p2, xm, x0, _, x2, rfl, (by first | with_reducible rfl | simp only [Act.put, List.setIfInBounds_toArray, List.set_cons_zero, List.set_cons_succ, ptr]), hc, fun h => (FM.out h).put8 _ (hf h), FGM.out, FG.out, FC0.out, FC1.out, FC2.out, FS0.out, fun _ => rfl, FS2.out, fun h => ?_, fun _ => ⟨q, rfl, hq, hbq.put8 _, hf⟩, fun h => ?_, FP01.out, FP02.out, FP12.out⟩
        · obtain ⟨r, h1, h2, h3, h4⟩ := FA0.out h; exact ⟨r, h1, h2, h3.far8 _ (fun e => FP01.out h rfl (by rw [h1, e])), h4⟩
        · obtain ⟨r, h1, h2, h3, h4⟩ := FA2.out h; exact ⟨r, h1, h2, h3.far8 _ (fun e => FP12.out rfl h (by rw [h1, e])), h4⟩
      · obtain rfl : s2 = false := by simpa using h0
        have d2 : c2 = true := ready_on (k := 9) hi rfl (e := ⟨9, .data⟩) (by simp) rfl rfl
        have d6 : a2 = true := ready_on (k := 12) hi rfl (e := ⟨12, .data⟩) (by simp) rfl rfl
        subst d2 d6
        clear h0 ho hall hi hi17
        obtain ⟨q, rfl, hq, hbq, hf⟩ := FA2.out rfl
        obtain rfl := FC2.out rfl
        rw [if_neg (by decide)] at hbq
        obtain ⟨d0, d1, d2, d3, d4, d5, d6, d7⟩ := hbq.eight
        obtain ⟨e0, e1, e2, e3, e4, e5, e6, e7⟩ := hbq.eightF
        refine wpOp_step rfl (fun K hK => ?_)
        simp only [Act.put, List.setIfInBounds_toArray, List.set_cons_zero, List.set_cons_succ]
        unfold ptr
        go_simp
        clear d0 d1 d2 d3 d4 d5 d6 d7 e0 e1 e2 e3 e4 e5 e6 e7
        have hc := below_put8 (permI (shufP u)) hb hq
        refine hK _ _ ⟨hc, m, c0, c1, true, a0, a1, true, g, s0, s1, true, xg, p0, p1, ptr q, xm, x0, x1, _, rfl, (by first | with_reducible rfl | simp only [Act.put, List.setIfInBounds_toArray, List.set_cons_zero, List.set_cons_succ, ptr]), hc, fun h => (FM.out h).put8 _ (hf h), FGM.out, FG.out, FC0.out, FC1.out, FC2.out, FS0.out, FS1.out, fun _ => rfl, fun h => ?_, fun h => ?_, fun _ => ⟨q, rfl, hq, hbq.put8 _, hf⟩, FP01.out, FP02.out, FP12.out⟩
        · obtain ⟨r, h1, h2, h3, h4⟩ := FA0.out h; exact ⟨r, h1, h2, h3.far8 _ (fun e => FP02.out h rfl (by rw [h1, e])), h4⟩
        · obtain ⟨r, h1, h2, h3, h4⟩ := FA1.out h; exact ⟨r, h1, h2, h3.far8 _ (fun e => FP12.out h rfl (by rw [h1, e])), h4⟩
  obtain ⟨p, q, r, rfl, rfl, rfl, -, -, -, ⟨n', hn6, hn', hO, hob⟩, hbp, hbq, hbr, hb⟩ := hcut
  have hV : validP n' (madeF y n') := made_valid hn6 (fun i hi => HY.out i (by omega))
  have ha0 : ∀ k, k < 8 → 0 ≤ monoF (x 0) k ∧ monoF (x 0) k ≤ 20000 := fun k hk => by have := hx0.out k hk; unfold monoF; omega
  have hb0 : ∀ k, k < 8 → 0 ≤ monoF (x 1) k ∧ monoF (x 1) k ≤ 20000 := fun k hk => by have := hx1.out k hk; unfold monoF; omega
  have HS := Lib.hid (shufP_perm u)
  generalize monoF (x 0) = a at *
  generalize monoF (x 1) = b at *
  generalize madeF y n' = f at *
  generalize shufP u = sp at *
  have HA : Hid (Small a) := fun k hk => by have := ha0 k hk; omega
  have HB : Hid (Small b) := fun k hk => by have := hb0 k hk; omega
  have HO := Lib.hid hO
  have HOB := Lib.hid hob
  have HV := Lib.hid hV
  clear ha0 hb0 hx0 hx1 lx lr hO hob hV hn'
  unfold ptr
  go_upto_region 6 with fail
  obtain ⟨W6, hW6, hb6, hK6, hs6⟩ : ∃ W6, W6 = wc.alloc (.cells (vec8 fun _ => 0) 34) ∧ Below wc.heap.size wc W6 ∧ Blk W6 wc.heap.size 34 (vec8 fun _ => 0) ∧ wc.heap.size < W6.heap.size := ⟨_, rfl, (Below.refl _ _).alloc (Nat.le_refl _) _, Blk.new _ _ _, by simp⟩
  rw [← hW6]
  clear hW6
  have hP6 := hbp.below hb6 hbp.lt
  have hQ6 := hbq.below hb6 hbq.lt
  have hR6 := hbr.below hb6 hbr.lt
  have hpl := hbp.lt
  have hql := hbq.lt
  have hrl := hbr.lt
  have HO6 := Lib.hid (HO.out.below hb6)
  have HFar : Hid (FarV u8 wc.heap.size) := fun g hg e => by have := HOB.out g hg; omega
  have hbw6 := hb.trans (hb6.mono hb.size)
  have hwb := hb.size
  clear hbp hbq hbr HO HOB hb6 hb
  generalize wc.heap.size = pb at *
  go_wp2_with fail
  go_loopw [13] (fun iv wx => ∃ (i : Nat) (h : Nat → Int), i ≤ 8 ∧ iv = .int .i64 i ∧ (∀ k, k < i → h (sp k) = (k : Int)) ∧ Blk wx pb 34 (vec8 h) ∧ Only pb W6 wx) (fun i _ => 8 - (intOf i).toNat)
  case atStart => exact ⟨0, _, Nat.zero_le _, rfl, fun k hk => absurd hk (by omega), hK6, Only.refl _ _⟩
  case round =>
    obtain ⟨i, h, hi, rfl, hz, hK, hOn⟩ := hrel
    have HZ := Lib.hid hz
    clear hz
    by_cases hi8 : i < 8
    · have hii : (i : Int) < 8 := by omega
      have hi0 : (0 : Int) ≤ (i : Int) := by omega
      have hsi := HS.out.1.1 i hi8
      have hsii : ((sp i : Nat) : Int) < 8 := by omega
      have hsi0 : (0 : Int) ≤ ((sp i : Nat) : Int) := by omega
      have cr : wr.cell? ⟨r, i, none⟩ = some (.int .i64 ((sp i : Nat) : Int)) := (hOn.cell (p := ⟨r, i, none⟩) (by show r < _; omega) (by show r ≠ pb; omega)).trans (hR6.at8 hi8)
      have ck := hK.at8 hsi
      have fk := hK.frozen (sp i)
      go_wp2_with fail
      go_roundw
      case rel =>
        refine ⟨i + 1, _, by omega, by go_num, fun k hk => ?_, hK.set8 hsi (i : Int), hOn.setCell (p := ⟨pb, sp i, none⟩) rfl _⟩
        show (if sp k = sp i then (i : Int) else h (sp k)) = (k : Int)
        by_cases e : k = i
        · subst e; rw [if_pos rfl]
        · rw [if_neg (fun e' => e (HS.out.1.2 k i (by omega) hi8 e'))]; exact HZ.out k (by omega)
      case measure => simp [intOf]; omega
    · obtain rfl : i = 8 := by omega
      obtain ⟨t, ht1, ht2, ht3⟩ := back_perm HS.out HZ.out
      have hK7 : Blk wr pb 34 (vec8 (permI t)) := by rwa [vec8_congr (h := permI t)] at hK; exact fun j hj => ht3 j hj
      have hP7 : Blk wr p 35 (vec8 a) := (hOn.block p hP6.lt (by omega)).trans hP6
      have hQ7 : Blk wr q 35 (vec8 b) := (hOn.block q hQ6.lt (by omega)).trans hQ6
      have hR7 : Blk wr r 34 (vec8 (permI sp)) := (hOn.block r hR6.lt (by omega)).trans hR6
      have HO7 := Lib.hid (HO6.out.only hOn HFar.out)
      have hbw7 : Below w1.heap.size w1 wr := hbw6.trans (hOn.below (B := w1.heap.size) (by omega) hbw6.size)
      have lA := hP7.reads8 hP7.lt
      have lB := hQ7.reads8 hQ7.lt
      have lP := hR7.reads8 hR7.lt
      have lK := hK7.reads8 hK7.lt
      have HT1 := Lib.hid ht1
      have HT2 := Lib.hid ht2
      clear HZ hK hK7 hP7 hQ7 hR7 hP6 hQ6 hR6 hK6 hOn HO6 HFar hbw6 ht1 ht2 ht3 HR1 HY HR
      have hcur : Below wr.heap.size wr wr := Below.refl _ _
      obtain ⟨nv, hnv⟩ : ∃ v, ordC n' f a b = v := ⟨_, rfl⟩
      have HN := Lib.hid hnv
      clear hnv
      go_wp2_with fail
      (with_reducible refine (cmp_fix HO7.out HV.out HA.out.out HB.out.out HN.out).mono ?_)
      rintro e wl ⟨rfl, hbl⟩
      have hcur := below_step3 hcur hbl
      have hO1 := Lib.hid (HO7.out.below hbl)
      clear hbl
      go_wp2_with fail
      (with_reducible refine (full_yes HV.out (by omega) hO1.out).mono ?_)
      rintro e wl ⟨⟨N, F, rF, hF, rfl, hOF⟩, hbl⟩
      have hcur := below_step3 hcur hbl
      have hO1 := Lib.hid (hO1.out.below hbl)
      have HOF := Lib.hid hOF
      have HF := Lib.hid hF
      clear hbl hOF hF
      go_wp2_with fail
      (with_reducible refine (perm_yes HV.out (.inr (by omega)) HS.out hO1.out).mono ?_)
      rintro e wl ⟨⟨N', F', G, rG, hF', hG, rfl, hOG⟩, hbl⟩
      obtain ⟨rfl, rfl⟩ := HF.out.one hF'
      have hcur := below_step3 hcur hbl
      have HOF := Lib.hid (HOF.out.below hbl)
      have HOG := Lib.hid hOG
      have HG := Lib.hid hG
      have HVF := Lib.hid (HF.out.valid HV.out)
      have HVG := Lib.hid (valid_perm HS.out hG HVF.out)
      clear hbl hOG hG hF' hO1
      go_wp2_with fail
      (with_reducible refine (valid_yes HVF.out HOF.out).mono ?_)
      rintro e wl ⟨rfl, hbl⟩
      have hcur := below_step3 hcur hbl
      have HOF := Lib.hid (HOF.out.below hbl)
      have HOG := Lib.hid (HOG.out.below hbl)
      clear hbl
      go_wp2_with fail
      (with_reducible refine (valid_yes HVG.out HOG.out).mono ?_)
      rintro e wl ⟨rfl, hbl⟩
      have hcur := below_step3 hcur hbl
      have HOF := Lib.hid (HOF.out.below hbl)
      have HOG := Lib.hid (HOG.out.below hbl)
      clear hbl
      go_wp2_with fail
      (with_reducible refine (rows_yes HOF.out HVF.out HA.out HB.out ((HF.out.rows a b).trans HN.out)).mono ?_)
      rintro e wl ⟨rfl, hbl⟩
      have hcur := below_step3 hcur hbl
      have HOF := Lib.hid (HOF.out.below hbl)
      have HOG := Lib.hid (HOG.out.below hbl)
      clear hbl
      go_wp2_with fail
      (with_reducible refine (cmp_fix HOF.out HVF.out HA.out.out HB.out.out ((ordC_full HF.out a b).trans HN.out)).mono ?_)
      rintro e wl ⟨rfl, hbl⟩
      have hcur := below_step3 hcur hbl
      have HOF := Lib.hid (HOF.out.below hbl)
      have HOG := Lib.hid (HOG.out.below hbl)
      clear hbl
      go_wp2_with fail
      (with_reducible refine (perm_yes HVG.out (.inl (indep_perm HS.out HG.out HF.out.indep)) HT1.out HOG.out).mono ?_)
      rintro e wl ⟨⟨N2, F2, G2, r2, hF2, hG2, rfl, hO2⟩, hbl⟩
      have hcur := below_step3 hcur hbl
      have HOF := Lib.hid (HOF.out.below hbl)
      have HOG := Lib.hid (HOG.out.below hbl)
      have hE : N2 = N' ∧ F2 = G := FullOf.one (.inl ⟨indep_perm HS.out HG.out HF.out.indep, rfl, rfl⟩) hF2
      obtain ⟨rfl, rfl⟩ := hE
      have HO2 := Lib.hid hO2
      have HE : Hid (∀ i, i < N2 → ∀ c, c < 8 → G2 i c = F' i c) := fun i hi c hc => by
        have h1 := hG2 i hi (sp c) (HS.out.1.1 c hc)
        rw [HT2.out c hc] at h1
        rw [h1]; exact HG.out i hi c hc
      have HIG : Hid (∀ i, i < N2 → In64 (G2 i)) := fun i hi c hc => by rw [HE.out i hi c hc]; exact HVF.out.in64 i hi c hc
      clear hbl hO2 hF2 hG2
      go_upto_region 16 with fail
      have mA : ∀ X k, Below wl.heap.size wl X → k < 8 → X.cell? ⟨p, k, none⟩ = some (.int .i64 (a k)) := fun X k hX hk => lA X k (below_step3 hcur hX) hk
      have mB : ∀ X k, Below wl.heap.size wl X → k < 8 → X.cell? ⟨q, k, none⟩ = some (.int .i64 (b k)) := fun X k hX hk => lB X k (below_step3 hcur hX) hk
      have mP : ∀ X k, Below wl.heap.size wl X → k < 8 → X.cell? ⟨r, k, none⟩ = some (.int .i64 (permI sp k)) := fun X k hX hk => lP X k (below_step3 hcur hX) hk
      have HCUR := Lib.hid hcur
      clear lA lB lP lK hcur
      go_region_held3 (fun w' => Below wl.heap.size wl w')
        ((first | with_reducible assumption | with_reducible exact (Below.refl _ _).drew | with_reducible exact (by assumption : Below wl.heap.size wl _).drew))
        (first
          | (go_at_call 31; (with_reducible refine (moved_yes a HS.out).mono ?_); rintro e we ⟨⟨ga, rfl, hga⟩, hbl⟩; have Hga := Lib.hid hga; have hcur := below_step3 (W := wl) (by assumption) hbl; clear hbl hga)
          | (go_at_call 31; (with_reducible refine (moved_yes b HS.out).mono ?_); rintro e we ⟨⟨gb, rfl, hgb⟩, hbl⟩; have Hgb := Lib.hid hgb; have hcur := below_step3 (W := wl) (by assumption) hbl; clear hbl hgb)
          | (go_at_call 13; (with_reducible refine (cmp_fix (HOG.out.below (by assumption)) HVG.out (Small.moved HS.out HA.out Hga.out).out (Small.moved HS.out HB.out Hgb.out).out ((ordC_moved HS.out HF.out HG.out Hga.out Hgb.out).trans HN.out)).mono ?_); rintro e we ⟨rfl, hbl⟩; have hcur := below_step3 (W := wl) (by assumption) hbl; clear hbl)
          | (go_at_call 32; (with_reducible refine (same_yes (HO2.out.below (by assumption)) (HOF.out.below (by assumption)) HIG.out HVF.out.in64 HE.out).mono ?_); rintro e we ⟨rfl, hbl⟩; have hcur := below_step3 (W := wl) (by assumption) hbl; clear hbl))
      go_wp2
      go_ret
      exact ⟨rfl, hb01.trans ((below_step3 hbw7 (below_step3 HCUR.out hcur)).mono hb01.size)⟩

end Go.Proofs.Ytmkhfgggleplfaa
namespace Go.Proofs.Ytmkhfgggleplfaa
open Go.Joins Go.ChangeShapes Go.WideShapes Go.ChangeAt Go.RowKit Go.Deep

set_option maxRecDepth 100000 in
theorem perm_lifted (os : Os) (started : os.Started) (H : Type) (enc : TypeId × Value → H) :
    ReturnsInHanded {} Try.checked os 6 .any (Rows.orderPermutesSpec.pre6 enc Try.prog Try.f6 Rows.orderPermutesRow.domain false) (Rows.orderPermutesSpec.post enc Try.prog Try.f6 false true false false) := by
  refine returnsInHanded_of_change (C := Try.checked) own started (by kernel_rfl) Try.func6
    (ChangeSpec.witness6 (enc := enc) (C := Try.checked) false ⟨#[], #[.agg #[.slice none 0 0], .agg (ofRows .u16 (fun _ _ => 0) 2), .int .u16 0], []⟩ 8 (by kernel_rfl) (by kernel_rfl) (by kernel_rfl) (by kernel_rfl)) ?_
  intro W base args ds gs before hval0 hW hcnd _
  have hval : ∀ (j : Nat) t v, Try.f6.params[j]? = some t → args[j]? = some v → Value.okWide Try.prog W .any base t v := hval0
  have hW' := hW
  obtain ⟨p, q, hA0, hV, rfl, hfz, hnd⟩ := hW
  have hA : DataW.TrodAll enc Try.prog W 0 (fun _ => true) true Try.f6.params.toList args.toList ds p := hA0
  rw [Try.params6] at hA hval
  obtain ⟨v0, vs0, d0, ds0, p0, q0, hargs, rfl, rfl, h0, r0⟩ := trodAll_cons hA
  obtain ⟨v1, vs1, d1, ds1, p1, q1, rfl, rfl, rfl, h1, r1⟩ := trodAll_cons r0
  obtain ⟨v2, vs2, d2, ds2, p2, q2, rfl, rfl, rfl, h2, r2⟩ := trodAll_cons r1
  obtain ⟨rfl, rfl, rfl⟩ := trodAll_nil r2
  obtain rfl : args = #[v0, v1, v2] := by cases args; simp_all
  obtain ⟨rfl, rfl⟩ := trodVars_none hV
  have k0 := h0
  have lt0 : ∀ x ∈ p0, x.block < W.heap.size := by obtain ⟨m, hm⟩ := k0; exact DataW.trod_lt m _ _ _ hm
  have k1 := h1
  have lt1 : ∀ x ∈ p1, x.block < W.heap.size := by obtain ⟨m, hm⟩ := k1; exact DataW.trod_lt m _ _ _ hm
  have k2 := h2
  have lt2 : ∀ x ∈ p2, x.block < W.heap.size := by obtain ⟨m, hm⟩ := k2; exact DataW.trod_lt m _ _ _ hm
  obtain ⟨s0, y0, m0, rfl, hs0⟩ := open_agg1 Try.underlying24 (by kernel_rfl) (by kernel_rfl) (hval 0 24 v0 rfl rfl) h0
  obtain ⟨A0, n0, c0, rfl⟩ := trod_slice_form Try.underlying22 hs0
  obtain ⟨a0, b0, X0, e0, g0⟩ := open_rows Try.underlying22 Try.underlying68 Try.underlying67 (by kernel_rfl) (by kernel_rfl) hs0
  obtain ⟨X1, rfl, g1⟩ := open_rows_arr Try.underlying42 Try.underlying41 Try.underlying39 (by kernel_rfl) (by kernel_rfl) (by kernel_rfl) (hval 1 42 v1 rfl rfl) h1
  obtain ⟨z2, rfl, rfl, rfl, w2⟩ := open_int Try.underlying39 (hval 2 39 v2 rfl rfl) h2
  have bz2 : 0 ≤ z2 ∧ z2 ≤ 65535 := u16_bounds w2
  obtain ⟨u2, rfl⟩ : ∃ u : Nat, z2 = (u : Int) := ⟨z2.toNat, by omega⟩
  clear hA0 hval0
  refine (permutes_any (y := X0) (x := X1) (u := u2) ⟨A0, c0, rfl, a0, b0, e0⟩ (fun i hi k hk => i8_bounds (g0 i hi k hk)) (fun i hi k hk => u16_bounds (g1 i hi k hk)) (by omega)).mono fun e W' ⟨he, bel⟩ => ?_
  subst he
  exact ⟨_, rfl, _, _, _, [], _, [], hW', trodAll_mk1 (shut_bool Try.underlying4 _), (trodAll_cons_mk (Below.trod laidOut (by kernel_rfl) (of_decide_eq_true (by kernel_rfl)) k0 bel lt0) (trodAll_cons_mk (Below.trod laidOut (by kernel_rfl) (of_decide_eq_true (by kernel_rfl)) k1 bel lt1) (trodAll_cons_mk (Below.trod laidOut (by kernel_rfl) (of_decide_eq_true (by kernel_rfl)) k2 bel lt2) trodAll_mk0))), rfl, bel.frame _, fun h => by cases h⟩

theorem orderPermutes_holds : Rows.OrderPermutesSaid :=
  OpenClaim.holds_of_wide 6 Try.f6 rfl rfl rfl rfl rfl rfl rfl ⟨rfl, rfl, rfl, rfl, rfl⟩ rfl rfl rfl rfl rfl (by kernel_rfl) Try.func6 (by kernel_rfl)
    (of_decide_eq_true (by kernel_rfl)) (by unfold Func.isWrapper; first | (rw [if_pos (by decide +kernel)]; kernel_rfl) | (rw [if_neg (by decide +kernel)]; exact ⟨rfl, rfl⟩))
    (fun os started H enc _ => perm_lifted os started H enc)
#print axioms orderPermutes_holds

end Go.Proofs.Ytmkhfgggleplfaa
