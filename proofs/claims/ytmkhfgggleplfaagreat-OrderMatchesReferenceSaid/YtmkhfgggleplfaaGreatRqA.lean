/-
  The walks of the reference's rationals: exact, lowest, New, Whole, Sign, Neg. Conditions: fewer than 2^38 words.
-/
import Derived.Test.YtmkhfgggleplfaaGreatRnJ
import Derived.Test.YtmkhfgggleplfaaGreatRatB
namespace Go.Proofs.YtmkhfgggleplfaaGreat
set_option linter.unusedSimpArgs false
set_option linter.unusedVariables false
open Go.RowKit

set_option maxHeartbeats 1000000 in
theorem rint_exact {a b : Value} {x y : Int} {k : Nat} {w : World} (ha : IntV w a x) (hb : IntV w b y) (bx : Bd k x) (bY : Bd k y) (hk : k ≤ 549755813880) (hy : y ≠ 0) :
    Calls Tryz.prog 104 #[a, b] w fun e w' => ∃ q, e = .returned q ∧ IntV w' q (x / y) ∧ Below w.heap.size w w' := by
  obtain ⟨A, n, c, rfl, hnx⟩ := ha
  obtain ⟨A', n', c', rfl, hny⟩ := hb
  go_enter Tryz.func104, Tryz.ntmps104
  go_wp2_with fail
  obtain ⟨W0, hW0, hbl0, hb2, hb3, hb4, hsz⟩ := boxes3 w 75 75 75 #[.bool (ngb x), .slice A n c] #[.bool (ngb y), .slice A' n' c'] #[.bool false, .slice none 0 0]
  rw [← hW0]
  clear hW0
  have hwx := hnx.below hbl0
  have hwy := hny.below hbl0
  refine (rint_divmod (⟨_, _, _, rfl, hwx⟩ : IntV W0 (.agg #[.bool (ngb x), .slice A n c]) x) (⟨_, _, _, rfl, hwy⟩ : IntV W0 (.agg #[.bool (ngb y), .slice A' n' c']) y) bx bY hk hy).mono ?_
  rintro e w1 ⟨vq, vr, rfl, ⟨A5, n5, c5, rfl, hn5⟩, ⟨A6, n6, c6, rfl, hn6⟩, hb1⟩
  have hs1 := hb1.size
  replace hb4 := hb4.below hb1 (by omega)
  obtain ⟨r0, r1, q0, q1, hs2⟩ := hb4.two
  have hs3 : w.heap.size + 1 + 1 < w1.heap.size + 1 := by omega
  have hs4 : w.heap.size + 1 + 1 < w1.heap.size + 1 + 1 := by omega
  go_wp2_with fail
  have hfinal := int_box hn5 hb4 rfl (hbl0.trans (hb1.mono hbl0.size)) (by omega)
  have hbz : ∀ (W : World) (o1 o2 : Obj), Below W.heap.size W ((W.alloc o1).alloc o2) := fun W o1 o2 => ((Below.refl _ _).alloc (Nat.le_refl _) _).alloc (by simp) _
  exact bodyPost_ret (v := .agg #[.bool (ngb (x / y)), .slice A5 n5 c5]) (by simp [results, Tryz.results104, go_sem, r0, r1, hs2, hs3, hs4]) rfl ⟨_, rfl, hfinal.1.below (hbz _ _ _), hfinal.2.trans ((hbz _ _ _).mono hfinal.2.size)⟩

set_option maxHeartbeats 2000000 in
theorem rq_lowest {a b : Value} {x y : Int} {k : Nat} {w : World} (ha : IntV w a x) (hb : IntV w b y) (bx : Bd k x) (bY : Bd k y) (hk : k ≤ 549755813880) (hy0 : y ≠ 0) :
    Calls Tryz.prog 78 #[a, b] w fun e w' => ∃ r, e = .returned r ∧ RatV w' r (Rat.divInt x y) ∧ Below w.heap.size w w' := by
  obtain ⟨A, n, c, rfl, hx⟩ := ha
  obtain ⟨A', n', c', rfl, hy⟩ := hb
  have hlow := low_num (n := x) hy0
  have hgb : Bd k (Int.gcd x y : Int) := by
    refine bY.of_abs ?_
    rw [Int.natAbs_natCast]
    exact Nat.le_of_dvd (by omega) (Nat.gcd_dvd_right _ _)
  have hg0 : Int.gcd x y ≠ 0 := fun h => hy0 (Int.gcd_eq_zero_iff.1 h).2
  have HLOW := Lib.hid hlow
  clear hlow
  go_enter Tryz.func78, Tryz.ntmps78
  go_wp2_with fail
  obtain ⟨W0, hW0, hbl, hB2, hB3, hR, hsz⟩ := boxes3 w 75 75 77 #[.bool (ngb x), .slice A n c] #[.bool (ngb y), .slice A' n' c'] #[.bool false, .slice none 0 0, .bool false, .slice none 0 0]
  rw [← hW0]
  clear hW0
  replace hx := hx.below hbl
  replace hy := hy.below hbl
  refine (rint_gcd (⟨_, _, _, rfl, hx⟩ : IntV W0 (.agg #[.bool (ngb x), _]) x) (⟨_, _, _, rfl, hy⟩ : IntV W0 (.agg #[.bool (ngb y), _]) y) bx bY hk).mono ?_
  rintro e w1 ⟨r, rfl, ⟨A1, n1, c1, rfl, hg⟩, hb1⟩
  replace hB2 := hB2.below hb1 hB2.lt
  replace hB3 := hB3.below hb1 hB3.lt
  replace hR := hR.below hb1 hR.lt
  replace hx := hx.below hb1
  replace hy := hy.below hb1
  replace hbl := hbl.trans (hb1.mono hbl.size)
  obtain ⟨hB2a, hB2b, hB2c, hB2d, hB2e⟩ := hB2.two
  obtain ⟨hB3a, hB3b, hB3c, hB3d, hB3e⟩ := hB3.two
  obtain ⟨⟨hRa, hRb, hRc, hRd⟩, ⟨hRf, hRg, hRh, hRi⟩, hRe⟩ := hR.four
  go_wp2_with fail
  obtain ⟨W2, hW2, hb2, hG, hsz2⟩ := boxes1 w1 75 #[.bool (ngb (Int.gcd x y : Int)), .slice A1 n1 c1]
  rw [← hW2]
  clear hW2 hsz hsz2 hb1
  obtain ⟨gp, hgpe⟩ : ∃ gp, gp = w1.heap.size := ⟨_, rfl⟩
  rw [← hgpe] at hG ⊢
  have hgR : w.heap.size + 1 + 1 < gp := by rw [hgpe]; exact hRe
  clear hgpe
  clear hB2a hB2b hB2c hB2d hB2e hB3a hB3b hB3c hB3d hB3e hRa hRb hRc hRd hRe hRf hRg hRh hRi
  replace hB2 := hB2.below hb2 hB2.lt
  replace hB3 := hB3.below hb2 hB3.lt
  replace hR := hR.below hb2 hR.lt
  replace hx := hx.below hb2
  replace hy := hy.below hb2
  replace hg := hg.below hb2
  replace hbl := hbl.trans (hb2.mono hbl.size)
  obtain ⟨hB2a, hB2b, hB2c, hB2d, hB2e⟩ := hB2.two
  obtain ⟨hB3a, hB3b, hB3c, hB3d, hB3e⟩ := hB3.two
  obtain ⟨⟨hRa, hRb, hRc, hRd⟩, ⟨hRf, hRg, hRh, hRi⟩, hRe⟩ := hR.four
  obtain ⟨hGa, hGb, hGc, hGd, hGe⟩ := hG.two
  refine (rint_sign (⟨_, _, _, rfl, hy⟩ : IntV W2 (.agg #[.bool (ngb y), .slice A' n' c']) y)).mono ?_
  rintro e w3 ⟨rfl, hb3⟩
  clear hB2a hB2b hB2c hB2d hB2e hB3a hB3b hB3c hB3d hB3e hRa hRb hRc hRd hRe hRf hRg hRh hRi hGa hGb hGc hGd hGe
  replace hB2 := hB2.below hb3 hB2.lt
  replace hB3 := hB3.below hb3 hB3.lt
  replace hR := hR.below hb3 hR.lt
  replace hG := hG.below hb3 hG.lt
  replace hx := hx.below hb3
  replace hy := hy.below hb3
  replace hg := hg.below hb3
  replace hbl := hbl.trans (hb3.mono hbl.size)
  obtain ⟨hB2a, hB2b, hB2c, hB2d, hB2e⟩ := hB2.two
  obtain ⟨hB3a, hB3b, hB3c, hB3d, hB3e⟩ := hB3.two
  obtain ⟨⟨hRa, hRb, hRc, hRd⟩, ⟨hRf, hRg, hRh, hRi⟩, hRe⟩ := hR.four
  obtain ⟨hGa, hGb, hGc, hGd, hGe⟩ := hG.two
  by_cases hneg : y < 0
  · have hsg : cmpI y 0 < 0 := by rw [cmpI_lt hneg]; omega
    go_wp2_with fail
    refine (rint_neg (⟨_, _, _, rfl, hg⟩ : IntV w3 (.agg #[.bool (ngb (Int.gcd x y : Int)), _]) (Int.gcd x y : Int)) hgb (by omega)).mono ?_
    rintro e w4 ⟨r, rfl, ⟨A2, n2, c2, rfl, hg2⟩, hb4⟩
    clear hB2a hB2b hB2c hB2d hB2e hB3a hB3b hB3c hB3d hB3e hRa hRb hRc hRd hRe hRf hRg hRh hRi hGa hGb hGc hGd hGe
    replace hB2 := hB2.below hb4 hB2.lt
    replace hB3 := hB3.below hb4 hB3.lt
    replace hR := hR.below hb4 hR.lt
    replace hG := hG.below hb4 hG.lt
    replace hx := hx.below hb4
    replace hy := hy.below hb4
    replace hbl := hbl.trans (hb4.mono hbl.size)
    obtain ⟨hB2a, hB2b, hB2c, hB2d, hB2e⟩ := hB2.two
    obtain ⟨hB3a, hB3b, hB3c, hB3d, hB3e⟩ := hB3.two
    obtain ⟨⟨hRa, hRb, hRc, hRd⟩, ⟨hRf, hRg, hRh, hRi⟩, hRe⟩ := hR.four
    obtain ⟨hGa, hGb, hGc, hGd, hGe⟩ := hG.two
    go_wp2_with fail
    clear hB2a hB2b hB2c hB2d hB2e hB3a hB3b hB3c hB3d hB3e hRa hRb hRc hRd hRe hRf hRg hRh hRi hGa hGb hGc hGd hGe
    generalize hWe : (w4.setCell ⟨gp, 0, none⟩ (.bool (ngb (-(Int.gcd x y : Int))))).setCell ⟨gp, 1, none⟩ (.slice A2 n2 c2) = W5
    have hO : Only (gp) w4 W5 := by rw [← hWe]; exact only2 _ _ _ _
    replace hx := hx.only hG rfl hO
    replace hy := hy.only hG rfl hO
    replace hg2 := hg2.only hG rfl hO
    replace hB2 := hB2.only hO (by omega)
    replace hB3 := hB3.only hO (by omega)
    replace hR := hR.only hO (by omega)
    replace hG : Blk W5 (gp) 75 #[.bool (ngb (-(Int.gcd x y : Int))), .slice A2 n2 c2] := by rw [← hWe]; exact hG.put2 _ _
    replace hbl : Below w.heap.size w W5 := by rw [← hWe]; exact (hbl.setCell (p := ⟨gp, 0, none⟩) (show w.heap.size ≤ gp from by omega) _).setCell (p := ⟨gp, 1, none⟩) (show w.heap.size ≤ gp from by omega) _
    clear hWe hO
    obtain ⟨hB2a, hB2b, hB2c, hB2d, hB2e⟩ := hB2.two
    obtain ⟨hB3a, hB3b, hB3c, hB3d, hB3e⟩ := hB3.two
    obtain ⟨⟨hRa, hRb, hRc, hRd⟩, ⟨hRf, hRg, hRh, hRi⟩, hRe⟩ := hR.four
    obtain ⟨hGa, hGb, hGc, hGd, hGe⟩ := hG.two
    have hgb' : Bd k (-(Int.gcd x y : Int)) := hgb.neg
    have hG0 : -(Int.gcd x y : Int) ≠ 0 := by omega
    have HQ : Hid (x / -(Int.gcd x y : Int) = (Rat.divInt x y).num ∧ y / -(Int.gcd x y : Int) = ((Rat.divInt x y).den : Int)) := by
      have := HLOW.out
      rwa [if_pos hneg] at this
    have ix : IntV W5 (.agg #[.bool (ngb x), .slice A n c]) x := ⟨_, _, _, rfl, hx⟩
    have iy : IntV W5 (.agg #[.bool (ngb y), .slice A' n' c']) y := ⟨_, _, _, rfl, hy⟩
    have ig : IntV W5 (.agg #[.bool (ngb (-(Int.gcd x y : Int))), .slice A2 n2 c2]) (-(Int.gcd x y : Int)) := ⟨_, _, _, rfl, hg2⟩
    have hszW : w.heap.size + 1 + 1 < W5.heap.size := hR.lt
    have hszG : gp < W5.heap.size := hG.lt
    go_region_held3 (fun w' => w'.cell? ⟨w.heap.size, 0, none⟩ = some (.bool (ngb x)) ∧ w'.cell? ⟨w.heap.size, 1, none⟩ = some (.slice A n c) ∧ w'.cell? ⟨w.heap.size + 1, 0, none⟩ = some (.bool (ngb y)) ∧ w'.cell? ⟨w.heap.size + 1, 1, none⟩ = some (.slice A' n' c') ∧ w'.cell? ⟨gp, 0, none⟩ = some (.bool (ngb (-(Int.gcd x y : Int)))) ∧ w'.cell? ⟨gp, 1, none⟩ = some (.slice A2 n2 c2))
      (((try dsimp only); (repeat' apply And.intro); all_goals first | (refine keep_cell (W := W5) ?_ (by omega) (by assumption); ((repeat' (first | with_reducible exact Below.refl _ _ | with_reducible exact hC1 | with_reducible exact hC2 | with_reducible refine Below.drew ?_ | with_reducible refine Below.alloc ?_ (by first | exact Nat.le_refl _ | (simp only [heap_drew, alloc_size]; omega) | omega) _))); done) | (rw [cell_set4 (by omega)]; refine keep_cell (W := W5) ?_ (by omega) (by assumption); ((repeat' (first | with_reducible exact Below.refl _ _ | with_reducible exact hC1 | with_reducible exact hC2 | with_reducible refine Below.drew ?_ | with_reducible refine Below.alloc ?_ (by first | exact Nat.le_refl _ | (simp only [heap_drew, alloc_size]; omega) | omega) _))); done) | (go_keep; done)))
      (first
        | (go_at_call 104; (with_reducible refine (rint_exact (a := .agg #[.bool (ngb x), .slice A n c]) (b := .agg #[.bool (ngb (-(Int.gcd x y : Int))), .slice A2 n2 c2]) ?_ ?_ bx hgb' hk hG0).mono ?_); (focus (refine IntV.below ix ?_; ((repeat' (first | with_reducible exact Below.refl _ _ | with_reducible refine Below.drew ?_ | with_reducible refine Below.alloc ?_ (by first | exact Nat.le_refl _ | (simp only [heap_drew, alloc_size]; omega) | omega) _))))); (focus (refine IntV.below ig ?_; ((repeat' (first | with_reducible exact Below.refl _ _ | with_reducible refine Below.drew ?_ | with_reducible refine Below.alloc ?_ (by first | exact Nat.le_refl _ | (simp only [heap_drew, alloc_size]; omega) | omega) _))))); rw [HQ.out.1]; rintro e w1v ⟨v1, rfl, ⟨A5, n5, c5, rfl, hq1⟩, hz1⟩; have HB1 := fun g t cs (h : Blk _ g t cs) => h.below hz1 h.lt; replace hz1 : Below W5.heap.size W5 w1v := (by refine below_step ?_ hz1; ((repeat' (first | with_reducible exact Below.refl _ _ | with_reducible refine Below.drew ?_ | with_reducible refine Below.alloc ?_ (by first | exact Nat.le_refl _ | (simp only [heap_drew, alloc_size]; omega) | omega) _)))); have hC1 : Below W5.heap.size W5 w1v := hz1; have hs1 := hC1.size)
        | (go_at_call 104; (with_reducible refine (rint_exact (a := .agg #[.bool (ngb y), .slice A' n' c']) (b := .agg #[.bool (ngb (-(Int.gcd x y : Int))), .slice A2 n2 c2]) ?_ ?_ bY hgb' hk hG0).mono ?_); (focus (refine IntV.below iy ?_; ((repeat' (first | with_reducible exact Below.refl _ _ | with_reducible exact hC1 | with_reducible refine Below.drew ?_ | with_reducible refine Below.alloc ?_ (by first | exact Nat.le_refl _ | (simp only [heap_drew, alloc_size]; omega) | omega) _))))); (focus (refine IntV.below ig ?_; ((repeat' (first | with_reducible exact Below.refl _ _ | with_reducible exact hC1 | with_reducible refine Below.drew ?_ | with_reducible refine Below.alloc ?_ (by first | exact Nat.le_refl _ | (simp only [heap_drew, alloc_size]; omega) | omega) _))))); rw [HQ.out.2]; rintro e w2v ⟨v2, rfl, ⟨A6, n6, c6, rfl, hq2⟩, hz2⟩; have HB2 := fun g t cs (h : Blk _ g t cs) => h.below hz2 h.lt; replace hz2 : Below w1v.heap.size w1v w2v := (by refine below_step ?_ hz2; ((repeat' (first | with_reducible exact Below.refl _ _ | with_reducible refine Below.drew ?_ | with_reducible refine Below.alloc ?_ (by first | exact Nat.le_refl _ | (simp only [heap_drew, alloc_size]; omega) | omega) _)))); have hC2 : Below W5.heap.size W5 w2v := below_step hC1 hz2; have hs2 := hC2.size; replace hR := ((hR.below hz1 (by omega)).below hz2 (by omega)); obtain ⟨⟨u0, u1, u2, u3⟩, ⟨u4, u5, u6, u7⟩, u8⟩ := hR.four))
    all_goals
      go_wp2
      have hfinal := rat_box (q := Rat.divInt x y) (hq1.below hz2) hq2 hR rfl ((hbl.trans (hz1.mono (by omega))).trans (hz2.mono (by omega))) (by omega)
      exact bodyPost_ret (v := .agg #[.bool (ngb (Rat.divInt x y).num), .slice A5 n5 c5, .bool (ngb ((Rat.divInt x y).den : Int)), .slice A6 n6 c6]) (by simp [results, Tryz.results78, go_sem, u0, u1, u2, u3]) rfl ⟨_, rfl, hfinal.1, hfinal.2⟩
  · have hsg : ¬ cmpI y 0 < 0 := by unfold cmpI; rw [if_neg hneg]; split <;> omega
    have hgb' : Bd k (Int.gcd x y : Int) := hgb
    have hG0 : (Int.gcd x y : Int) ≠ 0 := by omega
    have HQ : Hid (x / (Int.gcd x y : Int) = (Rat.divInt x y).num ∧ y / (Int.gcd x y : Int) = ((Rat.divInt x y).den : Int)) := by
      have := HLOW.out
      rwa [if_neg hneg] at this
    go_wp2_with fail
    have ix : IntV w3 (.agg #[.bool (ngb x), .slice A n c]) x := ⟨_, _, _, rfl, hx⟩
    have iy : IntV w3 (.agg #[.bool (ngb y), .slice A' n' c']) y := ⟨_, _, _, rfl, hy⟩
    have ig : IntV w3 (.agg #[.bool (ngb ((Int.gcd x y : Int))), .slice A1 n1 c1]) ((Int.gcd x y : Int)) := ⟨_, _, _, rfl, hg⟩
    have hszW : w.heap.size + 1 + 1 < w3.heap.size := hR.lt
    have hszG : gp < w3.heap.size := hG.lt
    go_region_held3 (fun w' => w'.cell? ⟨w.heap.size, 0, none⟩ = some (.bool (ngb x)) ∧ w'.cell? ⟨w.heap.size, 1, none⟩ = some (.slice A n c) ∧ w'.cell? ⟨w.heap.size + 1, 0, none⟩ = some (.bool (ngb y)) ∧ w'.cell? ⟨w.heap.size + 1, 1, none⟩ = some (.slice A' n' c') ∧ w'.cell? ⟨gp, 0, none⟩ = some (.bool (ngb ((Int.gcd x y : Int)))) ∧ w'.cell? ⟨gp, 1, none⟩ = some (.slice A1 n1 c1))
      (((try dsimp only); (repeat' apply And.intro); all_goals first | (refine keep_cell (W := w3) ?_ (by omega) (by assumption); ((repeat' (first | with_reducible exact Below.refl _ _ | with_reducible exact hC1 | with_reducible exact hC2 | with_reducible refine Below.drew ?_ | with_reducible refine Below.alloc ?_ (by first | exact Nat.le_refl _ | (simp only [heap_drew, alloc_size]; omega) | omega) _))); done) | (rw [cell_set4 (by omega)]; refine keep_cell (W := w3) ?_ (by omega) (by assumption); ((repeat' (first | with_reducible exact Below.refl _ _ | with_reducible exact hC1 | with_reducible exact hC2 | with_reducible refine Below.drew ?_ | with_reducible refine Below.alloc ?_ (by first | exact Nat.le_refl _ | (simp only [heap_drew, alloc_size]; omega) | omega) _))); done) | (go_keep; done)))
      (first
        | (go_at_call 104; (with_reducible refine (rint_exact (a := .agg #[.bool (ngb x), .slice A n c]) (b := .agg #[.bool (ngb ((Int.gcd x y : Int))), .slice A1 n1 c1]) ?_ ?_ bx hgb' hk hG0).mono ?_); (focus (refine IntV.below ix ?_; ((repeat' (first | with_reducible exact Below.refl _ _ | with_reducible refine Below.drew ?_ | with_reducible refine Below.alloc ?_ (by first | exact Nat.le_refl _ | (simp only [heap_drew, alloc_size]; omega) | omega) _))))); (focus (refine IntV.below ig ?_; ((repeat' (first | with_reducible exact Below.refl _ _ | with_reducible refine Below.drew ?_ | with_reducible refine Below.alloc ?_ (by first | exact Nat.le_refl _ | (simp only [heap_drew, alloc_size]; omega) | omega) _))))); rw [HQ.out.1]; rintro e w1v ⟨v1, rfl, ⟨A5, n5, c5, rfl, hq1⟩, hz1⟩; have HB1 := fun g t cs (h : Blk _ g t cs) => h.below hz1 h.lt; replace hz1 : Below w3.heap.size w3 w1v := (by refine below_step ?_ hz1; ((repeat' (first | with_reducible exact Below.refl _ _ | with_reducible refine Below.drew ?_ | with_reducible refine Below.alloc ?_ (by first | exact Nat.le_refl _ | (simp only [heap_drew, alloc_size]; omega) | omega) _)))); have hC1 : Below w3.heap.size w3 w1v := hz1; have hs1 := hC1.size)
        | (go_at_call 104; (with_reducible refine (rint_exact (a := .agg #[.bool (ngb y), .slice A' n' c']) (b := .agg #[.bool (ngb ((Int.gcd x y : Int))), .slice A1 n1 c1]) ?_ ?_ bY hgb' hk hG0).mono ?_); (focus (refine IntV.below iy ?_; ((repeat' (first | with_reducible exact Below.refl _ _ | with_reducible exact hC1 | with_reducible refine Below.drew ?_ | with_reducible refine Below.alloc ?_ (by first | exact Nat.le_refl _ | (simp only [heap_drew, alloc_size]; omega) | omega) _))))); (focus (refine IntV.below ig ?_; ((repeat' (first | with_reducible exact Below.refl _ _ | with_reducible exact hC1 | with_reducible refine Below.drew ?_ | with_reducible refine Below.alloc ?_ (by first | exact Nat.le_refl _ | (simp only [heap_drew, alloc_size]; omega) | omega) _))))); rw [HQ.out.2]; rintro e w2v ⟨v2, rfl, ⟨A6, n6, c6, rfl, hq2⟩, hz2⟩; have HB2 := fun g t cs (h : Blk _ g t cs) => h.below hz2 h.lt; replace hz2 : Below w1v.heap.size w1v w2v := (by refine below_step ?_ hz2; ((repeat' (first | with_reducible exact Below.refl _ _ | with_reducible refine Below.drew ?_ | with_reducible refine Below.alloc ?_ (by first | exact Nat.le_refl _ | (simp only [heap_drew, alloc_size]; omega) | omega) _)))); have hC2 : Below w3.heap.size w3 w2v := below_step hC1 hz2; have hs2 := hC2.size; replace hR := ((hR.below hz1 (by omega)).below hz2 (by omega)); obtain ⟨⟨u0, u1, u2, u3⟩, ⟨u4, u5, u6, u7⟩, u8⟩ := hR.four))
    all_goals
      go_wp2
      have hfinal := rat_box (q := Rat.divInt x y) (hq1.below hz2) hq2 hR rfl ((hbl.trans (hz1.mono (by omega))).trans (hz2.mono (by omega))) (by omega)
      exact bodyPost_ret (v := .agg #[.bool (ngb (Rat.divInt x y).num), .slice A5 n5 c5, .bool (ngb ((Rat.divInt x y).den : Int)), .slice A6 n6 c6]) (by simp [results, Tryz.results78, go_sem, u0, u1, u2, u3]) rfl ⟨_, rfl, hfinal.1, hfinal.2⟩

end Go.Proofs.YtmkhfgggleplfaaGreat
