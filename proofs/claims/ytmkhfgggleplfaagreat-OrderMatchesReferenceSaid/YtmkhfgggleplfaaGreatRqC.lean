/-
  The walks of the reference's rationals: New, Whole, Sign, Neg, Inv, Mul, Add, Sub. Conditions: fewer than 2^34 words.
  The walks of the reference's rationals: Neg, Inv, Sub. Conditions: fewer than 2^33 words; for Inv: not 0.
-/
import Derived.Test.YtmkhfgggleplfaaGreatRqA
namespace Go.Proofs.YtmkhfgggleplfaaGreat
set_option linter.unusedSimpArgs false
set_option linter.unusedVariables false
open Go.RowKit

theorem rq_sign {a : Value} {q : Rat} {w : World} (ha : RatV w a q) :
    Calls Tryz.prog 61 #[a] w fun e w' => e = .returned (.int .i64 (cmpI q.num 0)) ∧ Below w.heap.size w w' := by
  obtain ⟨A, n, c, B, m, d, rfl, hx, hy⟩ := ha
  go_enter Tryz.func61, Tryz.ntmps61
  go_wp2_with fail
  obtain ⟨W0, hW0, hbl, hB2, hsz⟩ := boxes1 w 77 #[.bool (ngb q.num), .slice A n c, .bool (ngb (q.den : Int)), .slice B m d]
  rw [← hW0]
  refine (rint_sign (⟨_, _, _, rfl, hx.below hbl⟩ : IntV W0 (.agg #[.bool (ngb q.num), .slice A n c]) q.num)).mono ?_
  rintro e w1 ⟨rfl, hb1⟩
  go_wp2
  go_ret
  exact ⟨rfl, hbl.trans (hb1.mono hbl.size)⟩

set_option maxHeartbeats 1000000 in
theorem rq_new {a b : Value} {x y : Int} {k : Nat} {w : World} (ha : IntV w a x) (hb : IntV w b y) (bx : Bd k x) (bY : Bd k y) (hk : k ≤ 549755813880) (hy0 : y ≠ 0) :
    Calls Tryz.prog 77 #[a, b] w fun e w' => ∃ r, e = .returned (.tuple #[r, .int .i64 0]) ∧ RatV w' r (Rat.divInt x y) ∧ Below w.heap.size w w' := by
  obtain ⟨A, n, c, rfl, hx⟩ := ha
  obtain ⟨A', n', c', rfl, hy⟩ := hb
  have hs0 : (cmpI y 0 == 0) = false := by
    rw [beq_eq_false_iff_ne]
    unfold cmpI
    split
    · omega
    · rw [if_pos (by omega)]; omega
  go_enter Tryz.func77, Tryz.ntmps77
  go_wp2_with fail
  obtain ⟨W0, hW0, hbl, hB2, hB3, hR, hsz⟩ := boxes3 w 75 75 77 #[.bool (ngb x), .slice A n c] #[.bool (ngb y), .slice A' n' c'] #[.bool false, .slice none 0 0, .bool false, .slice none 0 0]
  rw [← hW0]
  clear hW0
  have hsz' : w.heap.size + 1 + 1 < W0.heap.size := by omega
  clear hsz
  refine (rint_sign (⟨_, _, _, rfl, hy.below hbl⟩ : IntV W0 (.agg #[.bool (ngb y), _]) y)).mono ?_
  rintro e w1 ⟨rfl, hb1⟩
  have hs1 := hb1.size
  have hbl1 := hbl.trans (hb1.mono hbl.size)
  obtain ⟨z0, z1, -, -, z4⟩ := (hB2.below hb1 (by omega)).two
  obtain ⟨y0, y1, -, -, y4⟩ := (hB3.below hb1 (by omega)).two
  have hR1 := hR.below hb1 (by omega)
  go_wp2_with fail
  refine (rq_lowest (⟨_, _, _, rfl, hx.below hbl1⟩ : IntV w1 (.agg #[.bool (ngb x), _]) x) (⟨_, _, _, rfl, hy.below hbl1⟩ : IntV w1 (.agg #[.bool (ngb y), _]) y) bx bY hk hy0).mono ?_
  rintro e w2 ⟨v3, rfl, ⟨A5, n5, c5, A6, n6, c6, rfl, hn1, hn2⟩, hb2⟩
  have hs2 := hb2.size
  have hR2 := hR1.below hb2 hR1.lt
  obtain ⟨⟨u0, u1, u2, u3⟩, ⟨u4, u5, u6, u7⟩, u8⟩ := hR2.four
  go_wp2
  have hfinal := rat_box (q := Rat.divInt x y) hn1 hn2 hR2 rfl (hbl1.trans (hb2.mono hbl1.size)) (by omega)
  exact bodyPost_ret (v := .tuple #[.agg #[.bool (ngb (Rat.divInt x y).num), .slice A5 n5 c5, .bool (ngb ((Rat.divInt x y).den : Int)), .slice A6 n6 c6], .int .i64 0]) (by simp [results, Tryz.results77, go_sem, u0, u1, u2, u3]) rfl ⟨_, rfl, hfinal.1, hfinal.2⟩

set_option maxHeartbeats 4000000 in
theorem rq_mul {a b : Value} {q r : Rat} {k : Nat} {w : World} (ha : RatV w a q) (hb : RatV w b r) (bq : RBd k q) (br : RBd k r) (hk : k ≤ 34359738368) :
    Calls Tryz.prog 63 #[a, b] w fun e w' => ∃ v, e = .returned v ∧ RatV w' v (q * r) ∧ Below w.heap.size w w' := by
  obtain ⟨A, n, c, B, m, d, rfl, hqn, hqd⟩ := ha
  obtain ⟨A', n', c', B', m', d', rfl, hrn, hrd⟩ := hb
  have hden : (q.den : Int) * (r.den : Int) ≠ 0 := Int.mul_ne_zero (by have := q.den_nz; omega) (by have := r.den_nz; omega)
  have hval := Lib.hid (rat_mul_eq q r)
  go_enter Tryz.func63, Tryz.ntmps63
  go_wp2_with fail
  obtain ⟨W0, hW0, hbl, hB2, hB3, hR, hsz⟩ := boxes3 w 77 77 77 #[.bool (ngb q.num), .slice A n c, .bool (ngb (q.den : Int)), .slice B m d] #[.bool (ngb r.num), .slice A' n' c', .bool (ngb (r.den : Int)), .slice B' m' d'] #[.bool false, .slice none 0 0, .bool false, .slice none 0 0]
  rw [← hW0]
  clear hW0
  replace hqn := hqn.below hbl
  replace hqd := hqd.below hbl
  replace hrn := hrn.below hbl
  replace hrd := hrd.below hbl
  have iqnum : IntV W0 (.agg #[.bool (ngb q.num), .slice A n c]) q.num := ⟨_, _, _, rfl, hqn⟩
  have iqden : IntV W0 (.agg #[.bool (ngb (q.den : Int)), .slice B m d]) (q.den : Int) := ⟨_, _, _, rfl, hqd⟩
  have irnum : IntV W0 (.agg #[.bool (ngb r.num), .slice A' n' c']) r.num := ⟨_, _, _, rfl, hrn⟩
  have irden : IntV W0 (.agg #[.bool (ngb (r.den : Int)), .slice B' m' d']) (r.den : Int) := ⟨_, _, _, rfl, hrd⟩
  obtain ⟨⟨z0, z1, z2, z3⟩, -, -⟩ := hB2.four
  obtain ⟨⟨y0, y1, y2, y3⟩, -, -⟩ := hB3.four
  have hsz' : w.heap.size + 1 + 1 < W0.heap.size := by omega
  have bqn : Bd k q.num := bq.1
  have bqd : Bd k (q.den : Int) := bq.2
  have brn : Bd k r.num := br.1
  have brd : Bd k (r.den : Int) := br.2
  clear hsz
  go_region_held3 (fun w' => w'.cell? ⟨w.heap.size, 0, none⟩ = some (.bool (ngb q.num)) ∧ w'.cell? ⟨w.heap.size, 1, none⟩ = some (.slice A n c) ∧ w'.cell? ⟨w.heap.size, 2, none⟩ = some (.bool (ngb (q.den : Int))) ∧ w'.cell? ⟨w.heap.size, 3, none⟩ = some (.slice B m d) ∧ w'.cell? ⟨w.heap.size + 1, 0, none⟩ = some (.bool (ngb r.num)) ∧ w'.cell? ⟨w.heap.size + 1, 1, none⟩ = some (.slice A' n' c') ∧ w'.cell? ⟨w.heap.size + 1, 2, none⟩ = some (.bool (ngb (r.den : Int))) ∧ w'.cell? ⟨w.heap.size + 1, 3, none⟩ = some (.slice B' m' d'))
    (((try dsimp only); (repeat' apply And.intro); all_goals first | (refine keep_cell (W := W0) ?_ (by omega) (by assumption); ((repeat' (first | with_reducible exact Below.refl _ _ | with_reducible exact hC1 | with_reducible exact hC2 | with_reducible exact hC3 | with_reducible refine Below.drew ?_ | with_reducible refine Below.alloc ?_ (by first | exact Nat.le_refl _ | (simp only [heap_drew, alloc_size]; omega) | omega) _))); done) | (rw [cell_set4 (by omega)]; refine keep_cell (W := W0) ?_ (by omega) (by assumption); ((repeat' (first | with_reducible exact Below.refl _ _ | with_reducible exact hC1 | with_reducible exact hC2 | with_reducible exact hC3 | with_reducible refine Below.drew ?_ | with_reducible refine Below.alloc ?_ (by first | exact Nat.le_refl _ | (simp only [heap_drew, alloc_size]; omega) | omega) _))); done) | (go_keep; done)))
    (first
      | (go_at_call 79; (with_reducible refine (rint_mul (a := .agg #[.bool (ngb q.num), .slice A n c]) (b := .agg #[.bool (ngb r.num), .slice A' n' c']) ?_ ?_ bqn brn (by omega)).mono ?_); (focus (refine IntV.below iqnum ?_; ((repeat' (first | with_reducible exact Below.refl _ _ | with_reducible refine Below.drew ?_ | with_reducible refine Below.alloc ?_ (by first | exact Nat.le_refl _ | (simp only [heap_drew, alloc_size]; omega) | omega) _))))); (focus (refine IntV.below irnum ?_; ((repeat' (first | with_reducible exact Below.refl _ _ | with_reducible refine Below.drew ?_ | with_reducible refine Below.alloc ?_ (by first | exact Nat.le_refl _ | (simp only [heap_drew, alloc_size]; omega) | omega) _))))); rintro e w1 ⟨v1, rfl, hv1, hb1⟩; have HB1 := fun g t cs (h : Blk _ g t cs) => h.below hb1 h.lt; replace hb1 : Below W0.heap.size W0 w1 := (by refine below_step ?_ hb1; ((repeat' (first | with_reducible exact Below.refl _ _ | with_reducible refine Below.drew ?_ | with_reducible refine Below.alloc ?_ (by first | exact Nat.le_refl _ | (simp only [heap_drew, alloc_size]; omega) | omega) _)))); have hC1 : Below W0.heap.size W0 w1 := hb1; have hs1 := hC1.size)
      | (go_at_call 79; (with_reducible refine (rint_mul (a := .agg #[.bool (ngb (q.den : Int)), .slice B m d]) (b := .agg #[.bool (ngb (r.den : Int)), .slice B' m' d']) ?_ ?_ bqd brd (by omega)).mono ?_); (focus (refine IntV.below iqden ?_; ((repeat' (first | with_reducible exact Below.refl _ _ | with_reducible exact hC1 | with_reducible refine Below.drew ?_ | with_reducible refine Below.alloc ?_ (by first | exact Nat.le_refl _ | (simp only [heap_drew, alloc_size]; omega) | omega) _))))); (focus (refine IntV.below irden ?_; ((repeat' (first | with_reducible exact Below.refl _ _ | with_reducible exact hC1 | with_reducible refine Below.drew ?_ | with_reducible refine Below.alloc ?_ (by first | exact Nat.le_refl _ | (simp only [heap_drew, alloc_size]; omega) | omega) _))))); rintro e w2 ⟨v2, rfl, hv2, hb2⟩; have HB2 := fun g t cs (h : Blk _ g t cs) => h.below hb2 h.lt; replace hb2 : Below w1.heap.size w1 w2 := (by refine below_step ?_ hb2; ((repeat' (first | with_reducible exact Below.refl _ _ | with_reducible refine Below.drew ?_ | with_reducible refine Below.alloc ?_ (by first | exact Nat.le_refl _ | (simp only [heap_drew, alloc_size]; omega) | omega) _)))); have hC2 : Below W0.heap.size W0 w2 := below_step hC1 hb2; have hs2 := hC2.size)
      | (go_at_call 78; refine (rq_lowest (hv1.below hb2) hv2 (bq.1.mul br.1) (bq.2.mul br.2) (by omega) hden).mono ?_; rw [hval.out]; rintro e w3 ⟨v3, rfl, ⟨A5, n5, c5, A6, n6, c6, rfl, hn1, hn2⟩, hb3⟩; have HB3 := fun g t cs (h : Blk _ g t cs) => h.below hb3 h.lt; replace hb3 : Below w2.heap.size w2 w3 := (by refine below_step ?_ hb3; ((repeat' (first | with_reducible exact Below.refl _ _ | with_reducible refine Below.drew ?_ | with_reducible refine Below.alloc ?_ (by first | exact Nat.le_refl _ | (simp only [heap_drew, alloc_size]; omega) | omega) _)))); have hC3 : Below W0.heap.size W0 w3 := below_step hC2 hb3; have hs3 := hC3.size; replace hR := (((hR.below hb1 (by omega)).below hb2 (by omega)).below hb3 (by omega)); obtain ⟨⟨u0, u1, u2, u3⟩, ⟨u4, u5, u6, u7⟩, u8⟩ := hR.four))
  all_goals
    go_wp2
    have hfinal := rat_box (q := q * r) hn1 hn2 hR rfl (((hbl.trans (hb1.mono (by omega))).trans (hb2.mono (by omega))).trans (hb3.mono (by omega))) (by omega)
    exact bodyPost_ret (v := .agg #[.bool (ngb (q * r).num), .slice A5 n5 c5, .bool (ngb ((q * r).den : Int)), .slice A6 n6 c6]) (by simp [results, Tryz.results63, go_sem, u0, u1, u2, u3]) rfl ⟨_, rfl, hfinal.1, hfinal.2⟩

set_option maxHeartbeats 4000000 in
theorem rq_add {a b : Value} {q r : Rat} {k : Nat} {w : World} (ha : RatV w a q) (hb : RatV w b r) (bq : RBd k q) (br : RBd k r) (hk : k ≤ 34359738368) :
    Calls Tryz.prog 100 #[a, b] w fun e w' => ∃ v, e = .returned v ∧ RatV w' v (q + r) ∧ Below w.heap.size w w' := by
  obtain ⟨A, n, c, B, m, d, rfl, hqn, hqd⟩ := ha
  obtain ⟨A', n', c', B', m', d', rfl, hrn, hrd⟩ := hb
  have hden : (q.den : Int) * (r.den : Int) ≠ 0 := Int.mul_ne_zero (by have := q.den_nz; omega) (by have := r.den_nz; omega)
  have hval := Lib.hid (rat_add_eq q r)
  go_enter Tryz.func100, Tryz.ntmps100
  go_wp2_with fail
  obtain ⟨W0, hW0, hbl, hB2, hB3, hR, hsz⟩ := boxes3 w 77 77 77 #[.bool (ngb q.num), .slice A n c, .bool (ngb (q.den : Int)), .slice B m d] #[.bool (ngb r.num), .slice A' n' c', .bool (ngb (r.den : Int)), .slice B' m' d'] #[.bool false, .slice none 0 0, .bool false, .slice none 0 0]
  rw [← hW0]
  clear hW0
  replace hqn := hqn.below hbl
  replace hqd := hqd.below hbl
  replace hrn := hrn.below hbl
  replace hrd := hrd.below hbl
  have iqnum : IntV W0 (.agg #[.bool (ngb q.num), .slice A n c]) q.num := ⟨_, _, _, rfl, hqn⟩
  have iqden : IntV W0 (.agg #[.bool (ngb (q.den : Int)), .slice B m d]) (q.den : Int) := ⟨_, _, _, rfl, hqd⟩
  have irnum : IntV W0 (.agg #[.bool (ngb r.num), .slice A' n' c']) r.num := ⟨_, _, _, rfl, hrn⟩
  have irden : IntV W0 (.agg #[.bool (ngb (r.den : Int)), .slice B' m' d']) (r.den : Int) := ⟨_, _, _, rfl, hrd⟩
  obtain ⟨⟨z0, z1, z2, z3⟩, -, -⟩ := hB2.four
  obtain ⟨⟨y0, y1, y2, y3⟩, -, -⟩ := hB3.four
  have hsz' : w.heap.size + 1 + 1 < W0.heap.size := by omega
  have bqn : Bd k q.num := bq.1
  have bqd : Bd k (q.den : Int) := bq.2
  have brn : Bd k r.num := br.1
  have brd : Bd k (r.den : Int) := br.2
  clear hsz
  go_region_held3 (fun w' => w'.cell? ⟨w.heap.size, 0, none⟩ = some (.bool (ngb q.num)) ∧ w'.cell? ⟨w.heap.size, 1, none⟩ = some (.slice A n c) ∧ w'.cell? ⟨w.heap.size, 2, none⟩ = some (.bool (ngb (q.den : Int))) ∧ w'.cell? ⟨w.heap.size, 3, none⟩ = some (.slice B m d) ∧ w'.cell? ⟨w.heap.size + 1, 0, none⟩ = some (.bool (ngb r.num)) ∧ w'.cell? ⟨w.heap.size + 1, 1, none⟩ = some (.slice A' n' c') ∧ w'.cell? ⟨w.heap.size + 1, 2, none⟩ = some (.bool (ngb (r.den : Int))) ∧ w'.cell? ⟨w.heap.size + 1, 3, none⟩ = some (.slice B' m' d'))
    (((try dsimp only); (repeat' apply And.intro); all_goals first | (refine keep_cell (W := W0) ?_ (by omega) (by assumption); ((repeat' (first | with_reducible exact Below.refl _ _ | with_reducible exact hC1 | with_reducible exact hC2 | with_reducible exact hC3 | with_reducible exact hC4 | with_reducible exact hC5 | with_reducible refine Below.drew ?_ | with_reducible refine Below.alloc ?_ (by first | exact Nat.le_refl _ | (simp only [heap_drew, alloc_size]; omega) | omega) _))); done) | (rw [cell_set4 (by omega)]; refine keep_cell (W := W0) ?_ (by omega) (by assumption); ((repeat' (first | with_reducible exact Below.refl _ _ | with_reducible exact hC1 | with_reducible exact hC2 | with_reducible exact hC3 | with_reducible exact hC4 | with_reducible exact hC5 | with_reducible refine Below.drew ?_ | with_reducible refine Below.alloc ?_ (by first | exact Nat.le_refl _ | (simp only [heap_drew, alloc_size]; omega) | omega) _))); done) | (go_keep; done)))
    (first
      | (go_at_call 79; (with_reducible refine (rint_mul (a := .agg #[.bool (ngb q.num), .slice A n c]) (b := .agg #[.bool (ngb (r.den : Int)), .slice B' m' d']) ?_ ?_ bqn brd (by omega)).mono ?_); (focus (refine IntV.below iqnum ?_; ((repeat' (first | with_reducible exact Below.refl _ _ | with_reducible refine Below.drew ?_ | with_reducible refine Below.alloc ?_ (by first | exact Nat.le_refl _ | (simp only [heap_drew, alloc_size]; omega) | omega) _))))); (focus (refine IntV.below irden ?_; ((repeat' (first | with_reducible exact Below.refl _ _ | with_reducible refine Below.drew ?_ | with_reducible refine Below.alloc ?_ (by first | exact Nat.le_refl _ | (simp only [heap_drew, alloc_size]; omega) | omega) _))))); rintro e w1 ⟨v1, rfl, hv1, hb1⟩; have HB1 := fun g t cs (h : Blk _ g t cs) => h.below hb1 h.lt; replace hb1 : Below W0.heap.size W0 w1 := (by refine below_step ?_ hb1; ((repeat' (first | with_reducible exact Below.refl _ _ | with_reducible refine Below.drew ?_ | with_reducible refine Below.alloc ?_ (by first | exact Nat.le_refl _ | (simp only [heap_drew, alloc_size]; omega) | omega) _)))); have hC1 : Below W0.heap.size W0 w1 := hb1; have hs1 := hC1.size)
      | (go_at_call 79; (with_reducible refine (rint_mul (a := .agg #[.bool (ngb r.num), .slice A' n' c']) (b := .agg #[.bool (ngb (q.den : Int)), .slice B m d]) ?_ ?_ brn bqd (by omega)).mono ?_); (focus (refine IntV.below irnum ?_; ((repeat' (first | with_reducible exact Below.refl _ _ | with_reducible exact hC1 | with_reducible refine Below.drew ?_ | with_reducible refine Below.alloc ?_ (by first | exact Nat.le_refl _ | (simp only [heap_drew, alloc_size]; omega) | omega) _))))); (focus (refine IntV.below iqden ?_; ((repeat' (first | with_reducible exact Below.refl _ _ | with_reducible exact hC1 | with_reducible refine Below.drew ?_ | with_reducible refine Below.alloc ?_ (by first | exact Nat.le_refl _ | (simp only [heap_drew, alloc_size]; omega) | omega) _))))); rintro e w2 ⟨v2, rfl, hv2, hb2⟩; have HB2 := fun g t cs (h : Blk _ g t cs) => h.below hb2 h.lt; replace hb2 : Below w1.heap.size w1 w2 := (by refine below_step ?_ hb2; ((repeat' (first | with_reducible exact Below.refl _ _ | with_reducible refine Below.drew ?_ | with_reducible refine Below.alloc ?_ (by first | exact Nat.le_refl _ | (simp only [heap_drew, alloc_size]; omega) | omega) _)))); have hC2 : Below W0.heap.size W0 w2 := below_step hC1 hb2; have hs2 := hC2.size)
      | (go_at_call 119; refine (rint_add ?_ ?_ (bq.1.mul br.2) (br.1.mul bq.2) (by omega)).mono ?_; (focus (refine IntV.below (hv1.below hb2) ?_; ((repeat' (first | with_reducible exact Below.refl _ _ | with_reducible refine Below.drew ?_ | with_reducible refine Below.alloc ?_ (by first | exact Nat.le_refl _ | (simp only [heap_drew, alloc_size]; omega) | omega) _))))); (focus (refine IntV.below hv2 ?_; ((repeat' (first | with_reducible exact Below.refl _ _ | with_reducible refine Below.drew ?_ | with_reducible refine Below.alloc ?_ (by first | exact Nat.le_refl _ | (simp only [heap_drew, alloc_size]; omega) | omega) _))))); rintro e w3 ⟨v3, rfl, hv3, hb3⟩; have HB3 := fun g t cs (h : Blk _ g t cs) => h.below hb3 h.lt; replace hb3 : Below w2.heap.size w2 w3 := (by refine below_step ?_ hb3; ((repeat' (first | with_reducible exact Below.refl _ _ | with_reducible refine Below.drew ?_ | with_reducible refine Below.alloc ?_ (by first | exact Nat.le_refl _ | (simp only [heap_drew, alloc_size]; omega) | omega) _)))); have hC3 : Below W0.heap.size W0 w3 := below_step hC2 hb3; have hs3 := hC3.size)
      | (go_at_call 79; (with_reducible refine (rint_mul (a := .agg #[.bool (ngb (q.den : Int)), .slice B m d]) (b := .agg #[.bool (ngb (r.den : Int)), .slice B' m' d']) ?_ ?_ bqd brd (by omega)).mono ?_); (focus (refine IntV.below iqden ?_; ((repeat' (first | with_reducible exact Below.refl _ _ | with_reducible exact hC1 | with_reducible exact hC2 | with_reducible exact hC3 | with_reducible refine Below.drew ?_ | with_reducible refine Below.alloc ?_ (by first | exact Nat.le_refl _ | (simp only [heap_drew, alloc_size]; omega) | omega) _))))); (focus (refine IntV.below irden ?_; ((repeat' (first | with_reducible exact Below.refl _ _ | with_reducible exact hC1 | with_reducible exact hC2 | with_reducible exact hC3 | with_reducible refine Below.drew ?_ | with_reducible refine Below.alloc ?_ (by first | exact Nat.le_refl _ | (simp only [heap_drew, alloc_size]; omega) | omega) _))))); rintro e w4 ⟨v4, rfl, hv4, hb4⟩; have HB4 := fun g t cs (h : Blk _ g t cs) => h.below hb4 h.lt; replace hb4 : Below w3.heap.size w3 w4 := (by refine below_step ?_ hb4; ((repeat' (first | with_reducible exact Below.refl _ _ | with_reducible refine Below.drew ?_ | with_reducible refine Below.alloc ?_ (by first | exact Nat.le_refl _ | (simp only [heap_drew, alloc_size]; omega) | omega) _)))); have hC4 : Below W0.heap.size W0 w4 := below_step hC3 hb4; have hs4 := hC4.size)
      | (go_at_call 78; refine (rq_lowest (hv3.below hb4) hv4 ((bq.1.mul br.2).add (br.1.mul bq.2)) ((bq.2.mul br.2).mono (by omega)) (by omega) hden).mono ?_; rw [hval.out]; rintro e w5 ⟨v5, rfl, ⟨A5, n5, c5, A6, n6, c6, rfl, hn1, hn2⟩, hb5⟩; have HB5 := fun g t cs (h : Blk _ g t cs) => h.below hb5 h.lt; replace hb5 : Below w4.heap.size w4 w5 := (by refine below_step ?_ hb5; ((repeat' (first | with_reducible exact Below.refl _ _ | with_reducible refine Below.drew ?_ | with_reducible refine Below.alloc ?_ (by first | exact Nat.le_refl _ | (simp only [heap_drew, alloc_size]; omega) | omega) _)))); have hC5 : Below W0.heap.size W0 w5 := below_step hC4 hb5; have hs5 := hC5.size; replace hR := (((((hR.below hb1 (by omega)).below hb2 (by omega)).below hb3 (by omega)).below hb4 (by omega)).below hb5 (by omega)); obtain ⟨⟨u0, u1, u2, u3⟩, ⟨u4, u5, u6, u7⟩, u8⟩ := hR.four))
  all_goals
    go_wp2
    have hfinal := rat_box (q := q + r) hn1 hn2 hR rfl (((((hbl.trans (hb1.mono (by omega))).trans (hb2.mono (by omega))).trans (hb3.mono (by omega))).trans (hb4.mono (by omega))).trans (hb5.mono (by omega))) (by omega)
    exact bodyPost_ret (v := .agg #[.bool (ngb (q + r).num), .slice A5 n5 c5, .bool (ngb ((q + r).den : Int)), .slice A6 n6 c6]) (by simp [results, Tryz.results100, go_sem, u0, u1, u2, u3]) rfl ⟨_, rfl, hfinal.1, hfinal.2⟩

set_option maxHeartbeats 1000000 in
theorem rq_whole (x : Int) (w : World) (h1 : -9223372036854775808 ≤ x) (h2 : x ≤ 9223372036854775807) :
    Calls Tryz.prog 59 #[.int .i64 x] w fun e w' => ∃ r, e = .returned r ∧ RatV w' r (x : Rat) ∧ Below w.heap.size w w' := by
  have hnum := Lib.hid (rat_one_den x)
  go_enter Tryz.func59, Tryz.ntmps59
  go_wp2_with fail
  obtain ⟨W0, hW0, hbl, hR, hsz⟩ := boxes1 w 77 #[.bool false, .slice none 0 0, .bool false, .slice none 0 0]
  rw [← hW0]
  clear hW0
  refine (rint_of x _ h1 h2).mono ?_
  rintro e w1 ⟨v1, rfl, ⟨A4, n4, c4, rfl, hn0⟩, hb1⟩
  have hs1 := hb1.size
  go_wp2_with fail
  refine (rint_of 1 _ (by omega) (by omega)).mono ?_
  rintro e w2 ⟨v1, rfl, ⟨A5, n5, c5, rfl, hn1⟩, hb2⟩
  have hs2 := hb2.size
  have hR2 := (hR.below hb1 (by omega)).below hb2 (by omega)
  obtain ⟨⟨u0, u1, u2, u3⟩, ⟨u4, u5, u6, u7⟩, u8⟩ := hR2.four
  go_wp2
  have hfinal := rat_box (q := (x : Rat)) (by rw [hnum.out.1]; exact hn0.below hb2) (by rw [hnum.out.2]; exact hn1) hR2 rfl (hbl.trans ((hb1.trans (hb2.mono hs1)).mono hbl.size)) (by omega)
  rw [hnum.out.1, hnum.out.2] at hfinal
  exact bodyPost_ret (v := .agg #[.bool (ngb x), .slice A4 n4 c4, .bool (ngb 1), .slice A5 n5 c5]) (by simp [results, Tryz.results59, go_sem, u0, u1, u2, u3]) rfl ⟨_, rfl, hfinal.1, hfinal.2⟩

end Go.Proofs.YtmkhfgggleplfaaGreat
namespace Go.Proofs.YtmkhfgggleplfaaGreat
open Go.RowKit

theorem RBd.neg {k : Nat} {q : Rat} (h : RBd k q) : RBd k (-q) := ⟨by rw [Rat.neg_num]; exact h.1.neg, by rw [Rat.neg_den]; exact h.2⟩

set_option maxHeartbeats 1000000 in
theorem rq_neg {a : Value} {q : Rat} {k : Nat} {w : World} (ha : RatV w a q) (bq : RBd k q) (hk : k ≤ 34359738368) :
    Calls Tryz.prog 101 #[a] w fun e w' => ∃ v, e = .returned v ∧ RatV w' v (-q) ∧ Below w.heap.size w w' := by
  obtain ⟨A, n, c, B, m, d, rfl, hqn, hqd⟩ := ha
  go_enter Tryz.func101, Tryz.ntmps101
  go_wp2_with fail
  obtain ⟨W0, hW0, hbl, hB2, hR, hsz⟩ := boxes2 w 77 77 #[.bool (ngb q.num), .slice A n c, .bool (ngb (q.den : Int)), .slice B m d] #[.bool false, .slice none 0 0, .bool false, .slice none 0 0]
  rw [← hW0]
  clear hW0
  replace hqn := hqn.below hbl
  replace hqd := hqd.below hbl
  have iqnum : IntV W0 (.agg #[.bool (ngb q.num), .slice A n c]) q.num := ⟨_, _, _, rfl, hqn⟩
  obtain ⟨⟨z0, z1, z2, z3⟩, -, -⟩ := hB2.four
  have hsz' : w.heap.size + 1 < W0.heap.size := by omega
  have bqn : Bd k q.num := bq.1
  clear hsz
  go_region_held3 (fun w' => w'.cell? ⟨w.heap.size, 0, none⟩ = some (.bool (ngb q.num)) ∧ w'.cell? ⟨w.heap.size, 1, none⟩ = some (.slice A n c) ∧ w'.cell? ⟨w.heap.size, 2, none⟩ = some (.bool (ngb (q.den : Int))) ∧ w'.cell? ⟨w.heap.size, 3, none⟩ = some (.slice B m d))
    (((try dsimp only); (repeat' apply And.intro); all_goals first | (refine keep_cell (W := W0) ?_ (by omega) (by assumption); ((repeat' (first | with_reducible exact Below.refl _ _ | with_reducible exact hC1 | with_reducible refine Below.drew ?_ | with_reducible refine Below.alloc ?_ (by first | exact Nat.le_refl _ | (simp only [heap_drew, alloc_size]; omega) | omega) _))); done) | (rw [cell_set4 (by omega)]; refine keep_cell (W := W0) ?_ (by omega) (by assumption); ((repeat' (first | with_reducible exact Below.refl _ _ | with_reducible exact hC1 | with_reducible refine Below.drew ?_ | with_reducible refine Below.alloc ?_ (by first | exact Nat.le_refl _ | (simp only [heap_drew, alloc_size]; omega) | omega) _))); done) | (go_keep; done)))
    (first
      | (go_at_call 103; refine (rint_neg (a := .agg #[.bool (ngb q.num), .slice A n c]) ?_ bqn (by omega)).mono ?_; (focus (refine IntV.below iqnum ?_; ((repeat' (first | with_reducible exact Below.refl _ _ | with_reducible refine Below.drew ?_ | with_reducible refine Below.alloc ?_ (by first | exact Nat.le_refl _ | (simp only [heap_drew, alloc_size]; omega) | omega) _))))); rintro e w1 ⟨v1, rfl, ⟨A5, n5, c5, rfl, hn1⟩, hb1⟩; have HB1 := fun g t cs (h : Blk _ g t cs) => h.below hb1 h.lt; replace hb1 : Below W0.heap.size W0 w1 := (by refine below_step ?_ hb1; ((repeat' (first | with_reducible exact Below.refl _ _ | with_reducible refine Below.drew ?_ | with_reducible refine Below.alloc ?_ (by first | exact Nat.le_refl _ | (simp only [heap_drew, alloc_size]; omega) | omega) _)))); have hC1 : Below W0.heap.size W0 w1 := hb1; have hs1 := hC1.size; replace hR := (hR.below hb1 (by omega)); obtain ⟨⟨u0, u1, u2, u3⟩, ⟨u4, u5, u6, u7⟩, u8⟩ := hR.four))
  all_goals
    go_wp2
    have hfinal := rat_box (q := -q) (by rw [Rat.neg_num]; exact hn1) (by rw [Rat.neg_den]; exact hqd.below hb1) hR rfl (hbl.trans (hb1.mono (by omega))) (by omega)
    rw [Rat.neg_num, Rat.neg_den] at hfinal
    exact bodyPost_ret (v := .agg #[.bool (ngb (-q.num)), .slice A5 n5 c5, .bool (ngb (q.den : Int)), .slice B m d]) (by simp [results, Tryz.results101, go_sem, u0, u1, u2, u3]) rfl ⟨_, rfl, hfinal.1, hfinal.2⟩

theorem rat_inv_eq (q : Rat) : Rat.divInt (q.den : Int) q.num = q⁻¹ := by
  conv => rhs; rw [← Rat.num_divInt_den q]
  rw [Rat.inv_divInt]
theorem RBd.inv {k : Nat} {q : Rat} (h : RBd k q) (h0 : q.num ≠ 0) : RBd k q⁻¹ := by
  rw [← rat_inv_eq]; exact RBd.divInt h.2 h.1 h0

set_option maxHeartbeats 1000000 in
theorem rq_invZ {a : Value} {q z : Rat} {k : Nat} {w : World} (ha : RatV w a q) (bq : RBd k q) (hk : k ≤ 34359738368) (h0 : q.num ≠ 0) (hval : Hid (Rat.divInt (q.den : Int) q.num = z)) :
    Calls Tryz.prog 62 #[a] w fun e w' => ∃ v, e = .returned (.tuple #[v, .int .i64 0]) ∧ RatV w' v z ∧ Below w.heap.size w w' := by
  obtain ⟨A, n, c, B, m, d, rfl, hqn, hqd⟩ := ha
  go_enter Tryz.func62, Tryz.ntmps62
  go_wp2_with fail
  obtain ⟨W0, hW0, hbl, hB2, hR, hsz⟩ := boxes2 w 77 77 #[.bool (ngb q.num), .slice A n c, .bool (ngb (q.den : Int)), .slice B m d] #[.bool false, .slice none 0 0, .bool false, .slice none 0 0]
  rw [← hW0]
  clear hW0
  have bqn : Bd k q.num := bq.1
  have bqd : Bd k (q.den : Int) := bq.2
  refine (rq_new (⟨_, _, _, rfl, hqd.below hbl⟩ : IntV W0 (.agg #[.bool (ngb (q.den : Int)), .slice B m d]) (q.den : Int)) (⟨_, _, _, rfl, hqn.below hbl⟩ : IntV W0 (.agg #[.bool (ngb q.num), .slice A n c]) q.num) bqd bqn (by omega) h0).mono ?_
  rw [hval.out]
  rintro e w1 ⟨v1, rfl, ⟨A5, n5, c5, A6, n6, c6, rfl, hn1, hn2⟩, hb1⟩
  have hs1 := hb1.size
  replace hR := hR.below hb1 (by omega)
  obtain ⟨⟨u0, u1, u2, u3⟩, ⟨u4, u5, u6, u7⟩, u8⟩ := hR.four
  go_wp2
  have hfinal := rat_box (q := z) hn1 hn2 hR rfl (hbl.trans (hb1.mono (by omega))) (by omega)
  exact bodyPost_ret (v := .tuple #[.agg #[.bool (ngb z.num), .slice A5 n5 c5, .bool (ngb (z.den : Int)), .slice A6 n6 c6], .int .i64 0]) (by simp [results, Tryz.results62, go_sem, u0, u1, u2, u3]) rfl ⟨_, rfl, hfinal.1, hfinal.2⟩
theorem rq_inv {a : Value} {q : Rat} {k : Nat} {w : World} (ha : RatV w a q) (bq : RBd k q) (hk : k ≤ 34359738368) (h0 : q.num ≠ 0) :
    Calls Tryz.prog 62 #[a] w fun e w' => ∃ v, e = .returned (.tuple #[v, .int .i64 0]) ∧ RatV w' v q⁻¹ ∧ Below w.heap.size w w' := rq_invZ ha bq hk h0 (Lib.hid (rat_inv_eq q))

theorem rat_sub_neg (q r : Rat) : q + -r = q - r := (Rat.sub_eq_add_neg q r).symm
set_option maxHeartbeats 2000000 in
theorem rq_sub {a b : Value} {q r : Rat} {k : Nat} {w : World} (ha : RatV w a q) (hb : RatV w b r) (bq : RBd k q) (br : RBd k r) (hk : k ≤ 34359738368) :
    Calls Tryz.prog 75 #[a, b] w fun e w' => ∃ v, e = .returned v ∧ RatV w' v (q - r) ∧ Below w.heap.size w w' := by
  obtain ⟨A, n, c, B, m, d, rfl, hqn, hqd⟩ := ha
  obtain ⟨A', n', c', B', m', d', rfl, hrn, hrd⟩ := hb
  have hval := Lib.hid (rat_sub_neg q r)
  go_enter Tryz.func75, Tryz.ntmps75
  go_wp2_with fail
  obtain ⟨W0, hW0, hbl, hB2, hB3, hR, hsz⟩ := boxes3 w 77 77 77 #[.bool (ngb q.num), .slice A n c, .bool (ngb (q.den : Int)), .slice B m d] #[.bool (ngb r.num), .slice A' n' c', .bool (ngb (r.den : Int)), .slice B' m' d'] #[.bool false, .slice none 0 0, .bool false, .slice none 0 0]
  rw [← hW0]
  clear hW0
  replace hqn := hqn.below hbl
  replace hqd := hqd.below hbl
  replace hrn := hrn.below hbl
  replace hrd := hrd.below hbl
  have iq : RatV W0 (.agg #[.bool (ngb q.num), .slice A n c, .bool (ngb (q.den : Int)), .slice B m d]) q := ⟨_, _, _, _, _, _, rfl, hqn, hqd⟩
  have ir : RatV W0 (.agg #[.bool (ngb r.num), .slice A' n' c', .bool (ngb (r.den : Int)), .slice B' m' d']) r := ⟨_, _, _, _, _, _, rfl, hrn, hrd⟩
  obtain ⟨⟨z0, z1, z2, z3⟩, -, -⟩ := hB2.four
  obtain ⟨⟨y0, y1, y2, y3⟩, -, -⟩ := hB3.four
  have hsz' : w.heap.size + 1 + 1 < W0.heap.size := by omega
  clear hsz
  go_region_held3 (fun w' => w'.cell? ⟨w.heap.size, 0, none⟩ = some (.bool (ngb q.num)) ∧ w'.cell? ⟨w.heap.size, 1, none⟩ = some (.slice A n c) ∧ w'.cell? ⟨w.heap.size, 2, none⟩ = some (.bool (ngb (q.den : Int))) ∧ w'.cell? ⟨w.heap.size, 3, none⟩ = some (.slice B m d) ∧ w'.cell? ⟨w.heap.size + 1, 0, none⟩ = some (.bool (ngb r.num)) ∧ w'.cell? ⟨w.heap.size + 1, 1, none⟩ = some (.slice A' n' c') ∧ w'.cell? ⟨w.heap.size + 1, 2, none⟩ = some (.bool (ngb (r.den : Int))) ∧ w'.cell? ⟨w.heap.size + 1, 3, none⟩ = some (.slice B' m' d'))
    (((try dsimp only); (repeat' apply And.intro); all_goals first | (refine keep_cell (W := W0) ?_ (by omega) (by assumption); ((repeat' (first | with_reducible exact Below.refl _ _ | with_reducible exact hC1 | with_reducible exact hC2 | with_reducible refine Below.drew ?_ | with_reducible refine Below.alloc ?_ (by first | exact Nat.le_refl _ | (simp only [heap_drew, alloc_size]; omega) | omega) _))); done) | (rw [cell_set4 (by omega)]; refine keep_cell (W := W0) ?_ (by omega) (by assumption); ((repeat' (first | with_reducible exact Below.refl _ _ | with_reducible exact hC1 | with_reducible exact hC2 | with_reducible refine Below.drew ?_ | with_reducible refine Below.alloc ?_ (by first | exact Nat.le_refl _ | (simp only [heap_drew, alloc_size]; omega) | omega) _))); done) | (go_keep; done)))
    (first
      | (go_at_call 101; refine (rq_neg (a := .agg #[.bool (ngb r.num), .slice A' n' c', .bool (ngb (r.den : Int)), .slice B' m' d']) ?_ br (by omega)).mono ?_; (focus (refine RatV.below ir ?_; ((repeat' (first | with_reducible exact Below.refl _ _ | with_reducible refine Below.drew ?_ | with_reducible refine Below.alloc ?_ (by first | exact Nat.le_refl _ | (simp only [heap_drew, alloc_size]; omega) | omega) _))))); rintro e w1 ⟨v1, rfl, hv1, hb1⟩; have HB1 := fun g t cs (h : Blk _ g t cs) => h.below hb1 h.lt; replace hb1 : Below W0.heap.size W0 w1 := (by refine below_step ?_ hb1; ((repeat' (first | with_reducible exact Below.refl _ _ | with_reducible refine Below.drew ?_ | with_reducible refine Below.alloc ?_ (by first | exact Nat.le_refl _ | (simp only [heap_drew, alloc_size]; omega) | omega) _)))); have hC1 : Below W0.heap.size W0 w1 := hb1; have hs1 := hC1.size)
      | (go_at_call 100; refine (rq_add (a := .agg #[.bool (ngb q.num), .slice A n c, .bool (ngb (q.den : Int)), .slice B m d]) ?_ hv1 bq br.neg (by omega)).mono ?_; (focus (refine RatV.below iq ?_; ((repeat' (first | with_reducible exact Below.refl _ _ | with_reducible exact hC1 | with_reducible refine Below.drew ?_ | with_reducible refine Below.alloc ?_ (by first | exact Nat.le_refl _ | (simp only [heap_drew, alloc_size]; omega) | omega) _))))); rw [hval.out]; rintro e w2 ⟨v2, rfl, ⟨A5, n5, c5, A6, n6, c6, rfl, hn1, hn2⟩, hb2⟩; have HB2 := fun g t cs (h : Blk _ g t cs) => h.below hb2 h.lt; replace hb2 : Below w1.heap.size w1 w2 := (by refine below_step ?_ hb2; ((repeat' (first | with_reducible exact Below.refl _ _ | with_reducible refine Below.drew ?_ | with_reducible refine Below.alloc ?_ (by first | exact Nat.le_refl _ | (simp only [heap_drew, alloc_size]; omega) | omega) _)))); have hC2 : Below W0.heap.size W0 w2 := below_step hC1 hb2; have hs2 := hC2.size; replace hR := ((hR.below hb1 (by omega)).below hb2 (by omega)); obtain ⟨⟨u0, u1, u2, u3⟩, ⟨u4, u5, u6, u7⟩, u8⟩ := hR.four))
  all_goals
    go_wp2
    have hfinal := rat_box (q := q - r) hn1 hn2 hR rfl ((hbl.trans (hb1.mono (by omega))).trans (hb2.mono (by omega))) (by omega)
    exact bodyPost_ret (v := .agg #[.bool (ngb (q - r).num), .slice A5 n5 c5, .bool (ngb ((q - r).den : Int)), .slice A6 n6 c6]) (by simp [results, Tryz.results75, go_sem, u0, u1, u2, u3]) rfl ⟨_, rfl, hfinal.1, hfinal.2⟩

end Go.Proofs.YtmkhfgggleplfaaGreat
