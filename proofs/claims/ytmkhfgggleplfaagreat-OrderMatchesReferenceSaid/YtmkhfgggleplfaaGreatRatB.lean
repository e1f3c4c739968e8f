/-
  The walks of the rationals' arithmetic: of, Whole, Sign, New, Mul, Sub, Add, Div. Conditions: fewer than 2^36 words.
-/
import Derived.Test.YtmkhfgggleplfaaGreatRatA
namespace Go.Proofs.YtmkhfgggleplfaaGreat
set_option linter.unusedSimpArgs false
set_option linter.unusedVariables false
open Go.RowKit

theorem below_step {W P w1 : World} (h : Below W.heap.size W P) (k : Below P.heap.size P w1) : Below W.heap.size W w1 := h.trans (k.mono h.size)
theorem keep_cell {W X : World} {b o : Nat} {v : Value} (hb : Below W.heap.size W X) (hlt : b < W.heap.size) (h : W.cell? ⟨b, o, none⟩ = some v) : X.cell? ⟨b, o, none⟩ = some v := (hb.cell (p := ⟨b, o, none⟩) hlt).trans h
theorem ngb_den (q : Rat) : ngb (q.den : Int) = false := by unfold ngb; simp
theorem rat_sign {a : Value} {q : Rat} {w : World} (ha : RatV w a q) :
    Calls Tryz.prog 54 #[a] w fun e w' => e = .returned (.int .i64 (cmpI q.num 0)) ∧ Below w.heap.size w w' := by
  obtain ⟨A, n, c, B, m, d, rfl, hx, hy⟩ := ha
  go_enter Tryz.func54, Tryz.ntmps54
  go_wp2_with fail
  obtain ⟨W0, hW0, hbl, hB2, hsz⟩ := boxes1 w 77 #[.bool (ngb q.num), .slice A n c, .bool (ngb (q.den : Int)), .slice B m d]
  rw [← hW0]
  refine (int_sign (⟨_, _, _, rfl, hx.below hbl⟩ : IntV W0 (.agg #[.bool (ngb q.num), .slice A n c]) q.num)).mono ?_
  rintro e w1 ⟨rfl, hb1⟩
  go_wp2
  go_ret
  exact ⟨rfl, hbl.trans (hb1.mono hbl.size)⟩

theorem rat_mul_eq (q r : Rat) : Rat.divInt (q.num * r.num) ((q.den : Int) * (r.den : Int)) = q * r := by
  rw [← Rat.divInt_mul_divInt, Rat.num_divInt_den, Rat.num_divInt_den]
theorem rat_sub_eq (q r : Rat) : Rat.divInt (q.num * (r.den : Int) - r.num * (q.den : Int)) ((q.den : Int) * (r.den : Int)) = q - r := by
  rw [← Rat.divInt_sub_divInt _ _ (by have := q.den_nz; omega) (by have := r.den_nz; omega), Rat.num_divInt_den, Rat.num_divInt_den]
theorem rat_add_eq (q r : Rat) : Rat.divInt (q.num * (r.den : Int) + r.num * (q.den : Int)) ((q.den : Int) * (r.den : Int)) = q + r := by
  rw [← Rat.divInt_add_divInt _ _ (by have := q.den_nz; omega) (by have := r.den_nz; omega), Rat.num_divInt_den, Rat.num_divInt_den]
theorem rat_div_eq (q r : Rat) : Rat.divInt (q.num * (r.den : Int)) ((q.den : Int) * r.num) = q / r := by
  rw [← Rat.divInt_mul_divInt, Rat.num_divInt_den, Rat.div_def]
  congr 1
  conv => rhs; rw [← Rat.num_divInt_den r]
  rw [Rat.inv_divInt]
theorem RBd.mul {k : Nat} {q r : Rat} (hq : RBd k q) (hr : RBd k r) : RBd (k + k) (q * r) := by
  rw [← rat_mul_eq]
  exact RBd.divInt (hq.1.mul hr.1) (hq.2.mul hr.2) (Int.mul_ne_zero (by have := q.den_nz; omega) (by have := r.den_nz; omega))
theorem RBd.sub {k : Nat} {q r : Rat} (hq : RBd k q) (hr : RBd k r) : RBd (k + k + 1) (q - r) := by
  rw [← rat_sub_eq]
  exact RBd.divInt ((hq.1.mul hr.2).sub (hr.1.mul hq.2)) ((hq.2.mul hr.2).mono (by omega)) (Int.mul_ne_zero (by have := q.den_nz; omega) (by have := r.den_nz; omega))
theorem RBd.add {k : Nat} {q r : Rat} (hq : RBd k q) (hr : RBd k r) : RBd (k + k + 1) (q + r) := by
  rw [← rat_add_eq]
  exact RBd.divInt ((hq.1.mul hr.2).add (hr.1.mul hq.2)) ((hq.2.mul hr.2).mono (by omega)) (Int.mul_ne_zero (by have := q.den_nz; omega) (by have := r.den_nz; omega))
theorem RBd.div {k : Nat} {q r : Rat} (hq : RBd k q) (hr : RBd k r) (h0 : r.num ≠ 0) : RBd (k + k) (q / r) := by
  rw [← rat_div_eq]
  exact RBd.divInt (hq.1.mul hr.2) (hq.2.mul hr.1) (Int.mul_ne_zero (by have := q.den_nz; omega) h0)

set_option maxHeartbeats 4000000 in
theorem rat_mul {a b : Value} {q r : Rat} {k : Nat} {w : World} (ha : RatV w a q) (hb : RatV w b r) (bq : RBd k q) (br : RBd k r) (hk : k ≤ 34359738368) :
    Calls Tryz.prog 58 #[a, b] w fun e w' => ∃ v, e = .returned v ∧ RatV w' v (q * r) ∧ Below w.heap.size w w' := by
  obtain ⟨A, n, c, B, m, d, rfl, hqn, hqd⟩ := ha
  obtain ⟨A', n', c', B', m', d', rfl, hrn, hrd⟩ := hb
  have hden : (q.den : Int) * (r.den : Int) ≠ 0 := Int.mul_ne_zero (by have := q.den_nz; omega) (by have := r.den_nz; omega)
  have hval := Lib.hid (rat_mul_eq q r)
  go_enter Tryz.func58, Tryz.ntmps58
  go_wp2_with fail
  obtain ⟨W0, hW0, hbl, hB2, hB3, hR, hsz⟩ := boxes3 w 77 77 77 #[.bool (ngb q.num), .slice A n c, .bool (ngb (q.den : Int)), .slice B m d] #[.bool (ngb r.num), .slice A' n' c', .bool (ngb (r.den : Int)), .slice B' m' d'] #[.bool false, .slice none 0 0, .bool false, .slice none 0 0]
  rw [← hW0]
  clear hW0
  have hqn := hqn.below hbl
  have hqd := hqd.below hbl
  have hrn := hrn.below hbl
  have hrd := hrd.below hbl
  obtain ⟨⟨z0, z1, z2, z3⟩, -, -⟩ := hB2.four
  obtain ⟨⟨y0, y1, y2, y3⟩, -, -⟩ := hB3.four
  have hsz' : w.heap.size + 1 + 1 < W0.heap.size := by omega
  clear hsz
  go_region_held3 (fun w' => w'.cell? ⟨w.heap.size, 0, none⟩ = some (.bool (ngb q.num)) ∧ w'.cell? ⟨w.heap.size, 1, none⟩ = some (.slice A n c) ∧ w'.cell? ⟨w.heap.size, 2, none⟩ = some (.bool (ngb (q.den : Int))) ∧ w'.cell? ⟨w.heap.size, 3, none⟩ = some (.slice B m d) ∧ w'.cell? ⟨w.heap.size + 1, 0, none⟩ = some (.bool (ngb r.num)) ∧ w'.cell? ⟨w.heap.size + 1, 1, none⟩ = some (.slice A' n' c') ∧ w'.cell? ⟨w.heap.size + 1, 2, none⟩ = some (.bool (ngb (r.den : Int))) ∧ w'.cell? ⟨w.heap.size + 1, 3, none⟩ = some (.slice B' m' d'))
    (((try dsimp only); (repeat' apply And.intro); all_goals first | (refine keep_cell (W := W0) ?_ (by omega) (by assumption); ((repeat' (first | with_reducible exact Below.refl _ _ | with_reducible exact hC1 | with_reducible exact hC2 | with_reducible exact hC3 | with_reducible refine Below.drew ?_ | with_reducible refine Below.alloc ?_ (by first | exact Nat.le_refl _ | (simp only [heap_drew, alloc_size]; omega) | omega) _))); done) | (rw [cell_set4 (by omega)]; refine keep_cell (W := W0) ?_ (by omega) (by assumption); ((repeat' (first | with_reducible exact Below.refl _ _ | with_reducible exact hC1 | with_reducible exact hC2 | with_reducible exact hC3 | with_reducible refine Below.drew ?_ | with_reducible refine Below.alloc ?_ (by first | exact Nat.le_refl _ | (simp only [heap_drew, alloc_size]; omega) | omega) _))); done) | (go_keep; done)))
    (first
      | (go_at_call 71; refine (product2 (x := q.num) (y := r.num) (A := A) (n := n) (c := c) (A' := A') (n' := n') (c' := c') ?_ ?_ ?_ bq.1 br.1 (by omega)).mono ?_; (focus (((repeat' (first | (with_reducible exact Blk.newAt _ _ (by simp)) | with_reducible refine Blk.drew ?_ | with_reducible refine Blk.alloc ?_ _ ))))); (focus (refine NatV.below hqn ?_; ((repeat' (first | with_reducible exact Below.refl _ _ | with_reducible refine Below.drew ?_ | with_reducible refine Below.alloc ?_ (by first | exact Nat.le_refl _ | (simp only [heap_drew, alloc_size]; omega) | omega) _))))); (focus (refine NatV.below hrn ?_; ((repeat' (first | with_reducible exact Below.refl _ _ | with_reducible refine Below.drew ?_ | with_reducible refine Below.alloc ?_ (by first | exact Nat.le_refl _ | (simp only [heap_drew, alloc_size]; omega) | omega) _))))); rintro e w1 ⟨v1, rfl, hv1, hb1⟩; have HB1 := fun g t cs (h : Blk _ g t cs) => h.below hb1 h.lt; replace hb1 : Below W0.heap.size W0 w1 := (by refine below_step ?_ hb1; ((repeat' (first | with_reducible exact Below.refl _ _ | with_reducible refine Below.drew ?_ | with_reducible refine Below.alloc ?_ (by first | exact Nat.le_refl _ | (simp only [heap_drew, alloc_size]; omega) | omega) _)))); have hC1 : Below W0.heap.size W0 w1 := hb1; have hs1 := hC1.size)
      | (go_at_call 71; refine (product2 (x := (q.den : Int)) (y := (r.den : Int)) (A := B) (n := m) (c := d) (A' := B') (n' := m') (c' := d') ?_ ?_ ?_ bq.2 br.2 (by omega)).mono ?_; (focus (((repeat' (first | (with_reducible exact Blk.newAt _ _ (by simp)) | with_reducible refine Blk.drew ?_ | with_reducible refine Blk.alloc ?_ _ | with_reducible refine HB1 _ _ _ ?_ ))))); (focus (refine NatV.below hqd ?_; ((repeat' (first | with_reducible exact Below.refl _ _ | with_reducible exact hC1 | with_reducible refine Below.drew ?_ | with_reducible refine Below.alloc ?_ (by first | exact Nat.le_refl _ | (simp only [heap_drew, alloc_size]; omega) | omega) _))))); (focus (refine NatV.below hrd ?_; ((repeat' (first | with_reducible exact Below.refl _ _ | with_reducible exact hC1 | with_reducible refine Below.drew ?_ | with_reducible refine Below.alloc ?_ (by first | exact Nat.le_refl _ | (simp only [heap_drew, alloc_size]; omega) | omega) _))))); rintro e w2 ⟨v2, rfl, hv2, hb2⟩; have HB2 := fun g t cs (h : Blk _ g t cs) => h.below hb2 h.lt; replace hb2 : Below w1.heap.size w1 w2 := (by refine below_step ?_ hb2; ((repeat' (first | with_reducible exact Below.refl _ _ | with_reducible refine Below.drew ?_ | with_reducible refine Below.alloc ?_ (by first | exact Nat.le_refl _ | (simp only [heap_drew, alloc_size]; omega) | omega) _)))); have hC2 : Below W0.heap.size W0 w2 := below_step hC1 hb2; have hs2 := hC2.size)
      | (go_at_call 72; refine (rat_lowest (hv1.below hb2) hv2 (bq.1.mul br.1) (bq.2.mul br.2) (by omega) hden).mono ?_; rw [hval.out]; rintro e w3 ⟨v3, rfl, ⟨A5, n5, c5, A6, n6, c6, rfl, hn1, hn2⟩, hb3⟩; have HB3 := fun g t cs (h : Blk _ g t cs) => h.below hb3 h.lt; replace hb3 : Below w2.heap.size w2 w3 := (by refine below_step ?_ hb3; ((repeat' (first | with_reducible exact Below.refl _ _ | with_reducible refine Below.drew ?_ | with_reducible refine Below.alloc ?_ (by first | exact Nat.le_refl _ | (simp only [heap_drew, alloc_size]; omega) | omega) _)))); have hC3 : Below W0.heap.size W0 w3 := below_step hC2 hb3; have hs3 := hC3.size; replace hR := (((hR.below hb1 (by omega)).below hb2 (by omega)).below hb3 (by omega)); obtain ⟨⟨u0, u1, u2, u3⟩, ⟨u4, u5, u6, u7⟩, u8⟩ := hR.four))
  all_goals
    go_wp2
    have hfinal := rat_box (q := q * r) hn1 hn2 hR rfl (((hbl.trans (hb1.mono (by omega))).trans (hb2.mono (by omega))).trans (hb3.mono (by omega))) (by omega)
    exact bodyPost_ret (v := .agg #[.bool (ngb (q * r).num), .slice A5 n5 c5, .bool (ngb ((q * r).den : Int)), .slice A6 n6 c6]) (by simp [results, Tryz.results58, go_sem, u0, u1, u2, u3]) rfl ⟨_, rfl, hfinal.1, hfinal.2⟩

set_option maxHeartbeats 4000000 in
theorem rat_sub {a b : Value} {q r : Rat} {k : Nat} {w : World} (ha : RatV w a q) (hb : RatV w b r) (bq : RBd k q) (br : RBd k r) (hk : k ≤ 34359738368) :
    Calls Tryz.prog 57 #[a, b] w fun e w' => ∃ v, e = .returned v ∧ RatV w' v (q - r) ∧ Below w.heap.size w w' := by
  obtain ⟨A, n, c, B, m, d, rfl, hqn, hqd⟩ := ha
  obtain ⟨A', n', c', B', m', d', rfl, hrn, hrd⟩ := hb
  have hden : (q.den : Int) * (r.den : Int) ≠ 0 := Int.mul_ne_zero (by have := q.den_nz; omega) (by have := r.den_nz; omega)
  have hval := Lib.hid (rat_sub_eq q r)
  go_enter Tryz.func57, Tryz.ntmps57
  go_wp2_with fail
  obtain ⟨W0, hW0, hbl, hB2, hB3, hR, hsz⟩ := boxes3 w 77 77 77 #[.bool (ngb q.num), .slice A n c, .bool (ngb (q.den : Int)), .slice B m d] #[.bool (ngb r.num), .slice A' n' c', .bool (ngb (r.den : Int)), .slice B' m' d'] #[.bool false, .slice none 0 0, .bool false, .slice none 0 0]
  rw [← hW0]
  clear hW0
  have hqn := hqn.below hbl
  have hqd := hqd.below hbl
  have hrn := hrn.below hbl
  have hrd := hrd.below hbl
  obtain ⟨⟨z0, z1, z2, z3⟩, -, -⟩ := hB2.four
  obtain ⟨⟨y0, y1, y2, y3⟩, -, -⟩ := hB3.four
  have hsz' : w.heap.size + 1 + 1 < W0.heap.size := by omega
  clear hsz
  go_region_held3 (fun w' => w'.cell? ⟨w.heap.size, 0, none⟩ = some (.bool (ngb q.num)) ∧ w'.cell? ⟨w.heap.size, 1, none⟩ = some (.slice A n c) ∧ w'.cell? ⟨w.heap.size, 2, none⟩ = some (.bool (ngb (q.den : Int))) ∧ w'.cell? ⟨w.heap.size, 3, none⟩ = some (.slice B m d) ∧ w'.cell? ⟨w.heap.size + 1, 0, none⟩ = some (.bool (ngb r.num)) ∧ w'.cell? ⟨w.heap.size + 1, 1, none⟩ = some (.slice A' n' c') ∧ w'.cell? ⟨w.heap.size + 1, 2, none⟩ = some (.bool (ngb (r.den : Int))) ∧ w'.cell? ⟨w.heap.size + 1, 3, none⟩ = some (.slice B' m' d'))
    (((try dsimp only); (repeat' apply And.intro); all_goals first | (refine keep_cell (W := W0) ?_ (by omega) (by assumption); ((repeat' (first | with_reducible exact Below.refl _ _ | with_reducible exact hC1 | with_reducible exact hC2 | with_reducible exact hC3 | with_reducible exact hC4 | with_reducible exact hC5 | with_reducible refine Below.drew ?_ | with_reducible refine Below.alloc ?_ (by first | exact Nat.le_refl _ | (simp only [heap_drew, alloc_size]; omega) | omega) _))); done) | (rw [cell_set4 (by omega)]; refine keep_cell (W := W0) ?_ (by omega) (by assumption); ((repeat' (first | with_reducible exact Below.refl _ _ | with_reducible exact hC1 | with_reducible exact hC2 | with_reducible exact hC3 | with_reducible exact hC4 | with_reducible exact hC5 | with_reducible refine Below.drew ?_ | with_reducible refine Below.alloc ?_ (by first | exact Nat.le_refl _ | (simp only [heap_drew, alloc_size]; omega) | omega) _))); done) | (go_keep; done)))
    (first
      | (go_at_call 71; refine (product2 (x := q.num) (y := (r.den : Int)) (A := A) (n := n) (c := c) (A' := B') (n' := m') (c' := d') ?_ ?_ ?_ bq.1 br.2 (by omega)).mono ?_; (focus (((repeat' (first | (with_reducible exact Blk.newAt _ _ (by simp)) | with_reducible refine Blk.drew ?_ | with_reducible refine Blk.alloc ?_ _ ))))); (focus (refine NatV.below hqn ?_; ((repeat' (first | with_reducible exact Below.refl _ _ | with_reducible refine Below.drew ?_ | with_reducible refine Below.alloc ?_ (by first | exact Nat.le_refl _ | (simp only [heap_drew, alloc_size]; omega) | omega) _))))); (focus (refine NatV.below hrd ?_; ((repeat' (first | with_reducible exact Below.refl _ _ | with_reducible refine Below.drew ?_ | with_reducible refine Below.alloc ?_ (by first | exact Nat.le_refl _ | (simp only [heap_drew, alloc_size]; omega) | omega) _))))); rintro e w1 ⟨v1, rfl, hv1, hb1⟩; have HB1 := fun g t cs (h : Blk _ g t cs) => h.below hb1 h.lt; replace hb1 : Below W0.heap.size W0 w1 := (by refine below_step ?_ hb1; ((repeat' (first | with_reducible exact Below.refl _ _ | with_reducible refine Below.drew ?_ | with_reducible refine Below.alloc ?_ (by first | exact Nat.le_refl _ | (simp only [heap_drew, alloc_size]; omega) | omega) _)))); have hC1 : Below W0.heap.size W0 w1 := hb1; have hs1 := hC1.size)
      | (go_at_call 71; refine (product2 (x := r.num) (y := (q.den : Int)) (A := A') (n := n') (c := c') (A' := B) (n' := m) (c' := d) ?_ ?_ ?_ br.1 bq.2 (by omega)).mono ?_; (focus (((repeat' (first | (with_reducible exact Blk.newAt _ _ (by simp)) | with_reducible refine Blk.drew ?_ | with_reducible refine Blk.alloc ?_ _ | with_reducible refine HB1 _ _ _ ?_ ))))); (focus (refine NatV.below hrn ?_; ((repeat' (first | with_reducible exact Below.refl _ _ | with_reducible exact hC1 | with_reducible refine Below.drew ?_ | with_reducible refine Below.alloc ?_ (by first | exact Nat.le_refl _ | (simp only [heap_drew, alloc_size]; omega) | omega) _))))); (focus (refine NatV.below hqd ?_; ((repeat' (first | with_reducible exact Below.refl _ _ | with_reducible exact hC1 | with_reducible refine Below.drew ?_ | with_reducible refine Below.alloc ?_ (by first | exact Nat.le_refl _ | (simp only [heap_drew, alloc_size]; omega) | omega) _))))); rintro e w2 ⟨v2, rfl, hv2, hb2⟩; have HB2 := fun g t cs (h : Blk _ g t cs) => h.below hb2 h.lt; replace hb2 : Below w1.heap.size w1 w2 := (by refine below_step ?_ hb2; ((repeat' (first | with_reducible exact Below.refl _ _ | with_reducible refine Below.drew ?_ | with_reducible refine Below.alloc ?_ (by first | exact Nat.le_refl _ | (simp only [heap_drew, alloc_size]; omega) | omega) _)))); have hC2 : Below W0.heap.size W0 w2 := below_step hC1 hb2; have hs2 := hC2.size)
      | (go_at_call 73; refine (int_sub ?_ ?_ (bq.1.mul br.2) (br.1.mul bq.2) (by omega)).mono ?_; (focus (refine IntV.below (hv1.below hb2) ?_; ((repeat' (first | with_reducible exact Below.refl _ _ | with_reducible refine Below.drew ?_ | with_reducible refine Below.alloc ?_ (by first | exact Nat.le_refl _ | (simp only [heap_drew, alloc_size]; omega) | omega) _))))); (focus (refine IntV.below hv2 ?_; ((repeat' (first | with_reducible exact Below.refl _ _ | with_reducible refine Below.drew ?_ | with_reducible refine Below.alloc ?_ (by first | exact Nat.le_refl _ | (simp only [heap_drew, alloc_size]; omega) | omega) _))))); rintro e w3 ⟨v3, rfl, hv3, hb3⟩; have HB3 := fun g t cs (h : Blk _ g t cs) => h.below hb3 h.lt; replace hb3 : Below w2.heap.size w2 w3 := (by refine below_step ?_ hb3; ((repeat' (first | with_reducible exact Below.refl _ _ | with_reducible refine Below.drew ?_ | with_reducible refine Below.alloc ?_ (by first | exact Nat.le_refl _ | (simp only [heap_drew, alloc_size]; omega) | omega) _)))); have hC3 : Below W0.heap.size W0 w3 := below_step hC2 hb3; have hs3 := hC3.size)
      | (go_at_call 71; refine (product2 (x := (q.den : Int)) (y := (r.den : Int)) (A := B) (n := m) (c := d) (A' := B') (n' := m') (c' := d') ?_ ?_ ?_ bq.2 br.2 (by omega)).mono ?_; (focus (((repeat' (first | (with_reducible exact Blk.newAt _ _ (by simp)) | with_reducible refine Blk.drew ?_ | with_reducible refine Blk.alloc ?_ _ | with_reducible refine HB3 _ _ _ ?_ | with_reducible refine HB2 _ _ _ ?_ | with_reducible refine HB1 _ _ _ ?_ ))))); (focus (refine NatV.below hqd ?_; ((repeat' (first | with_reducible exact Below.refl _ _ | with_reducible exact hC1 | with_reducible exact hC2 | with_reducible exact hC3 | with_reducible refine Below.drew ?_ | with_reducible refine Below.alloc ?_ (by first | exact Nat.le_refl _ | (simp only [heap_drew, alloc_size]; omega) | omega) _))))); (focus (refine NatV.below hrd ?_; ((repeat' (first | with_reducible exact Below.refl _ _ | with_reducible exact hC1 | with_reducible exact hC2 | with_reducible exact hC3 | with_reducible refine Below.drew ?_ | with_reducible refine Below.alloc ?_ (by first | exact Nat.le_refl _ | (simp only [heap_drew, alloc_size]; omega) | omega) _))))); rintro e w4 ⟨v4, rfl, hv4, hb4⟩; have HB4 := fun g t cs (h : Blk _ g t cs) => h.below hb4 h.lt; replace hb4 : Below w3.heap.size w3 w4 := (by refine below_step ?_ hb4; ((repeat' (first | with_reducible exact Below.refl _ _ | with_reducible refine Below.drew ?_ | with_reducible refine Below.alloc ?_ (by first | exact Nat.le_refl _ | (simp only [heap_drew, alloc_size]; omega) | omega) _)))); have hC4 : Below W0.heap.size W0 w4 := below_step hC3 hb4; have hs4 := hC4.size)
      | (go_at_call 72; refine (rat_lowest (hv3.below hb4) hv4 ((bq.1.mul br.2).sub (br.1.mul bq.2)) ((bq.2.mul br.2).mono (by omega)) (by omega) hden).mono ?_; rw [hval.out]; rintro e w5 ⟨v5, rfl, ⟨A5, n5, c5, A6, n6, c6, rfl, hn1, hn2⟩, hb5⟩; have HB5 := fun g t cs (h : Blk _ g t cs) => h.below hb5 h.lt; replace hb5 : Below w4.heap.size w4 w5 := (by refine below_step ?_ hb5; ((repeat' (first | with_reducible exact Below.refl _ _ | with_reducible refine Below.drew ?_ | with_reducible refine Below.alloc ?_ (by first | exact Nat.le_refl _ | (simp only [heap_drew, alloc_size]; omega) | omega) _)))); have hC5 : Below W0.heap.size W0 w5 := below_step hC4 hb5; have hs5 := hC5.size; replace hR := (((((hR.below hb1 (by omega)).below hb2 (by omega)).below hb3 (by omega)).below hb4 (by omega)).below hb5 (by omega)); obtain ⟨⟨u0, u1, u2, u3⟩, ⟨u4, u5, u6, u7⟩, u8⟩ := hR.four))
  all_goals
    go_wp2
    have hfinal := rat_box (q := q - r) hn1 hn2 hR rfl (((((hbl.trans (hb1.mono (by omega))).trans (hb2.mono (by omega))).trans (hb3.mono (by omega))).trans (hb4.mono (by omega))).trans (hb5.mono (by omega))) (by omega)
    exact bodyPost_ret (v := .agg #[.bool (ngb (q - r).num), .slice A5 n5 c5, .bool (ngb ((q - r).den : Int)), .slice A6 n6 c6]) (by simp [results, Tryz.results57, go_sem, u0, u1, u2, u3]) rfl ⟨_, rfl, hfinal.1, hfinal.2⟩

set_option maxHeartbeats 1000000 in
theorem rat_new {a b : Value} {x y : Int} {k : Nat} {w : World} (ha : IntV w a x) (hb : IntV w b y) (bx : Bd k x) (bY : Bd k y) (hk : k ≤ 549755813880) (hy0 : y ≠ 0) :
    Calls Tryz.prog 70 #[a, b] w fun e w' => ∃ r, e = .returned (.tuple #[r, .int .i64 0]) ∧ RatV w' r (Rat.divInt x y) ∧ Below w.heap.size w w' := by
  obtain ⟨A, n, c, rfl, hx⟩ := ha
  obtain ⟨A', n', c', rfl, hy⟩ := hb
  have hs0 : (cmpI y 0 == 0) = false := by
    rw [beq_eq_false_iff_ne]
    unfold cmpI
    split
    · omega
    · rw [if_pos (by omega)]; omega
  go_enter Tryz.func70, Tryz.ntmps70
  go_wp2_with fail
  obtain ⟨W0, hW0, hbl, hB2, hB3, hR, hsz⟩ := boxes3 w 75 75 77 #[.bool (ngb x), .slice A n c] #[.bool (ngb y), .slice A' n' c'] #[.bool false, .slice none 0 0, .bool false, .slice none 0 0]
  rw [← hW0]
  clear hW0
  have hsz' : w.heap.size + 1 + 1 < W0.heap.size := by omega
  clear hsz
  refine (int_sign (⟨_, _, _, rfl, hy.below hbl⟩ : IntV W0 (.agg #[.bool (ngb y), _]) y)).mono ?_
  rintro e w1 ⟨rfl, hb1⟩
  have hs1 := hb1.size
  have hbl1 := hbl.trans (hb1.mono hbl.size)
  obtain ⟨z0, z1, -, -, z4⟩ := (hB2.below hb1 (by omega)).two
  obtain ⟨y0, y1, -, -, y4⟩ := (hB3.below hb1 (by omega)).two
  have hR1 := hR.below hb1 (by omega)
  go_wp2_with fail
  refine (rat_lowest (⟨_, _, _, rfl, hx.below hbl1⟩ : IntV w1 (.agg #[.bool (ngb x), _]) x) (⟨_, _, _, rfl, hy.below hbl1⟩ : IntV w1 (.agg #[.bool (ngb y), _]) y) bx bY hk hy0).mono ?_
  rintro e w2 ⟨v3, rfl, ⟨A5, n5, c5, A6, n6, c6, rfl, hn1, hn2⟩, hb2⟩
  have hs2 := hb2.size
  have hR2 := hR1.below hb2 hR1.lt
  obtain ⟨⟨u0, u1, u2, u3⟩, ⟨u4, u5, u6, u7⟩, u8⟩ := hR2.four
  go_wp2
  have hfinal := rat_box (q := Rat.divInt x y) hn1 hn2 hR2 rfl (hbl1.trans (hb2.mono hbl1.size)) (by omega)
  exact bodyPost_ret (v := .tuple #[.agg #[.bool (ngb (Rat.divInt x y).num), .slice A5 n5 c5, .bool (ngb ((Rat.divInt x y).den : Int)), .slice A6 n6 c6], .int .i64 0]) (by simp [results, Tryz.results70, go_sem, u0, u1, u2, u3]) rfl ⟨_, rfl, hfinal.1, hfinal.2⟩

set_option maxHeartbeats 4000000 in
theorem rat_div {a b : Value} {q r : Rat} {k : Nat} {w : World} (ha : RatV w a q) (hb : RatV w b r) (bq : RBd k q) (br : RBd k r) (hk : k ≤ 34359738368) (h0 : r.num ≠ 0) :
    Calls Tryz.prog 56 #[a, b] w fun e w' => ∃ v, e = .returned (.tuple #[v, .int .i64 0]) ∧ RatV w' v (q / r) ∧ Below w.heap.size w w' := by
  obtain ⟨A, n, c, B, m, d, rfl, hqn, hqd⟩ := ha
  obtain ⟨A', n', c', B', m', d', rfl, hrn, hrd⟩ := hb
  have hden : (q.den : Int) * r.num ≠ 0 := Int.mul_ne_zero (by have := q.den_nz; omega) h0
  have hval := Lib.hid (rat_div_eq q r)
  go_enter Tryz.func56, Tryz.ntmps56
  go_wp2_with fail
  obtain ⟨W0, hW0, hbl, hB2, hB3, hR, hsz⟩ := boxes3 w 77 77 77 #[.bool (ngb q.num), .slice A n c, .bool (ngb (q.den : Int)), .slice B m d] #[.bool (ngb r.num), .slice A' n' c', .bool (ngb (r.den : Int)), .slice B' m' d'] #[.bool false, .slice none 0 0, .bool false, .slice none 0 0]
  rw [← hW0]
  clear hW0
  have hqn := hqn.below hbl
  have hqd := hqd.below hbl
  have hrn := hrn.below hbl
  have hrd := hrd.below hbl
  obtain ⟨⟨z0, z1, z2, z3⟩, -, -⟩ := hB2.four
  obtain ⟨⟨y0, y1, y2, y3⟩, -, -⟩ := hB3.four
  have hsz' : w.heap.size + 1 + 1 < W0.heap.size := by omega
  clear hsz
  go_region_held3 (fun w' => w'.cell? ⟨w.heap.size, 0, none⟩ = some (.bool (ngb q.num)) ∧ w'.cell? ⟨w.heap.size, 1, none⟩ = some (.slice A n c) ∧ w'.cell? ⟨w.heap.size, 2, none⟩ = some (.bool (ngb (q.den : Int))) ∧ w'.cell? ⟨w.heap.size, 3, none⟩ = some (.slice B m d) ∧ w'.cell? ⟨w.heap.size + 1, 0, none⟩ = some (.bool (ngb r.num)) ∧ w'.cell? ⟨w.heap.size + 1, 1, none⟩ = some (.slice A' n' c') ∧ w'.cell? ⟨w.heap.size + 1, 2, none⟩ = some (.bool (ngb (r.den : Int))) ∧ w'.cell? ⟨w.heap.size + 1, 3, none⟩ = some (.slice B' m' d'))
    (((try dsimp only); (repeat' apply And.intro); all_goals first | (refine keep_cell (W := W0) ?_ (by omega) (by assumption); ((repeat' (first | with_reducible exact Below.refl _ _ | with_reducible exact hC1 | with_reducible exact hC2 | with_reducible exact hC3 | with_reducible refine Below.drew ?_ | with_reducible refine Below.alloc ?_ (by first | exact Nat.le_refl _ | (simp only [heap_drew, alloc_size]; omega) | omega) _))); done) | (rw [cell_set4 (by omega)]; refine keep_cell (W := W0) ?_ (by omega) (by assumption); ((repeat' (first | with_reducible exact Below.refl _ _ | with_reducible exact hC1 | with_reducible exact hC2 | with_reducible exact hC3 | with_reducible refine Below.drew ?_ | with_reducible refine Below.alloc ?_ (by first | exact Nat.le_refl _ | (simp only [heap_drew, alloc_size]; omega) | omega) _))); done) | (go_keep; done)))
    (first
      | (go_at_call 71; refine (product2 (x := q.num) (y := (r.den : Int)) (A := A) (n := n) (c := c) (A' := B') (n' := m') (c' := d') ?_ ?_ ?_ bq.1 br.2 (by omega)).mono ?_; (focus (((repeat' (first | (with_reducible exact Blk.newAt _ _ (by simp)) | with_reducible refine Blk.drew ?_ | with_reducible refine Blk.alloc ?_ _ ))))); (focus (refine NatV.below hqn ?_; ((repeat' (first | with_reducible exact Below.refl _ _ | with_reducible refine Below.drew ?_ | with_reducible refine Below.alloc ?_ (by first | exact Nat.le_refl _ | (simp only [heap_drew, alloc_size]; omega) | omega) _))))); (focus (refine NatV.below hrd ?_; ((repeat' (first | with_reducible exact Below.refl _ _ | with_reducible refine Below.drew ?_ | with_reducible refine Below.alloc ?_ (by first | exact Nat.le_refl _ | (simp only [heap_drew, alloc_size]; omega) | omega) _))))); rintro e w1 ⟨v1, rfl, hv1, hb1⟩; have HB1 := fun g t cs (h : Blk _ g t cs) => h.below hb1 h.lt; replace hb1 : Below W0.heap.size W0 w1 := (by refine below_step ?_ hb1; ((repeat' (first | with_reducible exact Below.refl _ _ | with_reducible refine Below.drew ?_ | with_reducible refine Below.alloc ?_ (by first | exact Nat.le_refl _ | (simp only [heap_drew, alloc_size]; omega) | omega) _)))); have hC1 : Below W0.heap.size W0 w1 := hb1; have hs1 := hC1.size)
      | (go_at_call 71; refine (product2 (x := (q.den : Int)) (y := r.num) (A := B) (n := m) (c := d) (A' := A') (n' := n') (c' := c') ?_ ?_ ?_ bq.2 br.1 (by omega)).mono ?_; (focus (((repeat' (first | (with_reducible exact Blk.newAt _ _ (by simp)) | with_reducible refine Blk.drew ?_ | with_reducible refine Blk.alloc ?_ _ | with_reducible refine HB1 _ _ _ ?_ ))))); (focus (refine NatV.below hqd ?_; ((repeat' (first | with_reducible exact Below.refl _ _ | with_reducible exact hC1 | with_reducible refine Below.drew ?_ | with_reducible refine Below.alloc ?_ (by first | exact Nat.le_refl _ | (simp only [heap_drew, alloc_size]; omega) | omega) _))))); (focus (refine NatV.below hrn ?_; ((repeat' (first | with_reducible exact Below.refl _ _ | with_reducible exact hC1 | with_reducible refine Below.drew ?_ | with_reducible refine Below.alloc ?_ (by first | exact Nat.le_refl _ | (simp only [heap_drew, alloc_size]; omega) | omega) _))))); rintro e w2 ⟨v2, rfl, hv2, hb2⟩; have HB2 := fun g t cs (h : Blk _ g t cs) => h.below hb2 h.lt; replace hb2 : Below w1.heap.size w1 w2 := (by refine below_step ?_ hb2; ((repeat' (first | with_reducible exact Below.refl _ _ | with_reducible refine Below.drew ?_ | with_reducible refine Below.alloc ?_ (by first | exact Nat.le_refl _ | (simp only [heap_drew, alloc_size]; omega) | omega) _)))); have hC2 : Below W0.heap.size W0 w2 := below_step hC1 hb2; have hs2 := hC2.size)
      | (go_at_call 70; refine (rat_new (hv1.below hb2) hv2 (bq.1.mul br.2) (bq.2.mul br.1) (by omega) hden).mono ?_; rw [hval.out]; rintro e w3 ⟨v3, rfl, ⟨A5, n5, c5, A6, n6, c6, rfl, hn1, hn2⟩, hb3⟩; have HB3 := fun g t cs (h : Blk _ g t cs) => h.below hb3 h.lt; replace hb3 : Below w2.heap.size w2 w3 := (by refine below_step ?_ hb3; ((repeat' (first | with_reducible exact Below.refl _ _ | with_reducible refine Below.drew ?_ | with_reducible refine Below.alloc ?_ (by first | exact Nat.le_refl _ | (simp only [heap_drew, alloc_size]; omega) | omega) _)))); have hC3 : Below W0.heap.size W0 w3 := below_step hC2 hb3; have hs3 := hC3.size; replace hR := (((hR.below hb1 (by omega)).below hb2 (by omega)).below hb3 (by omega)); obtain ⟨⟨u0, u1, u2, u3⟩, ⟨u4, u5, u6, u7⟩, u8⟩ := hR.four))
  all_goals
    go_wp2
    have hfinal := rat_box (q := q / r) hn1 hn2 hR rfl (((hbl.trans (hb1.mono (by omega))).trans (hb2.mono (by omega))).trans (hb3.mono (by omega))) (by omega)
    exact bodyPost_ret (v := .tuple #[.agg #[.bool (ngb (q / r).num), .slice A5 n5 c5, .bool (ngb ((q / r).den : Int)), .slice A6 n6 c6], .int .i64 0]) (by simp [results, Tryz.results56, go_sem, u0, u1, u2, u3]) rfl ⟨_, rfl, hfinal.1, hfinal.2⟩

theorem rat_one_den (x : Int) : ((x : Rat)).num = x ∧ ((x : Rat)).den = 1 := ⟨Rat.num_intCast x, Rat.den_intCast x⟩
theorem rat_of {a : Value} {x : Int} {w : World} (ha : IntV w a x) :
    Calls Tryz.prog 67 #[a] w fun e w' => ∃ r, e = .returned r ∧ RatV w' r (x : Rat) ∧ Below w.heap.size w w' := by
  obtain ⟨A, n, c, rfl, hx⟩ := ha
  have hnum := Lib.hid (rat_one_den x)
  go_enter Tryz.func67, Tryz.ntmps67
  go_wp2_with fail
  obtain ⟨W0, hW0, hbl, hB2, hR, hsz⟩ := boxes2 w 75 77 #[.bool (ngb x), .slice A n c] #[.bool false, .slice none 0 0, .bool false, .slice none 0 0]
  rw [← hW0]
  clear hW0
  have hsz' : w.heap.size + 1 < W0.heap.size := by omega
  clear hsz
  obtain ⟨z0, z1, -, -, z4⟩ := hB2.two
  go_region_with (first
    | (go_at_call 68; refine (int_of 1 _ (by omega) (by omega)).mono ?_; rintro e w1 ⟨v1, rfl, ⟨A5, n5, c5, rfl, hn1⟩, hb1⟩; have hb1 := hb1.undrew; have hs1 := hb1.size; have k0 := (hb1.cell (p := ⟨w.heap.size, 0, none⟩) (by show w.heap.size < _; omega)).trans z0; have k1 := (hb1.cell (p := ⟨w.heap.size, 1, none⟩) (by show w.heap.size < _; omega)).trans z1; replace hR := hR.below hb1 (by omega); obtain ⟨⟨u0, u1, u2, u3⟩, ⟨u4, u5, u6, u7⟩, u8⟩ := hR.four))
  all_goals
    go_wp2
    have hfinal := rat_box (q := (x : Rat)) (by rw [hnum.out.1]; exact (hx.below hbl).below hb1) (by rw [hnum.out.2]; exact hn1) hR rfl (hbl.trans (hb1.mono hbl.size)) (by omega)
    rw [hnum.out.1, hnum.out.2] at hfinal
    exact bodyPost_ret (v := .agg #[.bool (ngb x), .slice A n c, .bool (ngb 1), .slice A5 n5 c5]) (by simp [results, Tryz.results67, go_sem, u0, u1, u2, u3]) rfl ⟨_, rfl, hfinal.1, hfinal.2⟩

theorem rat_whole (x : Int) (w : World) (h1 : -9223372036854775808 ≤ x) (h2 : x ≤ 9223372036854775807) :
    Calls Tryz.prog 51 #[.int .i64 x] w fun e w' => ∃ r, e = .returned r ∧ RatV w' r (x : Rat) ∧ Below w.heap.size w w' := by
  go_enter Tryz.func51, Tryz.ntmps51
  go_wp2_with fail
  obtain ⟨W0, hW0, hbl, hR, hsz⟩ := boxes1 w 77 #[.bool false, .slice none 0 0, .bool false, .slice none 0 0]
  rw [← hW0]
  clear hW0
  refine (int_of x _ h1 h2).mono ?_
  rintro e w1 ⟨v1, rfl, hv1, hb1⟩
  have hs1 := hb1.size
  go_wp2_with fail
  refine (rat_of hv1).mono ?_
  rintro e w2 ⟨v2, rfl, ⟨A5, n5, c5, A6, n6, c6, rfl, hn1, hn2⟩, hb2⟩
  have hs2 := hb2.size
  have hR2 := (hR.below hb1 (by omega)).below hb2 (by omega)
  obtain ⟨⟨u0, u1, u2, u3⟩, ⟨u4, u5, u6, u7⟩, u8⟩ := hR2.four
  have hnum := Lib.hid (rat_one_den x)
  go_wp2
  have hfinal := rat_box (q := (x : Rat)) hn1 hn2 hR2 rfl (hbl.trans ((hb1.trans (hb2.mono hs1)).mono hbl.size)) (by omega)
  exact bodyPost_ret (v := .agg #[.bool (ngb (x : Rat).num), .slice A5 n5 c5, .bool (ngb ((x : Rat).den : Int)), .slice A6 n6 c6]) (by simp [results, Tryz.results51, go_sem, u0, u1, u2, u3]) rfl ⟨_, rfl, hfinal.1, hfinal.2⟩

end Go.Proofs.YtmkhfgggleplfaaGreat
