/-
  The walks of the integers' arithmetic: Mul, Neg, Add, Sub. Conditions: lengths below 2^39.
-/
import Derived.Test.YtmkhfgggleplfaaGreatNatV
import Derived.Deep.RegionHeld3
namespace Go.Proofs.YtmkhfgggleplfaaGreat
set_option linter.unusedSimpArgs false
set_option linter.unusedVariables false
open Go.RowKit

theorem neg_mul_sign (x y : Int) (b : Bool) (hb : b = (ngb x != ngb y)) : (if b = true then -((x.natAbs * y.natAbs : Nat) : Int) else ((x.natAbs * y.natAbs : Nat) : Int)) = x * y := by
  subst hb
  rw [Int.natCast_mul]
  rcases Int.lt_or_le x 0 with hx | hx <;> rcases Int.lt_or_le y 0 with hy | hy
  · rw [show ngb x = true from by simpa [ngb] using hx, show ngb y = true from by simpa [ngb] using hy]
    rw [Int.ofNat_natAbs_of_nonpos (by omega), Int.ofNat_natAbs_of_nonpos (by omega)]; simp only [Int.neg_mul, Int.mul_neg, Int.neg_neg, bne_self_eq_false, Bool.false_eq_true, if_false, if_true, Bool.true_bne, Bool.bne_true, Bool.not_false, Bool.bne_false, Bool.not_true]
  · rw [show ngb x = true from by simpa [ngb] using hx, show ngb y = false from by simpa [ngb] using hy]
    rw [Int.ofNat_natAbs_of_nonpos (by omega), Int.natAbs_of_nonneg hy]; simp only [Int.neg_mul, Int.mul_neg, Int.neg_neg, bne_self_eq_false, Bool.false_eq_true, if_false, if_true, Bool.true_bne, Bool.bne_true, Bool.not_false, Bool.bne_false, Bool.not_true]
  · rw [show ngb x = false from by simpa [ngb] using hx, show ngb y = true from by simpa [ngb] using hy]
    rw [Int.ofNat_natAbs_of_nonpos (a := y) (by omega), Int.natAbs_of_nonneg hx]; simp only [Int.neg_mul, Int.mul_neg, Int.neg_neg, bne_self_eq_false, Bool.false_eq_true, if_false, if_true, Bool.true_bne, Bool.bne_true, Bool.not_false, Bool.bne_false, Bool.not_true]
  · rw [show ngb x = false from by simpa [ngb] using hx, show ngb y = false from by simpa [ngb] using hy]
    rw [Int.natAbs_of_nonneg hx, Int.natAbs_of_nonneg hy]; simp only [Int.neg_mul, Int.mul_neg, Int.neg_neg, bne_self_eq_false, Bool.false_eq_true, if_false, if_true, Bool.true_bne, Bool.bne_true, Bool.not_false, Bool.bne_false, Bool.not_true]

set_option maxHeartbeats 1000000 in
theorem int_mul {a b : Value} {x y : Int} {j k : Nat} {w : World} (ha : IntV w a x) (hb : IntV w b y) (bx : Bd j x) (bY : Bd k y) (hjk : j + k ≤ 549755813888) :
    Calls Tryz.prog 93 #[a, b] w fun e w' => ∃ r, e = .returned r ∧ IntV w' r (x * y) ∧ Below w.heap.size w w' := by
  obtain ⟨A, n, c, rfl, hnx⟩ := ha
  obtain ⟨A', n', c', rfl, hny⟩ := hb
  have hfin := Lib.hid (neg_mul_sign x y _ rfl)
  have hbd : x.natAbs * y.natAbs < pw (j + k) := by have := bx.mul bY; unfold Bd at this; rwa [Int.natAbs_mul] at this
  go_enter Tryz.func93, Tryz.ntmps93
  go_wp2_with fail
  obtain ⟨W0, hW0, hbl0, hb2, hb3, hb4, hsz⟩ := boxes3 w 75 75 75 #[.bool (ngb x), .slice A n c] #[.bool (ngb y), .slice A' n' c'] #[.bool false, .slice none 0 0]
  rw [← hW0]
  clear hW0
  obtain ⟨f20, f21, -, -, -⟩ := hb2.two
  obtain ⟨f30, f31, -, -, -⟩ := hb3.two
  have hwx := hnx.below hbl0
  have hwy := hny.below hbl0
  go_region_held3 (fun w' => w'.cell? ⟨w.heap.size, 0, none⟩ = some (.bool (ngb x)) ∧ w'.cell? ⟨w.heap.size, 1, none⟩ = some (.slice A n c) ∧ w'.cell? ⟨w.heap.size + 1, 0, none⟩ = some (.bool (ngb y)) ∧ w'.cell? ⟨w.heap.size + 1, 1, none⟩ = some (.slice A' n' c'))
    (first | (go_keep; done) | ((try dsimp only); (repeat' apply And.intro); all_goals first | (go_keep; done) | (rw [hk1 _ _ (by omega)]; assumption) | (rw [hk3 _ _ (by omega), hk1 _ _ (by omega)]; assumption) | (rw [cell_set2 (by omega), hk3 _ _ (by omega), hk1 _ _ (by omega)]; assumption)))
    (first
      | (go_at_call 113; refine (nat_mul (by exact hwx) (by exact hwy) bx bY (by omega) (by omega)).mono ?_; rintro e w1 ⟨r, rfl, hr1, hb1⟩; have hb1 := hb1.undrew; obtain ⟨hk1, hk2⟩ := bcell hb1; have hs1 := hb1.size)
      | (go_at_call 92; refine (nat_signed (ngb x != ngb y) (by exact hr1) hbd (by omega)).mono ?_; rw [hfin.out]; rintro e w2 ⟨r2, rfl, ⟨A2, n2, c2, rfl, hn2⟩, hb2'⟩; obtain ⟨hk3, hk4⟩ := bcell hb2'; have hB4 := (hb4.below hb1 (by omega)).below hb2' (by omega); obtain ⟨r0, r1, q0, q1, hs2⟩ := hB4.two))
  go_wp2
  have hfinal := int_box hn2 hB4 rfl (hbl0.trans ((hb1.trans (hb2'.mono hs1)).mono hbl0.size)) (by omega)
  refine bodyPost_ret (v := .agg #[.bool (ngb (x * y)), .slice A2 n2 c2]) (by simp [results, Tryz.results93, go_sem, r0, r1]) rfl ⟨_, rfl, hfinal.1, hfinal.2⟩

set_option maxHeartbeats 1000000 in
theorem int_neg {a : Value} {x : Int} {k : Nat} {w : World} (ha : IntV w a x) (bx : Bd k x) (hk : k ≤ 549755813888) :
    Calls Tryz.prog 95 #[a] w fun e w' => ∃ r, e = .returned r ∧ IntV w' r (-x) ∧ Below w.heap.size w w' := by
  obtain ⟨A, n, c, rfl, hnx⟩ := ha
  have hfin : Hid ((if (!ngb x) = true then -(x.natAbs : Int) else (x.natAbs : Int)) = -x) := by
    show (if (!ngb x) = true then -(x.natAbs : Int) else (x.natAbs : Int)) = -x
    by_cases h : x < 0
    · simp [ngb, h]; omega
    · simp [ngb, h]; omega
  go_enter Tryz.func95, Tryz.ntmps95
  go_wp2_with fail
  obtain ⟨W0, hW0, hbl0, hb2, hb3, hsz⟩ := boxes2 w 75 75 #[.bool (ngb x), .slice A n c] #[.bool false, .slice none 0 0]
  rw [← hW0]
  clear hW0
  have hwx := hnx.below hbl0
  refine (nat_signed (!ngb x) hwx bx (by omega)).mono ?_
  rw [hfin.out]
  rintro e w2 ⟨r2, rfl, ⟨A2, n2, c2, rfl, hn2⟩, hb2'⟩
  have hB4 := hb3.below hb2' (by omega)
  obtain ⟨r0, r1, q0, q1, hs2⟩ := hB4.two
  go_wp2
  have hfinal := int_box hn2 hB4 rfl (hbl0.trans (hb2'.mono hbl0.size)) (by omega)
  refine bodyPost_ret (v := .agg #[.bool (ngb (-x)), .slice A2 n2 c2]) (by simp [results, Tryz.results95, go_sem, r0, r1]) rfl ⟨_, rfl, hfinal.1, hfinal.2⟩

theorem int_sign {a : Value} {x : Int} {w : World} (ha : IntV w a x) :
    Calls Tryz.prog 69 #[a] w fun e w' => e = .returned (.int .i64 (cmpI x 0)) ∧ Below w.heap.size w w' := by
  obtain ⟨A, n, c, rfl, A', c', l, he, h1, h2, h3, h4, h5⟩ := ha
  injection he with e1 e2 e3
  subst e1 e2 e3
  have hz := h4.zero_iff
  rw [h5] at hz
  by_cases hx : x < 0
  · have hr := Lib.hid (cmpI_lt hx)
    have hx' : ngb x = true := by simpa [ngb] using hx
    go_enter Tryz.func69, Tryz.ntmps69
    go_wp2
    go_ret
    exact ⟨ret_i64 hr.out.symm, (Below.refl _ _).alloc (Nat.le_refl _) _⟩
  · have hr : Hid (cmpI x 0 = ((min l.length 1 : Nat) : Int)) := by
      show cmpI x 0 = ((min l.length 1 : Nat) : Int)
      by_cases h0 : x = 0
      · rw [cmpI_eq h0, (hz.1 (by omega) : l.length = 0)]; rfl
      · rw [cmpI_gt (by omega), Nat.min_eq_right (by have : ¬ l.length = 0 := fun h => h0 (by have := hz.2 h; omega); omega)]; rfl
    have hx' : ngb x = false := by simpa [ngb] using hx
    rcases Nat.lt_or_ge l.length 1 with hl | hl
    · obtain ⟨n, hn⟩ : ∃ n, l.length = n := ⟨_, rfl⟩
      rw [hn] at hl hr h1 ⊢
      have hl0 : n = 0 := by omega
      subst hl0
      clear hn
      go_enter Tryz.func69, Tryz.ntmps69
      go_wp2
      go_ret
      exact ⟨ret_i64 (by rw [hr.out]; rfl), (Below.refl _ _).alloc (Nat.le_refl _) _⟩
    · go_enter Tryz.func69, Tryz.ntmps69
      go_wp2
      go_ret
      exact ⟨ret_i64 (by rw [hr.out]; omega), (Below.refl _ _).alloc (Nat.le_refl _) _⟩

end Go.Proofs.YtmkhfgggleplfaaGreat
