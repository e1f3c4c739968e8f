/-
  The walks of the integers' arithmetic: Add, Sub, Of, DivMod, Gcd. Conditions: lengths below 2^39.
-/
import Derived.Test.YtmkhfgggleplfaaGreatIntB
namespace Go.Proofs.YtmkhfgggleplfaaGreat
set_option linter.unusedSimpArgs false
set_option linter.unusedVariables false
open Go.RowKit

set_option maxHeartbeats 2000000 in
theorem int_add {a b : Value} {x y : Int} {k : Nat} {w : World} (ha : IntV w a x) (hb : IntV w b y) (bx : Bd k x) (bY : Bd k y) (hk : k ≤ 549755813880) :
    Calls Tryz.prog 97 #[a, b] w fun e w' => ∃ r, e = .returned r ∧ IntV w' r (x + y) ∧ Below w.heap.size w w' := by
  obtain ⟨A, n, c, rfl, hnx⟩ := ha
  obtain ⟨A', n', c', rfl, hny⟩ := hb
  have hbd : x.natAbs + y.natAbs < pw (k + 1) := by unfold Bd at bx bY; simp only [pw]; omega
  go_enter Tryz.func97, Tryz.ntmps97
  go_wp2_with fail
  obtain ⟨W0, hW0, hbl0, hb2, hb3, hb4, hsz⟩ := boxes3 w 75 75 75 #[.bool (ngb x), .slice A n c] #[.bool (ngb y), .slice A' n' c'] #[.bool false, .slice none 0 0]
  rw [← hW0]
  clear hW0
  obtain ⟨f20, f21, -, -, -⟩ := hb2.two
  obtain ⟨f30, f31, -, -, -⟩ := hb3.two
  go_quiet (fail)
  generalize hW1 : W0.drewN nq = W1
  replace hbl0 : Below w.heap.size w W1 := by rw [← hW1]; exact hbl0.drewN nq
  replace hb2 : Blk W1 w.heap.size 75 #[.bool (ngb x), .slice A n c] := by rw [← hW1]; exact hb2
  replace hb3 : Blk W1 (w.heap.size + 1) 75 #[.bool (ngb y), .slice A' n' c'] := by rw [← hW1]; exact hb3
  replace hb4 : Blk W1 (w.heap.size + 1 + 1) 75 #[.bool false, .slice none 0 0] := by rw [← hW1]; exact hb4
  replace hsz : W1.heap.size = w.heap.size + 3 := by rw [← hW1]; exact hsz
  clear hW1 f20 f21 f30 f31
  obtain ⟨f20, f21, -, -, -⟩ := hb2.two
  obtain ⟨f30, f31, -, -, -⟩ := hb3.two
  have hwx := hnx.below hbl0
  have hwy := hny.below hbl0
  by_cases hs : ngb x = ngb y
  · have hsb : (ngb x == ngb y) = true := by rw [hs]; simp
    have hfin : Hid ((if ngb x = true then -((x.natAbs + y.natAbs : Nat) : Int) else ((x.natAbs + y.natAbs : Nat) : Int)) = x + y) := by
      show (if ngb x = true then -((x.natAbs + y.natAbs : Nat) : Int) else ((x.natAbs + y.natAbs : Nat) : Int)) = x + y
      unfold ngb at hs ⊢
      by_cases h : x < 0
      · have : y < 0 := by simpa [h] using hs
        simp [h]; omega
      · have : ¬ y < 0 := by simpa [h] using hs
        simp [h]; omega
    have HS := Lib.hid hs
    clear hs
    go_wp2_with fail
    go_region_held3 (fun w' => w'.cell? ⟨w.heap.size, 0, none⟩ = some (.bool (ngb x)) ∧ w'.cell? ⟨w.heap.size, 1, none⟩ = some (.slice A n c) ∧ w'.cell? ⟨w.heap.size + 1, 0, none⟩ = some (.bool (ngb y)) ∧ w'.cell? ⟨w.heap.size + 1, 1, none⟩ = some (.slice A' n' c'))
      (first | (go_keep; done) | ((try dsimp only); (repeat' apply And.intro); all_goals first | (go_keep; done) | (rw [hk1 _ _ (by omega)]; assumption) | (rw [hk3 _ _ (by omega), hk1 _ _ (by omega)]; assumption) | (rw [cell_set2 (by omega), hk3 _ _ (by omega), hk1 _ _ (by omega)]; assumption)))
      (first
        | (go_at_call 115; refine (nat_add (by exact hwx) (by exact hwy) bx bY (by omega)).mono ?_; rintro e w1 ⟨r, rfl, hr1, hb1⟩; have hb1 := hb1.undrew; obtain ⟨hk1, hk2⟩ := bcell hb1; have hs1 := hb1.size)
        | (go_at_call 92; refine (nat_signed (ngb x) (by exact hr1) hbd (by omega)).mono ?_; rw [hfin.out]; rintro e w2 ⟨r2, rfl, ⟨A2, n2, c2, rfl, hn2⟩, hb2'⟩; obtain ⟨hk3, hk4⟩ := bcell hb2'; have hB4 := (hb4.below hb1 (by omega)).below hb2' (by omega); obtain ⟨r0, r1, q0, q1, hs2⟩ := hB4.two))
    go_wp2
    have hfinal := int_box hn2 hB4 rfl (hbl0.trans ((hb1.trans (hb2'.mono hs1)).mono hbl0.size)) (by omega)
    exact bodyPost_ret (v := .agg #[.bool (ngb (x + y)), .slice A2 n2 c2]) (by simp [results, Tryz.results97, go_sem, r0, r1]) rfl ⟨_, rfl, hfinal.1, hfinal.2⟩
  · have hsb : (ngb x == ngb y) = false := by rw [beq_eq_false_iff_ne]; exact hs
    have HS := Lib.hid hs
    clear hs
    by_cases hlt : x.natAbs < y.natAbs
    · have hcm := cmpI_lt (a := (x.natAbs : Int)) (b := (y.natAbs : Int)) (by omega)
      have hm1 : ((-1 : Int) < 0) := by omega
      have hfin : Hid ((if ngb y = true then -((y.natAbs - x.natAbs : Nat) : Int) else ((y.natAbs - x.natAbs : Nat) : Int)) = x + y) := by
        show (if ngb y = true then -((y.natAbs - x.natAbs : Nat) : Int) else ((y.natAbs - x.natAbs : Nat) : Int)) = x + y
        have hs := HS.out
        unfold ngb at hs ⊢
        by_cases h : x < 0
        · have : ¬ y < 0 := by simpa [h] using hs
          simp [this]; omega
        · have : y < 0 := by simpa [h] using hs
          simp [this]; omega
      have hbd2 : y.natAbs - x.natAbs < pw (k + 1) := by omega
      go_wp2_with (go_at_call 117; refine (nat_cmp hwx hwy bx bY (by omega) (by omega)).mono ?_; rintro e w3 ⟨rfl, q, rfl⟩)
      generalize hWe : W1.drewN q = W2
      replace hbl0 : Below w.heap.size w W2 := by rw [← hWe]; exact hbl0.drewN _
      replace hb2 : Blk W2 w.heap.size 75 #[.bool (ngb x), .slice A n c] := by rw [← hWe]; exact hb2
      replace hb3 : Blk W2 (w.heap.size + 1) 75 #[.bool (ngb y), .slice A' n' c'] := by rw [← hWe]; exact hb3
      replace hb4 : Blk W2 (w.heap.size + 1 + 1) 75 #[.bool false, .slice none 0 0] := by rw [← hWe]; exact hb4
      replace hsz : W2.heap.size = w.heap.size + 3 := by rw [← hWe]; exact hsz
      clear hWe f20 f21 f30 f31
      obtain ⟨f20, f21, -, -, -⟩ := hb2.two
      obtain ⟨f30, f31, -, -, -⟩ := hb3.two
      replace hwx := hnx.below hbl0
      replace hwy := hny.below hbl0
      go_region_held3 (fun w' => w'.cell? ⟨w.heap.size, 0, none⟩ = some (.bool (ngb x)) ∧ w'.cell? ⟨w.heap.size, 1, none⟩ = some (.slice A n c) ∧ w'.cell? ⟨w.heap.size + 1, 0, none⟩ = some (.bool (ngb y)) ∧ w'.cell? ⟨w.heap.size + 1, 1, none⟩ = some (.slice A' n' c'))
        (first | (go_keep; done) | ((try dsimp only); (repeat' apply And.intro); all_goals first | (go_keep; done) | (rw [hk1 _ _ (by omega)]; assumption) | (rw [hk3 _ _ (by omega), hk1 _ _ (by omega)]; assumption) | (rw [cell_set2 (by omega), hk3 _ _ (by omega), hk1 _ _ (by omega)]; assumption)))
        (first
          | (go_at_call 116; refine (nat_sub (by exact hwy) (by exact hwx) bY (by omega) (by omega)).mono ?_; rintro e w1 ⟨r, rfl, hr1, hb1⟩; have hb1 := hb1.undrew; obtain ⟨hk1, hk2⟩ := bcell hb1; have hs1 := hb1.size)
          | (go_at_call 92; refine (nat_signed (ngb y) (by exact hr1) hbd2 (by omega)).mono ?_; rw [hfin.out]; rintro e w2 ⟨r2, rfl, ⟨A2, n2, c2, rfl, hn2⟩, hb2'⟩; obtain ⟨hk3, hk4⟩ := bcell hb2'; have hB4 := (hb4.below hb1 (by omega)).below hb2' (by omega); obtain ⟨r0, r1, q0, q1, hs2⟩ := hB4.two))
      go_wp2
      have hfinal := int_box hn2 hB4 rfl (hbl0.trans ((hb1.trans (hb2'.mono hs1)).mono hbl0.size)) (by omega)
      exact bodyPost_ret (v := .agg #[.bool (ngb (x + y)), .slice A2 n2 c2]) (by simp [results, Tryz.results97, go_sem, r0, r1]) rfl ⟨_, rfl, hfinal.1, hfinal.2⟩
    · have hcm : ¬ cmpI (x.natAbs : Int) (y.natAbs : Int) < 0 := by unfold cmpI; rw [if_neg (by omega)]; split <;> omega
      have hfin : Hid ((if ngb x = true then -((x.natAbs - y.natAbs : Nat) : Int) else ((x.natAbs - y.natAbs : Nat) : Int)) = x + y) := by
        show (if ngb x = true then -((x.natAbs - y.natAbs : Nat) : Int) else ((x.natAbs - y.natAbs : Nat) : Int)) = x + y
        have hs := HS.out
        unfold ngb at hs ⊢
        by_cases h : x < 0
        · have : ¬ y < 0 := by simpa [h] using hs
          simp [h]; omega
        · have : y < 0 := by simpa [h] using hs
          simp [h]; omega
      have hbd2 : x.natAbs - y.natAbs < pw (k + 1) := by omega
      go_wp2_with (go_at_call 117; refine (nat_cmp hwx hwy bx bY (by omega) (by omega)).mono ?_; rintro e w3 ⟨rfl, q, rfl⟩)
      generalize hWe : W1.drewN q = W2
      replace hbl0 : Below w.heap.size w W2 := by rw [← hWe]; exact hbl0.drewN _
      replace hb2 : Blk W2 w.heap.size 75 #[.bool (ngb x), .slice A n c] := by rw [← hWe]; exact hb2
      replace hb3 : Blk W2 (w.heap.size + 1) 75 #[.bool (ngb y), .slice A' n' c'] := by rw [← hWe]; exact hb3
      replace hb4 : Blk W2 (w.heap.size + 1 + 1) 75 #[.bool false, .slice none 0 0] := by rw [← hWe]; exact hb4
      replace hsz : W2.heap.size = w.heap.size + 3 := by rw [← hWe]; exact hsz
      clear hWe f20 f21 f30 f31
      obtain ⟨f20, f21, -, -, -⟩ := hb2.two
      obtain ⟨f30, f31, -, -, -⟩ := hb3.two
      replace hwx := hnx.below hbl0
      replace hwy := hny.below hbl0
      go_region_held3 (fun w' => w'.cell? ⟨w.heap.size, 0, none⟩ = some (.bool (ngb x)) ∧ w'.cell? ⟨w.heap.size, 1, none⟩ = some (.slice A n c) ∧ w'.cell? ⟨w.heap.size + 1, 0, none⟩ = some (.bool (ngb y)) ∧ w'.cell? ⟨w.heap.size + 1, 1, none⟩ = some (.slice A' n' c'))
        (first | (go_keep; done) | ((try dsimp only); (repeat' apply And.intro); all_goals first | (go_keep; done) | (rw [hk1 _ _ (by omega)]; assumption) | (rw [hk3 _ _ (by omega), hk1 _ _ (by omega)]; assumption) | (rw [cell_set2 (by omega), hk3 _ _ (by omega), hk1 _ _ (by omega)]; assumption)))
        (first
          | (go_at_call 116; refine (nat_sub (by exact hwx) (by exact hwy) bx (by omega) (by omega)).mono ?_; rintro e w1 ⟨r, rfl, hr1, hb1⟩; have hb1 := hb1.undrew; obtain ⟨hk1, hk2⟩ := bcell hb1; have hs1 := hb1.size)
          | (go_at_call 92; refine (nat_signed (ngb x) (by exact hr1) hbd2 (by omega)).mono ?_; rw [hfin.out]; rintro e w2 ⟨r2, rfl, ⟨A2, n2, c2, rfl, hn2⟩, hb2'⟩; obtain ⟨hk3, hk4⟩ := bcell hb2'; have hB4 := (hb4.below hb1 (by omega)).below hb2' (by omega); obtain ⟨r0, r1, q0, q1, hs2⟩ := hB4.two))
      go_wp2
      have hfinal := int_box hn2 hB4 rfl (hbl0.trans ((hb1.trans (hb2'.mono hs1)).mono hbl0.size)) (by omega)
      exact bodyPost_ret (v := .agg #[.bool (ngb (x + y)), .slice A2 n2 c2]) (by simp [results, Tryz.results97, go_sem, r0, r1]) rfl ⟨_, rfl, hfinal.1, hfinal.2⟩

set_option maxHeartbeats 2000000 in
theorem int_sub {a b : Value} {x y : Int} {k : Nat} {w : World} (ha : IntV w a x) (hb : IntV w b y) (bx : Bd k x) (bY : Bd k y) (hk : k ≤ 549755813880) :
    Calls Tryz.prog 73 #[a, b] w fun e w' => ∃ r, e = .returned r ∧ IntV w' r (x - y) ∧ Below w.heap.size w w' := by
  obtain ⟨A, n, c, rfl, hnx⟩ := ha
  obtain ⟨A', n', c', rfl, hny⟩ := hb
  go_enter Tryz.func73, Tryz.ntmps73
  go_wp2_with fail
  obtain ⟨W0, hW0, hbl0, hb2, hb3, hb4, hsz⟩ := boxes3 w 75 75 75 #[.bool (ngb x), .slice A n c] #[.bool (ngb y), .slice A' n' c'] #[.bool false, .slice none 0 0]
  rw [← hW0]
  clear hW0
  obtain ⟨f20, f21, -, -, -⟩ := hb2.two
  obtain ⟨f30, f31, -, -, -⟩ := hb3.two
  have hwx : IntV W0 (.agg #[.bool (ngb x), .slice A n c]) x := ⟨A, n, c, rfl, hnx.below hbl0⟩
  have hwy : IntV W0 (.agg #[.bool (ngb y), .slice A' n' c']) y := ⟨A', n', c', rfl, hny.below hbl0⟩
  go_region_held3 (fun w' => w'.cell? ⟨w.heap.size, 0, none⟩ = some (.bool (ngb x)) ∧ w'.cell? ⟨w.heap.size, 1, none⟩ = some (.slice A n c) ∧ w'.cell? ⟨w.heap.size + 1, 0, none⟩ = some (.bool (ngb y)) ∧ w'.cell? ⟨w.heap.size + 1, 1, none⟩ = some (.slice A' n' c'))
    (first | (go_keep; done) | ((try dsimp only); (repeat' apply And.intro); all_goals first | (go_keep; done) | (rw [hk1 _ _ (by omega)]; assumption) | (rw [hk3 _ _ (by omega), hk1 _ _ (by omega)]; assumption) | (rw [cell_set2 (by omega), hk3 _ _ (by omega), hk1 _ _ (by omega)]; assumption)))
    (first
      | (go_at_call 95; refine (int_neg (by exact hwy) bY (by omega)).mono ?_; rintro e w1 ⟨r, rfl, hr1, hb1⟩; have hb1 := hb1.undrew; obtain ⟨hk1, hk2⟩ := bcell hb1; have hs1 := hb1.size)
      | (go_at_call 97; refine (int_add (by exact hwx.below hb1) (by exact hr1) bx bY.neg (by omega)).mono ?_; rw [← Int.sub_eq_add_neg]; rintro e w2 ⟨r2, rfl, ⟨A2, n2, c2, rfl, hn2⟩, hb2'⟩; obtain ⟨hk3, hk4⟩ := bcell hb2'; have hB4 := (hb4.below hb1 (by omega)).below hb2' (by omega); obtain ⟨r0, r1, q0, q1, hs2⟩ := hB4.two))
  go_wp2
  have hfinal := int_box hn2 hB4 rfl (hbl0.trans ((hb1.trans (hb2'.mono hs1)).mono hbl0.size)) (by omega)
  exact bodyPost_ret (v := .agg #[.bool (ngb (x - y)), .slice A2 n2 c2]) (by simp [results, Tryz.results73, go_sem, r0, r1]) rfl ⟨_, rfl, hfinal.1, hfinal.2⟩

theorem int_of (x : Int) (w : World) (h1 : -9223372036854775808 ≤ x) (h2 : x ≤ 9223372036854775807) :
    Calls Tryz.prog 68 #[.int .i64 x] w fun e w' => ∃ r, e = .returned r ∧ IntV w' r x ∧ Below w.heap.size w w' := by
  have hbd : x.natAbs < pw 2 := by simp only [pw]; omega
  by_cases hx : x < 0
  · have hu : IntKind.u64.wrap (-(IntKind.u64.wrap x)) = (x.natAbs : Int) := by simp only [IntKind.wrap_u64]; omega
    go_enter Tryz.func68, Tryz.ntmps68
    go_wp2_with fail
    obtain ⟨W0, hW0, hbl0, hb2, hsz⟩ := boxes1 w 75 #[.bool false, .slice none 0 0]
    rw [← hW0]
    clear hW0
    try rw [hu]
    refine (natural_any x.natAbs _ (by omega)).mono ?_
    rintro e w1 ⟨r, rfl, hr, hb1⟩
    have hs1 := hb1.size
    go_wp2_with fail
    refine (nat_signedZ true hr hbd (by omega) (z := x) (by simp; omega)).mono ?_
    rintro e w2 ⟨r2, rfl, ⟨A2, n2, c2, rfl, hn2⟩, hb2'⟩
    have hB4 := (hb2.below hb1 (by omega)).below hb2' (by omega)
    obtain ⟨r0, r1, q0, q1, hs2⟩ := hB4.two
    go_wp2
    have hfinal := int_box hn2 hB4 rfl (hbl0.trans ((hb1.trans (hb2'.mono hs1)).mono hbl0.size)) (by omega)
    exact bodyPost_ret (v := .agg #[.bool (ngb x), .slice A2 n2 c2]) (by simp [results, Tryz.results68, go_sem, r0, r1]) rfl ⟨_, rfl, hfinal.1, hfinal.2⟩
  · have hu : IntKind.u64.wrap x = (x.natAbs : Int) := by simp only [IntKind.wrap_u64]; omega
    go_enter Tryz.func68, Tryz.ntmps68
    go_wp2_with fail
    obtain ⟨W0, hW0, hbl0, hb2, hsz⟩ := boxes1 w 75 #[.bool false, .slice none 0 0]
    rw [← hW0]
    clear hW0
    try rw [hu]
    refine (natural_any x.natAbs _ (by omega)).mono ?_
    rintro e w1 ⟨r, rfl, hr, hb1⟩
    have hs1 := hb1.size
    go_wp2_with fail
    refine (nat_signedZ false hr hbd (by omega) (z := x) (by simp; omega)).mono ?_
    rintro e w2 ⟨r2, rfl, ⟨A2, n2, c2, rfl, hn2⟩, hb2'⟩
    have hB4 := (hb2.below hb1 (by omega)).below hb2' (by omega)
    obtain ⟨r0, r1, q0, q1, hs2⟩ := hB4.two
    go_wp2
    have hfinal := int_box hn2 hB4 rfl (hbl0.trans ((hb1.trans (hb2'.mono hs1)).mono hbl0.size)) (by omega)
    exact bodyPost_ret (v := .agg #[.bool (ngb x), .slice A2 n2 c2]) (by simp [results, Tryz.results68, go_sem, r0, r1]) rfl ⟨_, rfl, hfinal.1, hfinal.2⟩

end Go.Proofs.YtmkhfgggleplfaaGreat
