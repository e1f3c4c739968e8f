/-
  The fixed examples of the laws of orders: what they come to, without a program.
  The walk of the fixed examples of the laws of orders: they hold.
-/
import Derived.Test.YtmkhfgggleplfaaGreatMonE
import Derived.Test.YtmkhfgggleplfaaGreatLawB
import Derived.Test.YtmkhfgggleplfaaGreatOrdD
import Derived.Test.YtmkhfgggleplfaaGreatOrdG
namespace Go.Proofs.YtmkhfgggleplfaaGreat
set_option linter.unusedSimpArgs false
set_option linter.unusedVariables false
open Go.RowKit

def noRows : Nat → Nat → Int := fun _ _ => 0
def gradedF : Nat → Nat → Int := fun _ => bit8 255
def weightsF : Nat → Nat → Int := fun _ k => if k = 0 then 1 else if k = 1 then 3 else 0
def monAF : Nat → Int := fun k => if k = 0 ∨ k = 2 then 1 else 0
theorem ex1 : ordC 0 noRows (unitF 0 1) (unitF 1 5) = 1 := by decide
theorem ex2 : ordC 1 gradedF (unitF 0 1) (unitF 1 5) = -1 := by decide
theorem ex3 : ordC 8 revF monAF (unitF 1 2) = -1 := by decide
theorem ex4 : ordC 1 gradedF monAF (unitF 1 2) = 1 := by decide
theorem ex5 : ordC 1 weightsF (unitF 1 1) (unitF 0 3) = -1 := by decide
theorem exV : validP 1 weightsF := by
  refine ⟨by omega, fun i hi k hk => ?_⟩
  obtain rfl : i = 0 := by omega
  rcases eight hk with h | h | h | h | h | h | h | h <;> subst h <;> exact ⟨by decide, by decide, by decide⟩
theorem exN : ¬ validP 1 (fun _ k => if k = 0 then -1 else 0) := fun h => by
  have := (h.2 0 (by omega) 0 (by omega)).2.2 (by decide)
  revert this
  decide

theorem valid_lex : validP 0 noRows := ⟨by omega, fun i hi => absurd hi (by omega)⟩
theorem valid_graded : validP 1 gradedF := by
  refine ⟨by omega, fun i hi k hk => ?_⟩
  obtain rfl : i = 0 := by omega
  rcases eight hk with h | h | h | h | h | h | h | h <;> subst h <;> exact ⟨by decide, by decide, by decide⟩
theorem valid_reverse : validP 8 revF := by
  refine ⟨by omega, fun i hi k hk => ?_⟩
  rcases eight hi with g | g | g | g | g | g | g | g <;> subst g <;> rcases eight hk with h | h | h | h | h | h | h | h <;> subst h <;> exact ⟨by decide, by decide, by decide⟩
theorem mem_listQ {n : Nat} {rows : Nat → Nat → Rat} {r : Nat → Rat} : r ∈ listQ n rows ↔ ∃ i, i < n ∧ rows i = r := by simp [listQ]
theorem indep_lex : ¬ IndepP 0 noRows := fun h => by
  have := h (fun _ => 1) (fun j hj => absurd hj (by omega)) (fun r hr => by obtain ⟨i, hi, _⟩ := mem_listQ.1 hr; omega) 0 (by omega)
  exact absurd this (by decide)
theorem indep_graded : ¬ IndepP 1 gradedF := fun h => by
  have := h (fun j => if j = 0 then 1 else if j = 1 then -1 else 0) (fun j hj => absurd hj (by omega)) (fun r hr => by
    obtain ⟨i, hi, rfl⟩ := mem_listQ.1 hr
    obtain rfl : i = 0 := by omega
    decide +kernel) 0 (by omega)
  exact absurd this (by decide)
theorem indep_reverse : IndepP 8 revF := fun x _ hr => by
  have hrow : ∀ i, i < 8 → dotR (rowQ revF i) x 8 = 0 := fun i hi => hr _ (mem_listQ.2 ⟨i, hi, rfl⟩)
  have hpos : ∀ j, j < 8 → 0 < j → x j = 0 := fun j hj h0 => by
    have h1 := hrow (8 - j) (by omega)
    rw [dotR_only (k := j) hj (fun j' hj' hne => by
      have : rowQ revF (8 - j) j' = 0 := by
        unfold rowQ revF unitF
        rw [if_neg (by omega), show 8 - (8 - j) = j from by omega, if_neg hne]; rfl
      rw [this, Rat.zero_mul])] at h1
    have h2 : rowQ revF (8 - j) j = -1 := by
      unfold rowQ revF unitF
      rw [if_neg (by omega), show 8 - (8 - j) = j from by omega, if_pos rfl]; rfl
    rw [h2] at h1
    rcases Rat.mul_eq_zero.1 h1 with h3 | h3
    · exact absurd h3 (by decide)
    · exact h3
  intro j hj
  rcases Nat.eq_zero_or_pos j with h0 | h0
  · subst h0
    have h1 := hrow 0 (by omega)
    rw [dotR_only (k := 0) (by omega) (fun j' hj' hne => by rw [hpos j' hj' (by omega), Rat.mul_zero])] at h1
    have h2 : rowQ revF 0 0 = 1 := by decide +kernel
    rw [h2, Rat.one_mul] at h1
    exact h1
  · exact hpos j hj h0

theorem elim_reverse : ¬ ElimP 8 revF 1 := fun h => h 0 (by omega) 1 (by omega) ⟨by decide, by decide, .inr ⟨0, ⟨by omega, .inl (by decide), fun s hs => absurd hs (by omega)⟩, by decide⟩⟩
/-- Eliminating eliminates its variables -/
theorem elim_elims (m : Nat) : ElimP 9 (elimF m) m := fun i _ j _ ⟨h1, h2, h3⟩ => by
  have hrow : ∀ k, elimF m 0 k = ((m / 2 ^ k % 2 : Nat) : Int) := fun k => rfl
  have hit : hitAt (elimF m 0) i j := .inl (by rw [hrow, h1]; decide)
  rcases h3 with ⟨hn, _⟩ | ⟨r, hf, hr⟩
  · exact hn 0 (by omega) hit
  · have hr0 : r = 0 := by
      rcases Nat.eq_zero_or_pos r with h | h
      · exact h
      · exact absurd hit (hf.2.2 0 h)
    subst hr0
    rw [hrow, h2] at hr
    exact hr rfl

end Go.Proofs.YtmkhfgggleplfaaGreat
namespace Go.Proofs.YtmkhfgggleplfaaGreat
open Go.RowKit

theorem vb {n : Nat} {f : Nat → Nat → Int} (h : validP n f) : ∀ i, i < n → ∀ k, k < 8 → -1000 ≤ f i k ∧ f i k ≤ 1000 := fun i hi k hk => ⟨(h.2 i hi k hk).1, (h.2 i hi k hk).2.1⟩
theorem small_unit (k : Nat) {x : Int} (h0 : 0 ≤ x) (h1 : x ≤ 131070) : ∀ j, j < 8 → 0 ≤ unitF k x j ∧ unitF k x j ≤ 131070 := fun j _ => by unfold unitF; split <;> omega
theorem small_monA : ∀ j, j < 8 → 0 ≤ monAF j ∧ monAF j ≤ 131070 := fun j _ => by unfold monAF; split <;> omega
theorem below_step3 {W P w1 : World} (h : Below W.heap.size W P) (k : Below P.heap.size P w1) : Below W.heap.size W w1 := h.trans (k.mono h.size)
theorem cmp_fix {w : World} {v : Value} {n : Nat} {f : Nat → Nat → Int} {a b : Nat → Int} {r : Int} (ho : OrdV w v n f) (hv : validP n f)
    (ha : ∀ k, k < 8 → 0 ≤ a k ∧ a k ≤ 131070) (hb : ∀ k, k < 8 → 0 ≤ b k ∧ b k ≤ 131070) (hr : ordC n f a b = r) :
    Calls Tryz.prog 8 #[v, .agg (vec8 a), .agg (vec8 b)] w fun e w' => e = .returned (.int .i64 r) ∧ Below w.heap.size w w' :=
  (ord_cmp ho (vb hv) ha hb).mono fun _ _ ⟨h1, h2, _⟩ => ⟨by rw [h1, hr], h2⟩
theorem cmp1 {w : World} {v : Value} (ho : OrdV w v 0 (fun _ _ => 0)) : Calls Tryz.prog 8 #[v, .agg (vec8 (unitF 0 1)), .agg (vec8 (unitF 1 5))] w fun e w' => e = .returned (.int .i64 1) ∧ Below w.heap.size w w' :=
  cmp_fix ho valid_lex (small_unit _ (by omega) (by omega)) (small_unit _ (by omega) (by omega)) ex1
theorem cmp2 {w : World} {v : Value} (ho : OrdV w v 1 (fun _ => bit8 255)) : Calls Tryz.prog 8 #[v, .agg (vec8 (unitF 0 1)), .agg (vec8 (unitF 1 5))] w fun e w' => e = .returned (.int .i64 (-1)) ∧ Below w.heap.size w w' :=
  cmp_fix ho valid_graded (small_unit _ (by omega) (by omega)) (small_unit _ (by omega) (by omega)) ex2
theorem cmp3 {w : World} {v : Value} (ho : OrdV w v 8 revF) : Calls Tryz.prog 8 #[v, .agg (vec8 monAF), .agg (vec8 (unitF 1 2))] w fun e w' => e = .returned (.int .i64 (-1)) ∧ Below w.heap.size w w' :=
  cmp_fix ho valid_reverse small_monA (small_unit _ (by omega) (by omega)) ex3
theorem cmp4 {w : World} {v : Value} (ho : OrdV w v 1 (fun _ => bit8 255)) : Calls Tryz.prog 8 #[v, .agg (vec8 monAF), .agg (vec8 (unitF 1 2))] w fun e w' => e = .returned (.int .i64 1) ∧ Below w.heap.size w w' :=
  cmp_fix ho valid_graded small_monA (small_unit _ (by omega) (by omega)) ex4
theorem cmp5 {w : World} {v : Value} (ho : OrdV w v 1 weightsF) : Calls Tryz.prog 8 #[v, .agg (vec8 (unitF 1 1)), .agg (vec8 (unitF 0 3))] w fun e w' => e = .returned (.int .i64 (-1)) ∧ Below w.heap.size w w' :=
  cmp_fix ho exV (small_unit _ (by omega) (by omega)) (small_unit _ (by omega) (by omega)) ex5
theorem power11 (w : World) : Calls Tryz.prog 31 #[.int .i64 1, .int .i64 1] w fun e w' => e = .returned (.agg (vec8 (unitF 1 1))) ∧ Below w.heap.size w w' := power_any 1 1 w (by omega)
theorem power03 (w : World) : Calls Tryz.prog 31 #[.int .i64 0, .int .i64 3] w fun e w' => e = .returned (.agg (vec8 (unitF 0 3))) ∧ Below w.heap.size w w' := power_any 0 3 w (by omega)
theorem Blk.reads8 {W : World} {g : Nat} {t : TypeId} {x : Nat → Int} (h : Blk W g t (vec8 x)) (hg : g < W.heap.size) : ∀ X k, Below W.heap.size W X → k < 8 → X.cell? ⟨g, k, none⟩ = some (.int .i64 (x k)) :=
  fun _ k hX hk => (hX.cell (p := ⟨g, k, none⟩) hg).trans (h.at8 hk)
def FullLen (n : Nat) (e : Ending) : Prop := ∃ A c, e = .returned (.tuple #[.slice A n c, .int .i64 0])
theorem full_lex {w : World} {v : Value} (ho : OrdV w v 0 (fun _ _ => 0)) : Calls Tryz.prog 11 #[v] w fun e w' => FullLen 8 e ∧ Below w.heap.size w w' :=
  (full_any ho).mono fun e w' ⟨h, hb⟩ => ⟨by
    rcases h with ⟨h, _⟩ | ⟨_, h, _⟩ | ⟨_, _, _, r, rfl, hr⟩ | ⟨_, _, h, _⟩
    · exact absurd valid_lex h
    · exact absurd h indep_lex
    · obtain ⟨A, c, rfl, _⟩ := hr.ordV; exact ⟨A, c, rfl⟩
    · omega, hb⟩
theorem full_graded {w : World} {v : Value} (ho : OrdV w v 1 (fun _ => bit8 255)) : Calls Tryz.prog 11 #[v] w fun e w' => FullLen 9 e ∧ Below w.heap.size w w' :=
  (full_any ho).mono fun e w' ⟨h, hb⟩ => ⟨by
    rcases h with ⟨h, _⟩ | ⟨_, h, _⟩ | ⟨_, _, _, r, rfl, hr⟩ | ⟨_, _, h, _⟩
    · exact absurd valid_graded h
    · exact absurd h indep_graded
    · obtain ⟨A, c, rfl, _⟩ := hr.ordV; exact ⟨A, c, rfl⟩
    · omega, hb⟩
theorem full_reverse {w : World} {v : Value} (ho : OrdV w v 8 revF) : Calls Tryz.prog 11 #[v] w fun e w' => FullLen 8 e ∧ Below w.heap.size w w' :=
  (full_any ho).mono fun e w' ⟨h, hb⟩ => ⟨by
    rcases h with ⟨h, _⟩ | ⟨_, _, r, rfl, hr⟩ | ⟨_, h, _⟩ | ⟨_, h, _⟩
    · exact absurd valid_reverse h
    · obtain ⟨A, c, rfl, _⟩ := hr.ordV; exact ⟨A, c, rfl⟩
    · exact absurd indep_reverse h
    · exact absurd indep_reverse h, hb⟩
theorem elim_rev {w : World} {v : Value} (ho : OrdV w v 8 revF) : Calls Tryz.prog 19 #[v, .int .u8 1] w fun e w' => e = .returned (.bool false) ∧ Below w.heap.size w w' :=
  (eliminates_any (m := 1) ho (by omega)).mono fun e w' ⟨⟨r, h, hr⟩, hb⟩ => ⟨by
    cases r
    · exact h
    · exact absurd (hr.1 rfl) elim_reverse, hb⟩
theorem elim_two {w : World} {v : Value} (ho : OrdV w v 9 (elimF 2)) : Calls Tryz.prog 19 #[v, .int .u8 2] w fun e w' => e = .returned (.bool true) ∧ Below w.heap.size w w' :=
  (eliminates_any (m := 2) ho (by omega)).mono fun e w' ⟨⟨r, h, hr⟩, hb⟩ => ⟨by
    cases r
    · have := hr.2 (elim_elims 2); cases this
    · exact h, hb⟩
theorem eliminating_two (w : World) : Calls Tryz.prog 27 #[.int .u8 2] w fun e w' => ∃ v, e = .returned v ∧ OrdO w' w.heap.size v 9 (elimF 2) ∧ Below w.heap.size w w' := eliminating_any 2 w (by omega)
def SliceLen (n : Nat) (e : Ending) : Prop := ∃ A c, e = .returned (.slice A n c)
def threeF : Nat → Nat → Int := fun i => if i = 1 then unitF 0 1 else unitF 1 5
abbrev threeC : Array Value := #[.int .i64 (unitF 1 5 0), .int .i64 (unitF 1 5 1), .int .i64 (unitF 1 5 2), .int .i64 (unitF 1 5 3), .int .i64 (unitF 1 5 4), .int .i64 (unitF 1 5 5), .int .i64 (unitF 1 5 6), .int .i64 (unitF 1 5 7), .int .i64 (unitF 0 1 0), .int .i64 (unitF 0 1 1), .int .i64 (unitF 0 1 2), .int .i64 (unitF 0 1 3), .int .i64 (unitF 0 1 4), .int .i64 (unitF 0 1 5), .int .i64 (unitF 0 1 6), .int .i64 (unitF 0 1 7), .int .i64 (unitF 1 5 0), .int .i64 (unitF 1 5 1), .int .i64 (unitF 1 5 2), .int .i64 (unitF 1 5 3), .int .i64 (unitF 1 5 4), .int .i64 (unitF 1 5 5), .int .i64 (unitF 1 5 6), .int .i64 (unitF 1 5 7)]
theorem three_get : ∀ i, i < 3 → ∀ k, k < 8 → threeC[i * 8 + k]? = some (.int .i64 (threeF i k)) := fun i hi k hk => by
  have h3 : i = 0 ∨ i = 1 ∨ i = 2 := by omega
  rcases h3 with g | g | g <;> subst g <;> rcases eight hk with h | h | h | h | h | h | h | h <;> subst h <;> rfl
theorem three_list (w : World) : OrdV (w.alloc (.cells threeC 36)) (.slice (some ⟨w.heap.size, 0, none⟩) 3 3) 3 threeF :=
  ⟨_, 3, rfl, Nat.le_refl _, by omega, fun _ => ⟨_, 0, rfl, by simp, fun i hi k hk => by
    rw [Nat.zero_add, (Blk.new w 36 threeC).cell]; exact three_get i hi k hk⟩⟩
theorem sort_three {W : World} {v : Value} {g : Nat} (hl : OrdV W (.slice (some ⟨g, 0, none⟩) 3 3) 3 threeF) (ho : OrdV W v 0 (fun _ _ => 0)) :
    Calls Tryz.prog 17 #[v, .slice (some ⟨g, 0, none⟩) 3 3] W fun e w' => SliceLen 2 e ∧ Below W.heap.size W w' := by
  refine (sort_any ho hl (fun i hi => absurd hi (by omega)) (fun i hi => ?_) (by omega)).mono ?_
  · unfold threeF; split
    · exact small_unit _ (by omega) (by omega)
    · exact small_unit _ (by omega) (by omega)
  · rintro e w' ⟨⟨r, k, h, rfl, ⟨g, c, rfl⟩, _, hk, _, hin, hall, hs⟩, hb⟩
    refine ⟨?_, hb⟩
    have two : ∀ a, a < k → (∀ c, c < 8 → h a c = unitF 0 1 c) ∨ (∀ c, c < 8 → h a c = unitF 1 5 c) := fun a ha => by
      obtain ⟨j, hj, e⟩ := hin a ha
      by_cases h1 : j = 1
      · left; intro c hc; rw [e c hc, threeF, if_pos h1]
      · right; intro c hc; rw [e c hc, threeF, if_neg h1]
    have far : ∀ a b, a < b → b < k → ¬ ∀ c, c < 8 → h a c = h b c := fun a b h1 h2 h3 => by
      have := hs a b h1 h2
      rw [ordC_zero.2 h3] at this
      exact absurd this (by decide)
    have hk2 : k = 2 := by
      obtain ⟨a, ha, ea⟩ := hall 0 (by omega)
      obtain ⟨b, hb', eb⟩ := hall 1 (by omega)
      have hne : a ≠ b := by
        rintro rfl
        have h0 := ea 0 (by omega)
        have h1 := eb 0 (by omega)
        rw [h0] at h1
        revert h1
        decide
      rcases Nat.lt_or_ge 2 k with h3 | h3
      · exfalso
        rcases two 0 (by omega) with h0 | h0 <;> rcases two 1 (by omega) with h1 | h1 <;> rcases two 2 (by omega) with h2 | h2
        · exact far 0 1 (by omega) (by omega) fun c hc => by rw [h0 c hc, h1 c hc]
        · exact far 0 1 (by omega) (by omega) fun c hc => by rw [h0 c hc, h1 c hc]
        · exact far 0 2 (by omega) (by omega) fun c hc => by rw [h0 c hc, h2 c hc]
        · exact far 1 2 (by omega) (by omega) fun c hc => by rw [h1 c hc, h2 c hc]
        · exact far 1 2 (by omega) (by omega) fun c hc => by rw [h1 c hc, h2 c hc]
        · exact far 0 2 (by omega) (by omega) fun c hc => by rw [h0 c hc, h2 c hc]
        · exact far 0 1 (by omega) (by omega) fun c hc => by rw [h0 c hc, h1 c hc]
        · exact far 0 1 (by omega) (by omega) fun c hc => by rw [h0 c hc, h1 c hc]
      · omega
    subst hk2
    exact ⟨_, c, rfl⟩
theorem valid_w {w : World} {v : Value} (ho : OrdV w v 1 weightsF) : Calls Tryz.prog 29 #[v] w fun e w' => e = .returned (.bool true) ∧ Below w.heap.size w w' :=
  (valid_any ho).mono fun e w' ⟨⟨r, h, hr⟩, hb⟩ => ⟨by rw [h, hr.2 exV], hb⟩
def negF : Nat → Nat → Int := fun _ k => if k = 0 then -1 else 0
theorem valid_n {w : World} {v : Value} (ho : OrdV w v 1 negF) : Calls Tryz.prog 29 #[v] w fun e w' => e = .returned (.bool false) ∧ Below w.heap.size w w' :=
  (valid_any ho).mono fun e w' ⟨⟨r, h, hr⟩, hb⟩ => ⟨by
    cases r
    · exact h
    · exact absurd (hr.1 rfl) exN, hb⟩
theorem neg_list (w : World) : OrdV (w.alloc (.cells #[.int .i64 (-1), .int .i64 0, .int .i64 0, .int .i64 0, .int .i64 0, .int .i64 0, .int .i64 0, .int .i64 0] 35)) (.slice (some ⟨w.heap.size, 0, none⟩) 1 1) 1 negF :=
  ⟨_, 1, rfl, Nat.le_refl _, by omega, fun _ => ⟨_, 0, rfl, by simp, fun i hi k hk => by
    rw [Nat.zero_add, show i = 0 from by omega, Nat.zero_mul, Nat.zero_add, (Blk.new w 35 _).cell]
    rcases eight hk with h | h | h | h | h | h | h | h <;> subst h <;> rfl⟩⟩
set_option maxHeartbeats 4000000 in
set_option maxRecDepth 100000 in
theorem examples_any (w : World) : Calls Tryz.prog 5 #[] w fun e w' => e = .returned (.bool true) ∧ Below w.heap.size w w' := by
  go_enter Tryz.func5, Tryz.ntmps5
  go_wp2_with fail
  refine (power_any 1 5 w (by omega)).mono ?_
  rintro e w1 ⟨rfl, hb1⟩
  go_wp2_with fail
  refine (power_any 0 1 w1 (by omega)).mono ?_
  rintro e w2 ⟨rfl, hb2⟩
  go_wp2_with fail
  obtain ⟨W2, hW2, hbl2, hP, hQ, hs2⟩ := boxes2 w2 36 36 (vec8 (unitF 1 5)) (vec8 (unitF 0 1))
  rw [← hW2]
  have hb02 := (hb1.trans (hb2.mono hb1.size)).trans (hbl2.mono (Nat.le_trans hb1.size hb2.size))
  clear hW2
  refine (power_any 1 2 W2 (by omega)).mono ?_
  rintro e w3 ⟨rfl, hb3⟩
  have hs3 := hb3.size
  replace hP := hP.below hb3 (by omega)
  replace hQ := hQ.below hb3 (by omega)
  have hb03 := hb02.trans (hb3.mono hb02.size)
  go_upto_region 4 with fail
  obtain ⟨W3, hW3, hbl3, hA, hB, hW, hs4⟩ := boxes3 w3 36 36 35 #[.int .i64 1, .int .i64 0, .int .i64 1, .int .i64 0, .int .i64 0, .int .i64 0, .int .i64 0, .int .i64 0] (vec8 (unitF 1 2)) #[.int .i64 1, .int .i64 3, .int .i64 0, .int .i64 0, .int .i64 0, .int .i64 0, .int .i64 0, .int .i64 0]
  rw [← hW3]
  replace hA : Blk W3 w3.heap.size 36 (vec8 monAF) := hA
  replace hW : Blk W3 (w3.heap.size + 1 + 1) 35 (vec8 (weightsF 0)) := hW
  have hb04 := hb03.trans (hbl3.mono hb03.size)
  replace hP := hP.below hbl3 (by omega)
  replace hQ := hQ.below hbl3 (by omega)
  clear hW3
  have hsz3 : w2.heap.size + 1 < W3.heap.size ∧ w3.heap.size + 1 + 1 < W3.heap.size := by omega
  obtain ⟨hsa, hsb⟩ := hsz3
  clear hs2 hs3 hs4 hbl2 hbl3 hb1 hb2 hb3 hb02 hb03
  generalize w2.heap.size = p at *
  generalize w3.heap.size = a at *
  have lP := hP.reads8 (by omega)
  have lQ := hQ.reads8 (by omega)
  have lA := hA.reads8 (by omega)
  have lB := hB.reads8 (by omega)
  have hWo : ∀ X, Below W3.heap.size W3 X → OrdV X (.slice (some ⟨a + 1 + 1, 0, none⟩) 1 1) 1 weightsF := fun X hX =>
    ⟨_, 1, rfl, Nat.le_refl _, by omega, fun _ => ⟨_, 0, rfl, by have := hX.size; omega, fun i hi k hk => by
      rw [show i = 0 from by omega, Nat.zero_mul, Nat.zero_add]
      exact (hX.cell (p := ⟨a + 1 + 1, k, none⟩) (by show a + 1 + 1 < _; omega)).trans (hW.at8 hk)⟩⟩
  clear hP hQ hA hB hW
  have HW := Lib.hid hWo
  clear hWo
  go_region_held3 (fun w' => Below W3.heap.size W3 w')
    ((first | with_reducible assumption | with_reducible exact (Below.refl _ _).drew))
    (first
      | (go_at_call 21; refine (lex_any _).mono ?_; rintro e wl ⟨vl, rfl, hO, hbl⟩; have hcur := below_step3 (W := W3) (by assumption) hbl; clear hbl)
      | (go_at_call 23; refine (graded_any _).mono ?_; rintro e wl ⟨vl, rfl, hO, hbl⟩; have hcur := below_step3 (W := W3) (by assumption) hbl; clear hbl)
      | (go_at_call 25; refine (reverse_any _).mono ?_; rintro e wl ⟨vl, rfl, hO, hbl⟩; have hcur := below_step3 (W := W3) (by assumption) hbl; clear hbl)
      | (go_at_call 31; (with_reducible refine (power11 _).mono ?_); rintro e wl ⟨rfl, hbl⟩; have hcur := below_step3 (W := W3) (by assumption) hbl; clear hbl)
      | (go_at_call 31; (with_reducible refine (power03 _).mono ?_); rintro e wl ⟨rfl, hbl⟩; have hcur := below_step3 (W := W3) (by assumption) hbl; clear hbl)
      | (go_at_call 8; (with_reducible refine (cmp1 hO.ordV).mono ?_); rintro e wl ⟨rfl, hbl⟩; have hcur := below_step3 (W := W3) (by assumption) hbl; clear hbl)
      | (go_at_call 8; (with_reducible refine (cmp2 hO.ordV).mono ?_); rintro e wl ⟨rfl, hbl⟩; have hcur := below_step3 (W := W3) (by assumption) hbl; clear hbl)
      | (go_at_call 8; (with_reducible refine (cmp3 hO.ordV).mono ?_); rintro e wl ⟨rfl, hbl⟩; have hcur := below_step3 (W := W3) (by assumption) hbl; clear hbl)
      | (go_at_call 8; (with_reducible refine (cmp4 hO.ordV).mono ?_); rintro e wl ⟨rfl, hbl⟩; have hcur := below_step3 (W := W3) (by assumption) hbl; clear hbl)
      | (go_at_call 8; (with_reducible refine (cmp5 (HW.out _ (by assumption))).mono ?_); rintro e wl ⟨rfl, hbl⟩; have hcur := below_step3 (W := W3) (by assumption) hbl; clear hbl))
  go_wp2_with fail
  refine (lex_any _).mono ?_
  rintro e w5 ⟨vl, rfl, hO, hb5⟩
  have hc5 := below_step3 (W := W3) hcur hb5
  clear hcur hb5
  go_wp2_with fail
  refine (full_lex hO.ordV).mono ?_
  rintro e w6 ⟨⟨A6, c6, rfl⟩, hb6⟩
  have hc6 := below_step3 (W := W3) hc5 hb6
  clear hc5 hb6 hO
  go_wp2_with fail
  refine (graded_any _).mono ?_
  rintro e w7 ⟨vl, rfl, hO, hb7⟩
  have hc7 := below_step3 (W := W3) hc6 hb7
  clear hc6 hb7
  go_wp2_with fail
  refine (full_graded hO.ordV).mono ?_
  rintro e w8 ⟨⟨A8, c8, rfl⟩, hb8⟩
  have hc8 := below_step3 (W := W3) hc7 hb8
  clear hc7 hb8 hO
  go_wp2_with fail
  refine (reverse_any _).mono ?_
  rintro e w9 ⟨vl, rfl, hO, hb9⟩
  have hc9 := below_step3 (W := W3) hc8 hb9
  clear hc8 hb9
  go_wp2_with fail
  refine (full_reverse hO.ordV).mono ?_
  rintro e w10 ⟨⟨A10, c10, rfl⟩, hb10⟩
  have hc10 := below_step3 (W := W3) hc9 hb10
  clear hc9 hb10 hO
  go_upto_region 9 with fail
  clear hsb lA lB
  go_region_held3 (fun w' => Below W3.heap.size W3 w')
    ((first | with_reducible assumption | with_reducible exact (by assumption : Below W3.heap.size W3 _).drew | with_reducible exact (by assumption : Below W3.heap.size W3 _).alloc (by assumption : Below W3.heap.size W3 _).size _))
    (first
      | (go_at_call 21; refine (lex_any _).mono ?_; rintro e wl ⟨vl, rfl, hO, hlx⟩; have hcur := below_step3 (W := W3) (by assumption) hlx)
      | (go_at_call 25; refine (reverse_any _).mono ?_; rintro e wl ⟨vl, rfl, hO, hbl⟩; have hcur := below_step3 (W := W3) (by assumption) hbl; clear hbl)
      | (go_at_call 27; refine (eliminating_two _).mono ?_; rintro e wl ⟨vl, rfl, hO, hbl⟩; have hcur := below_step3 (W := W3) (by assumption) hbl; clear hbl)
      | (go_at_call 19; (with_reducible refine (elim_rev hO.ordV).mono ?_); rintro e wl ⟨rfl, hbl⟩; have hcur := below_step3 (W := W3) (by assumption) hbl; clear hbl)
      | (go_at_call 19; (with_reducible refine (elim_two hO.ordV).mono ?_); rintro e wl ⟨rfl, hbl⟩; have hcur := below_step3 (W := W3) (by assumption) hbl; clear hbl)
      | (go_at_call 17; (with_reducible refine (sort_three (three_list _) (hO.ordV.below ((Below.refl _ _).alloc (Nat.le_refl _) _))).mono ?_); rintro e wl ⟨⟨As, cs, rfl⟩, hbl⟩; have hcur := below_step3 (W := W3) (by assumption) hbl; clear hbl)
      | (go_at_call 17; (with_reducible refine (sort_three ((three_list _).below hlx) hO.ordV).mono ?_); rintro e wl ⟨⟨As, cs, rfl⟩, hbl⟩; have hcur := below_step3 (W := W3) (by assumption) hbl; clear hbl))
  all_goals
    have hw11 := HW.out _ hcur
    clear hlx hO
    go_wp2_with fail
    refine (valid_w hw11).mono ?_
    rintro e w12 ⟨rfl, hb12⟩
    have hc12 := below_step3 (W := W3) hcur hb12
    go_wp2_with fail
    refine (valid_n (neg_list _)).mono ?_
    rintro e w13 ⟨rfl, hb13⟩
    have hc13 := below_step3 (W := W3) (hc12.alloc hc12.size _) hb13
    go_wp2
    go_ret
    exact ⟨rfl, hb04.trans (hc13.mono hb04.size)⟩

end Go.Proofs.YtmkhfgggleplfaaGreat
