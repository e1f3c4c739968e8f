/-
  The fixed examples of the laws of orders: what they come to, without a program.
-/
import Derived.Test.YtmkhfgggleplfaaMonE
import Derived.Test.YtmkhfgggleplfaaLawA
import Derived.Test.YtmkhfgggleplfaaOrdD
import Derived.Test.YtmkhfgggleplfaaOrdG
namespace Go.Proofs.Ytmkhfgggleplfaa
set_option linter.unusedSimpArgs false
set_option linter.unusedVariables false
open Go.RowKit

def noRows : Nat → Nat → Int := fun _ _ => 0
def gradedF : Nat → Nat → Int := fun _ => bit8 255
def weightsF : Nat → Nat → Int := fun _ k => if k = 0 then 1 else if k = 1 then 3 else 0
def monAF : Nat → Int := fun k => if k = 0 ∨ k = 2 then 1 else 0
theorem ex1 : ordC 0 noRows (unitF 0 1) (unitF 1 5) = 1 := by decide
theorem ex2 : ordC 1 gradedF (unitF 0 1) (unitF 1 5) = -1 := by decide
theorem ex3 : ordC 8 revF monAF (unitF 1 2) = -1 := by decide
theorem ex4 : ordC 1 gradedF monAF (unitF 1 2) = 1 := by decide
theorem ex5 : ordC 1 weightsF (unitF 1 1) (unitF 0 3) = -1 := by decide
theorem exV : validP 1 weightsF := by
  refine ⟨by omega, fun i hi k hk => ?_⟩
  obtain rfl : i = 0 := by omega
  rcases eight hk with h | h | h | h | h | h | h | h <;> subst h <;> exact ⟨by decide, by decide, by decide⟩
theorem exN : ¬ validP 1 (fun _ k => if k = 0 then -1 else 0) := fun h => by
  have := (h.2 0 (by omega) 0 (by omega)).2.2 (by decide)
  revert this
  decide

theorem valid_lex : validP 0 noRows := ⟨by omega, fun i hi => absurd hi (by omega)⟩
theorem valid_graded : validP 1 gradedF := by
  refine ⟨by omega, fun i hi k hk => ?_⟩
  obtain rfl : i = 0 := by omega
  rcases eight hk with h | h | h | h | h | h | h | h <;> subst h <;> exact ⟨by decide, by decide, by decide⟩
theorem valid_reverse : validP 8 revF := by
  refine ⟨by omega, fun i hi k hk => ?_⟩
  rcases eight hi with g | g | g | g | g | g | g | g <;> subst g <;> rcases eight hk with h | h | h | h | h | h | h | h <;> subst h <;> exact ⟨by decide, by decide, by decide⟩
theorem mem_listQ {n : Nat} {rows : Nat → Nat → Rat} {r : Nat → Rat} : r ∈ listQ n rows ↔ ∃ i, i < n ∧ rows i = r := by simp [listQ]
theorem indep_lex : ¬ IndepP 0 noRows := fun h => by
  have := h (fun _ => 1) (fun j hj => absurd hj (by omega)) (fun r hr => by obtain ⟨i, hi, _⟩ := mem_listQ.1 hr; omega) 0 (by omega)
  exact absurd this (by decide)
theorem indep_graded : ¬ IndepP 1 gradedF := fun h => by
  have := h (fun j => if j = 0 then 1 else if j = 1 then -1 else 0) (fun j hj => absurd hj (by omega)) (fun r hr => by
    obtain ⟨i, hi, rfl⟩ := mem_listQ.1 hr
    obtain rfl : i = 0 := by omega
    decide +kernel) 0 (by omega)
  exact absurd this (by decide)
theorem indep_reverse : IndepP 8 revF := fun x _ hr => by
  have hrow : ∀ i, i < 8 → dotR (rowQ revF i) x 8 = 0 := fun i hi => hr _ (mem_listQ.2 ⟨i, hi, rfl⟩)
  have hpos : ∀ j, j < 8 → 0 < j → x j = 0 := fun j hj h0 => by
    have h1 := hrow (8 - j) (by omega)
    rw [dotR_only (k := j) hj (fun j' hj' hne => by
      have : rowQ revF (8 - j) j' = 0 := by
        unfold rowQ revF unitF
        rw [if_neg (by omega), show 8 - (8 - j) = j from by omega, if_neg hne]; rfl
      rw [this, Rat.zero_mul])] at h1
    have h2 : rowQ revF (8 - j) j = -1 := by
      unfold rowQ revF unitF
      rw [if_neg (by omega), show 8 - (8 - j) = j from by omega, if_pos rfl]; rfl
    rw [h2] at h1
    rcases Rat.mul_eq_zero.1 h1 with h3 | h3
    · exact absurd h3 (by decide)
    · exact h3
  intro j hj
  rcases Nat.eq_zero_or_pos j with h0 | h0
  · subst h0
    have h1 := hrow 0 (by omega)
    rw [dotR_only (k := 0) (by omega) (fun j' hj' hne => by rw [hpos j' hj' (by omega), Rat.mul_zero])] at h1
    have h2 : rowQ revF 0 0 = 1 := by decide +kernel
    rw [h2, Rat.one_mul] at h1
    exact h1
  · exact hpos j hj h0

theorem elim_reverse : ¬ ElimP 8 revF 1 := fun h => h 0 (by omega) 1 (by omega) ⟨by decide, by decide, .inr ⟨0, ⟨by omega, .inl (by decide), fun s hs => absurd hs (by omega)⟩, by decide⟩⟩
/-- Eliminating eliminates its variables -/
theorem elim_elims (m : Nat) : ElimP 9 (elimF m) m := fun i _ j _ ⟨h1, h2, h3⟩ => by
  have hrow : ∀ k, elimF m 0 k = ((m / 2 ^ k % 2 : Nat) : Int) := fun k => rfl
  have hit : hitAt (elimF m 0) i j := .inl (by rw [hrow, h1]; decide)
  rcases h3 with ⟨hn, _⟩ | ⟨r, hf, hr⟩
  · exact hn 0 (by omega) hit
  · have hr0 : r = 0 := by
      rcases Nat.eq_zero_or_pos r with h | h
      · exact h
      · exact absurd hit (hf.2.2 0 h)
    subst hr0
    rw [hrow, h2] at hr
    exact hr rfl

end Go.Proofs.Ytmkhfgggleplfaa
