/-
  Plain laws of the named orders: Lex, Graded, Reverse.
-/
import Derived.Test.YtmkhfgggleplfaaLawG
import Derived.Test.YtmkhfgggleplfaaLawE
namespace Go.Proofs.Ytmkhfgggleplfaa
set_option linter.unusedSimpArgs false
set_option linter.unusedVariables false
open Go.RowKit

theorem cmpI_pos {x : Int} (h : 0 < x) : cmpI x 0 = 1 := by unfold cmpI; split <;> (try split) <;> omega
theorem cmpI_neg {x : Int} (h : x < 0) : cmpI x 0 = -1 := by unfold cmpI; split <;> (try split) <;> omega
theorem bit255 {k : Nat} (hk : k < 8) : bit8 255 k = 1 := by
  rcases eight hk with h | h | h | h | h | h | h | h <;> subst h <;> rfl
theorem dotI_ones (a b : Nat → Int) : ∀ n, n ≤ 8 → dotI (bit8 255) a b n = degF a n - degF b n
  | 0, _ => rfl
  | n + 1, h => by rw [dotI, dotI_ones a b n (by omega), bit255 (by omega), degF, degF]; omega
theorem dotI_unit (j : Nat) (a b : Nat → Int) : ∀ n, dotI (unitF j (-1)) a b n = if j < n then b j - a j else 0
  | 0 => rfl
  | n + 1 => by
    rw [dotI, dotI_unit j a b n]
    by_cases h : j < n
    · rw [if_pos h, if_pos (by omega), unitF, if_neg (by omega)]; omega
    · by_cases e : n = j
      · subst e; rw [if_neg h, if_pos (by omega), unitF, if_pos rfl]; omega
      · rw [if_neg h, if_neg (by omega), unitF, if_neg (by omega)]; omega
def gradedV (a b : Nat → Int) : Int := if degF a 8 < degF b 8 then -1 else if degF b 8 < degF a 8 then 1 else lexC a b 8
def reverseV (a b : Nat → Int) : Int := if degF a 8 < degF b 8 then -1 else if degF b 8 < degF a 8 then 1 else lastC a b 8
theorem ordC_lexV (a b : Nat → Int) : ordC 0 (fun _ _ => 0) a b = lexC a b 8 := ordC_lex (f := fun _ _ => 0) (n := 0) rfl
theorem graded_aux (a b : Nat → Int) (x y : Int) (h0 : dotI (gradedF 0) a b 8 = x - y) : ordC 1 gradedF a b = if x < y then -1 else if y < x then 1 else lexC a b 8 := by
  by_cases h1 : x < y
  · rw [if_pos h1]
    have e : cmpI (dotI (gradedF 0) a b 8) 0 = -1 := by rw [h0]; exact cmpI_neg (by omega)
    exact (rowsC_hit (n := 1) (k := 0) (f := gradedF) (a := a) (b := b) rfl (by rw [e]; decide) (by omega)).trans e
  · rw [if_neg h1]
    by_cases h2 : y < x
    · rw [if_pos h2]
      have e : cmpI (dotI (gradedF 0) a b 8) 0 = 1 := by rw [h0]; exact cmpI_pos (by omega)
      exact (rowsC_hit (n := 1) (k := 0) (f := gradedF) (a := a) (b := b) rfl (by rw [e]; decide) (by omega)).trans e
    · rw [if_neg h2]
      have hr : rowsC gradedF a b 1 = 0 := rowsC_next (k := 0) rfl (by rw [h0]; omega)
      exact ordC_lex hr
theorem ordC_gradedF (a b : Nat → Int) : ordC 1 gradedF a b = gradedV a b := graded_aux a b _ _ (dotI_ones a b 8 (by omega))
theorem ordC_gradedV (a b : Nat → Int) : ordC 1 (fun _ => bit8 255) a b = gradedV a b := ordC_gradedF a b
theorem lastC_range (a b : Nat → Int) : ∀ n, lastC a b n = 0 ∨ lastC a b n = 1 ∨ lastC a b n = -1
  | 0 => .inl rfl
  | n + 1 => by
    rw [lastC]
    split
    · exact .inr (.inl rfl)
    · split
      · exact .inr (.inr rfl)
      · exact lastC_range a b n
theorem rev_rows {a b : Nat → Int} (hd : degF a 8 = degF b 8) : ∀ i, i ≤ 7 → (∀ j, 8 - i ≤ j → j < 8 → a j = b j) → rowsC revF a b (i + 1) = 0
  | 0, _, _ => rowsC_next (k := 0) rfl (by show dotI (bit8 255) a b 8 = 0; rw [dotI_ones a b 8 (by omega)]; omega)
  | i + 1, h, he => rowsC_next (rev_rows hd i (by omega) fun j h1 h2 => he j (by omega) h2) (by
      have : revF (i + 1) = unitF (8 - (i + 1)) (-1) := by unfold revF; rw [if_neg (by omega)]
      rw [this, dotI_unit, if_pos (by omega), he (8 - (i + 1)) (by omega) (by omega)]; omega)
theorem degF_congr {a b : Nat → Int} : ∀ {n}, (∀ j, j < n → a j = b j) → degF a n = degF b n
  | 0, _ => rfl
  | n + 1, h => by rw [degF, degF, degF_congr fun j hj => h j (by omega), h n (by omega)]
theorem degF_one {a b : Nat → Int} : ∀ {n}, (∀ j, 0 < j → j < n + 1 → a j = b j) → degF a (n + 1) - degF b (n + 1) = a 0 - b 0
  | 0, _ => by simp only [degF]; omega
  | n + 1, h => by
    have := degF_one (n := n) (fun j h1 h2 => h j h1 (by omega))
    have e := h (n + 1) (by omega) (by omega)
    show (degF a (n + 1) + a (n + 1)) - (degF b (n + 1) + b (n + 1)) = a 0 - b 0
    omega
theorem ordC_reverseV (a b : Nat → Int) : ordC 8 revF a b = reverseV a b := by
  have h := dotI_ones a b 8 (by omega)
  unfold reverseV
  by_cases h1 : degF a 8 < degF b 8
  · rw [if_pos h1]
    have := rowsC_hit (n := 8) (k := 0) (f := revF) (a := a) (b := b) rfl (by show cmpI (dotI (bit8 255) a b 8) 0 ≠ 0; rw [h, cmpI_neg (by omega)]; decide) (by omega)
    rw [this]; show cmpI (dotI (bit8 255) a b 8) 0 = -1; rw [h, cmpI_neg (by omega)]
  · rw [if_neg h1]
    by_cases h2 : degF b 8 < degF a 8
    · rw [if_pos h2]
      have := rowsC_hit (n := 8) (k := 0) (f := revF) (a := a) (b := b) rfl (by show cmpI (dotI (bit8 255) a b 8) 0 ≠ 0; rw [h, cmpI_pos (by omega)]; decide) (by omega)
      rw [this]; show cmpI (dotI (bit8 255) a b 8) 0 = 1; rw [h, cmpI_pos (by omega)]
    · rw [if_neg h2]
      have hd : degF a 8 = degF b 8 := by omega
      -- the last variable that differs
      have key : ∀ k, k ≤ 8 → (∀ j, k ≤ j → j < 8 → a j = b j) → ordC 8 revF a b = lastC a b k ∨ k = 0 ∧ ordC 8 revF a b = 0 := by
        intro k
        induction k with
        | zero => intro _ he; exact .inr ⟨rfl, ordC_same fun j hj => he j (by omega) hj⟩
        | succ k ih =>
          intro hk he
          by_cases e : a k = b k
          · rcases ih (by omega) (fun j h1 h2 => by
              rcases Nat.eq_or_lt_of_le h1 with h3 | h3
              · rw [← h3]; exact e
              · exact he j h3 h2) with h3 | ⟨h3, h4⟩
            · left; rw [h3, lastC, if_neg (by omega), if_neg (by omega)]
            · left; subst h3; rw [h4, lastC, if_neg (by omega), if_neg (by omega)]; rfl
          · left
            rcases Nat.eq_zero_or_pos k with h0 | h0
            · subst h0
              exfalso
              have : degF a 8 - degF b 8 = a 0 - b 0 := degF_one (a := a) (b := b) (n := 7) (fun j h1 h2 => he j (by omega) h2)
              omega
            · have hr := rev_rows hd (7 - k) (by omega) (fun j h1 h2 => he j (by omega) h2)
              have hrow : revF (7 - k + 1) = unitF k (-1) := by unfold revF; rw [if_neg (by omega), show 8 - (7 - k + 1) = k from by omega]
              have hdot : dotI (revF (7 - k + 1)) a b 8 = b k - a k := by rw [hrow, dotI_unit, if_pos (by omega)]
              have hne : cmpI (dotI (revF (7 - k + 1)) a b 8) 0 ≠ 0 := by
                rw [hdot]
                rcases Int.lt_or_gt_of_ne e with h3 | h3
                · rw [cmpI_pos (by omega)]; decide
                · rw [cmpI_neg (by omega)]; decide
              rw [rowsC_hit hr hne (by omega), hdot, lastC]
              rcases Int.lt_or_gt_of_ne e with h3 | h3
              · rw [if_pos h3, cmpI_pos (by omega)]
              · rw [if_neg (by omega), if_pos h3, cmpI_neg (by omega)]
      rcases key 8 (Nat.le_refl _) (fun j h1 h2 => absurd h2 (by omega)) with h3 | ⟨h3, _⟩
      · exact h3
      · exact absurd h3 (by decide)

end Go.Proofs.Ytmkhfgggleplfaa
