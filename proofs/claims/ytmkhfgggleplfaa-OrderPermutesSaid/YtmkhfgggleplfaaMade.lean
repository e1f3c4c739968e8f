/-
  The walk of Made: an order out of raw rows. Conditions: entries of type int8.
-/
import Derived.Test.YtmkhfgggleplfaaOrdB
import Derived.Test.YtmkhfgggleplfaaOrdP
namespace Go.Proofs.Ytmkhfgggleplfaa
set_option linter.unusedSimpArgs false
set_option linter.unusedVariables false
open Go.RowKit

/-- a list of rows of eight int8 -/
def RowsV (w : World) (v : Value) (n : Nat) (x : Nat → Nat → Int) : Prop :=
  ∃ A c, v = .slice A n c ∧ n ≤ c ∧ c ≤ 9223372036854775807 ∧ (0 < n → ∃ b off, A = some ⟨b, off, none⟩ ∧ b < w.heap.size ∧ ∀ i, i < n → ∀ k, k < 8 → w.cell? ⟨b, off + i * 8 + k, none⟩ = some (.int .i8 (x i k)))
theorem RowsV.below {w w' : World} {v : Value} {n : Nat} {f : Nat → Nat → Int} (h : RowsV w v n f) (hb : Below w.heap.size w w') : RowsV w' v n f := by
  obtain ⟨A, c, e, h1, h2, h3⟩ := h
  refine ⟨A, c, e, h1, h2, fun h0 => ?_⟩
  obtain ⟨b, off, e, hlt, hc⟩ := h3 h0
  exact ⟨b, off, e, Nat.lt_of_lt_of_le hlt hb.size, fun i hi k hk => (hb.cell (p := ⟨b, off + i * 8 + k, none⟩) hlt).trans (hc i hi k hk)⟩
/-- the first entry of a column that is not 0 -/
def firstNZ (x : Nat → Nat → Int) (k : Nat) : Nat → Int
  | 0 => 0
  | n + 1 => if firstNZ x k n = 0 then x n k else firstNZ x k n
def madeF (x : Nat → Nat → Int) (m : Nat) : Nat → Nat → Int := fun i k => if firstNZ x k m < 0 then -(x i k) else x i k
theorem firstNZ_zero {x : Nat → Nat → Int} {k : Nat} : ∀ {n}, firstNZ x k n = 0 → ∀ i, i < n → x i k = 0
  | 0, _ => fun i h => absurd h (by omega)
  | n + 1, h => fun i hi => by
    rw [firstNZ] at h
    by_cases h0 : firstNZ x k n = 0
    · rw [if_pos h0] at h
      rcases Nat.lt_or_ge i n with h1 | h1
      · exact firstNZ_zero h0 i h1
      · rw [show i = n from by omega]; exact h
    · rw [if_neg h0] at h; exact absurd h h0
theorem firstNZ_at {x : Nat → Nat → Int} {k : Nat} : ∀ {n}, firstNZ x k n ≠ 0 → ∃ i, i < n ∧ x i k = firstNZ x k n ∧ ∀ j, j < i → x j k = 0
  | 0, h => absurd rfl h
  | n + 1, h => by
    by_cases h0 : firstNZ x k n = 0
    · refine ⟨n, by omega, by rw [firstNZ, if_pos h0], fun j hj => firstNZ_zero h0 j hj⟩
    · obtain ⟨i, h1, h2, h3⟩ := firstNZ_at h0
      exact ⟨i, by omega, by rw [firstNZ, if_neg h0]; exact h2, h3⟩
/-- what Made makes is a valid order -/
theorem made_valid {x : Nat → Nat → Int} {m : Nat} (hm : m ≤ 6) (hx : ∀ i, i < m → ∀ k, k < 8 → -128 ≤ x i k ∧ x i k ≤ 127) : validP m (madeF x m) := by
  refine ⟨by omega, fun i hi k hk => ?_⟩
  have h1 := hx i hi k hk
  refine ⟨?_, ?_, fun h => ?_⟩
  · unfold madeF; split <;> omega
  · unfold madeF; split <;> omega
  · have hne : firstNZ x k m ≠ 0 := fun h0 => by
      have := firstNZ_zero h0 i hi
      unfold madeF at h
      rw [h0, if_neg (by omega)] at h
      omega
    obtain ⟨j, hj, he, hz⟩ := firstNZ_at hne
    rw [begun_iff]
    refine ⟨j, ?_, ?_⟩
    · rcases Nat.lt_trichotomy j i with h2 | h2 | h2
      · exact h2
      · subst h2
        unfold madeF at h
        split at h <;> omega
      · have := hz i h2
        unfold madeF at h
        split at h <;> omega
    · unfold madeF
      split <;> omega

end Go.Proofs.Ytmkhfgggleplfaa
