/-
  Plain laws of elimination: in an order that eliminates variables, a monomial in which one of them occurs is greater than one in which none of them occurs.
-/
import Derived.Test.YtmkhfgggleplfaaLawH
namespace Go.Proofs.Ytmkhfgggleplfaa
set_option linter.unusedSimpArgs false
set_option linter.unusedVariables false
open Go.RowKit

theorem dotI_zero {r a b : Nat → Int} : ∀ {n : Nat}, (∀ k, k < n → r k * (a k - b k) = 0) → dotI r a b n = 0
  | 0, _ => rfl
  | n + 1, h => by rw [dotI, dotI_zero fun k hk => h k (by omega), h n (by omega)]; rfl
theorem dotI_pos {r a b : Nat → Int} : ∀ {n : Nat}, (∀ k, k < n → 0 ≤ r k * (a k - b k)) → 0 ≤ dotI r a b n ∧ ((∃ k, k < n ∧ 0 < r k * (a k - b k)) → 0 < dotI r a b n)
  | 0, _ => ⟨Int.le_refl _, fun ⟨k, hk, _⟩ => absurd hk (by omega)⟩
  | n + 1, h => by
    obtain ⟨h1, h2⟩ := dotI_pos (n := n) fun k hk => h k (by omega)
    have h3 := h n (by omega)
    rw [dotI]
    refine ⟨by omega, fun ⟨k, hk, h4⟩ => ?_⟩
    by_cases e : k < n
    · have := h2 ⟨k, e, h4⟩; omega
    · rw [show k = n from by omega] at h4; omega
theorem first_or {p : Nat → Prop} [DecidablePred p] (n : Nat) : (∀ r, r < n → ¬ p r) ∨ ∃ r, r < n ∧ p r ∧ ∀ s, s < r → ¬ p s := by
  induction n with
  | zero => exact .inl fun r hr => absurd hr (by omega)
  | succ n ih =>
    rcases ih with h | ⟨r, h1, h2, h3⟩
    · by_cases hp : p n
      · exact .inr ⟨n, by omega, hp, h⟩
      · refine .inl fun r hr => ?_
        by_cases e : r < n
        · exact h r e
        · rw [show r = n from by omega]; exact hp
    · exact .inr ⟨r, by omega, h2, h3⟩
theorem rowsC_zeros {f : Nat → Nat → Int} {a b : Nat → Int} : ∀ {n}, (∀ r, r < n → dotI (f r) a b 8 = 0) → rowsC f a b n = 0
  | 0, _ => rfl
  | n + 1, h => rowsC_next (rowsC_zeros fun r hr => h r (by omega)) (h n (by omega))

/-- the variables of a mask that occur in a -/
def occ (m : Nat) (a : Nat → Int) (k : Nat) : Prop := bitOf m k = true ∧ 0 < a k
theorem elim_greater {n m : Nat} {f : Nat → Nat → Int} {a b : Nat → Int} (hv : ∀ i, i < n → ∀ k, k < 8 → okAt f i k) (he : ElimP n f m) (ha : ∀ k, k < 8 → 0 ≤ a k)
    (hb : ∀ k, k < 8 → bitOf m k = true → b k = 0) (hocc : ∃ k, k < 8 ∧ occ m a k) : ordC n f a b = 1 := by
  obtain ⟨k0, hk0, hk1, hk2⟩ := hocc
  have bit1 : ∀ k, bitOf m k = true ↔ m / 2 ^ k % 2 = 1 := fun k => by unfold bitOf; simp
  have bit0 : ∀ k, bitOf m k = false ↔ m / 2 ^ k % 2 = 0 := fun k => by unfold bitOf; simp
  -- what the elimination says of a variable that occurs and one outside the mask
  have main : ∀ i, i < 8 → occ m a i → ∀ j, j < 8 → bitOf m j = false → ((∀ s, s < n → f s i = 0 ∧ f s j = 0) ∧ i < j) ∨ ∃ r, r < n ∧ f r i ≠ 0 ∧ (∀ s, s < r → f s i = 0) ∧ ∀ s, s ≤ r → f s j = 0 := fun i hi hoi j hj hbj => by
    have h := he i hi j hj
    rcases first_or (p := fun r => f r i ≠ 0 ∨ f r j ≠ 0) n with h1 | ⟨r, h1, h2, h3⟩
    · left
      have h0 : ∀ s, s < n → f s i = 0 ∧ f s j = 0 := fun s hs => by
        have := h1 s hs
        constructor
        · exact Classical.byContradiction fun e => this (.inl e)
        · exact Classical.byContradiction fun e => this (.inr e)
      refine ⟨h0, ?_⟩
      rcases Nat.lt_trichotomy i j with e | e | e
      · exact e
      · subst e
        have h5 := hoi.1
        rw [hbj] at h5
        exact absurd h5 (by decide)
      · exact absurd ⟨(bit1 i).1 hoi.1, (bit0 j).1 hbj, .inl ⟨fun s hs => h1 s hs, e⟩⟩ h
    · right
      have hj0 : f r j = 0 := Classical.byContradiction fun e => h ⟨(bit1 i).1 hoi.1, (bit0 j).1 hbj, .inr ⟨r, ⟨h1, h2, h3⟩, e⟩⟩
      have hi0 : f r i ≠ 0 := by rcases h2 with h2 | h2; exact h2; exact absurd hj0 h2
      refine ⟨r, h1, hi0, fun s hs => Classical.byContradiction fun e => h3 s hs (.inl e), fun s hs => ?_⟩
      rcases Nat.lt_or_ge s r with e | e
      · exact Classical.byContradiction fun e' => h3 s e (.inr e')
      · rw [show s = r from by omega]; exact hj0
  classical
  rcases first_or (p := fun r => ∃ i, i < 8 ∧ occ m a i ∧ f r i ≠ 0) n with h1 | ⟨r, h1, ⟨i, hi, hoi, hri⟩, h3⟩
  · -- no row has a variable that occurs
    have hz : ∀ s, s < n → ∀ i, i < 8 → occ m a i → f s i = 0 := fun s hs i hi ho => Classical.byContradiction fun e => h1 s hs ⟨i, hi, ho, e⟩
    have hout : ∀ i, i < 8 → occ m a i → ∀ j, j < 8 → bitOf m j = false → (∀ s, s < n → f s j = 0) ∧ i < j := fun i hi ho j hj hbj => by
      rcases main i hi ho j hj hbj with ⟨h4, h5⟩ | ⟨r, h4, h5, _⟩
      · exact ⟨fun s hs => (h4 s hs).2, h5⟩
      · exact absurd (hz r h4 i hi ho) h5
    have hrow : rowsC f a b n = 0 := rowsC_zeros fun s hs => dotI_zero fun k hk => by
      cases hbk : bitOf m k
      · rw [(hout k0 hk0 ⟨hk1, hk2⟩ k hk hbk).1 s hs, Int.zero_mul]
      · rw [hb k hk hbk]
        by_cases hp : 0 < a k
        · rw [hz s hs k hk ⟨hbk, hp⟩, Int.zero_mul]
        · rw [show a k - 0 = 0 from by have := ha k hk; omega, Int.mul_zero]
    rw [ordC_lex hrow]
    rcases first_or (p := fun k => occ m a k) 8 with h4 | ⟨i, hi, hoi, hfirst⟩
    · exact absurd ⟨hk1, hk2⟩ (h4 k0 hk0)
    · refine lexC_one.2 ⟨i, hi, fun j hj => ?_, ?_⟩
      · cases hbj : bitOf m j
        · have := (hout i hi hoi j (by omega) hbj).2
          omega
        · rw [hb j (by omega) hbj]
          have h5 := hfirst j hj
          have h6 := ha j (by omega)
          by_cases hp : 0 < a j
          · exact absurd ⟨hbj, hp⟩ h5
          · omega
      · rw [hb i hi hoi.1]; exact hoi.2
  · -- the first row that has one
    have hz : ∀ s, s < r → ∀ i, i < 8 → occ m a i → f s i = 0 := fun s hs i hi ho => Classical.byContradiction fun e => h3 s hs ⟨i, hi, ho, e⟩
    have hout : ∀ j, j < 8 → bitOf m j = false → ∀ s, s ≤ r → f s j = 0 := fun j hj hbj s hs => by
      rcases main i hi hoi j hj hbj with ⟨h4, _⟩ | ⟨r', h4, h5, h6, h7⟩
      · exact absurd (h4 r h1).1 hri
      · have : r' = r := by
          rcases Nat.lt_trichotomy r' r with e | e | e
          · exact absurd (hz r' e i hi hoi) h5
          · exact e
          · exact absurd (h6 r e) hri
        exact h7 s (by omega)
    have hrow : rowsC f a b r = 0 := rowsC_zeros fun s hs => dotI_zero fun k hk => by
      cases hbk : bitOf m k
      · rw [hout k hk hbk s (by omega), Int.zero_mul]
      · rw [hb k hk hbk]
        by_cases hp : 0 < a k
        · rw [hz s hs k hk ⟨hbk, hp⟩, Int.zero_mul]
        · rw [show a k - 0 = 0 from by have := ha k hk; omega, Int.mul_zero]
    have hnn : ∀ k, k < 8 → occ m a k → 0 ≤ f r k := fun k hk ho => by
      rcases Int.lt_or_le (f r k) 0 with e | e
      · have h5 := (hv r h1 k hk).2.2 e
        obtain ⟨s, hs, h6⟩ := begun_iff.1 h5
        have := hz s hs k hk ho
        omega
      · exact e
    have hpos := dotI_pos (r := f r) (a := a) (b := b) (n := 8) fun k hk => by
      cases hbk : bitOf m k
      · rw [hout k hk hbk r (Nat.le_refl _), Int.zero_mul]; exact Int.le_refl _
      · rw [hb k hk hbk]
        by_cases hp : 0 < a k
        · exact Int.mul_nonneg (hnn k hk ⟨hbk, hp⟩) (by omega)
        · rw [show a k - 0 = 0 from by have := ha k hk; omega, Int.mul_zero]; exact Int.le_refl _
    have hd : 0 < dotI (f r) a b 8 := hpos.2 ⟨i, hi, by
      rw [hb i hi hoi.1]
      exact Int.mul_pos (by have := hnn i hi hoi; omega) (by have := hoi.2; omega)⟩
    rw [rowsC_hit hrow (by rw [cmpI_pos hd]; decide) h1, cmpI_pos hd]
theorem valid_elim (m : Nat) : validP 9 (elimF m) := by
  refine ⟨by omega, fun i hi k hk => ?_⟩
  rcases Nat.eq_zero_or_pos i with h0 | h0
  · subst h0
    have : elimF m 0 k = ((m / 2 ^ k % 2 : Nat) : Int) := rfl
    unfold okAt
    rw [this]
    have := Nat.mod_lt (m / 2 ^ k) (show 0 < 2 by omega)
    exact ⟨by omega, by omega, fun h => by omega⟩
  · obtain ⟨j, rfl⟩ : ∃ j, i = j + 1 := ⟨i - 1, by omega⟩
    have hr := valid_reverse.2 j (by omega) k hk
    have e : ∀ s, elimF m (s + 1) k = revF s k := fun s => by unfold elimF; rw [if_neg (by omega)]; rfl
    unfold okAt at hr ⊢
    rw [e]
    refine ⟨hr.1, hr.2.1, fun h => ?_⟩
    obtain ⟨s, hs, h2⟩ := begun_iff.1 (hr.2.2 h)
    exact begun_iff.2 ⟨s + 1, by omega, by rw [e]; exact h2⟩

end Go.Proofs.Ytmkhfgggleplfaa
