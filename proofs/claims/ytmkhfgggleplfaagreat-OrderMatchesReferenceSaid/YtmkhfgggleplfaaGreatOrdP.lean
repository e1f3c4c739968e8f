/-
  Plain laws of the comparison by rows: it is a total order, kept by multiplication, with 1 as its least element.
-/
import Derived.Test.YtmkhfgggleplfaaGreatOrdE
namespace Go.Proofs.YtmkhfgggleplfaaGreat
set_option linter.unusedSimpArgs false
set_option linter.unusedVariables false
open Go.RowKit

theorem lexC_cases (a b : Nat → Int) : ∀ n, (lexC a b n = 0 ∧ ∀ j, j < n → a j = b j) ∨ (lexC a b n = 1 ∧ ∃ k, k < n ∧ (∀ j, j < k → a j = b j) ∧ b k < a k) ∨ (lexC a b n = -1 ∧ ∃ k, k < n ∧ (∀ j, j < k → a j = b j) ∧ a k < b k)
  | 0 => .inl ⟨rfl, fun j hj => absurd hj (by omega)⟩
  | n + 1 => by
    rcases lexC_cases a b n with ⟨h, e⟩ | ⟨h, k, hk, e, hl⟩ | ⟨h, k, hk, e, hl⟩
    · have h1 : lexC a b (n + 1) = cmpI (a n) (b n) := by rw [lexC, if_neg (by simp [h])]
      rcases Int.lt_trichotomy (a n) (b n) with h2 | h2 | h2
      · exact .inr (.inr ⟨by rw [h1, cmpI_lt h2], n, by omega, e, h2⟩)
      · refine .inl ⟨by rw [h1, h2]; unfold cmpI; simp, fun j hj => ?_⟩
        rcases Nat.lt_or_ge j n with h3 | h3
        · exact e j h3
        · rw [show j = n from by omega]; exact h2
      · exact .inr (.inl ⟨by rw [h1, cmpI_gt h2], n, by omega, e, h2⟩)
    · exact .inr (.inl ⟨by rw [lexC, if_pos (by simp [h]), h], k, by omega, e, hl⟩)
    · exact .inr (.inr ⟨by rw [lexC, if_pos (by simp [h]), h], k, by omega, e, hl⟩)
theorem lexC_one {a b : Nat → Int} {n : Nat} : lexC a b n = 1 ↔ ∃ k, k < n ∧ (∀ j, j < k → a j = b j) ∧ b k < a k := by
  constructor
  · intro h
    rcases lexC_cases a b n with ⟨h1, e⟩ | ⟨h1, h2⟩ | ⟨h1, h2⟩
    · omega
    · exact h2
    · omega
  · rintro ⟨k, hk, e, hl⟩
    rcases lexC_cases a b n with ⟨h1, e'⟩ | ⟨h1, _⟩ | ⟨h1, k', hk', e', hl'⟩
    · have := e' k hk; omega
    · exact h1
    · rcases Nat.lt_trichotomy k k' with h | h | h
      · have := e' k h; omega
      · subst h; omega
      · have := e k' h; omega
theorem lexC_neg (a b : Nat → Int) (n : Nat) : lexC b a n = -(lexC a b n) := by
  rcases lexC_cases a b n with ⟨h, e⟩ | ⟨h, k, hk, e, hl⟩ | ⟨h, k, hk, e, hl⟩
  · rw [h, lexC_same b a n fun j hj => (e j hj).symm]; rfl
  · rw [h]
    rcases lexC_cases b a n with ⟨h', e'⟩ | ⟨h', k', hk', e', hl'⟩ | ⟨h', _⟩
    · have := e' k hk; omega
    · rcases Nat.lt_trichotomy k k' with h1 | h1 | h1
      · have := e' k h1; omega
      · subst h1; omega
      · have := e k' h1; omega
    · omega
  · rw [h]
    have : lexC b a n = 1 := lexC_one.2 ⟨k, hk, fun j hj => (e j hj).symm, hl⟩
    rw [this]; rfl
theorem lexC_zero {a b : Nat → Int} {n : Nat} : lexC a b n = 0 ↔ ∀ j, j < n → a j = b j := by
  constructor
  · intro h
    rcases lexC_cases a b n with ⟨_, e⟩ | ⟨h1, _⟩ | ⟨h1, _⟩
    · exact e
    · omega
    · omega
  · exact lexC_same a b n
theorem lexC_trans {a b c : Nat → Int} {n : Nat} (h1 : lexC a b n = 1) (h2 : lexC b c n = 1) : lexC a c n = 1 := by
  obtain ⟨k, hk, e, hl⟩ := lexC_one.1 h1
  obtain ⟨k', hk', e', hl'⟩ := lexC_one.1 h2
  rw [lexC_one]
  rcases Nat.lt_trichotomy k k' with h | h | h
  · exact ⟨k, hk, fun j hj => (e j hj).trans (e' j (by omega)), by rw [← e' k h]; exact hl⟩
  · subst h; exact ⟨k, hk, fun j hj => (e j hj).trans (e' j hj), by omega⟩
  · exact ⟨k', hk', fun j hj => (e j (by omega)).trans (e' j hj), by rw [e k' h]; exact hl'⟩
theorem lexC_range (a b : Nat → Int) (n : Nat) : lexC a b n = 0 ∨ lexC a b n = 1 ∨ lexC a b n = -1 := by
  rcases lexC_cases a b n with ⟨h, _⟩ | ⟨h, _⟩ | ⟨h, _⟩
  · exact .inl h
  · exact .inr (.inl h)
  · exact .inr (.inr h)
theorem lexC_congr {a b a' b' : Nat → Int} : ∀ {n}, (∀ j, j < n → a j = a' j ∧ b j = b' j) → lexC a b n = lexC a' b' n
  | 0, _ => rfl
  | n + 1, h => by rw [lexC, lexC, lexC_congr fun j hj => h j (by omega), (h n (by omega)).1, (h n (by omega)).2]
theorem lexC_shift {a b a' b' : Nat → Int} : ∀ {n}, (∀ j, j < n → a' j - b' j = a j - b j) → lexC a' b' n = lexC a b n
  | 0, _ => rfl
  | n + 1, h => by
    have e : cmpI (a' n) (b' n) = cmpI (a n) (b n) := by
      have := h n (by omega)
      unfold cmpI
      by_cases h1 : a n < b n
      · rw [if_pos h1, if_pos (by omega)]
      · rw [if_neg h1, if_neg (by omega)]
        by_cases h2 : b n < a n
        · rw [if_pos h2, if_pos (by omega)]
        · rw [if_neg h2, if_neg (by omega)]
    rw [lexC, lexC, lexC_shift fun j hj => h j (by omega), e]

def dotA (r a : Nat → Int) : Nat → Int
  | 0 => 0
  | n + 1 => dotA r a n + r n * a n
theorem dotI_dotA (r a b : Nat → Int) : ∀ n, dotI r a b n = dotA r a n - dotA r b n
  | 0 => rfl
  | n + 1 => by rw [dotI, dotA, dotA, dotI_dotA r a b n, Int.mul_sub]; omega
theorem dotA_add (r a c : Nat → Int) : ∀ n, dotA r (fun k => a k + c k) n = dotA r a n + dotA r c n
  | 0 => rfl
  | n + 1 => by rw [dotA, dotA, dotA, dotA_add r a c n, Int.mul_add]; omega
theorem dotA_congr {r a r' a' : Nat → Int} : ∀ {n}, (∀ j, j < n → r j * a j = r' j * a' j) → dotA r a n = dotA r' a' n
  | 0, _ => rfl
  | n + 1, h => by rw [dotA, dotA, dotA_congr fun j hj => h j (by omega), h n (by omega)]
def keyF (n : Nat) (f : Nat → Nat → Int) (a : Nat → Int) : Nat → Int := fun i => if i < n then dotA (f i) a 8 else a (i - n)
theorem rowsC_lex (f : Nat → Nat → Int) (a b : Nat → Int) : ∀ n, rowsC f a b n = lexC (fun i => dotA (f i) a 8) (fun i => dotA (f i) b 8) n
  | 0 => rfl
  | n + 1 => by
    rw [rowsC, lexC, rowsC_lex f a b n, dotI_dotA]
    have e : cmpI (dotA (f n) a 8 - dotA (f n) b 8) 0 = cmpI (dotA (f n) a 8) (dotA (f n) b 8) := by
      unfold cmpI
      by_cases h1 : dotA (f n) a 8 < dotA (f n) b 8
      · rw [if_pos h1, if_pos (by omega)]
      · rw [if_neg h1, if_neg (by omega)]
        by_cases h2 : dotA (f n) b 8 < dotA (f n) a 8
        · rw [if_pos h2, if_pos (by omega)]
        · rw [if_neg h2, if_neg (by omega)]
    rw [e]
theorem lexC_cat (a b : Nat → Int) (n : Nat) : ∀ m, lexC a b (n + m) = if lexC a b n ≠ 0 then lexC a b n else lexC (fun i => a (n + i)) (fun i => b (n + i)) m
  | 0 => by by_cases h : lexC a b n = 0 <;> simp [h, lexC]
  | m + 1 => by
    show (if lexC a b (n + m) ≠ 0 then lexC a b (n + m) else cmpI (a (n + m)) (b (n + m))) = _
    rw [lexC_cat a b n m]
    by_cases h : lexC a b n = 0
    · simp only [h, ne_eq, not_true_eq_false, if_false]
      rw [lexC]
    · simp only [h, ne_eq, not_false_eq_true, if_true]
theorem ordC_key (n : Nat) (f : Nat → Nat → Int) (a b : Nat → Int) : ordC n f a b = lexC (keyF n f a) (keyF n f b) (n + 8) := by
  rw [lexC_cat]
  unfold ordC
  rw [rowsC_lex]
  have e1 : lexC (keyF n f a) (keyF n f b) n = lexC (fun i => dotA (f i) a 8) (fun i => dotA (f i) b 8) n :=
    lexC_congr fun j hj => by unfold keyF; rw [if_pos hj, if_pos hj]; exact ⟨rfl, rfl⟩
  have e2 : lexC (fun i => keyF n f a (n + i)) (fun i => keyF n f b (n + i)) 8 = lexC a b 8 :=
    lexC_congr fun j hj => by unfold keyF; rw [if_neg (by omega), if_neg (by omega), Nat.add_sub_cancel_left]; exact ⟨rfl, rfl⟩
  rw [e1, e2]
theorem ordC_neg (n : Nat) (f : Nat → Nat → Int) (a b : Nat → Int) : ordC n f b a = -(ordC n f a b) := by rw [ordC_key, ordC_key, lexC_neg]
theorem ordC_range (n : Nat) (f : Nat → Nat → Int) (a b : Nat → Int) : ordC n f a b = 0 ∨ ordC n f a b = 1 ∨ ordC n f a b = -1 := by rw [ordC_key]; exact lexC_range _ _ _
theorem ordC_zero {n : Nat} {f : Nat → Nat → Int} {a b : Nat → Int} : ordC n f a b = 0 ↔ ∀ k, k < 8 → a k = b k := by
  constructor
  · intro h k hk
    rw [ordC_key, lexC_zero] at h
    have := h (n + k) (by omega)
    unfold keyF at this
    rwa [if_neg (by omega), if_neg (by omega), Nat.add_sub_cancel_left] at this
  · exact ordC_same
theorem ordC_trans {n : Nat} {f : Nat → Nat → Int} {a b c : Nat → Int} (h1 : ordC n f a b = 1) (h2 : ordC n f b c = 1) : ordC n f a c = 1 := by
  rw [ordC_key] at *; exact lexC_trans h1 h2
theorem ordC_congr {n : Nat} {f f' : Nat → Nat → Int} {a b a' b' : Nat → Int} (hf : ∀ i, i < n → ∀ k, k < 8 → f i k = f' i k) (ha : ∀ k, k < 8 → a k = a' k) (hb : ∀ k, k < 8 → b k = b' k) : ordC n f a b = ordC n f' a' b' := by
  rw [ordC_key, ordC_key]
  refine lexC_congr fun j hj => ?_
  unfold keyF
  by_cases h : j < n
  · rw [if_pos h, if_pos h, if_pos h, if_pos h]
    exact ⟨dotA_congr fun k hk => by rw [hf j h k hk, ha k hk], dotA_congr fun k hk => by rw [hf j h k hk, hb k hk]⟩
  · rw [if_neg h, if_neg h, if_neg h, if_neg h]; exact ⟨ha _ (by omega), hb _ (by omega)⟩
/-- multiplying by a monomial keeps the order -/
theorem ordC_mul (n : Nat) (f : Nat → Nat → Int) (a b c : Nat → Int) : ordC n f (fun k => a k + c k) (fun k => b k + c k) = ordC n f a b := by
  rw [ordC_key, ordC_key]
  refine lexC_shift fun j _ => ?_
  unfold keyF
  by_cases h : j < n
  · rw [if_pos h, if_pos h, if_pos h, if_pos h, dotA_add, dotA_add]; omega
  · rw [if_neg h, if_neg h, if_neg h, if_neg h]; dsimp only; omega

theorem begun_iff {f : Nat → Nat → Int} {k : Nat} : ∀ {i}, begun f i k = true ↔ ∃ i', i' < i ∧ 0 < f i' k
  | 0 => by simp [begun]
  | i + 1 => by
    rw [begun, Bool.or_eq_true, begun_iff, decide_eq_true_eq]
    constructor
    · rintro (⟨i', h1, h2⟩ | h)
      · exact ⟨i', by omega, h2⟩
      · exact ⟨i, by omega, h⟩
    · rintro ⟨i', h1, h2⟩
      rcases Nat.lt_or_ge i' i with h | h
      · exact .inl ⟨i', h, h2⟩
      · rw [show i' = i from by omega] at h2; exact .inr h2
theorem dotA_zero (r : Nat → Int) : ∀ n, dotA r (fun _ => 0) n = 0
  | 0 => rfl
  | n + 1 => by rw [dotA, dotA_zero r n, Int.mul_zero]; rfl
theorem dotA_nonneg {r a : Nat → Int} : ∀ {n}, (∀ k, k < n → 0 ≤ r k * a k) → 0 ≤ dotA r a n ∧ (dotA r a n = 0 → ∀ k, k < n → r k * a k = 0)
  | 0, _ => ⟨Int.le_refl _, fun _ k hk => absurd hk (by omega)⟩
  | n + 1, h => by
    obtain ⟨h1, h2⟩ := dotA_nonneg (n := n) fun k hk => h k (by omega)
    have h3 := h n (by omega)
    rw [dotA]
    refine ⟨by omega, fun h0 k hk => ?_⟩
    rcases Nat.lt_or_ge k n with h4 | h4
    · exact h2 (by omega) k h4
    · rw [show k = n from by omega]; omega
/-- as long as the rows give 0, they are 0 at the variables that occur -/
theorem valid_rows {n : Nat} {f : Nat → Nat → Int} {a : Nat → Int} (hv : ∀ i, i < n → ∀ k, k < 8 → okAt f i k) (ha : ∀ k, k < 8 → 0 ≤ a k) :
    ∀ i, i ≤ n → (∀ i', i' < i → dotA (f i') a 8 = 0) → ∀ i', i' < i → ∀ k, k < 8 → 0 < a k → f i' k = 0
  | 0, _, _ => fun i' h => absurd h (by omega)
  | i + 1, hi, h => by
    have ih := valid_rows hv ha i (by omega) fun i' hi' => h i' (by omega)
    intro i' hi' k hk hak
    rcases Nat.lt_or_ge i' i with h1 | h1
    · exact ih i' h1 k hk hak
    · obtain rfl : i' = i := by omega
      have hpos : ∀ k, k < 8 → 0 ≤ f i' k * a k := fun k hk => by
        rcases Int.lt_or_le 0 (a k) with h2 | h2
        · have h3 : 0 ≤ f i' k := by
            rcases Int.lt_or_le (f i' k) 0 with h4 | h4
            · have := (hv i' (by omega) k hk).2.2 h4
              obtain ⟨j, hj, hj'⟩ := begun_iff.1 this
              have := ih j hj k hk h2
              omega
            · exact h4
          exact Int.mul_nonneg h3 (by omega)
        · rw [show a k = 0 from by have := ha k hk; omega, Int.mul_zero]; omega
      have := (dotA_nonneg hpos).2 (h i' (by omega)) k hk
      rcases Int.mul_eq_zero.1 this with h5 | h5
      · exact h5
      · omega
/-- 1 is the least monomial -/
theorem ordC_least {n : Nat} {f : Nat → Nat → Int} {a : Nat → Int} (hv : ∀ i, i < n → ∀ k, k < 8 → okAt f i k) (ha : ∀ k, k < 8 → 0 ≤ a k) : 0 ≤ ordC n f a (fun _ => 0) := by
  rw [ordC_key]
  rcases lexC_cases (keyF n f a) (keyF n f fun _ => 0) (n + 8) with ⟨h, _⟩ | ⟨h, _⟩ | ⟨h, k, hk, e, hl⟩
  · omega
  · omega
  · exfalso
    have e' : ∀ i', i' < k → i' < n → dotA (f i') a 8 = 0 := fun i' h1 h2 => by
      have := e i' h1
      unfold keyF at this
      rwa [if_pos h2, if_pos h2, dotA_zero] at this
    unfold keyF at hl
    by_cases hkn : k < n
    · rw [if_pos hkn, if_pos hkn, dotA_zero] at hl
      have hz := valid_rows hv ha k (by omega) fun i' h1 => e' i' h1 (by omega)
      have : 0 ≤ dotA (f k) a 8 := (dotA_nonneg fun j hj => by
        rcases Int.lt_or_le 0 (a j) with h2 | h2
        · have h3 : 0 ≤ f k j := by
            rcases Int.lt_or_le (f k j) 0 with h4 | h4
            · have := (hv k hkn j hj).2.2 h4
              obtain ⟨i', hi', hp⟩ := begun_iff.1 this
              have := hz i' hi' j hj h2
              omega
            · exact h4
          exact Int.mul_nonneg h3 (by omega)
        · rw [show a j = 0 from by have := ha j hj; omega, Int.mul_zero]; omega).1
      omega
    · rw [if_neg hkn, if_neg hkn] at hl
      dsimp only at hl
      have := ha (k - n) (by omega)
      omega

end Go.Proofs.YtmkhfgggleplfaaGreat
