/-
  Elimination without a program: rows of rational numbers have the zero vector alone in their kernel exactly if the elimination finds a pivot in each column.
-/
import Derived.Test.YtmkhfgggleplfaaGreatBase
namespace Go.Proofs.YtmkhfgggleplfaaGreat
set_option linter.unusedSimpArgs false
set_option linter.unusedVariables false
open Go.RowKit

def dotR (r x : Nat → Rat) : Nat → Rat
  | 0 => 0
  | n + 1 => dotR r x n + r n * x n
def elimR (r p : Nat → Rat) (k : Nat) : Nat → Rat := fun j => r j - r k / p k * p j
def Inj8 (k : Nat) (rows : List (Nat → Rat)) : Prop :=
  ∀ x : Nat → Rat, (∀ j, j < k → x j = 0) → (∀ r ∈ rows, dotR r x 8 = 0) → ∀ j, j < 8 → x j = 0

theorem dotR_zero {r x : Nat → Rat} : ∀ {n}, (∀ j, j < n → r j * x j = 0) → dotR r x n = 0
  | 0, _ => rfl
  | n + 1, h => by rw [dotR, dotR_zero fun j hj => h j (by omega), h n (by omega), Rat.add_zero]
theorem dotR_congr {r x r' x' : Nat → Rat} : ∀ {n}, (∀ j, j < n → r j * x j = r' j * x' j) → dotR r x n = dotR r' x' n
  | 0, _ => rfl
  | n + 1, h => by rw [dotR, dotR, dotR_congr fun j hj => h j (by omega), h n (by omega)]
theorem dotR_only {r x : Nat → Rat} {k : Nat} : ∀ {n}, k < n → (∀ j, j < n → j ≠ k → r j * x j = 0) → dotR r x n = r k * x k
  | 0, hk, _ => absurd hk (by omega)
  | n + 1, hk, h => by
    rw [dotR]
    by_cases e : k = n
    · subst e
      rw [dotR_zero fun j hj => h j (by omega) (by omega), Rat.zero_add]
    · rw [dotR_only (k := k) (by omega) fun j hj hne => h j (by omega) hne, h n (by omega) (by omega), Rat.add_zero]
theorem dotR_elim (r p x : Nat → Rat) (k : Nat) : ∀ n, dotR (elimR r p k) x n = dotR r x n - r k / p k * dotR p x n
  | 0 => by simp [dotR, Rat.mul_zero, Rat.sub_self]
  | n + 1 => by
    rw [dotR, dotR, dotR, dotR_elim r p x k n]
    unfold elimR
    generalize r k / p k = c
    generalize dotR r x n = A
    generalize dotR p x n = B
    generalize x n = X
    generalize r n = R
    generalize p n = Q
    rw [Rat.mul_add, Rat.sub_eq_add_neg, Rat.sub_eq_add_neg, Rat.sub_eq_add_neg, Rat.add_mul, Rat.neg_add, Rat.neg_mul, Rat.mul_assoc, ← Rat.neg_mul c B, ← Rat.neg_mul]
    ac_rfl
theorem dotR_split {r x : Nat → Rat} {k n : Nat} (hk : k < n) : dotR r x n = dotR r (fun j => if j = k then 0 else x j) n + r k * x k := by
  induction n with
  | zero => exact absurd hk (by omega)
  | succ n ih =>
    rw [dotR, dotR]
    by_cases e : k = n
    · subst e
      rw [if_pos rfl, Rat.mul_zero, Rat.add_zero]
      congr 1
      exact dotR_congr fun j hj => by rw [if_neg (by omega)]
    · rw [ih (by omega), if_neg (by omega)]
      ac_rfl

theorem inj_none {k : Nat} {rows : List (Nat → Rat)} (hk : k < 8) (h : ∀ r ∈ rows, r k = 0) : ¬ Inj8 k rows := fun hi => by
  have := hi (fun j => if j = k then 1 else 0) (fun j hj => if_neg (by omega)) (fun r hr => by
    rw [dotR_only (k := k) hk fun j _ hne => by rw [if_neg hne, Rat.mul_zero], h r hr, Rat.zero_mul]) k hk
  rw [if_pos rfl] at this
  exact absurd this (by decide)
theorem inj_all (rows : List (Nat → Rat)) : Inj8 8 rows := fun _ h _ => h
theorem elimR_pivot {r p : Nat → Rat} {k : Nat} (hp : p k ≠ 0) : elimR r p k k = 0 := by
  unfold elimR
  rw [Rat.div_def, Rat.mul_assoc, Rat.inv_mul_cancel _ hp, Rat.mul_one, Rat.sub_self]
theorem inj_step {k : Nat} {rows rest : List (Nat → Rat)} {p : Nat → Rat} (hk : k < 8) (hp : p k ≠ 0) (hm : ∀ r, r ∈ rows ↔ r = p ∨ r ∈ rest) :
    Inj8 k rows ↔ Inj8 (k + 1) (rest.map fun r => elimR r p k) := by
  constructor
  · intro hi x hx hr
    -- x with its place k put so that p vanishes
    let y : Nat → Rat := fun j => if j = k then -(dotR p x 8) / p k else x j
    have hxk : x k = 0 := hx k (by omega)
    have hyx : ∀ r : Nat → Rat, dotR r y 8 = dotR r x 8 + r k * y k := fun r => by
      rw [dotR_split (k := k) hk, dotR_split (r := r) (x := x) (k := k) hk, hxk, Rat.mul_zero, Rat.add_zero]
      congr 1
      exact dotR_congr fun j _ => by
        by_cases e : j = k
        · rw [if_pos e, if_pos e]
        · rw [if_neg e, if_neg e]; show r j * (if j = k then _ else x j) = _; rw [if_neg e]
    have hyk : y k = -(dotR p x 8) / p k := if_pos rfl
    have hpy : dotR p y 8 = 0 := by
      rw [hyx, hyk, Rat.div_def, Rat.mul_comm, Rat.mul_assoc, Rat.inv_mul_cancel _ hp, Rat.mul_one, Rat.add_neg_cancel]
    have h := hi y (fun j hj => by show (if j = k then _ else x j) = 0; rw [if_neg (by omega)]; exact hx j (by omega)) (fun r hrr => by
      rcases (hm r).1 hrr with rfl | hrr
      · exact hpy
      · have h0 := hr _ (List.mem_map.2 ⟨r, hrr, rfl⟩)
        have h1 : dotR (elimR r p k) y 8 = 0 := by rw [hyx, h0, elimR_pivot hp, Rat.zero_mul, Rat.add_zero]
        rw [dotR_elim, hpy, Rat.mul_zero, Rat.sub_eq_add_neg, Rat.neg_zero, Rat.add_zero] at h1
        exact h1)
    intro j hj
    by_cases e : j = k
    · rw [e, hxk]
    · have := h j hj
      rwa [show y j = x j from if_neg e] at this
  · intro hi x hx hr
    have hpx : dotR p x 8 = 0 := hr p ((hm p).2 (.inl rfl))
    let y : Nat → Rat := fun j => if j = k then 0 else x j
    have h := hi y (fun j hj => by
      show (if j = k then 0 else x j) = 0
      by_cases e : j = k
      · rw [if_pos e]
      · rw [if_neg e]; exact hx j (by omega)) (fun r' hr' => by
      obtain ⟨r, hrr, rfl⟩ := List.mem_map.1 hr'
      have h0 := hr r ((hm r).2 (.inr hrr))
      have h1 : dotR (elimR r p k) x 8 = 0 := by rw [dotR_elim, h0, hpx, Rat.mul_zero, Rat.sub_self]
      rw [dotR_split (k := k) hk, elimR_pivot hp, Rat.zero_mul, Rat.add_zero] at h1
      exact h1)
    have hne : ∀ j, j < 8 → j ≠ k → x j = 0 := fun j hj hjk => by
      have := h j hj
      rwa [show y j = x j from if_neg hjk] at this
    intro j hj
    by_cases e : j = k
    · subst e
      rw [dotR_only (k := j) hk fun i hi hij => by rw [hne i hi hij, Rat.mul_zero]] at hpx
      rcases Rat.mul_eq_zero.1 hpx with h1 | h1
      · exact absurd h1 hp
      · exact h1
    · exact hne j hj e
theorem mem_erase_at {α : Type} {l : List α} {i : Nat} (hi : i < l.length) (r : α) : r ∈ l ↔ r = l[i] ∨ r ∈ l.eraseIdx i := by
  rw [List.mem_eraseIdx_iff_getElem, List.mem_iff_getElem]
  constructor
  · rintro ⟨j, hj, rfl⟩
    by_cases e : j = i
    · subst e; exact .inl rfl
    · exact .inr ⟨j, hj, e, rfl⟩
  · rintro (rfl | ⟨j, hj, _, rfl⟩)
    · exact ⟨i, hi, rfl⟩
    · exact ⟨j, hj, rfl⟩

end Go.Proofs.YtmkhfgggleplfaaGreat
