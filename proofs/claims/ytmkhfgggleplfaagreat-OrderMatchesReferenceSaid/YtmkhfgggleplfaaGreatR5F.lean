/-
  Plain laws of rank: rows brought into steps. No condition.
-/
import Derived.Test.YtmkhfgggleplfaaGreatOrdD
namespace Go.Proofs.YtmkhfgggleplfaaGreat
set_option linter.unusedSimpArgs false
set_option linter.unusedVariables false
open Go.RowKit

theorem php : ∀ (n m : Nat) (p : Nat → Nat), (∀ l, l < m → p l < n) → (∀ l q, l < m → q < m → p l = p q → l = q) → m ≤ n
  | 0, m, p, h, _ => by
    rcases Nat.eq_zero_or_pos m with h0 | h0
    · omega
    · have := h 0 h0; omega
  | n + 1, m, p, h, hi => by
    by_cases hex : ∃ l, l < m ∧ p l = n
    · obtain ⟨l0, hl0, he⟩ := hex
      have := php n (m - 1) (fun l => if l < l0 then p l else p (l + 1)) (fun l hl => by
        have hne : ∀ q, q < m → q ≠ l0 → p q < n := fun q hq hne => by
          have h1 := h q hq
          rcases Nat.lt_or_ge (p q) n with h2 | h2
          · exact h2
          · exact absurd (hi q l0 hq hl0 (by omega)) hne
        show (if l < l0 then p l else p (l + 1)) < n
        split
        · exact hne l (by omega) (by omega)
        · exact hne (l + 1) (by omega) (by omega)) (fun l q hl hq e => by
        by_cases h1 : l < l0 <;> by_cases h2 : q < l0
        · rw [if_pos h1, if_pos h2] at e; exact hi l q (by omega) (by omega) e
        · rw [if_pos h1, if_neg h2] at e; have := hi l (q + 1) (by omega) (by omega) e; omega
        · rw [if_neg h1, if_pos h2] at e; have := hi (l + 1) q (by omega) (by omega) e; omega
        · rw [if_neg h1, if_neg h2] at e; have := hi (l + 1) (q + 1) (by omega) (by omega) e; omega)
      omega
    · have := php n m p (fun l hl => by
        have h1 := h l hl
        rcases Nat.lt_or_ge (p l) n with h2 | h2
        · exact h2
        · exact absurd ⟨l, hl, by omega⟩ hex) hi
      omega

/-- rows in steps: row l has 1 at its place, and 0 at the places of the rows before it -/
structure Steps (m : Nat) (pl : Nat → Nat) (d : Nat → Nat → Rat) : Prop where
  lt : ∀ l, l < m → pl l < 8
  one : ∀ l, l < m → d l (pl l) = 1
  zero : ∀ l p, l < m → p < l → d l (pl p) = 0
theorem rat_one_ne : (1 : Rat) ≠ 0 := by decide
theorem Steps.inj {m : Nat} {pl : Nat → Nat} {d : Nat → Nat → Rat} (h : Steps m pl d) : ∀ l p, l < m → p < m → pl l = pl p → l = p := fun l p hl hp e => by
  rcases Nat.lt_trichotomy l p with h1 | h1 | h1
  · have := h.zero p l hp h1; rw [e, h.one p hp] at this; exact absurd this rat_one_ne
  · exact h1
  · have := h.zero l p hl h1; rw [← e, h.one l hl] at this; exact absurd this rat_one_ne
theorem Steps.le {m : Nat} {pl : Nat → Nat} {d : Nat → Nat → Rat} (h : Steps m pl d) : m ≤ 8 := php 8 m pl h.lt h.inj
/-- all rows are 0 on x -/
def Kills (m : Nat) (d : Nat → Nat → Rat) (x : Nat → Rat) : Prop := ∀ l, l < m → dotR (d l) x 8 = 0
theorem Steps.full {pl : Nat → Nat} {d : Nat → Nat → Rat} (h : Steps 8 pl d) {x : Nat → Rat} (hk : Kills 8 d x) : ∀ j, j < 8 → x j = 0 := by
  have hsur : ∀ j, j < 8 → ∃ l, l < 8 ∧ pl l = j := fun j hj => Classical.byContradiction fun hne => by
    have hn : ∀ l, l < 8 → pl l ≠ j := fun l hl e => hne ⟨l, hl, e⟩
    have := php 7 8 (fun l => if pl l < j then pl l else pl l - 1) (fun l hl => by
      have h1 := h.lt l hl; have h2 := hn l hl
      show (if pl l < j then pl l else pl l - 1) < 7
      split <;> omega) (fun l q hl hq e => by
      have h2 := hn l hl
      have h3 := hn q hq
      refine h.inj l q hl hq ?_
      split at e <;> split at e <;> omega)
    omega
  have hdown : ∀ k, k ≤ 8 → ∀ l, 8 - k ≤ l → l < 8 → x (pl l) = 0 := by
    intro k
    induction k with
    | zero => intro _ l h1 h2; omega
    | succ k ih =>
      intro hk8 l h1 h2
      by_cases e : 8 - k ≤ l
      · exact ih (by omega) l e h2
      · have h3 := hk l h2
        rw [dotR_only (k := pl l) (h.lt l h2) (fun j hj hne => ?_), h.one l h2, Rat.one_mul] at h3
        · exact h3
        · obtain ⟨p, hp, rfl⟩ := hsur j hj
          rcases Nat.lt_trichotomy p l with h4 | h4 | h4
          · rw [h.zero l p h2 h4, Rat.zero_mul]
          · subst h4; exact absurd rfl hne
          · rw [ih (by omega) p (by omega) hp, Rat.mul_zero]
  intro j hj
  obtain ⟨l, hl, rfl⟩ := hsur j hj
  exact hdown 8 (Nat.le_refl _) l (by omega) hl

theorem inj_len : ∀ (n k : Nat) (rows : List (Nat → Rat)), k + n = 8 → Inj8 k rows → n ≤ rows.length
  | 0, _, _, _, _ => Nat.zero_le _
  | n + 1, k, rows, hk, h => by
    by_cases hex : ∃ r, r ∈ rows ∧ r k ≠ 0
    · obtain ⟨r, hr, hne⟩ := hex
      obtain ⟨i, hi, rfl⟩ := List.mem_iff_getElem.1 hr
      have h1 := (inj_step (by omega) hne (mem_erase_at hi)).1 h
      have h2 := inj_len n (k + 1) _ (by omega) h1
      rw [List.length_map, List.length_eraseIdx_of_lt hi] at h2
      omega
    · exact absurd h (inj_none (by omega) fun r hr => Classical.byContradiction fun hne => hex ⟨r, hr, hne⟩)

/-- the rows of f below i and the steps vanish together -/
def SameZero (f : Nat → Nat → Int) (i m : Nat) (d : Nat → Nat → Rat) : Prop := ∀ x : Nat → Rat, (∀ r, r < i → dotR (rowQ f r) x 8 = 0) ↔ Kills m d x
theorem rank_eight {f : Nat → Nat → Int} {n m : Nat} {pl : Nat → Nat} {d : Nat → Nat → Rat} (h : Steps m pl d) (hz : SameZero f n m d) : m = 8 ↔ IndepP n f := by
  constructor
  · rintro rfl x _ hr
    refine h.full ((hz x).1 fun r hr' => hr _ ?_)
    simp only [listQ, List.mem_map, List.mem_range]
    exact ⟨r, hr', rfl⟩
  · intro hi
    have h1 : Inj8 0 ((List.range m).map d) := fun x hx hr => hi x hx (fun r hr' => by
      simp only [listQ, List.mem_map, List.mem_range] at hr'
      obtain ⟨a, ha, rfl⟩ := hr'
      exact (hz x).2 (fun l hl => hr _ (List.mem_map.2 ⟨l, List.mem_range.2 hl, rfl⟩)) a ha)
    have h2 := inj_len 8 0 _ rfl h1
    rw [List.length_map, List.length_range] at h2
    have := h.le
    omega

theorem dotR_comb (r p x : Nat → Rat) (c : Rat) : ∀ n, dotR (fun j => r j - c * p j) x n = dotR r x n - c * dotR p x n
  | 0 => by simp [dotR, Rat.mul_zero, Rat.sub_self]
  | n + 1 => by
    rw [dotR, dotR, dotR, dotR_comb r p x c n]
    generalize dotR r x n = A
    generalize dotR p x n = B
    generalize x n = X
    generalize r n = R
    generalize p n = Q
    rw [Rat.mul_add, Rat.sub_eq_add_neg, Rat.sub_eq_add_neg, Rat.sub_eq_add_neg, Rat.add_mul, Rat.neg_add, Rat.neg_mul, Rat.mul_assoc, ← Rat.neg_mul c B, ← Rat.neg_mul]
    ac_rfl
theorem dotR_scale (r x : Nat → Rat) (c : Rat) : ∀ n, dotR (fun j => r j * c) x n = dotR r x n * c
  | 0 => by simp [dotR, Rat.zero_mul]
  | n + 1 => by
    rw [dotR, dotR, dotR_scale r x c n, Rat.add_mul, Rat.mul_assoc (r n) c, Rat.mul_comm c, ← Rat.mul_assoc (r n)]

/-- the row i, reduced by n steps -/
structure Red (f : Nat → Nat → Int) (i n m : Nat) (pl : Nat → Nat) (d : Nat → Nat → Rat) (y : Nat → Rat) : Prop where
  same : ∀ x, Kills m d x → dotR y x 8 = dotR (rowQ f i) x 8
  zero : ∀ p, p < n → y (pl p) = 0
theorem Red.start (f : Nat → Nat → Int) (i m : Nat) (pl : Nat → Nat) (d : Nat → Nat → Rat) : Red f i 0 m pl d (rowQ f i) := ⟨fun _ _ => rfl, fun p hp => absurd hp (by omega)⟩
theorem Red.next {f : Nat → Nat → Int} {i n m : Nat} {pl : Nat → Nat} {d : Nat → Nat → Rat} {y : Nat → Rat} (h : Red f i n m pl d y) (hs : Steps m pl d) (hn : n < m) : Red f i (n + 1) m pl d (fun j => y j - y (pl n) * d n j) where
  same x hx := by rw [dotR_comb, hx n hn, Rat.mul_zero, Rat.sub_eq_add_neg, Rat.neg_zero, Rat.add_zero]; exact h.same x hx
  zero p hp := by
    show y (pl p) - y (pl n) * d n (pl p) = 0
    by_cases e : p = n
    · subst e; rw [hs.one p hn, Rat.mul_one, Rat.sub_self]
    · rw [h.zero p (by omega), hs.zero n p hn (by omega), Rat.mul_zero, Rat.sub_self]
theorem Red.none {f : Nat → Nat → Int} {i m : Nat} {pl : Nat → Nat} {d : Nat → Nat → Rat} {y : Nat → Rat} (h : Red f i m m pl d y) (hz : SameZero f i m d) (h0 : ∀ j, j < 8 → y j = 0) : SameZero f (i + 1) m d := fun x => by
  constructor
  · intro hx; exact (hz x).1 fun r hr => hx r (by omega)
  · intro hx r hr
    by_cases e : r = i
    · subst e
      rw [← h.same x hx]
      exact dotR_zero fun j hj => by rw [h0 j hj, Rat.zero_mul]
    · exact (hz x).2 hx r (by omega)
def addAt {α : Type} (m : Nat) (g : Nat → α) (v : α) : Nat → α := fun l => if l = m then v else g l
theorem Red.more {f : Nat → Nat → Int} {i m k : Nat} {pl : Nat → Nat} {d : Nat → Nat → Rat} {y : Nat → Rat} (h : Red f i m m pl d y) (hs : Steps m pl d) (hz : SameZero f i m d) (hk : k < 8) (h0 : y k ≠ 0) :
    Steps (m + 1) (addAt m pl k) (addAt m d fun j => y j * (y k)⁻¹) ∧ SameZero f (i + 1) (m + 1) (addAt m d fun j => y j * (y k)⁻¹) := by
  have old : ∀ {α : Type} (g : Nat → α) (v : α) l, l < m → addAt m g v l = g l := fun g v l hl => if_neg (by omega)
  have new : ∀ {α : Type} (g : Nat → α) (v : α), addAt m g v m = v := fun g v => if_pos rfl
  have hinv : (y k)⁻¹ ≠ 0 := fun e => by
    have := Rat.mul_inv_cancel _ h0
    rw [e, Rat.mul_zero] at this
    exact rat_one_ne this.symm
  refine ⟨⟨fun l hl => ?_, fun l hl => ?_, fun l p hl hp => ?_⟩, fun x => ?_⟩
  · by_cases e : l = m
    · subst e; rw [new]; exact hk
    · rw [old _ _ _ (by omega)]; exact hs.lt l (by omega)
  · by_cases e : l = m
    · subst e; rw [new, new]; exact Rat.mul_inv_cancel _ h0
    · rw [old _ _ _ (by omega), old _ _ _ (by omega)]; exact hs.one l (by omega)
  · by_cases e : l = m
    · subst e
      rw [new, old _ _ _ hp]
      show y (pl p) * _ = 0
      rw [h.zero p hp, Rat.zero_mul]
    · rw [old _ _ _ (by omega), old _ _ _ (by omega)]; exact hs.zero l p (by omega) hp
  · have hd : dotR (fun j => y j * (y k)⁻¹) x 8 = dotR y x 8 * (y k)⁻¹ := dotR_scale _ _ _ _
    constructor
    · intro hx l hl
      have hK : Kills m d x := (hz x).1 fun r hr => hx r (by omega)
      by_cases e : l = m
      · subst e; rw [new, hd, h.same x hK, hx i (by omega), Rat.zero_mul]
      · rw [old _ _ _ (by omega)]; exact hK l (by omega)
    · intro hx r hr
      have hK : Kills m d x := fun l hl => by have := hx l (by omega); rwa [old _ _ _ hl] at this
      by_cases e : r = i
      · subst e
        have h1 := hx m (by omega)
        rw [new, hd, h.same x hK] at h1
        rcases Rat.mul_eq_zero.1 h1 with h2 | h2
        · exact h2
        · exact absurd h2 hinv
      · exact (hz x).2 hK r (by omega)

/-- bounds of the numbers -/
def rb : Nat → Nat
  | 0 => 1
  | n + 1 => 4 * rb n + 1
theorem RBd.mul' {j k : Nat} {q r : Rat} (hq : RBd j q) (hr : RBd k r) : RBd (j + k) (q * r) := by
  rw [← rat_mul_eq]
  exact RBd.divInt (hq.1.mul hr.1) (hq.2.mul hr.2) (Int.mul_ne_zero (by have := q.den_nz; omega) (by have := r.den_nz; omega))
theorem Bd.sub' {j k : Nat} {x y : Int} (hx : Bd j x) (hy : Bd k y) : Bd (max j k + 1) (x - y) := (hx.mono (Nat.le_max_left _ _)).sub (hy.mono (Nat.le_max_right _ _))
theorem RBd.sub' {j k : Nat} {q r : Rat} (hq : RBd j q) (hr : RBd k r) : RBd (j + k + 1) (q - r) := by
  rw [← rat_sub_eq]
  have h1 : Bd (j + k) (q.num * (r.den : Int)) := hq.1.mul hr.2
  have h2 : Bd (j + k) (r.num * (q.den : Int)) := by rw [Nat.add_comm]; exact hr.1.mul hq.2
  exact RBd.divInt (h1.sub h2) ((hq.2.mul hr.2).mono (by omega)) (Int.mul_ne_zero (by have := q.den_nz; omega) (by have := r.den_nz; omega))
theorem rb_mono : ∀ {a b : Nat}, a ≤ b → rb a ≤ rb b
  | a, 0, h => by rw [show a = 0 from by omega]; exact Nat.le_refl _
  | a, b + 1, h => by
    by_cases e : a = b + 1
    · rw [e]; exact Nat.le_refl _
    · have := rb_mono (a := a) (b := b) (by omega); simp only [rb]; omega
theorem rb_le {a : Nat} (h : a ≤ 8) : rb a ≤ 100000 := Nat.le_trans (rb_mono h) (by decide)
theorem rbd_red {n : Nat} {a c b : Rat} (ha : RBd (rb n) a) (hc : RBd (rb n) c) (hb : RBd (2 * rb n) b) : RBd (rb (n + 1)) (a - c * b) :=
  (ha.sub' (hc.mul' hb)).mono (by simp only [rb]; omega)

end Go.Proofs.YtmkhfgggleplfaaGreat
