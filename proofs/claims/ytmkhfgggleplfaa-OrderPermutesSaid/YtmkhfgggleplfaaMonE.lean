/-
  The walk of Sort. Conditions: at most 12 monomials, whose exponents are at most 131070; weights of at most 1000.
-/
import Derived.Test.YtmkhfgggleplfaaMonD
namespace Go.Proofs.Ytmkhfgggleplfaa
set_option linter.unusedSimpArgs false
set_option linter.unusedVariables false
open Go.RowKit

def SortSays (w' : World) (n m : Nat) (f d : Nat → Nat → Int) (e : Ending) : Prop :=
  ∃ (r : Value) (k : Nat) (h : Nat → Nat → Int), e = .returned r ∧ (∃ g c, r = .slice (some ⟨g, 0, none⟩) k c) ∧ OrdV w' r k h ∧ k ≤ m ∧ (∀ a, a < k → Small (h a)) ∧ (∀ a, a < k → ∃ j, j < m ∧ ∀ c, c < 8 → h a c = d j c) ∧
    (∀ j, j < m → ∃ a, a < k ∧ ∀ c, c < 8 → h a c = d j c) ∧ (∀ a b, a < b → b < k → ordC n f (h a) (h b) = 1)

theorem comp_sorted {n m k : Nat} {f s h : Nat → Nat → Int} {E : Nat → Nat} (hC : Comp s m k h E) (hs : ∀ i j, i < j → j < m → 0 ≤ ordC n f (s i) (s j)) : ∀ b a, a < b → b < k → ordC n f (h a) (h b) = 1 := by
  have hnext : ∀ a, a + 1 < k → ordC n f (h a) (h (a + 1)) = 1 := fun a ha => by
    obtain ⟨k1, k2⟩ := hC.at_ a (by omega)
    obtain ⟨k3, k4⟩ := hC.at_ (a + 1) ha
    have h1 := hs (E a) (E (a + 1)) (hC.up a (a + 1) (by omega) ha) k3
    rw [← ordC_congr (f := f) (fun _ _ _ _ => rfl) k2 k4] at h1
    rcases ordC_range n f (h a) (h (a + 1)) with h2 | h2 | h2
    · exact absurd (ordC_zero.1 h2) (hC.far a ha)
    · exact h2
    · omega
  intro b
  induction b with
  | zero => intro a h1; omega
  | succ b ih =>
    intro a h1 h2
    rcases Nat.lt_or_ge a b with h3 | h3
    · exact ordC_trans (ih a h3 (by omega)) (hnext b h2)
    · rw [show a = b from by omega]; exact hnext b h2

set_option maxHeartbeats 1000000 in
theorem sort_any {w : World} {v : Value} {n m c : Nat} {ad : Addr} {f d : Nat → Nat → Int} (ho : OrdV w v n f) (hl : OrdV w (.slice (some ad) m c) m d) (hf : ∀ i, i < n → ∀ k, k < 8 → -1000 ≤ f i k ∧ f i k ≤ 1000)
    (hs : ∀ i, i < m → Small (d i)) (hm : m ≤ 12) : Calls Try.prog 11 #[v, .slice (some ad) m c] w fun e w' => SortSays w' n m f d e ∧ Below w.heap.size w w' := by
  obtain ⟨W0, hW0, hb0, hbx0, hs0⟩ : ∃ W0, W0 = w.alloc (.cells #[v] 28) ∧ Below w.heap.size w W0 ∧ W0.cell? ⟨w.heap.size, 0, none⟩ = some v ∧ W0.heap.size = w.heap.size + 1 :=
    ⟨_, rfl, (Below.refl _ _).alloc (Nat.le_refl _) _, (Blk.new w 28 #[v]).cell 0, by simp⟩
  obtain ⟨A, c0, rfl, hnc, hcm, hA⟩ := id ho
  go_enter Try.func11, Try.ntmps11
  go_wp2_with fail
  rw [← hW0]
  clear hW0
  refine (clone_monos (hl.below hb0) (by omega)).mono ?_
  rintro e w1 ⟨r, rfl, hr, hrg, hb1⟩
  obtain ⟨g, c1, rfl, hc1, hcm1, hg1, hg2⟩ := hrg ad c rfl
  have hbx1 : w1.cell? ⟨w.heap.size, 0, none⟩ = some (.slice A n c0) := (hb1.cell (p := ⟨w.heap.size, 0, none⟩) (by show w.heap.size < _; omega)).trans hbx0
  have hb01 := hb0.trans (hb1.mono hb0.size)
  have ho1 := ho.below hb01
  have hne : 0 < n → ∀ b : Nat, (Value.slice A n c0).ownBlock = some b → b ≠ g := fun h0 b hb => by
    obtain ⟨b', off, rfl, hlt, _⟩ := hA h0
    simp [Value.ownBlock] at hb
    omega
  go_wp2_with fail
  refine (sort_monos ho1 hbx1 hf hne (by omega) hg2 hr.monH hs hm).mono ?_
  rintro e w2 ⟨rfl, d', hM, hsm, hin, hall, hsort, hO⟩
  have hg3 : g < w2.heap.size := by have := hO.size; omega
  have hb02 : Below w.heap.size w w2 := hb01.trans (hO.below (by omega) hb01.size)
  go_wp2_with fail
  refine (compact_any hM hg3 (fun i hi k hk => by have := hsm i hi k hk; omega) hc1 hcm1).mono ?_
  rintro e w3 ⟨⟨k, h, E, rfl, hC, hM3⟩, hO3⟩
  go_wp2
  go_ret
  have hb03 : Below w.heap.size w w3 := hb02.trans (hO3.below (by omega) hb02.size)
  have hsame : ∀ a, a < k → ∃ j, j < m ∧ ∀ c, c < 8 → h a c = d' j c := fun a ha => ⟨E a, (hC.at_ a ha).1, (hC.at_ a ha).2⟩
  refine ⟨⟨_, k, h, rfl, ⟨g, c1, rfl⟩, hM3.ordV (by have := hO3.size; omega) (by have := hC.le; omega) hcm1, hC.le, fun a ha x hx => ?_, fun a ha => ?_, fun j hj => ?_, fun a b h1 h2 => comp_sorted hC hsort b a h1 h2⟩, hb03⟩
  · obtain ⟨j, hj, e⟩ := hsame a ha
    rw [e x hx]; exact hsm j hj x hx
  · obtain ⟨j, hj, e⟩ := hsame a ha
    obtain ⟨i, hi, e'⟩ := hin j hj
    exact ⟨i, hi, fun x hx => by rw [e x hx, e' x hx]⟩
  · obtain ⟨i, hi, e⟩ := hall j hj
    obtain ⟨a, ha, e'⟩ := hC.all i hi
    exact ⟨a, ha, fun x hx => by rw [e' x hx, e x hx]⟩

end Go.Proofs.Ytmkhfgggleplfaa
