/-
  The walk of Compact of a list of monomials. Conditions: exponents of type int.
-/
import Derived.Test.YtmkhfgggleplfaaMonB
import Derived.Lib.SliceRun
namespace Go.Proofs.Ytmkhfgggleplfaa
set_option linter.unusedSimpArgs false
set_option linter.unusedVariables false
open Go.RowKit

theorem run_clear_wide {P : Program} (w : World) (t e ty : TypeId) (z : Value) (ht : P.underlying t = some (.slice e)) (hv : ∀ w, (zeroValue e).run P w = .ok z w) (h1 : ∀ u ∈ z.cells.toList, u.oneCell' = true) (b o n c : Nat) (hn : 0 < n)
    (hc : ∀ j, j < n * z.cells.size → (w.cell? ⟨b, o + j, none⟩).isSome = true) (hf : ∀ j, j < n * z.cells.size → w.frozen? ⟨b, o + j, none⟩ = false) :
    (Builtin.clear_ #[t] ty #[.slice (some ⟨b, o, none⟩) n c]).run P w = .ok (.tuple #[]) (w.setCells b o (Builtin.zeroCells z.cells n).toList) := by
  have hl : (Builtin.zeroCells z.cells n).toList.length = n * z.cells.size := by simp [Builtin.zeroCells]
  have hst := run_storeCells_cells (P := P) b o (Builtin.zeroCells z.cells n).toList 0 w (by rw [hl]; simpa using hc) (by rw [hl]; simpa using hf) (fun u hu => zeroCells_all (φ := fun u => u.oneCell') h1 n u hu)
  simp only [Nat.add_zero] at hst
  obtain ⟨m, rfl⟩ : ∃ m, n = m + 1 := ⟨n - 1, by omega⟩
  simp [Builtin.clear_, run_underlying ht, hv, hst]
theorem zero_mono (w : World) : (zeroValue 35).run Try.prog w = .ok (.agg (vec8 fun _ => 0)) w := by kernel_rfl

/-- what Compact has found among the first i: k of them, by the places E, no two neighbours alike -/
structure Comp (d : Nat → Nat → Int) (i k : Nat) (h : Nat → Nat → Int) (E : Nat → Nat) : Prop where
  le : k ≤ i
  at_ : ∀ a, a < k → E a < i ∧ ∀ c, c < 8 → h a c = d (E a) c
  up : ∀ a b, a < b → b < k → E a < E b
  far : ∀ a, a + 1 < k → ¬ ∀ c, c < 8 → h a c = h (a + 1) c
  all : ∀ j, j < i → ∃ a, a < k ∧ ∀ c, c < 8 → h a c = d j c
  last : 0 < i → 0 < k ∧ ∀ c, c < 8 → h (k - 1) c = d (i - 1) c
theorem Comp.one (d : Nat → Nat → Int) : Comp d 1 1 d id where
  le := Nat.le_refl _
  at_ a ha := ⟨ha, fun _ _ => rfl⟩
  up a b h1 h2 := by omega
  far a ha := by omega
  all j hj := ⟨0, by omega, fun c _ => by rw [show j = 0 from by omega]⟩
  last _ := ⟨by omega, fun _ _ => rfl⟩
theorem Comp.skip {d : Nat → Nat → Int} {i k : Nat} {h : Nat → Nat → Int} {E : Nat → Nat} (hc : Comp d i k h E) (hi : 0 < i) (e : ∀ c, c < 8 → d i c = d (i - 1) c) : Comp d (i + 1) k h E where
  le := by have := hc.le; omega
  at_ a ha := ⟨by have := (hc.at_ a ha).1; omega, (hc.at_ a ha).2⟩
  up := hc.up
  far := hc.far
  all j hj := by
    rcases Nat.lt_or_ge j i with h1 | h1
    · exact hc.all j h1
    · obtain ⟨h2, h3⟩ := hc.last hi
      exact ⟨k - 1, by omega, fun c hcc => by rw [show j = i from by omega, h3 c hcc, e c hcc]⟩
  last _ := by
    obtain ⟨h2, h3⟩ := hc.last hi
    exact ⟨h2, fun c hcc => by rw [h3 c hcc, Nat.add_sub_cancel, e c hcc]⟩
theorem Comp.take {d : Nat → Nat → Int} {i k : Nat} {h h' : Nat → Nat → Int} {E : Nat → Nat} (hc : Comp d i k h E) (hi : 0 < i) (e : ¬ ∀ c, c < 8 → d i c = d (i - 1) c) (h1 : ∀ a, a < k → ∀ c, c < 8 → h' a c = h a c) (h2 : ∀ c, c < 8 → h' k c = d i c) :
    Comp d (i + 1) (k + 1) h' (fun a => if a = k then i else E a) where
  le := by have := hc.le; omega
  at_ a ha := by
    by_cases h : a = k
    · subst h; rw [if_pos rfl]; exact ⟨Nat.lt_succ_self _, h2⟩
    · rw [if_neg h]
      obtain ⟨k1, k2⟩ := hc.at_ a (by omega)
      exact ⟨by omega, fun c hcc => by rw [h1 a (by omega) c hcc, k2 c hcc]⟩
  up a b hab hb := by
    rw [if_neg (show a ≠ k by omega)]
    by_cases h : b = k
    · rw [if_pos h]; exact (hc.at_ a (by omega)).1
    · rw [if_neg h]; exact hc.up a b hab (by omega)
  far a ha hall := by
    by_cases h : a + 1 = k
    · refine e fun c hcc => ?_
      obtain ⟨_, h4⟩ := hc.last hi
      have := hall c hcc
      rw [h, h2 c hcc, h1 a (by omega) c hcc, show a = k - 1 from by omega, h4 c hcc] at this
      exact this.symm
    · exact hc.far a (by omega) fun c hcc => by
        have := hall c hcc
        rwa [h1 a (by omega) c hcc, h1 (a + 1) (by omega) c hcc] at this
  all j hj := by
    rcases Nat.lt_or_ge j i with h3 | h3
    · obtain ⟨a, ha, he⟩ := hc.all j h3
      exact ⟨a, by omega, fun c hcc => by rw [h1 a ha c hcc, he c hcc]⟩
    · exact ⟨k, by omega, fun c hcc => by rw [h2 c hcc, show j = i from by omega]⟩
  last _ := ⟨by omega, fun c hcc => by rw [Nat.add_sub_cancel, Nat.add_sub_cancel]; exact h2 c hcc⟩

theorem Comp.congrE {d : Nat → Nat → Int} {i k : Nat} {h : Nat → Nat → Int} {E E' : Nat → Nat} (hc : Comp d i k h E) (e : ∀ a, a < k → E a = E' a) : Comp d i k h E' where
  le := hc.le
  at_ a ha := by rw [← e a ha]; exact hc.at_ a ha
  up a b h1 h2 := by rw [← e a (by omega), ← e b h2]; exact hc.up a b h1 h2
  far := hc.far
  all := hc.all
  last := hc.last
/-- eight cells of a monomial in a block -/
theorem MonH.row {w : World} {g m : Nat} {d : Nat → Nat → Int} (h : MonH w g m d) {i : Nat} (hi : i < m) :
    w.cell? ⟨g, i * 8, none⟩ = some (.int .i64 (d i 0)) ∧ w.cell? ⟨g, i * 8 + 1, none⟩ = some (.int .i64 (d i 1)) ∧ w.cell? ⟨g, i * 8 + 2, none⟩ = some (.int .i64 (d i 2)) ∧ w.cell? ⟨g, i * 8 + 3, none⟩ = some (.int .i64 (d i 3)) ∧
    w.cell? ⟨g, i * 8 + 4, none⟩ = some (.int .i64 (d i 4)) ∧ w.cell? ⟨g, i * 8 + 5, none⟩ = some (.int .i64 (d i 5)) ∧ w.cell? ⟨g, i * 8 + 6, none⟩ = some (.int .i64 (d i 6)) ∧ w.cell? ⟨g, i * 8 + 7, none⟩ = some (.int .i64 (d i 7)) :=
  ⟨(h i hi 0 (by omega)).1, (h i hi 1 (by omega)).1, (h i hi 2 (by omega)).1, (h i hi 3 (by omega)).1, (h i hi 4 (by omega)).1, (h i hi 5 (by omega)).1, (h i hi 6 (by omega)).1, (h i hi 7 (by omega)).1⟩
theorem MonH.rowF {w : World} {g m : Nat} {d : Nat → Nat → Int} (h : MonH w g m d) {i : Nat} (hi : i < m) :
    w.frozen? ⟨g, i * 8, none⟩ = false ∧ w.frozen? ⟨g, i * 8 + 1, none⟩ = false ∧ w.frozen? ⟨g, i * 8 + 2, none⟩ = false ∧ w.frozen? ⟨g, i * 8 + 3, none⟩ = false ∧
    w.frozen? ⟨g, i * 8 + 4, none⟩ = false ∧ w.frozen? ⟨g, i * 8 + 5, none⟩ = false ∧ w.frozen? ⟨g, i * 8 + 6, none⟩ = false ∧ w.frozen? ⟨g, i * 8 + 7, none⟩ = false :=
  ⟨(h i hi 0 (by omega)).2, (h i hi 1 (by omega)).2, (h i hi 2 (by omega)).2, (h i hi 3 (by omega)).2, (h i hi 4 (by omega)).2, (h i hi 5 (by omega)).2, (h i hi 6 (by omega)).2, (h i hi 7 (by omega)).2⟩
theorem MonH.drewN {w : World} {g m : Nat} {d : Nat → Nat → Int} (h : MonH w g m d) (n : Nat) : MonH (w.drewN n) g m d := h
/-- a list of values is laid at place k -/
theorem MonH.put {w : World} {g m : Nat} {d : Nat → Nat → Int} (h : MonH w g m d) (k : Nat) (x : Nat → Int) (hk : k < m) : MonH (w.setCells g (k * 8) (vec8 x).toList) g m (fun a => if a = k then x else d a) := fun i hi c hc => by
  refine ⟨?_, by rw [World.frozen?_setCells]; exact (h i hi c hc).2⟩
  by_cases e : i = k
  · subst e
    have := World.cell?_setCells_in g (vec8 x).toList (i * 8) w (fun j hj => by
      have hj8 : j < 8 := by simpa using hj
      rw [(h i hi j hj8).1]; rfl) c (by simpa using hc)
    rw [this]
    show some _ = some (Value.int .i64 ((if i = i then x else d i) c))
    rw [if_pos rfl]
    rcases eight hc with h | h | h | h | h | h | h | h <;> subst h <;> rfl
  · show _ = some (Value.int .i64 ((if i = k then x else d i) c))
    rw [if_neg e, World.cell?_setCells_out]
    · exact (h i hi c hc).1
    · intro _ _
      have h8 : (vec8 x).toList.length = 8 := rfl
      show i * 8 + c < k * 8 ∨ k * 8 + (vec8 x).toList.length ≤ i * 8 + c
      rw [h8]
      omega

end Go.Proofs.Ytmkhfgggleplfaa
