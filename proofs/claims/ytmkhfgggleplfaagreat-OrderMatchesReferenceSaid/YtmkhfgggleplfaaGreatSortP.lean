/-
  Plain laws of sorted lists; the cells of a row in later worlds. Conditions: none.
-/
import Derived.Test.YtmkhfgggleplfaaGreatLawB
import Derived.Test.YtmkhfgggleplfaaGreatLawD
import Derived.Test.YtmkhfgggleplfaaGreatMadeW
namespace Go.Proofs.YtmkhfgggleplfaaGreat
set_option linter.unusedSimpArgs false
set_option linter.unusedVariables false
open Go.RowKit

/-- two strictly decreasing lists of the same monomials are equal -/
theorem sorted_sub {n k k' : Nat} {f h h' : Nat → Nat → Int} (hs : ∀ a b, a < b → b < k → ordC n f (h a) (h b) = 1) (hs' : ∀ a b, a < b → b < k' → ordC n f (h' a) (h' b) = 1)
    (h1 : ∀ a, a < k → ∃ b, b < k' ∧ ∀ c, c < 8 → h a c = h' b c) (h2 : ∀ a, a < k' → ∃ b, b < k ∧ ∀ c, c < 8 → h' a c = h b c) : ∀ a, a < k → a < k' ∧ ∀ c, c < 8 → h' a c = h a c := by
  have ne : ∀ a b, a < b → b < k → ¬ ∀ c, c < 8 → h a c = h b c := fun a b p q e => by
    have := hs a b p q; rw [ordC_zero.2 e] at this; exact absurd this (by decide)
  have ne' : ∀ a b, a < b → b < k' → ¬ ∀ c, c < 8 → h' a c = h' b c := fun a b p q e => by
    have := hs' a b p q; rw [ordC_zero.2 e] at this; exact absurd this (by decide)
  intro a
  induction a using Nat.strongRecOn with
  | ind a ih =>
    intro ha
    obtain ⟨b, hb, eb⟩ := h1 a ha
    have hba : a ≤ b := by
      rcases Nat.lt_or_ge b a with h | h
      · exact absurd (fun c hc => by rw [eb c hc, (ih b h (by omega)).2 c hc]) (ne b a h ha)
      · exact h
    have hak : a < k' := by omega
    refine ⟨hak, ?_⟩
    rcases Nat.lt_or_ge a b with hab | hab
    · exfalso
      obtain ⟨e, he, ee⟩ := h2 a hak
      have o1 : ordC n f (h e) (h a) = 1 := by
        rw [← hs' a b hab hb]
        exact ordC_congr (fun _ _ _ _ => rfl) (fun c hc => (ee c hc).symm) eb
      rcases Nat.lt_trichotomy e a with h3 | h3 | h3
      · exact ne' e a h3 hak fun c hc => by rw [(ih e h3 he).2 c hc, ee c hc]
      · subst h3
        rw [ordC_zero.2 (fun _ _ => rfl)] at o1
        exact absurd o1 (by decide)
      · have o2 := hs a e h3 he
        rw [ordC_neg, o2] at o1
        exact absurd o1 (by decide)
    · have : b = a := by omega
      subst this
      exact fun c hc => (eb c hc).symm
theorem sorted_one {n k k' : Nat} {f h h' : Nat → Nat → Int} (hs : ∀ a b, a < b → b < k → ordC n f (h a) (h b) = 1) (hs' : ∀ a b, a < b → b < k' → ordC n f (h' a) (h' b) = 1)
    (h1 : ∀ a, a < k → ∃ b, b < k' ∧ ∀ c, c < 8 → h a c = h' b c) (h2 : ∀ a, a < k' → ∃ b, b < k ∧ ∀ c, c < 8 → h' a c = h b c) : k' = k ∧ ∀ a, a < k' → ∀ c, c < 8 → h' a c = h a c := by
  have A := sorted_sub hs hs' h1 h2
  have B := sorted_sub hs' hs h2 h1
  have hk : k' = k := by
    rcases Nat.lt_trichotomy k' k with h | h | h
    · have := (A k' h).1; omega
    · exact h
    · have := (B k h).1; omega
  exact ⟨hk, fun a ha => (A a (by omega)).2⟩

theorem Small.out {a : Nat → Int} (h : Small a) : ∀ k, k < 8 → 0 ≤ a k ∧ a k ≤ 131070 := h
theorem Small.in64 {a : Nat → Int} (h : Small a) : In64 a := fun k hk => by have := h k hk; omega
theorem small_mono {x : Nat → Int} (h : U16 x) : Small (monoF x) := fun k hk => by
  have := h k hk
  unfold monoF
  omega
/-- the eight cells of a row, in every later world -/
theorem row_reads {W : World} {b o : Nat} {x : Nat → Int} (hlt : b < W.heap.size) (h : ∀ k, k < 8 → W.cell? ⟨b, o + k, none⟩ = some (.int .i64 (x k))) :
    (∀ X, Below W.heap.size W X → X.cell? ⟨b, o, none⟩ = some (.int .i64 (x 0))) ∧ (∀ X, Below W.heap.size W X → X.cell? ⟨b, o + 1, none⟩ = some (.int .i64 (x 1))) ∧
    (∀ X, Below W.heap.size W X → X.cell? ⟨b, o + 2, none⟩ = some (.int .i64 (x 2))) ∧ (∀ X, Below W.heap.size W X → X.cell? ⟨b, o + 3, none⟩ = some (.int .i64 (x 3))) ∧
    (∀ X, Below W.heap.size W X → X.cell? ⟨b, o + 4, none⟩ = some (.int .i64 (x 4))) ∧ (∀ X, Below W.heap.size W X → X.cell? ⟨b, o + 5, none⟩ = some (.int .i64 (x 5))) ∧
    (∀ X, Below W.heap.size W X → X.cell? ⟨b, o + 6, none⟩ = some (.int .i64 (x 6))) ∧ (∀ X, Below W.heap.size W X → X.cell? ⟨b, o + 7, none⟩ = some (.int .i64 (x 7))) :=
  have H : ∀ k, k < 8 → ∀ X, Below W.heap.size W X → X.cell? ⟨b, o + k, none⟩ = some (.int .i64 (x k)) := fun k hk X hX => (hX.cell (p := ⟨b, o + k, none⟩) hlt).trans (h k hk)
  ⟨H 0 (by omega), H 1 (by omega), H 2 (by omega), H 3 (by omega), H 4 (by omega), H 5 (by omega), H 6 (by omega), H 7 (by omega)⟩

section
variable {P : Program} {ops : Array Oper} {Q : Exit → Act → World → Prop} {md : Region.Mode} {S : World → Prop}
/-- an operation that only yields a value is taken first -/
theorem wpAnyH_pure {i : Nat} {oi : Oper} {d : Option Tmp} {v : Value} {fuel : Nat} {listed : Array Bool} {a : Act} {w : World} (hi : ops[i]? = some oi) (hd : oi.dst = d)
    (hs : Region.noSelect ops = true) (hf : Region.free md ops listed i = true) (hr : (Region.ready md ops listed).contains i = true)
    (hQ : ∀ c a w, Q (.panic c) (a.put d v) w → Q (.panic c) a w) (hw : Region.wanted oi (yielded ops a.tmps) = true) (hy : ∀ w, S w → (execOp a.eval oi).run P w = .ok (.value v) w) (hS : S w)
    (h : wpAnyH P md ops Q S fuel (listed.setIfInBounds i true) (a.put d v) w) : wpAnyH P md ops Q S (fuel + 1) listed a w := by
  subst hd
  exact wpAnyH_take hi hs hf hr hQ (.inl ⟨hw, hy⟩) hS h
/-- an operation that is not wanted is passed by -/
theorem wpAnyH_skip {i : Nat} {oi : Oper} {d : Option Tmp} {fuel : Nat} {listed : Array Bool} {a : Act} {w : World} (hi : ops[i]? = some oi) (hd : oi.dst = d)
    (hs : Region.noSelect ops = true) (hf : Region.free md ops listed i = true) (hr : (Region.ready md ops listed).contains i = true)
    (hQ : ∀ c a w, Q (.panic c) (a.put d undef) w → Q (.panic c) a w) (hw : Region.wanted oi (yielded ops a.tmps) = false) (hS : S w)
    (h : wpAnyH P md ops Q S fuel (listed.setIfInBounds i true) (a.put d undef) w) : wpAnyH P md ops Q S (fuel + 1) listed a w := by
  subst hd
  exact wpAnyH_take hi hs hf hr hQ (.inr ⟨hw, rfl⟩) hS h
end

end Go.Proofs.YtmkhfgggleplfaaGreat
