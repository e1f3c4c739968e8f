/-
  What Made makes, as the relation of a region carries it.
-/
import Derived.Test.YtmkhfgggleplfaaInv
namespace Go.Proofs.Ytmkhfgggleplfaa
set_option linter.unusedSimpArgs false
set_option linter.unusedVariables false
open Go.RowKit

/-- the operations that one waits for stand before it -/
def depsDown (md : Region.Mode) (ops : Array Oper) : Bool := (List.range ops.size).all fun i => ((ops[i]?).map fun o => o.after.toList.all fun e => !Region.binds md e || decide (e.on < i)).getD true
theorem ready_nil {md : Region.Mode} {ops : Array Oper} {listed : Array Bool} (hd : depsDown md ops = true) (h : Region.ready md ops listed = []) : ∀ i, i < ops.size → listed.getD i true = true := by
  intro i
  induction i using Nat.strongRecOn with
  | ind i ih =>
    intro hi
    cases hb : listed.getD i true with
    | true => rfl
    | false =>
      exfalso
      have hm : i ∈ Region.ready md ops listed := by
        refine mem_ready.2 ⟨hb, ops[i], Array.getElem?_eq_getElem hi, fun e he hbind => ?_⟩
        unfold depsDown at hd
        rw [List.all_eq_true] at hd
        have h1 := hd i (List.mem_range.2 hi)
        rw [Array.getElem?_eq_getElem hi] at h1
        simp only [Option.map_some, Option.getD_some, List.all_eq_true] at h1
        have h2 := h1 e (Array.mem_toList_iff.2 he)
        rw [hbind] at h2
        simp only [Bool.not_true, Bool.false_or, decide_eq_true_eq] at h2
        have h3 := ih e.on h2 (by omega)
        cases hl : listed[e.on]? with
        | some v => simp [Array.getD_eq_getD_getElem?, hl] at h3 ⊢; exact h3
        | none =>
          have h4 : listed.size ≤ e.on := Array.getElem?_eq_none_iff.1 hl
          have h5 : listed[i]? = none := Array.getElem?_eq_none_iff.2 (by omega)
          simp [Array.getD_eq_getD_getElem?, h5] at hb
      rw [h] at hm
      exact absurd hm List.not_mem_nil
abbrev vecU2 (g : Nat → Nat → Int) : Array Value := #[.int .u16 (g 0 0), .int .u16 (g 0 1), .int .u16 (g 0 2), .int .u16 (g 0 3), .int .u16 (g 0 4), .int .u16 (g 0 5), .int .u16 (g 0 6), .int .u16 (g 0 7), .int .u16 (g 1 0), .int .u16 (g 1 1), .int .u16 (g 1 2), .int .u16 (g 1 3), .int .u16 (g 1 4), .int .u16 (g 1 5), .int .u16 (g 1 6), .int .u16 (g 1 7)]
theorem mono_at (g : Nat → Int) (w : World) (hx : U16 g) :
    Calls Try.prog 15 #[.agg #[.int .u16 (g 0), .int .u16 (g 1), .int .u16 (g 2), .int .u16 (g 3), .int .u16 (g 4), .int .u16 (g 5), .int .u16 (g 6), .int .u16 (g 7)]] w fun e w' => e = .returned (.agg (vec8 (monoF g))) ∧ Below w.heap.size w w' := mono_any g w hx
def FarV (v : Value) (q : Nat) : Prop := ∀ g, v.ownBlock = some g → g ≠ q
def MadeP (n : Nat) (x : Nat → Nat → Int) (w : World) (v : Value) : Prop := ∃ m, m ≤ 6 ∧ m ≤ n ∧ OrdV w v m (madeF x m) ∧ ∀ g, v.ownBlock = some g → g < w.heap.size
theorem MadeP.below {n : Nat} {x : Nat → Nat → Int} {w w' : World} {v : Value} (h : MadeP n x w v) (hb : Below w.heap.size w w') : MadeP n x w' v := by
  obtain ⟨m, h1, h2, h3, h4⟩ := h
  exact ⟨m, h1, h2, h3.below hb, fun g hg => Nat.lt_of_lt_of_le (h4 g hg) hb.size⟩
theorem MadeP.far {n : Nat} {x : Nat → Nat → Int} {w : World} {v : Value} (h : MadeP n x w v) : FarV v w.heap.size := by
  obtain ⟨m, h1, h2, h3, h4⟩ := h
  intro g hg e
  have := h4 g hg
  omega
theorem set8_size {w : World} {g : Nat} (x : Nat → Int) : ((((((((w.setCell ⟨g, 0, none⟩ (.int .i64 (x 0))).setCell ⟨g, 1, none⟩ (.int .i64 (x 1))).setCell ⟨g, 2, none⟩ (.int .i64 (x 2))).setCell ⟨g, 3, none⟩ (.int .i64 (x 3))).setCell ⟨g, 4, none⟩ (.int .i64 (x 4))).setCell ⟨g, 5, none⟩ (.int .i64 (x 5))).setCell ⟨g, 6, none⟩ (.int .i64 (x 6))).setCell ⟨g, 7, none⟩ (.int .i64 (x 7))).heap.size = w.heap.size := by simp [World.setCell]
theorem cell_far8 {w : World} {g : Nat} (x : Nat → Int) {a : Addr} (h : a.block ≠ g) : ((((((((w.setCell ⟨g, 0, none⟩ (.int .i64 (x 0))).setCell ⟨g, 1, none⟩ (.int .i64 (x 1))).setCell ⟨g, 2, none⟩ (.int .i64 (x 2))).setCell ⟨g, 3, none⟩ (.int .i64 (x 3))).setCell ⟨g, 4, none⟩ (.int .i64 (x 4))).setCell ⟨g, 5, none⟩ (.int .i64 (x 5))).setCell ⟨g, 6, none⟩ (.int .i64 (x 6))).setCell ⟨g, 7, none⟩ (.int .i64 (x 7))).cell? a = w.cell? a := by
  have hs : ∀ (W : World) (k : Nat) (u : Value), (W.setCell ⟨g, k, none⟩ u).cell? a = W.cell? a := fun W k u => World.cell?_of_block (Below.heap_setCell _ _ _ _ h)
  rw [hs, hs, hs, hs, hs, hs, hs, hs]
theorem OrdV.put8 {w : World} {v : Value} {n g : Nat} {f : Nat → Nat → Int} (x : Nat → Int) (h : OrdV w v n f) (hf : FarV v g) : OrdV ((((((((w.setCell ⟨g, 0, none⟩ (.int .i64 (x 0))).setCell ⟨g, 1, none⟩ (.int .i64 (x 1))).setCell ⟨g, 2, none⟩ (.int .i64 (x 2))).setCell ⟨g, 3, none⟩ (.int .i64 (x 3))).setCell ⟨g, 4, none⟩ (.int .i64 (x 4))).setCell ⟨g, 5, none⟩ (.int .i64 (x 5))).setCell ⟨g, 6, none⟩ (.int .i64 (x 6))).setCell ⟨g, 7, none⟩ (.int .i64 (x 7))) v n f := by
  obtain ⟨A, c, rfl, h1, h2, h3⟩ := h
  refine ⟨A, c, rfl, h1, h2, fun h0 => ?_⟩
  obtain ⟨b, off, rfl, hlt, hc⟩ := h3 h0
  refine ⟨b, off, rfl, ?_, fun i hi k hk => ?_⟩
  · rw [set8_size]; exact hlt
  · rw [cell_far8 x (hf b rfl)]; exact hc i hi k hk
theorem MadeP.put8 {n g : Nat} {x : Nat → Nat → Int} {w : World} {v : Value} (y : Nat → Int) (h : MadeP n x w v) (hf : FarV v g) : MadeP n x ((((((((w.setCell ⟨g, 0, none⟩ (.int .i64 (y 0))).setCell ⟨g, 1, none⟩ (.int .i64 (y 1))).setCell ⟨g, 2, none⟩ (.int .i64 (y 2))).setCell ⟨g, 3, none⟩ (.int .i64 (y 3))).setCell ⟨g, 4, none⟩ (.int .i64 (y 4))).setCell ⟨g, 5, none⟩ (.int .i64 (y 5))).setCell ⟨g, 6, none⟩ (.int .i64 (y 6))).setCell ⟨g, 7, none⟩ (.int .i64 (y 7))) v := by
  obtain ⟨m, h1, h2, h3, h4⟩ := h
  exact ⟨m, h1, h2, h3.put8 y hf, fun b hb => by rw [set8_size]; exact h4 b hb⟩
theorem own_far {w : World} {base n : Nat} {v : Value} {f : Nat → Nat → Int} (h : OrdO w base v n f) {q : Nat} (hq : q < base) : FarV v q := by
  obtain ⟨xs, h1, _⟩ := h
  intro g hg e
  have := (h1.lt g hg).1
  omega
theorem made_at {w w' : World} {s : Value} {n : Nat} {x : Nat → Nat → Int} (ho : RowsV w s n x) (hx : ∀ i, i < n → ∀ k, k < 8 → -128 ≤ x i k ∧ x i k ≤ 127) (hb : Below w.heap.size w w') :
    Calls Try.prog 9 #[.agg #[s]] w' fun e w2 => ∃ r : Value, e = .returned r ∧ MadeP n x w2 r ∧ (∀ q, q < w'.heap.size → FarV r q) ∧ Below w'.heap.size w' w2 := by
  refine (made_any (ho.below hb) hx).mono ?_
  rintro e w2 ⟨r, rfl, m, h1, h2, h3, h4⟩
  refine ⟨r, rfl, ⟨m, h1, h2, h3.ordV, fun g hg => ?_⟩, fun q hq => own_far h3 hq, h4⟩
  obtain ⟨xs, h5, _⟩ := h3
  exact (h5.lt g hg).2

end Go.Proofs.Ytmkhfgggleplfaa
