/-
  The walk of independent. Conditions: at most 1000 rows, whose numbers are of type int.
-/
import Derived.Test.YtmkhfgggleplfaaGreatIndA
import Derived.Test.YtmkhfgggleplfaaGreatGauss
import Derived.Deep.RegionHeld3
namespace Go.Proofs.YtmkhfgggleplfaaGreat
set_option linter.unusedSimpArgs false
set_option linter.unusedVariables false
open Go.RowKit

/-- a list of rows of eight ints -/
def OrdV (w : World) (v : Value) (n : Nat) (f : Nat → Nat → Int) : Prop :=
  ∃ A c, v = .slice A n c ∧ n ≤ c ∧ c ≤ 9223372036854775807 ∧ (0 < n → ∃ b off, A = some ⟨b, off, none⟩ ∧ b < w.heap.size ∧ ∀ i, i < n → ∀ k, k < 8 → w.cell? ⟨b, off + i * 8 + k, none⟩ = some (.int .i64 (f i k)))
theorem OrdV.below {w w' : World} {v : Value} {n : Nat} {f : Nat → Nat → Int} (h : OrdV w v n f) (hb : Below w.heap.size w w') : OrdV w' v n f := by
  obtain ⟨A, c, e, h1, h2, h3⟩ := h
  refine ⟨A, c, e, h1, h2, fun h0 => ?_⟩
  obtain ⟨b, off, e, hlt, hc⟩ := h3 h0
  exact ⟨b, off, e, Nat.lt_of_lt_of_le hlt hb.size, fun i hi k hk => (hb.cell (p := ⟨b, off + i * 8 + k, none⟩) hlt).trans (hc i hi k hk)⟩

def rowQ (f : Nat → Nat → Int) (i : Nat) : Nat → Rat := fun k => (f i k : Rat)
def listQ (n : Nat) (rows : Nat → Nat → Rat) : List (Nat → Rat) := (List.range n).map rows

theorem RatV.grown {w w' : World} {x v : Value} {q : Rat} {base n size : Nat} {e : TypeId} {xs : List Value} (h : RatV w x q) (he : Every nw w v) (hown : w.ownsRow base e size v n xs) (hg : w.grownBy w' v.ownBlock) : RatV w' x q := by
  rcases hown.2 with ⟨rfl, _⟩ | ⟨g, cap, cur, rfl, hb, hgg, rest⟩
  · exact h.below (grown_below hg (fun g h => by cases h))
  · exact h.only (g := g) (t := e) (cs := cur) hgg (noU32_of (he g rfl cur e hgg)) ⟨hg.os, hg.tape, hg.output, hg.size, fun k hk hne => hg.block k hk (fun e => hne (by injection e))⟩
theorem RatCells.grown {w w' : World} {v : Value} {cur : List Value} {o : Nat} {q : Rat} {base n size : Nat} {e : TypeId} {xs : List Value} (h : RatCells w cur o q) (he : Every nw w v) (hown : w.ownsRow base e size v n xs) (hg : w.grownBy w' v.ownBlock) : RatCells w' cur o q := by
  obtain ⟨a, b, c, d, h1, h2, h3, h4, h5⟩ := h
  exact ⟨a, b, c, d, h1, h2, h3, h4, h5.grown he hown hg⟩
theorem Every.below {w w' : World} {v : Value} {base n size : Nat} {e : TypeId} {xs : List Value} {φ : Value → Bool} (he : Every φ w v) (hown : w.ownsRow base e size v n xs) (hb : Below w.heap.size w w') : Every φ w' v :=
  he.block fun g hg => hb.block g (hown.lt g hg).2
theorem ownsRow_below {w w' : World} {v : Value} {base n size : Nat} {e : TypeId} {xs : List Value} (h : w.ownsRow base e size v n xs) (hb : Below w.heap.size w w') : w'.ownsRow base e size v n xs :=
  h.kept (row := none) ⟨hb.os, hb.tape, hb.output, hb.size, fun k hk _ => hb.block k hk⟩ (by cases h : v.ownBlock <;> simp)
theorem ownsRow_mono {w : World} {v : Value} {base base' n size : Nat} {e : TypeId} {xs : List Value} (h : w.ownsRow base e size v n xs) (hb : base' ≤ base) : w.ownsRow base' e size v n xs := by
  refine ⟨h.1, ?_⟩
  rcases h.2 with h | ⟨g, cap, cur, rfl, h1, rest⟩
  · exact .inl h
  · exact .inr ⟨g, cap, cur, rfl, by omega, rest⟩

/-- eight numbers have been appended: the row stands -/
theorem row_built {w : World} {v : Value} {base : Nat} {ys : List Value} {q : Nat → Rat} (hown : w.ownsRow base 77 4 v 8 ys) (he : Every nw w v) (hq : ∀ k, k < 8 → RatCells w ys (k * 4) (q k)) :
    ∃ h c, v = .slice (some ⟨h, 0, none⟩) 8 c ∧ 8 ≤ c ∧ c ≤ 9223372036854775807 ∧ base ≤ h ∧ RowAt w h q := by
  rcases hown.2 with ⟨_, h0⟩ | ⟨g, cap, cur, rfl, hb, hgg, hn, hm, hs, htake⟩
  · cases h0
  · refine ⟨g, cap, rfl, hn, by simp only [maxLen] at hm; omega, hb, cur, hgg, by omega, noU32_of (he g rfl cur _ hgg), fun k hk => ?_⟩
    obtain ⟨a, b, c, d, h1, h2, h3, h4, h5⟩ := hq k hk
    have ht : ∀ i u, ys[i]? = some u → cur.toList[i]? = some u := fun i u hu => by
      rw [← htake, List.getElem?_take] at hu
      split at hu
      · exact hu
      · cases hu
    exact ⟨a, b, c, d, ht _ _ h1, ht _ _ h2, ht _ _ h3, ht _ _ h4, h5⟩

/-- the list while it is built -/
def BuildL (w wr : World) (f : Nat → Nat → Int) (lv : Value) (i : Nat) : Prop :=
  ∃ (xs : List Value) (hs : Nat → Nat), wr.ownsRow w.heap.size 72 1 lv i xs ∧ Every nw wr lv ∧ (∀ j, j < i → ∃ c, 8 ≤ c ∧ c ≤ 9223372036854775807 ∧ xs[j]? = some (.slice (some ⟨hs j, 0, none⟩) 8 c)) ∧
    (∀ i' j, i' < i → j < i → hs i' = hs j → i' = j) ∧ (∀ j, j < i → w.heap.size ≤ hs j ∧ RowAt wr (hs j) (rowQ f j)) ∧ Below w.heap.size w wr
def BuildR (wa wr : World) (f : Nat → Nat → Int) (i : Nat) (rv : Value) (m : Nat) : Prop :=
  ∃ ys : List Value, wr.ownsRow wa.heap.size 77 4 rv m ys ∧ Every nw wr rv ∧ (∀ k, k < m → RatCells wr ys (k * 4) (rowQ f i k)) ∧ Below wa.heap.size wa wr

theorem BuildR.start (wa : World) (f : Nat → Nat → Int) (i : Nat) : BuildR wa wa f i (.slice none 0 0) 0 :=
  ⟨[], World.ownsRow_nil _ _ _ _, Every.nil _, fun k hk => absurd hk (by omega), Below.refl _ _⟩
theorem BuildL.start (w : World) (f : Nat → Nat → Int) : BuildL w w f (.slice none 0 0) 0 :=
  ⟨[], fun _ => 0, World.ownsRow_nil _ _ _ _, Every.nil _, fun k hk => absurd hk (by omega), fun k _ hk => absurd hk (by omega), fun k hk => absurd hk (by omega), Below.refl _ _⟩
theorem BuildL.below {w wr wa : World} {f : Nat → Nat → Int} {lv : Value} {i : Nat} (h : BuildL w wr f lv i) (hb : Below wr.heap.size wr wa) : BuildL w wa f lv i := by
  obtain ⟨xs, hs, h1, h2, h3, h4, h5, h6⟩ := h
  exact ⟨xs, hs, ownsRow_below h1 hb, h2.below h1 hb, h3, h4, fun j hj => ⟨(h5 j hj).1, (h5 j hj).2.below hb⟩, h6.trans (hb.mono h6.size)⟩
/-- one number more -/
theorem BuildR.next {wa w1 w2 : World} {f : Nat → Nat → Int} {i m : Nat} {rv v' : Value} {ys : List Value} {a b c d : Value} (hown : w1.ownsRow wa.heap.size 77 4 rv m ys) (he : Every nw w1 rv)
    (hq : ∀ k, k < m → RatCells w1 ys (k * 4) (rowQ f i k)) (hb : Below wa.heap.size wa w1) (hv : RatV w1 (.agg #[a, b, c, d]) (rowQ f i m))
    (hown' : w2.ownsRow wa.heap.size 77 4 v' (m + 1) (ys ++ [a, b, c, d])) (hg : w1.grownBy w2 rv.ownBlock) (he' : Every nw w2 v') : BuildR wa w2 f i v' (m + 1) := by
  refine ⟨_, hown', he', fun k hk => ?_, hb.grown hg hb.size (fun g h => (hown.lt g h).1)⟩
  have hl := hown.1
  by_cases h : k < m
  · exact ((hq k h).grown he hown hg).left
  · obtain rfl : k = m := by omega
    refine ⟨a, b, c, d, ?_, ?_, ?_, ?_, hv.grown he hown hg⟩
    · rw [List.getElem?_append_right (by omega), show k * 4 - ys.length = 0 from by omega]; rfl
    · rw [List.getElem?_append_right (by omega), show k * 4 + 1 - ys.length = 1 from by omega]; rfl
    · rw [List.getElem?_append_right (by omega), show k * 4 + 2 - ys.length = 2 from by omega]; rfl
    · rw [List.getElem?_append_right (by omega), show k * 4 + 3 - ys.length = 3 from by omega]; rfl
/-- one row more -/
theorem BuildL.next {w w1 w2 : World} {f : Nat → Nat → Int} {i h c : Nat} {lv v' : Value} {xs : List Value} {hs : Nat → Nat} (hown : w1.ownsRow w.heap.size 72 1 lv i xs) (he : Every nw w1 lv)
    (hx : ∀ j, j < i → ∃ c, 8 ≤ c ∧ c ≤ 9223372036854775807 ∧ xs[j]? = some (.slice (some ⟨hs j, 0, none⟩) 8 c)) (hinj : ∀ i' j, i' < i → j < i → hs i' = hs j → i' = j)
    (hrow : ∀ j, j < i → w.heap.size ≤ hs j ∧ hs j ≠ h ∧ RowAt w1 (hs j) (rowQ f j)) (hb : Below w.heap.size w w1) (hr : RowAt w1 h (rowQ f i)) (hh : w.heap.size ≤ h) (hc : 8 ≤ c) (hcm : c ≤ 9223372036854775807)
    (hown' : w2.ownsRow w.heap.size 72 1 v' (i + 1) (xs ++ [.slice (some ⟨h, 0, none⟩) 8 c])) (hg : w1.grownBy w2 lv.ownBlock) (he' : Every nw w2 v') : BuildL w w2 f v' (i + 1) := by
  have hl := hown.1
  have hR : ∀ g q, RowAt w1 g q → RowAt w2 g q := fun g q hR => by
    obtain ⟨cur, h1, h2, h3, h4⟩ := hR
    exact ⟨cur, h1.grown hg (fun e => own_blk_ne hown h1 (by decide) e.symm), h2, h3, fun j hj => (h4 j hj).grown he hown hg⟩
  obtain ⟨F, hF1, hF2⟩ : ∃ F : Nat → Nat, (∀ j, j < i → F j = hs j) ∧ F i = h := ⟨fun j => if j < i then hs j else h, fun j hj => if_pos hj, if_neg (Nat.lt_irrefl _)⟩
  refine ⟨_, F, hown', he', fun j hj => ?_, fun i' j hi' hj e => ?_, fun j hj => ?_, hb.grown hg hb.size (fun g h => (hown.lt g h).1)⟩
  · by_cases e : j < i
    · obtain ⟨c', k1, k2, k3⟩ := hx j e
      exact ⟨c', k1, k2, by rw [List.getElem?_append_left (by omega), hF1 j e]; exact k3⟩
    · obtain rfl : j = i := by omega
      exact ⟨c, hc, hcm, by rw [List.getElem?_append_right (by omega), hF2, show j - xs.length = 0 from by omega]; rfl⟩
  · by_cases e1 : i' < i <;> by_cases e2 : j < i
    · rw [hF1 i' e1, hF1 j e2] at e; exact hinj _ _ e1 e2 e
    · rw [hF1 i' e1, show j = i from by omega, hF2] at e; exact absurd e (hrow i' e1).2.1
    · rw [hF1 j e2, show i' = i from by omega, hF2] at e; exact absurd e.symm (hrow j e2).2.1
    · omega
  · by_cases e : j < i
    · rw [hF1 j e]; exact ⟨(hrow j e).1, hR _ _ (hrow j e).2.2⟩
    · obtain rfl : j = i := by omega
      rw [hF2]; exact ⟨hh, hR _ _ hr⟩
/-- the list stands -/
theorem BuildL.done {w wr : World} {f : Nat → Nat → Int} {lv : Value} {n : Nat} (h : BuildL w wr f lv n) : ∃ hs, LeftV wr w.heap.size lv n hs (rowQ f) := by
  obtain ⟨xs, hs, h1, h2, h3, h4, h5, h6⟩ := h
  refine ⟨hs, ?_⟩
  rcases h1.2 with ⟨rfl, rfl⟩ | ⟨g, cap, cur, rfl, hb, hgg, hn, hm, hs', htake⟩
  · exact ⟨none, 0, rfl, Nat.le_refl _, by omega, fun h => absurd h (by omega)⟩
  · refine ⟨_, cap, rfl, hn, by simp only [maxLen] at hm; omega, fun _ => ⟨g, rfl, ⟨cur, hgg, noU32_of (h2 g rfl cur _ hgg), fun i hi => ?_⟩, hb, h4, h5⟩⟩
    obtain ⟨c, k1, k2, k3⟩ := h3 i hi
    refine ⟨c, k1, k2, ?_⟩
    rw [← htake, List.getElem?_take] at k3
    split at k3
    · simpa using k3
    · cases k3

end Go.Proofs.YtmkhfgggleplfaaGreat
