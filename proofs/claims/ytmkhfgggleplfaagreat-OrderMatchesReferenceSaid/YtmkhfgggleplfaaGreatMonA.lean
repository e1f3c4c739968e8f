/-
  Lists of monomials in memory; the walks of Clone of such a list and of the closure of Sort. Conditions: lengths below 2^36.
-/
import Derived.Test.YtmkhfgggleplfaaGreatOrdB
import Derived.Test.YtmkhfgggleplfaaGreatOrdE
namespace Go.Proofs.YtmkhfgggleplfaaGreat
set_option linter.unusedSimpArgs false
set_option linter.unusedVariables false
open Go.RowKit

/-- a list of monomials that lies in a block of its own -/
def MonO (w : World) (base : Nat) (v : Value) (n : Nat) (f : Nat → Nat → Int) : Prop :=
  ∃ xs : List Value, w.ownsRow base 36 8 v n xs ∧ ∀ i, i < n → ∀ k, k < 8 → xs[i * 8 + k]? = some (.int .i64 (f i k))
theorem MonO.ordV {w : World} {base n : Nat} {v : Value} {f : Nat → Nat → Int} (h : MonO w base v n f) : OrdV w v n f := by
  obtain ⟨xs, h1, h2⟩ := h
  obtain ⟨A, c, rfl, hn, hc, hA⟩ := own_slice h1
  refine ⟨A, c, rfl, hn, hc, fun h0 => ?_⟩
  obtain ⟨g, rfl, hg, hlt⟩ := hA h0
  refine ⟨g, 0, rfl, hlt, fun i hi k hk => ?_⟩
  have := h1.cells (g := g) rfl _ _ (h2 i hi k hk)
  rw [add_none] at this
  rw [Nat.add_assoc]; exact this
theorem MonO.below {w w' : World} {base n : Nat} {v : Value} {f : Nat → Nat → Int} (h : MonO w base v n f) (hb : Below w.heap.size w w') : MonO w' base v n f := by
  obtain ⟨xs, h1, h2⟩ := h
  exact ⟨xs, ownsRow_below h1 hb, h2⟩
theorem MonO.mono {w : World} {base base' n : Nat} {v : Value} {f : Nat → Nat → Int} (h : MonO w base v n f) (hb : base' ≤ base) : MonO w base' v n f := by
  obtain ⟨xs, h1, h2⟩ := h
  exact ⟨xs, ownsRow_mono h1 hb, h2⟩
theorem MonO.congr {w : World} {base n : Nat} {v : Value} {f g : Nat → Nat → Int} (h : MonO w base v n f) (e : ∀ i, i < n → ∀ k, k < 8 → f i k = g i k) : MonO w base v n g := by
  obtain ⟨xs, h1, h2⟩ := h
  exact ⟨xs, h1, fun i hi k hk => e i hi k hk ▸ h2 i hi k hk⟩
theorem info_mono : (Tryz.prog.info? 36).map (fun i => (i.zero, i.size, i.bytes)) = some (some (.agg (vec8 fun _ => 0)), 8, 64) := by kernel_rfl

set_option maxRecDepth 100000 in
/-- Clone of a list of monomials -/
theorem clone_monos {w : World} {v : Value} {n : Nat} {f : Nat → Nat → Int} (h : OrdV w v n f) (hn : n ≤ 68719476736) :
    Calls Tryz.prog 42 #[v] w fun e w' => ∃ r, e = .returned r ∧ MonO w' w.heap.size r n f ∧ (∀ ad c, v = .slice (some ad) n c → ∃ g c', r = .slice (some ⟨g, 0, none⟩) n c' ∧ n ≤ c' ∧ c' ≤ 9223372036854775807 ∧ w.heap.size ≤ g ∧ g < w'.heap.size) ∧ Below w.heap.size w w' := by
  obtain ⟨i0, hi0, hz0, hz1, hz2⟩ := info_parts info_mono
  obtain ⟨A, c, rfl, hnc, hcm, hA⟩ := id h
  have heq := fun W => Lib.run_eql_slice_nil (P := Tryz.prog) W 32 36 A n c 0 0 Tryz.underlying32
  rcases A with _ | ad
  · have h0 : n = 0 := by
      rcases Nat.eq_zero_or_pos n with h0 | h0
      · exact h0
      · obtain ⟨b, off, h, -⟩ := hA h0; cases h
    subst h0
    go_enter Tryz.func42, Tryz.ntmps42
    go_wp2
    go_ret
    exact ⟨_, rfl, ⟨[], World.ownsRow_nil _ _ _ _, fun i hi => absurd hi (by omega)⟩, fun ad c h => (by injection h with h; cases h), Below.refl _ _⟩
  · have hr := Lib.hid (h.reads.alloc (Nat.le_refl _) (.cells #[] 36))
    clear hA h
    go_enter Tryz.func42, Tryz.ntmps42
    go_wp2_with (at_builtin; refine wpList_append_any _ rfl (.tmp 5) (.tmp 6) _ rfl w.heap.size 36 i0 _ 8 64 Tryz.underlying32 hi0 hz0 hz1 hz2 rfl (by omega) (.slice (some ⟨w.heap.size, 0, none⟩) 0 0) 0 [] rfl (World.ownsRow_made w #[] 0 (Nat.le_refl _) (by simp [maxLen]) rfl) w.heap.size (some ad) n c (flat f n) rfl hr.out (flat_one f n) (by simp only [maxLen]; omega) (by omega) (by simp) ?_; intro v1 w1 hown1 hg1 hat1)
    go_ret
    rw [Nat.zero_add, List.nil_append] at hown1
    refine ⟨_, rfl, ⟨_, hown1, fun i hi k hk => flat_at f hi hk⟩, fun ad c h => ?_, ?_⟩
    · rcases hown1.2 with ⟨e, _⟩ | ⟨g, cap, cur, e, h1, h2, h3, h4, _⟩
      · rw [e] at hat1
        rcases hat1 with h | h <;> simp [Value.ownBlock] at h
      · exact ⟨g, cap, e, h3, by simp only [maxLen] at h4; omega, h1, (Array.getElem?_eq_some_iff.1 h2).1⟩
    refine Below.trans ((Below.refl w.heap.size w).alloc (Nat.le_refl _) _) ((grown_below' hg1 (B := w.heap.size) (by simp) (fun k hk => ?_)))
    simp [Value.ownBlock] at hk; omega

def Small (a : Nat → Int) : Prop := ∀ k, k < 8 → 0 ≤ a k ∧ a k ≤ 131070
/-- the closure of Sort -/
theorem sort_one {W : World} {v : Value} {n bx : Nat} {f : Nat → Nat → Int} {a b : Nat → Int} (ho : OrdV W v n f) (hbx : W.cell? ⟨bx, 0, none⟩ = some v) (hf : ∀ i, i < n → ∀ k, k < 8 → -1000 ≤ f i k ∧ f i k ≤ 1000) (ha : Small a) (hb : Small b) :
    Calls Tryz.prog 44 #[.agg (vec8 a), .agg (vec8 b), .pointer (some ⟨bx, 0, none⟩)] W fun e w' => e = .returned (.int .i64 (ordC n f b a)) ∧ Below W.heap.size W w' ∧ W.drawn ≤ w'.drawn := by
  obtain ⟨W0, hW0, hbl, hB2, hB3, hsz⟩ := boxes2 W 36 36 (vec8 a) (vec8 b)
  have hd0 : W0.drawn = W.drawn := by rw [hW0]; rfl
  have hbx0 : W0.cell? ⟨bx, 0, none⟩ = some v := (hbl.cell (p := ⟨bx, 0, none⟩) (World.block_lt_of_cell? W _ hbx)).trans hbx
  obtain ⟨A, c, rfl, hnc, hcm, hA⟩ := id ho
  have HO := Lib.hid (ho.below hbl)
  clear ho hA hbx hsz
  obtain ⟨c0, c1, c2, c3, c4, c5, c6, c7⟩ := hB2.eight
  obtain ⟨d0, d1, d2, d3, d4, d5, d6, d7⟩ := hB3.eight
  go_enter Tryz.func44, Tryz.ntmps44
  go_upto_region 1 with fail
  rw [← hW0]
  clear hW0
  go_wp2_with fail
  refine (ord_cmp HO.out hf hb ha).mono ?_
  rintro e w1 ⟨rfl, hb1, hd1⟩
  go_wp2
  go_ret
  exact ⟨rfl, hbl.trans (hb1.mono hbl.size), by omega⟩

end Go.Proofs.YtmkhfgggleplfaaGreat
