/-
  SortFunc at monomials, with the closure of Sort. Conditions: at most 12 monomials, whose exponents are at most 131070; weights of at most 1000.
-/
import Derived.Test.YtmkhfgggleplfaaGreatMonA
import Derived.Test.YtmkhfgggleplfaaGreatShelfS
import Derived.Test.YtmkhfgggleplfaaGreatShelf
import Derived.Shelf.SlSortFuncK.HeapSortK
import Derived.Test.YtmkhfgggleplfaaGreatOrdP
namespace Go.Proofs.YtmkhfgggleplfaaGreat
set_option linter.unusedSimpArgs false
set_option linter.unusedVariables false
open Go.RowKit

def SmallM : Type := { a : Nat → Int // Small a }
instance : Inhabited SmallM := ⟨⟨fun _ => 0, fun _ _ => ⟨Int.le_refl _, by show (0 : Int) ≤ 131070; omega⟩⟩⟩
def encM (a : SmallM) : List Value := (vec8 a.1).toList
theorem encM_get (a : SmallM) {k : Nat} (hk : k < 8) : (encM a)[k]! = .int .i64 (a.1 k) := by
  rcases eight hk with h | h | h | h | h | h | h | h <;> subst h <;> rfl
/-- what a list of monomials holds, in a block that may be written -/
def MonH (w : World) (g m : Nat) (d : Nat → Nat → Int) : Prop := ∀ i, i < m → ∀ k, k < 8 → w.cell? ⟨g, i * 8 + k, none⟩ = some (.int .i64 (d i k)) ∧ w.frozen? ⟨g, i * 8 + k, none⟩ = false
theorem MonO.monH {w : World} {base g n c : Nat} {d : Nat → Nat → Int} (h : MonO w base (.slice (some ⟨g, 0, none⟩) n c) n d) : MonH w g n d := fun i hi k hk => by
  obtain ⟨xs, h1, h2⟩ := h
  have := h1.cells (g := g) rfl _ _ (h2 i hi k hk)
  rw [add_none, Nat.zero_add] at this
  refine ⟨this, ?_⟩
  rcases h1.2 with ⟨_, h0⟩ | ⟨g', cap, cur, e, _, hg, _⟩
  · omega
  · injection e with e _ _
    injection e with e
    injection e with e
    subst e
    exact Blk.frozen (cs := cur) (t := 36) hg _
theorem MonH.ordV {w : World} {g n c : Nat} {d : Nat → Nat → Int} (h : MonH w g n d) (hg : g < w.heap.size) (hn : n ≤ c) (hc : c ≤ 9223372036854775807) : OrdV w (.slice (some ⟨g, 0, none⟩) n c) n d :=
  ⟨_, c, rfl, hn, hc, fun _ => ⟨g, 0, rfl, hg, fun i hi k hk => by rw [Nat.zero_add]; exact (h i hi k hk).1⟩⟩

theorem grow_of_below {W w' : World} (h : Below W.heap.size W w') (hd : W.drawn ≤ w'.drawn) : ∃ q os', w' = Sort.grow (W.drewN q) os' := by
  refine ⟨w'.drawn - W.drawn, w'.heap.extract W.heap.size w'.heap.size, ?_⟩
  have hh : w'.heap = W.heap ++ w'.heap.extract W.heap.size w'.heap.size := by
    apply Array.ext_getElem?
    intro i
    rcases Nat.lt_or_ge i W.heap.size with h1 | h1
    · rw [Array.getElem?_append_left h1]; exact h.block i h1
    · rw [Array.getElem?_append_right h1, Array.getElem?_extract]
      have hs := h.size
      by_cases h2 : i < w'.heap.size
      · rw [if_pos (by omega), show W.heap.size + (i - W.heap.size) = i from by omega]
      · rw [if_neg (by omega), Array.getElem?_eq_none (by omega)]
  have hdr : w'.drawn = W.drawn + (w'.drawn - W.drawn) := by omega
  obtain ⟨heap, tape, drawn, os, output⟩ := w'
  have h1 := h.os
  have h2 := h.tape
  have h3 := h.output
  simp only at h1 h2 h3 hh hdr
  subst h1 h2 h3
  show World.mk heap W.tape drawn W.os W.output = World.mk (W.heap ++ heap.extract W.heap.size heap.size) W.tape (W.drawn + (drawn - W.drawn)) W.os W.output
  rw [← hh, ← hdr]

theorem OrdV.carry {w W : World} {v : Value} {n g : Nat} {f : Nat → Nat → Int} (h : OrdV w v n f) (hk : ∀ a : Addr, a.block ≠ g → a.block < w.heap.size → W.cell? a = w.cell? a) (hs : w.heap.size ≤ W.heap.size)
    (hne : 0 < n → ∀ b : Nat, v.ownBlock = some b → b ≠ g) : OrdV W v n f := by
  obtain ⟨A, c, rfl, h1, h2, h3⟩ := h
  refine ⟨A, c, rfl, h1, h2, fun h0 => ?_⟩
  obtain ⟨b, off, rfl, hb, hc⟩ := h3 h0
  exact ⟨b, off, rfl, by omega, fun i hi k hk' => (hk ⟨b, off + i * 8 + k, none⟩ (hne h0 b rfl) hb).trans (hc i hi k hk')⟩

theorem only_sorted (enc : SmallM → List Value) (k : Nat) (w : World) (g off n : Nat) (d : Array SmallM) (os : Array Obj) : Only g w (sortWorldK enc k w g off n d os) := by
  refine ⟨rfl, rfl, rfl, by rw [show (sortWorldK enc k w g off n d os).heap.size = _ from Sort.size_grow _ _]; simp [Sort.putRowK, Sort.putRow, Sort.mapBlock, Sort.ahead], fun i hi hne => ?_⟩
  show (((w.heap.modify g _) ++ os : Array Obj))[i]? = w.heap[i]?
  rw [Array.getElem?_append_left (by simpa using hi), Array.getElem?_modify, if_neg (fun e => hne e.symm)]

theorem bits_len12 (n : Nat) (W : World) (h : n ≤ 12) : Calls Tryz.prog 65 #[.int .u64 n] W fun e w' => (∃ l : Int, e = .returned (.int .i64 l)) ∧ w' = W :=
  (Tryz.bits_Len n W (by omega) (by omega)).mono fun _ _ ⟨he, hw⟩ => ⟨⟨_, he⟩, hw⟩

/-- the closure in all worlds of the sort -/
theorem cmp_lays {w : World} {v : Value} {n bx g m : Nat} {f : Nat → Nat → Int} (ho : OrdV w v n f) (hbx : w.cell? ⟨bx, 0, none⟩ = some v) (hf : ∀ i, i < n → ∀ k, k < 8 → -1000 ≤ f i k ∧ f i k ≤ 1000)
    (hne : 0 < n → ∀ b : Nat, v.ownBlock = some b → b ≠ g) (hbg : bx ≠ g) : CmpLays Tryz.prog 44 #[.pointer (some ⟨bx, 0, none⟩)] encM 8 (fun x y => ordC n f y.1 x.1) g 0 m w := fun q os dk _ x y => by
  have hcell : ∀ a : Addr, a.block ≠ g → a.block < w.heap.size → (sortWorldK encM 8 w g 0 q dk os).cell? a = w.cell? a := fun a h1 h2 => cell?_sortWorldK_other encM 8 w g 0 q dk os a h1 h2
  have ho' : OrdV (sortWorldK encM 8 w g 0 q dk os) v n f := ho.carry hcell (only_sorted _ _ _ _ _ _ _ _).size hne
  have hbx' := (hcell ⟨bx, 0, none⟩ hbg (World.block_lt_of_cell? w _ hbx)).trans hbx
  refine (sort_one ho' hbx' hf x.2 y.2).mono fun e w' ⟨he, hb, hd⟩ => ⟨he, grow_of_below hb hd⟩

def clampM (a : Nat → Int) : SmallM := ⟨fun k => if 0 ≤ a k ∧ a k ≤ 131070 then a k else 0, fun k _ => by dsimp only; by_cases h : 0 ≤ a k ∧ a k ≤ 131070 <;> simp [h]⟩
theorem clampM_eq {a : Nat → Int} (h : Small a) {k : Nat} (hk : k < 8) : (clampM a).1 k = a k := if_pos (h k hk)
theorem extract_all {α : Type} (a : Array α) {m : Nat} (h : a.size = m) : a.extract 0 m = a := by subst h; simp
def monsOf (m : Nat) (d : Nat → Nat → Int) : Array SmallM := (Array.range m).map fun i => clampM (d i)
theorem monsOf_size (m : Nat) (d : Nat → Nat → Int) : (monsOf m d).size = m := by simp [monsOf]
theorem monsOf_get {m : Nat} {d : Nat → Nat → Int} {i : Nat} (hi : i < m) : (monsOf m d)[i]! = clampM (d i) := by
  rw [getElem!_pos (monsOf m d) i (by rw [monsOf_size]; exact hi)]
  simp [monsOf]
theorem mem_monsOf {m : Nat} {d : Nat → Nat → Int} {x : SmallM} : x ∈ (monsOf m d).toList ↔ ∃ j, j < m ∧ clampM (d j) = x := by simp [monsOf]
theorem swo_ord (n : Nat) (f : Nat → Nat → Int) : Sort.SWO (ltOf fun x y : SmallM => ordC n f y.1 x.1) where
  irrefl x := by simp [ltOf, ordC_same (n := n) (f := f) (a := x.1) (b := x.1) fun _ _ => rfl]
  trans x y z h1 h2 := by
    unfold ltOf at *
    rw [decide_eq_true_eq] at *
    dsimp only at *
    have k1 : ordC n f x.1 y.1 = 1 := by have := ordC_neg n f y.1 x.1; have := ordC_range n f y.1 x.1; omega
    have k2 : ordC n f y.1 z.1 = 1 := by have := ordC_neg n f z.1 y.1; have := ordC_range n f z.1 y.1; omega
    have := ordC_trans k1 k2
    have := ordC_neg n f z.1 x.1
    omega
  ntrans x y z h1 h2 := by
    unfold ltOf at *
    rw [decide_eq_false_iff_not] at *
    intro h3
    dsimp only at *
    have k3 : ordC n f x.1 z.1 = 1 := by have := ordC_neg n f z.1 x.1; have := ordC_range n f z.1 x.1; omega
    rcases ordC_range n f y.1 x.1 with h | h | h
    · have e := ordC_zero.1 h
      have : ordC n f z.1 y.1 = ordC n f z.1 x.1 := ordC_congr (fun _ _ _ _ => rfl) (fun _ _ => rfl) e
      omega
    · have := ordC_trans h k3
      have := ordC_neg n f z.1 y.1
      omega
    · omega

/-- SortFunc: the same monomials, none less than a later one -/
theorem sort_monos {w : World} {v : Value} {n bx g m c : Nat} {f d : Nat → Nat → Int} (ho : OrdV w v n f) (hbx : w.cell? ⟨bx, 0, none⟩ = some v) (hf : ∀ i, i < n → ∀ k, k < 8 → -1000 ≤ f i k ∧ f i k ≤ 1000)
    (hne : 0 < n → ∀ b : Nat, v.ownBlock = some b → b ≠ g) (hbg : bx ≠ g) (hg : g < w.heap.size) (hd : MonH w g m d) (hs : ∀ i, i < m → Small (d i)) (hm : m ≤ 12) :
    Calls Tryz.prog 43 #[.slice (some ⟨g, 0, none⟩) m c, .func (.func 44) #[] #[.pointer (some ⟨bx, 0, none⟩)]] w fun e w' => e = .returned (.tuple #[]) ∧
      ∃ d' : Nat → Nat → Int, MonH w' g m d' ∧ (∀ i, i < m → Small (d' i)) ∧ (∀ i, i < m → ∃ j, j < m ∧ ∀ k, k < 8 → d' i k = d j k) ∧ (∀ j, j < m → ∃ i, i < m ∧ ∀ k, k < 8 → d' i k = d j k) ∧ (∀ i j, i < j → j < m → 0 ≤ ordC n f (d' i) (d' j)) ∧ Only g w w' := by
  have hsz := monsOf_size m d
  have hH : Sort.HoldsK encM 8 w g 0 (monsOf m d) := fun j hj => by
    have hj8 : j < m * 8 := by simpa [Sort.flatK, hsz] using hj
    have := hd (j / 8) (by omega) (j % 8) (by omega)
    rw [Sort.get_flatK _ _ _ _ (by rw [hsz]; exact hj8), monsOf_get (show j / 8 < m by omega)]
    simp only [id]
    rw [encM_get _ (by omega), Nat.zero_add, clampM_eq (hs _ (by omega)) (by omega)]
    rw [show j / 8 * 8 + j % 8 = j from by omega] at this
    exact this
  have eg : ∀ args w, (callFunc 44 args).run Tryz.prog w = .ok (.enter 44 args) w := enters_of Tryz.func44 (by kernel_rfl) rfl
  have hcon := AnyQ.slices_SortFunc_small_sorted Tryz.sortMono 8 Tryz.isAgg36 Tryz.sizeOf36 encM (fun _ => rfl) (fun x v hv => vec8_one x.1 v hv) (fun x y => ordC n f y.1 x.1) 44 #[.pointer (some ⟨bx, 0, none⟩)] (swo_ord n f) g 0 c (monsOf m d) w eg
    (cmp_lays ho hbx hf hne hbg) hH hg (by rw [hsz]; exact hm) bits_len12
  rw [hsz] at hcon
  refine hcon.mono ?_
  rintro e w' ⟨rfl, dd, q, os, hperm, hsort, rfl⟩
  have hdsz : dd.size = m := by rw [hperm.1, hsz]
  refine ⟨rfl, fun i => (dd[i]!).1, fun i hi k hk => ?_, fun i hi => (dd[i]!).2, fun i hi => ?_, fun j hj => ?_, fun i j hij hj => ?_, only_sorted _ _ _ _ _ _ _ _⟩
  · have := (holdsK_sortWorldK_c encM 8 w g 0 (monsOf m d) dd q os hH hg (by rw [hdsz, hsz])).cell (i := i) (c := k) (by omega) hk
    rw [Nat.zero_add, encM_get _ hk] at this
    exact this
  · have hmem : dd[i]! ∈ (dd.extract 0 m).toList := by
      rw [extract_all dd hdsz, getElem!_pos dd i (by omega), Array.mem_toList_iff]; exact Array.getElem_mem _
    rw [hperm.2.2.mem_iff, extract_all _ hsz, mem_monsOf] at hmem
    obtain ⟨j, hj, e⟩ := hmem
    exact ⟨j, hj, fun k hk => by show (dd[i]!).1 k = d j k; rw [← e]; exact clampM_eq (hs j hj) hk⟩
  · have hmem : clampM (d j) ∈ ((monsOf m d).extract 0 m).toList := by
      rw [extract_all _ hsz, mem_monsOf]; exact ⟨j, hj, rfl⟩
    rw [← hperm.2.2.mem_iff, extract_all dd hdsz, Array.mem_toList_iff] at hmem
    obtain ⟨i, hi, e⟩ := Array.mem_iff_getElem.1 hmem
    exact ⟨i, by omega, fun k hk => by show (dd[i]!).1 k = d j k; rw [getElem!_pos dd i hi, e]; exact clampM_eq (hs j hj) hk⟩
  · have := hsort i j (Nat.zero_le _) hij hj
    unfold ltOf at this
    rw [decide_eq_false_iff_not] at this
    have h2 : ¬ ordC n f (dd[i]!).1 (dd[j]!).1 < 0 := this
    show 0 ≤ ordC n f (dd[i]!).1 (dd[j]!).1
    omega

end Go.Proofs.YtmkhfgggleplfaaGreat
