/-
  The walk of Eliminates. Conditions: none but on the slice's length.
-/
import Derived.Test.YtmkhfgggleplfaaOrdC
namespace Go.Proofs.Ytmkhfgggleplfaa
set_option linter.unusedSimpArgs false
set_option linter.unusedVariables false
open Go.RowKit

def hitAt (g : Nat → Int) (i j : Nat) : Prop := g i ≠ 0 ∨ g j ≠ 0
theorem elim_one {g : Nat → Int} {i j p q : Nat} {w : World} (hi : i < 8) (hj : j < 8) (hp : w.cell? ⟨p, 0, none⟩ = some (.int .i64 i)) (hq : w.cell? ⟨q, 0, none⟩ = some (.int .i64 j)) :
    Calls Try.prog 43 #[.agg (vec8 g), .pointer (some ⟨p, 0, none⟩), .pointer (some ⟨q, 0, none⟩)] w fun e w' => Says (hitAt g i j) e ∧ Below w.heap.size w w' := by
  have hpl : p < w.heap.size := World.block_lt_of_cell? w _ hp
  have hql : q < w.heap.size := World.block_lt_of_cell? w _ hq
  obtain ⟨W0, hW0, hb0, hB0⟩ : ∃ W0, W0 = w.alloc (.cells (vec8 g) 34) ∧ Below w.heap.size w W0 ∧ Blk W0 w.heap.size 34 (vec8 g) := ⟨_, rfl, (Below.refl _ _).alloc (Nat.le_refl _) _, Blk.new _ _ _⟩
  have cp : W0.cell? ⟨p, 0, none⟩ = some (.int .i64 i) := (hb0.cell (p := ⟨p, 0, none⟩) hpl).trans hp
  have cq : W0.cell? ⟨q, 0, none⟩ = some (.int .i64 j) := (hb0.cell (p := ⟨q, 0, none⟩) hql).trans hq
  have ci := hB0.at8 hi
  have cj := hB0.at8 hj
  have hii : (i : Int) < 8 := by omega
  have hji : (j : Int) < 8 := by omega
  clear hp hq hpl hql
  go_enter Try.func43, Try.ntmps43
  go_upto_region 1 with fail
  rw [← hW0]
  clear hW0
  by_cases h1 : g i = 0
  · have b1 : (g i != 0) = false := by simp [h1]
    by_cases h2 : g j = 0
    · have b2 : (g j != 0) = false := by simp [h2]
      have HN : ¬ hitAt g i j := fun h => by unfold hitAt at h; omega
      clear h1 h2
      go_wp2
      go_ret
      exact ⟨⟨false, rfl, ⟨fun h => (by cases h), fun h => absurd h HN⟩⟩, hb0⟩
    · have b2 : (g j != 0) = true := by simp [h2]
      have HN : hitAt g i j := .inr h2
      clear h1 h2
      go_wp2
      go_ret
      exact ⟨⟨true, rfl, ⟨fun _ => HN, fun _ => rfl⟩⟩, hb0⟩
  · have b1 : (g i != 0) = true := by simp [h1]
    have HN : hitAt g i j := .inl h1
    clear h1
    go_wp2
    go_ret
    exact ⟨⟨true, rfl, ⟨fun _ => HN, fun _ => rfl⟩⟩, hb0⟩

def FirstAt (n : Nat) (f : Nat → Nat → Int) (i j r : Nat) : Prop := r < n ∧ hitAt (f r) i j ∧ ∀ s, s < r → ¬ hitAt (f s) i j
def NoneAt (n : Nat) (f : Nat → Nat → Int) (i j : Nat) : Prop := ∀ s, s < n → ¬ hitAt (f s) i j
def IndexSays (n : Nat) (f : Nat → Nat → Int) (i j : Nat) (e : Ending) : Prop :=
  (e = .returned (.int .i64 (-1)) ∧ NoneAt n f i j) ∨ ∃ r : Nat, e = .returned (.int .i64 r) ∧ FirstAt n f i j r
set_option maxRecDepth 100000 in
theorem index_order {w : World} {v : Value} {n i j p q : Nat} {f : Nat → Nat → Int} (ho : OrdV w v n f) (hi : i < 8) (hj : j < 8) (hp : w.cell? ⟨p, 0, none⟩ = some (.int .i64 i)) (hq : w.cell? ⟨q, 0, none⟩ = some (.int .i64 j)) :
    Calls Try.prog 42 #[v, .func (.func 43) #[] #[.pointer (some ⟨p, 0, none⟩), .pointer (some ⟨q, 0, none⟩)]] w fun e w' => IndexSays n f i j e ∧ Below w.heap.size w w' := by
  obtain ⟨A, c, rfl, hnc, hcm, hA⟩ := ho
  go_enter Try.func42, Try.ntmps42
  go_wp2_with fail
  go_loopw [8] (fun iv wr => ∃ r : Nat, r ≤ n ∧ iv = .int .i64 r ∧ (∀ s, s < r → ¬ hitAt (f s) i j) ∧ Below w.heap.size w wr) (fun i _ => n - (intOf i).toNat)
  case atStart => exact ⟨0, Nat.zero_le _, rfl, fun j hj => absurd hj (by omega), Below.refl _ _⟩
  case round =>
    obtain ⟨r, hr, rfl, hz, hb⟩ := hrel
    by_cases hlt : r < n
    · obtain ⟨bk, off, rfl, hbl, hcell⟩ := hA (by omega)
      obtain ⟨c0, c1, c2, c3, c4, c5, c6, c7⟩ := OrdV.row8 (w := wr) (b := bk) (off := off) (i := r) (f := f) (fun k hk => (hb.cell (p := ⟨bk, off + r * 8 + k, none⟩) hbl).trans (hcell r hlt k hk))
      have cp : wr.cell? ⟨p, 0, none⟩ = some (.int .i64 i) := (hb.cell (p := ⟨p, 0, none⟩) (World.block_lt_of_cell? w _ hp)).trans hp
      have cq : wr.cell? ⟨q, 0, none⟩ = some (.int .i64 j) := (hb.cell (p := ⟨q, 0, none⟩) (World.block_lt_of_cell? w _ hq)).trans hq
      have HA := Lib.hid hA
      have HZ := Lib.hid hz
      clear hA hcell hz
      go_wp2_with fail
      refine (elim_one (g := f r) hi hj cp cq).mono ?_
      rintro e w1 ⟨⟨b1, rfl, hb1⟩, hbw⟩
      cases b1
      · have HN : Hid (¬ hitAt (f r) i j) := fun h => by have := hb1.2 h; cases this
        clear hb1
        go_wp2_with fail
        go_roundw
        case rel =>
          refine ⟨r + 1, by omega, by go_num, fun s hs => ?_, hb.trans (hbw.mono hb.size)⟩
          by_cases h : s < r
          · exact HZ.out s h
          · rw [show s = r from by omega]; exact HN.out
        case measure => simp [intOf]; omega
      · have HN : Hid (hitAt (f r) i j) := hb1.1 rfl
        clear hb1
        go_wp2
        go_ret
        exact ⟨.inr ⟨r, rfl, hlt, HN.out, HZ.out⟩, hb.trans (hbw.mono hb.size)⟩
    · obtain rfl : r = n := by omega
      go_wp2
      go_ret
      exact ⟨.inl ⟨rfl, hz⟩, hb⟩

end Go.Proofs.Ytmkhfgggleplfaa
