/-
  The walks of unit and ones: rows of eight ints.
-/
import Derived.Test.YtmkhfgggleplfaaGreatIndB
namespace Go.Proofs.YtmkhfgggleplfaaGreat
set_option linter.unusedSimpArgs false
set_option linter.unusedVariables false
open Go.RowKit

abbrev vec8 (g : Nat → Int) : Array Value := #[.int .i64 (g 0), .int .i64 (g 1), .int .i64 (g 2), .int .i64 (g 3), .int .i64 (g 4), .int .i64 (g 5), .int .i64 (g 6), .int .i64 (g 7)]
theorem eight {k : Nat} (hk : k < 8) : k = 0 ∨ k = 1 ∨ k = 2 ∨ k = 3 ∨ k = 4 ∨ k = 5 ∨ k = 6 ∨ k = 7 := by omega
theorem vec8_get (g : Nat → Int) {k : Nat} (hk : k < 8) : (vec8 g)[k]? = some (.int .i64 (g k)) := by
  rcases eight hk with h | h | h | h | h | h | h | h <;> subst h <;> rfl
theorem vec8_set (g : Nat → Int) {k : Nat} (hk : k < 8) (x : Int) : (vec8 g).setIfInBounds k (.int .i64 x) = vec8 (fun j => if j = k then x else g j) := by
  rcases eight hk with h | h | h | h | h | h | h | h <;> subst h <;> rfl
theorem vec8_congr {g h : Nat → Int} (e : ∀ k, k < 8 → g k = h k) : vec8 g = vec8 h := by
  simp only [vec8, e 0 (by omega), e 1 (by omega), e 2 (by omega), e 3 (by omega), e 4 (by omega), e 5 (by omega), e 6 (by omega), e 7 (by omega)]
theorem Blk.eight {w : World} {b : Nat} {t : TypeId} {g : Nat → Int} (h : Blk w b t (vec8 g)) :
    w.cell? ⟨b, 0, none⟩ = some (.int .i64 (g 0)) ∧ w.cell? ⟨b, 1, none⟩ = some (.int .i64 (g 1)) ∧ w.cell? ⟨b, 2, none⟩ = some (.int .i64 (g 2)) ∧ w.cell? ⟨b, 3, none⟩ = some (.int .i64 (g 3)) ∧
    w.cell? ⟨b, 4, none⟩ = some (.int .i64 (g 4)) ∧ w.cell? ⟨b, 5, none⟩ = some (.int .i64 (g 5)) ∧ w.cell? ⟨b, 6, none⟩ = some (.int .i64 (g 6)) ∧ w.cell? ⟨b, 7, none⟩ = some (.int .i64 (g 7)) :=
  ⟨h.cell 0, h.cell 1, h.cell 2, h.cell 3, h.cell 4, h.cell 5, h.cell 6, h.cell 7⟩
theorem Blk.eightF {w : World} {b : Nat} {t : TypeId} {cs : Array Value} (h : Blk w b t cs) :
    w.frozen? ⟨b, 0, none⟩ = false ∧ w.frozen? ⟨b, 1, none⟩ = false ∧ w.frozen? ⟨b, 2, none⟩ = false ∧ w.frozen? ⟨b, 3, none⟩ = false ∧ w.frozen? ⟨b, 4, none⟩ = false ∧ w.frozen? ⟨b, 5, none⟩ = false ∧ w.frozen? ⟨b, 6, none⟩ = false ∧ w.frozen? ⟨b, 7, none⟩ = false :=
  ⟨h.frozen 0, h.frozen 1, h.frozen 2, h.frozen 3, h.frozen 4, h.frozen 5, h.frozen 6, h.frozen 7⟩
theorem Blk.at8 {w : World} {b : Nat} {t : TypeId} {g : Nat → Int} (h : Blk w b t (vec8 g)) {k : Nat} (hk : k < 8) : w.cell? ⟨b, k, none⟩ = some (.int .i64 (g k)) := (h.cell k).trans (vec8_get g hk)
theorem Blk.set8 {w : World} {b : Nat} {t : TypeId} {g : Nat → Int} (h : Blk w b t (vec8 g)) {k : Nat} (hk : k < 8) (x : Int) : Blk (w.setCell ⟨b, k, none⟩ (.int .i64 x)) b t (vec8 (fun j => if j = k then x else g j)) := by
  have := h.set_ k (.int .i64 x)
  rwa [vec8_set g hk] at this

def unitF (k : Nat) (x : Int) : Nat → Int := fun j => if j = k then x else 0

set_option maxHeartbeats 1000000 in
theorem unit_any (k : Nat) (x : Int) (w : World) (hk : k < 8) :
    Calls Tryz.prog 38 #[.int .i64 k, .int .i64 x] w fun e w' => e = .returned (.agg (vec8 (unitF k x))) ∧ Below w.heap.size w w' := by
  rcases eight hk with h | h | h | h | h | h | h | h <;> subst h
  all_goals
    go_enter Tryz.func38, Tryz.ntmps38
    go_wp2
    refine bodyPost_ret (v := .agg (vec8 (unitF _ x))) (by simp [results, Tryz.results38, go_sem, unitF]) rfl ⟨rfl, ?_⟩
    exact ((Below.refl _ _).alloc (Nat.le_refl _) _).alloc (by simp) _

theorem and_one_fin : ∀ q : Fin 256, bits .and .u8 ((q.val : Nat) : Int) 1 = ((q.val % 2 : Nat) : Int) := by decide +kernel
theorem and_one {q : Nat} (hq : q < 256) : bits .and .u8 (q : Int) 1 = ((q % 2 : Nat) : Int) := and_one_fin ⟨q, hq⟩
def bit8 (m k : Nat) : Int := ((m / 2 ^ k % 2 : Nat) : Int)
theorem ones_any (m : Nat) (w : World) (hm : m < 256) :
    Calls Tryz.prog 49 #[.int .u8 m] w fun e w' => e = .returned (.agg (vec8 (bit8 m))) ∧ Below w.heap.size w w' := by
  go_enter Tryz.func49, Tryz.ntmps49
  go_wp2_with fail
  obtain ⟨W0, hW0, hbl, hB2, hB3, hsz⟩ := boxes2 w 35 35 (vec8 fun _ => 0) (vec8 fun _ => 0)
  rw [← hW0]
  clear hW0
  go_loopw [5] (fun kv wr => ∃ k : Nat, k ≤ 8 ∧ kv = .int .i64 k ∧ Blk wr w.heap.size 35 (vec8 fun _ => 0) ∧ Blk wr (w.heap.size + 1) 35 (vec8 fun j => if j < k then bit8 m j else 0) ∧ Below w.heap.size w wr) (fun k _ => 8 - (intOf k).toNat)
  case atStart => exact ⟨0, Nat.zero_le _, rfl, hB2, hB3, hbl⟩
  case round =>
    obtain ⟨k, hk, rfl, h2, h3, hb⟩ := hrel
    by_cases hk8 : k < 8
    · have hki : (k : Int) < 8 := by omega
      have hc := h3.at8 hk8
      have hf := h3.frozen k
      go_wp2_with fail
      have hval : wrap64 (bits .and .u8 ((m : Int) / 2 ^ k) 1) = bit8 m k := by
        have e : ((m : Int) / 2 ^ k) = ((m / 2 ^ k : Nat) : Int) := by rw [Int.natCast_ediv, Int.natCast_pow]; rfl
        have hq : m / 2 ^ k < 256 := Nat.lt_of_le_of_lt (Nat.div_le_self _ _) hm
        rw [e, and_one hq]
        have h2 := Nat.mod_lt (m / 2 ^ k) (show 0 < 2 by omega)
        show wrap64 ((m / 2 ^ k % 2 : Nat) : Int) = ((m / 2 ^ k % 2 : Nat) : Int)
        exact IntWalk.wrap64_in _ (by omega)
      rw [hval]
      go_roundw
      case rel =>
        refine ⟨k + 1, by omega, by go_num, h2.far (by show w.heap.size ≠ w.heap.size + 1; omega) _, ?_, hb.setCell (by show w.heap.size ≤ w.heap.size + 1; omega) _⟩
        have := h3.set8 hk8 (bit8 m k)
        rwa [vec8_congr (h := fun j => if j < k + 1 then bit8 m j else 0)] at this
        intro j hj
        by_cases e : j = k
        · subst e; rw [if_pos rfl, if_pos (Nat.lt_succ_self j)]
        · rw [if_neg e]
          by_cases h : j < k
          · rw [if_pos h, if_pos (by omega)]
          · rw [if_neg h, if_neg (by omega)]
      case measure => simp [intOf]; omega
    · obtain rfl : k = 8 := by omega
      obtain ⟨c0, c1, c2, c3, c4, c5, c6, c7⟩ := h3.eight
      obtain ⟨d0, d1, d2, d3, d4, d5, d6, d7⟩ := h2.eight
      obtain ⟨e0, e1, e2, e3, e4, e5, e6, e7⟩ := h2.eightF
      go_wp2
      refine bodyPost_ret (v := .agg (vec8 (bit8 m))) (by simp [results, Tryz.results49, go_sem, d0, d1, d2, d3, d4, d5, d6, d7]) rfl ⟨rfl, ?_⟩
      have hs := Nat.le_refl w.heap.size
      exact (((((((hb.setCell hs _).setCell hs _).setCell hs _).setCell hs _).setCell hs _).setCell hs _).setCell hs _).setCell hs _

end Go.Proofs.YtmkhfgggleplfaaGreat
