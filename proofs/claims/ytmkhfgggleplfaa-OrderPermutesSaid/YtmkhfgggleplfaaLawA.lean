/-
  The walks of small functions of the laws of orders: Power, has, alike. Conditions: exponents of type int.
-/
import Derived.Test.YtmkhfgggleplfaaMonB
namespace Go.Proofs.Ytmkhfgggleplfaa
set_option linter.unusedSimpArgs false
set_option linter.unusedVariables false
open Go.RowKit

set_option maxHeartbeats 1000000 in
theorem power_any (k : Nat) (x : Int) (w : World) (hk : k < 8) :
    Calls Try.prog 34 #[.int .i64 k, .int .i64 x] w fun e w' => e = .returned (.agg (vec8 (unitF k x))) ∧ Below w.heap.size w w' := by
  rcases eight hk with h | h | h | h | h | h | h | h <;> subst h
  all_goals
    go_enter Try.func34, Try.ntmps34
    go_wp2
    refine bodyPost_ret (v := .agg (vec8 (unitF _ x))) (by simp [results, Try.results34, go_sem, unitF]) rfl ⟨rfl, ?_⟩
    exact ((Below.refl _ _).alloc (Nat.le_refl _) _).alloc (by simp) _

/-- eight cells of a monomial of a list -/
theorem OrdV.cells {w : World} {b off n i : Nat} {f : Nat → Nat → Int} (h : ∀ i, i < n → ∀ k, k < 8 → w.cell? ⟨b, off + i * 8 + k, none⟩ = some (.int .i64 (f i k))) (hi : i < n) (wr : World) (hb : Below w.heap.size w wr) (hlt : b < w.heap.size) :
    wr.cell? ⟨b, off + i * 8, none⟩ = some (.int .i64 (f i 0)) ∧ wr.cell? ⟨b, off + i * 8 + 1, none⟩ = some (.int .i64 (f i 1)) ∧ wr.cell? ⟨b, off + i * 8 + 2, none⟩ = some (.int .i64 (f i 2)) ∧ wr.cell? ⟨b, off + i * 8 + 3, none⟩ = some (.int .i64 (f i 3)) ∧
    wr.cell? ⟨b, off + i * 8 + 4, none⟩ = some (.int .i64 (f i 4)) ∧ wr.cell? ⟨b, off + i * 8 + 5, none⟩ = some (.int .i64 (f i 5)) ∧ wr.cell? ⟨b, off + i * 8 + 6, none⟩ = some (.int .i64 (f i 6)) ∧ wr.cell? ⟨b, off + i * 8 + 7, none⟩ = some (.int .i64 (f i 7)) :=
  OrdV.row8 (w := wr) fun k hk => (hb.cell (p := ⟨b, off + i * 8 + k, none⟩) hlt).trans (h i hi k hk)

set_option maxHeartbeats 1000000 in
set_option maxRecDepth 100000 in
theorem has_any {w : World} {v : Value} {n : Nat} {d : Nat → Nat → Int} {b : Nat → Int} (ho : OrdV w v n d) (hd : ∀ i, i < n → In64 (d i)) (hb : In64 b) :
    Calls Try.prog 12 #[v, .agg (vec8 b)] w fun e w' => Says (∃ i, i < n ∧ ∀ c, c < 8 → d i c = b c) e ∧ Below w.heap.size w w' := by
  obtain ⟨A, c, rfl, hnc, hcm, hA⟩ := ho
  obtain ⟨W0, hW0, hb0, hB0⟩ : ∃ W0, W0 = w.alloc (.cells (vec8 b) 35) ∧ Below w.heap.size w W0 ∧ Blk W0 w.heap.size 35 (vec8 b) := ⟨_, rfl, (Below.refl _ _).alloc (Nat.le_refl _) _, Blk.new _ _ _⟩
  go_enter Try.func12, Try.ntmps12
  go_wp2_with fail
  rw [← hW0]
  clear hW0
  go_loopw [5] (fun iv wr => ∃ i : Nat, i ≤ n ∧ iv = .int .i64 i ∧ (∀ j, j < i → ¬ ∀ c, c < 8 → d j c = b c) ∧ Blk wr w.heap.size 35 (vec8 b) ∧ Below w.heap.size w wr) (fun i _ => n - (intOf i).toNat)
  case atStart => exact ⟨0, Nat.zero_le _, rfl, fun j hj => absurd hj (by omega), hB0, hb0⟩
  case round =>
    obtain ⟨i, hi, rfl, hz, hB, hbw⟩ := hrel
    by_cases hlt : i < n
    · obtain ⟨bk, off, rfl, hbl, hcell⟩ := hA (by omega)
      obtain ⟨c0, c1, c2, c3, c4, c5, c6, c7⟩ := OrdV.cells hcell hlt wr hbw hbl
      obtain ⟨d0, d1, d2, d3, d4, d5, d6, d7⟩ := hB.eight
      have heq := eq_mono (hd i hlt) hb
      have hiff := same8_iff (d i) b
      have HZ := Lib.hid hz
      have HA := Lib.hid hA
      clear hz hA hcell
      cases hs : same8 (d i) b
      · rw [hs] at heq hiff
        have HN : Hid (¬ ∀ c, c < 8 → d i c = b c) := fun h => by have := hiff.2 h; cases this
        clear hs hiff
        go_wp2_with fail
        go_quiet (fail)
        go_wp2_with fail
        go_roundw
        case rel =>
          refine ⟨i + 1, by omega, by go_num, fun j hj => ?_, hB.drewN _, hbw.drewN _⟩
          by_cases h : j < i
          · exact HZ.out j h
          · rw [show j = i from by omega]; exact HN.out
        case measure => simp [intOf]; omega
      · rw [hs] at heq hiff
        have HN : Hid (∀ c, c < 8 → d i c = b c) := hiff.1 rfl
        clear hs hiff
        go_wp2_with fail
        go_quiet (fail)
        go_wp2
        go_ret
        exact ⟨⟨true, rfl, ⟨fun _ => ⟨i, hlt, HN.out⟩, fun _ => rfl⟩⟩, hbw.drewN _⟩
    · obtain rfl : i = n := by omega
      have HZ := Lib.hid hz
      clear hz
      go_wp2
      go_ret
      exact ⟨⟨false, rfl, ⟨fun h => (by cases h), fun ⟨j, hj, h⟩ => absurd h (HZ.out j hj)⟩⟩, hbw⟩

set_option maxHeartbeats 1000000 in
set_option maxRecDepth 100000 in
theorem alike_any {w : World} {v v' : Value} {n n' : Nat} {d d' : Nat → Nat → Int} (ho : OrdV w v n d) (ho' : OrdV w v' n' d') (hd : ∀ i, i < n → In64 (d i)) (hd' : ∀ i, i < n' → In64 (d' i)) :
    Calls Try.prog 14 #[v, v'] w fun e w' => Says (n = n' ∧ ∀ i, i < n → ∀ c, c < 8 → d i c = d' i c) e ∧ Below w.heap.size w w' := by
  obtain ⟨A, c, rfl, hnc, hcm, hA⟩ := ho
  obtain ⟨A', c', rfl, hnc', hcm', hA'⟩ := ho'
  by_cases hn : n = n'
  · subst hn
    go_enter Try.func14, Try.ntmps14
    go_wp2_with fail
    go_loopw [5] (fun iv wr => ∃ i : Nat, i ≤ n ∧ iv = .int .i64 i ∧ (∀ j, j < i → ∀ c, c < 8 → d j c = d' j c) ∧ Below w.heap.size w wr) (fun i _ => n - (intOf i).toNat)
    case atStart => exact ⟨0, Nat.zero_le _, rfl, fun j hj => absurd hj (by omega), Below.refl _ _⟩
    case round =>
      obtain ⟨i, hi, rfl, hz, hbw⟩ := hrel
      by_cases hlt : i < n
      · obtain ⟨bk, off, rfl, hbl, hcell⟩ := hA (by omega)
        obtain ⟨bk', off', rfl, hbl', hcell'⟩ := hA' (by omega)
        obtain ⟨c0, c1, c2, c3, c4, c5, c6, c7⟩ := OrdV.cells hcell hlt wr hbw hbl
        obtain ⟨d0, d1, d2, d3, d4, d5, d6, d7⟩ := OrdV.cells hcell' hlt wr hbw hbl'
        have heq := eq_mono (hd i hlt) (hd' i hlt)
        have hiff := same8_iff (d i) (d' i)
        have HZ := Lib.hid hz
        clear hz hA hcell hA' hcell'
        cases hs : same8 (d i) (d' i)
        · rw [hs] at heq hiff
          have HN : Hid (¬ ∀ c, c < 8 → d i c = d' i c) := fun h => by have := hiff.2 h; cases this
          clear hs hiff
          go_wp2_with fail
          go_quiet (fail)
          go_wp2
          go_ret
          exact ⟨⟨false, rfl, ⟨fun h => (by cases h), fun ⟨_, h⟩ => absurd (h i hlt) HN.out⟩⟩, hbw.drewN _⟩
        · rw [hs] at heq hiff
          have HN : Hid (∀ c, c < 8 → d i c = d' i c) := hiff.1 rfl
          clear hs hiff
          go_wp2_with fail
          go_quiet (fail)
          go_wp2_with fail
          go_roundw
          case rel =>
            refine ⟨i + 1, by omega, by go_num, fun j hj => ?_, hbw.drewN _⟩
            by_cases h : j < i
            · exact HZ.out j h
            · rw [show j = i from by omega]; exact HN.out
          case measure => simp [intOf]; omega
      · obtain rfl : i = n := by omega
        have HZ := Lib.hid hz
        clear hz
        go_wp2
        go_ret
        exact ⟨⟨true, rfl, ⟨fun _ => ⟨by trivial, HZ.out⟩, fun _ => rfl⟩⟩, hbw⟩
  · have hni : ((n : Int) == (n' : Int)) = false := by simp; omega
    have hni2 : ((n : Int) != (n' : Int)) = true := by simp; omega
    have HN := Lib.hid hn
    clear hn
    go_enter Try.func14, Try.ntmps14
    go_wp2
    go_ret
    exact ⟨⟨false, rfl, ⟨fun h => (by cases h), fun ⟨h, _⟩ => absurd h HN.out⟩⟩, Below.refl _ _⟩

end Go.Proofs.Ytmkhfgggleplfaa
