/-
  The walk of Valid for orders. Conditions: none but on the slice's length.
-/
import Derived.Test.YtmkhfgggleplfaaGreatOrdA
namespace Go.Proofs.YtmkhfgggleplfaaGreat
set_option linter.unusedSimpArgs false
set_option linter.unusedVariables false
open Go.RowKit

abbrev vecb (g : Nat → Bool) : Array Value := #[.bool (g 0), .bool (g 1), .bool (g 2), .bool (g 3), .bool (g 4), .bool (g 5), .bool (g 6), .bool (g 7)]
theorem vecb_get (g : Nat → Bool) {k : Nat} (hk : k < 8) : (vecb g)[k]? = some (.bool (g k)) := by
  rcases eight hk with h | h | h | h | h | h | h | h <;> subst h <;> rfl
theorem vecb_set (g : Nat → Bool) {k : Nat} (hk : k < 8) (x : Bool) : (vecb g).setIfInBounds k (.bool x) = vecb (fun j => if j = k then x else g j) := by
  rcases eight hk with h | h | h | h | h | h | h | h <;> subst h <;> rfl
theorem vecb_congr {g h : Nat → Bool} (e : ∀ k, k < 8 → g k = h k) : vecb g = vecb h := by
  simp only [vecb, e 0 (by omega), e 1 (by omega), e 2 (by omega), e 3 (by omega), e 4 (by omega), e 5 (by omega), e 6 (by omega), e 7 (by omega)]

/-- the call says whether P holds -/
def Says (P : Prop) (e : Ending) : Prop := ∃ r : Bool, e = .returned (.bool r) ∧ (r = true ↔ P)
/-- a positive weight for the variable k stands in a row before i -/
def begun (f : Nat → Nat → Int) : Nat → Nat → Bool
  | 0, _ => false
  | i + 1, k => begun f i k || decide (0 < f i k)
def okAt (f : Nat → Nat → Int) (i k : Nat) : Prop := -1000 ≤ f i k ∧ f i k ≤ 1000 ∧ (f i k < 0 → begun f i k = true)
def validP (n : Nat) (f : Nat → Nat → Int) : Prop := n ≤ 24 ∧ ∀ i, i < n → ∀ k, k < 8 → okAt f i k

/-- eight cells of a row -/
theorem OrdV.row8 {w : World} {b off i : Nat} {f : Nat → Nat → Int} (h : ∀ k, k < 8 → w.cell? ⟨b, off + i * 8 + k, none⟩ = some (.int .i64 (f i k))) :
    w.cell? ⟨b, off + i * 8, none⟩ = some (.int .i64 (f i 0)) ∧ w.cell? ⟨b, off + i * 8 + 1, none⟩ = some (.int .i64 (f i 1)) ∧ w.cell? ⟨b, off + i * 8 + 2, none⟩ = some (.int .i64 (f i 2)) ∧ w.cell? ⟨b, off + i * 8 + 3, none⟩ = some (.int .i64 (f i 3)) ∧
    w.cell? ⟨b, off + i * 8 + 4, none⟩ = some (.int .i64 (f i 4)) ∧ w.cell? ⟨b, off + i * 8 + 5, none⟩ = some (.int .i64 (f i 5)) ∧ w.cell? ⟨b, off + i * 8 + 6, none⟩ = some (.int .i64 (f i 6)) ∧ w.cell? ⟨b, off + i * 8 + 7, none⟩ = some (.int .i64 (f i 7)) :=
  ⟨h 0 (by omega), h 1 (by omega), h 2 (by omega), h 3 (by omega), h 4 (by omega), h 5 (by omega), h 6 (by omega), h 7 (by omega)⟩
theorem index_row {ra : Array Value} {k : Nat} {x : Value} (h : ra[k]? = some x) (hk : k < 8) (W : World) : (Instr.index 35 (.agg ra) (.int .i64 k)).run Tryz.prog W = .ok x W := by
  have h0 : (0 : Int) ≤ (k : Int) ∧ (k : Int) < 8 := by omega
  simp [Instr.index, run_underlying Tryz.underlying35, part, sizeOf, go_sem, Tryz.sizeOf3, Tryz.isAgg3, h, h0, Result.andThen]
  rw [if_pos hk, show Tryz.t3.size = 1 from by rfl, Nat.mul_one, h]
  rfl

theorem beg_step {w : World} {g : Nat} {t : TypeId} {f : Nat → Nat → Int} {i k : Nat} (hB : Blk w g t (vecb (fun j => if j < k then begun f (i + 1) j else begun f i j))) (hk : k < 8) {z : Bool} (hz : z = begun f (i + 1) k) :
    Blk (w.setCell ⟨g, k, none⟩ (.bool z)) g t (vecb (fun j => if j < k + 1 then begun f (i + 1) j else begun f i j)) := by
  have := hB.set_ k (.bool z)
  rw [vecb_set _ hk, vecb_congr (h := fun j => if j < k + 1 then begun f (i + 1) j else begun f i j)] at this
  · exact this
  · intro j hj
    by_cases e : j = k
    · subst e; rw [if_pos rfl, if_pos (Nat.lt_succ_self j)]; exact hz
    · rw [if_neg e]
      by_cases h : j < k
      · rw [if_pos h, if_pos (by omega)]
      · rw [if_neg h, if_neg (by omega)]
set_option maxHeartbeats 4000000 in
set_option maxRecDepth 100000 in
theorem valid_any {w : World} {v : Value} {n : Nat} {f : Nat → Nat → Int} (ho : OrdV w v n f) :
    Calls Tryz.prog 29 #[v] w fun e w' => Says (validP n f) e ∧ Below w.heap.size w w' := by
  obtain ⟨A, c, rfl, hnc, hcm, hA⟩ := ho
  by_cases hn : n ≤ 24
  · have hni : ¬ ((24 : Int) < (n : Int)) := by omega
    go_enter Tryz.func29, Tryz.ntmps29
    go_wp2_with fail
    obtain ⟨W0, hW0, hb0, hB0, hsz0⟩ : ∃ W0, W0 = w.alloc (.cells (vecb fun _ => false) 63) ∧ Below w.heap.size w W0 ∧ Blk W0 w.heap.size 63 (vecb fun _ => false) ∧ W0.heap.size = w.heap.size + 1 :=
      ⟨_, rfl, (Below.refl _ _).alloc (Nat.le_refl _) _, Blk.new _ _ _, by simp⟩
    rw [← hW0]
    clear hW0 hsz0
    go_loopw [13] (fun iv wr => ∃ i : Nat, i ≤ n ∧ iv = .int .i64 i ∧ Blk wr w.heap.size 63 (vecb (begun f i)) ∧ (∀ i', i' < i → ∀ k, k < 8 → okAt f i' k) ∧ Below w.heap.size w wr) (fun i _ => n - (intOf i).toNat)
    case atStart => exact ⟨0, Nat.zero_le _, rfl, hB0, fun i hi => absurd hi (by omega), hb0⟩
    case round =>
      obtain ⟨i, hi, rfl, hB, hok, hb⟩ := hrel
      by_cases hlt : i < n
      · obtain ⟨b, off, rfl, hbl, hcell⟩ := hA (by omega)
        obtain ⟨c0, c1, c2, c3, c4, c5, c6, c7⟩ := OrdV.row8 (w := wr) (b := b) (off := off) (i := i) (f := f) (fun k hk => (hb.cell (p := ⟨b, off + i * 8 + k, none⟩) hbl).trans (hcell i hlt k hk))
        have HOK := Lib.hid hok
        have HA := Lib.hid hA
        clear hok hA hcell
        go_wp2_with fail
        obtain ⟨W1, hW1, hb1⟩ : ∃ W1, W1 = wr.alloc (.cells (vec8 (f i)) 35) ∧ Below wr.heap.size wr W1 := ⟨_, rfl, (Below.refl _ _).alloc (Nat.le_refl _) _⟩
        rw [← hW1]
        replace hB := hB.below hb1 hB.lt
        replace hb := hb.trans (hb1.mono hb.size)
        clear hW1 hb1 c0 c1 c2 c3 c4 c5 c6 c7
        go_loopw [18] (fun kv wr => ∃ k : Nat, k ≤ 8 ∧ kv = .int .i64 k ∧ Blk wr w.heap.size 63 (vecb (fun j => if j < k then begun f (i + 1) j else begun f i j)) ∧ (∀ k', k' < k → okAt f i k') ∧ Below w.heap.size w wr) (fun k _ => 8 - (intOf k).toNat)
        case atStart => exact ⟨0, Nat.zero_le _, rfl, hB, fun i hi => absurd hi (by omega), hb⟩
        case round =>
          obtain ⟨k, hk, rfl, hB, hok, hb⟩ := hrel
          by_cases hk8 : k < 8
          · have hki : (k : Int) < 8 := by omega
            have hix := index_row (vec8_get (f i) hk8) hk8
            have hcb := (hB.cell k).trans (vecb_get _ hk8)
            rw [if_neg (Nat.lt_irrefl k)] at hcb
            have hfr := hB.frozen k
            obtain ⟨x, hx⟩ : ∃ x, x = f i k := ⟨_, rfl⟩
            obtain ⟨bg, hbg⟩ : ∃ b, b = begun f i k := ⟨_, rfl⟩
            rw [← hx] at hix
            rw [← hbg] at hcb
            have HX := Lib.hid hx
            have HBG := Lib.hid hbg
            have HB := Lib.hid hB
            have HOK2 := Lib.hid hok
            clear hx hbg hok hB
            by_cases h1 : x < -1000
            · go_wp2
              go_ret
              refine ⟨⟨false, rfl, ⟨fun h => (by cases h), fun h => ?_⟩⟩, hb⟩
              have := h.2 i hlt k hk8
              unfold okAt at this
              rw [← HX.out] at this
              omega
            by_cases h2 : 1000 < x
            · go_wp2
              go_ret
              refine ⟨⟨false, rfl, ⟨fun h => (by cases h), fun h => ?_⟩⟩, hb⟩
              have := h.2 i hlt k hk8
              unfold okAt at this
              rw [← HX.out] at this
              omega
            by_cases h3 : x < 0
            · have h4 : ¬ 0 < x := by omega
              cases bg
              · go_wp2
                go_ret
                refine ⟨⟨false, rfl, ⟨fun h => (by cases h), fun h => ?_⟩⟩, hb⟩
                have := h.2 i hlt k hk8
                unfold okAt at this
                rw [← HX.out] at this
                rw [← HBG.out] at this
                exact absurd (this.2.2 h3) (by simp)
              · go_wp2_with fail
                go_roundw
                case rel =>
                  refine ⟨k + 1, by omega, by go_num, beg_step HB.out hk8 (by rw [begun, ← HBG.out, ← HX.out]; simp [h4]), fun k' hk' => ?_, hb.setCell (Nat.le_refl _) _⟩
                  by_cases e : k' < k
                  · exact HOK2.out k' e
                  · obtain rfl : k' = k := by omega
                    unfold okAt; rw [← HX.out, ← HBG.out]; exact ⟨by omega, by omega, fun h => (by first | rfl | omega)⟩
                case measure => simp [intOf]; omega
            · by_cases h4 : 0 < x
              · cases bg
                · go_wp2_with fail
                  go_roundw
                  case rel =>
                    refine ⟨k + 1, by omega, by go_num, beg_step HB.out hk8 (by rw [begun, ← HBG.out, ← HX.out]; simp [h4]), fun k' hk' => ?_, hb.setCell (Nat.le_refl _) _⟩
                    by_cases e : k' < k
                    · exact HOK2.out k' e
                    · obtain rfl : k' = k := by omega
                      unfold okAt; rw [← HX.out, ← HBG.out]; exact ⟨by omega, by omega, fun h => (by first | rfl | omega)⟩
                  case measure => simp [intOf]; omega
                · go_wp2_with fail
                  go_roundw
                  case rel =>
                    refine ⟨k + 1, by omega, by go_num, beg_step HB.out hk8 (by rw [begun, ← HBG.out, ← HX.out]; simp [h4]), fun k' hk' => ?_, hb.setCell (Nat.le_refl _) _⟩
                    by_cases e : k' < k
                    · exact HOK2.out k' e
                    · obtain rfl : k' = k := by omega
                      unfold okAt; rw [← HX.out, ← HBG.out]; exact ⟨by omega, by omega, fun h => (by first | rfl | omega)⟩
                  case measure => simp [intOf]; omega
              · cases bg
                · go_wp2_with fail
                  go_roundw
                  case rel =>
                    refine ⟨k + 1, by omega, by go_num, beg_step HB.out hk8 (by rw [begun, ← HBG.out, ← HX.out]; simp [h4]), fun k' hk' => ?_, hb.setCell (Nat.le_refl _) _⟩
                    by_cases e : k' < k
                    · exact HOK2.out k' e
                    · obtain rfl : k' = k := by omega
                      unfold okAt; rw [← HX.out, ← HBG.out]; exact ⟨by omega, by omega, fun h => (by first | rfl | omega)⟩
                  case measure => simp [intOf]; omega
                · go_wp2_with fail
                  go_roundw
                  case rel =>
                    refine ⟨k + 1, by omega, by go_num, beg_step HB.out hk8 (by rw [begun, ← HBG.out, ← HX.out]; simp [h4]), fun k' hk' => ?_, hb.setCell (Nat.le_refl _) _⟩
                    by_cases e : k' < k
                    · exact HOK2.out k' e
                    · obtain rfl : k' = k := by omega
                      unfold okAt; rw [← HX.out, ← HBG.out]; exact ⟨by omega, by omega, fun h => (by first | rfl | omega)⟩
                  case measure => simp [intOf]; omega
          · obtain rfl : k = 8 := by omega
            replace hB : Blk wr w.heap.size 63 (vecb (begun f (i + 1))) := by
              rw [vecb_congr (h := begun f (i + 1)) (fun j hj => if_pos hj)] at hB
              exact hB
            go_wp2_with fail
            go_roundw
            case rel =>
              refine ⟨i + 1, by omega, by go_num, hB, fun i' hi' k hk => ?_, hb⟩
              by_cases e : i' < i
              · exact HOK.out i' e k hk
              · obtain rfl : i' = i := by omega
                exact hok k hk
            case measure => simp [intOf]; omega
      · obtain rfl : i = n := by omega
        go_wp2
        go_ret
        exact ⟨⟨true, rfl, ⟨fun _ => ⟨hn, hok⟩, fun _ => rfl⟩⟩, hb⟩
  · have hni : (24 : Int) < (n : Int) := by omega
    go_enter Tryz.func29, Tryz.ntmps29
    go_wp2
    go_ret
    exact ⟨⟨false, rfl, ⟨fun h => (by cases h), fun h => absurd h.1 hn⟩⟩, Below.refl _ _⟩

end Go.Proofs.YtmkhfgggleplfaaGreat
