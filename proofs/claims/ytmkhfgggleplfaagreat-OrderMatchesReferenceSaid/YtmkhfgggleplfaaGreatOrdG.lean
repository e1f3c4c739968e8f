/-
  The walk of Eliminates. Conditions: none but on the slice's length.
  The walk of Eliminates. Conditions: none but on the slice's length.
-/
import Derived.Test.YtmkhfgggleplfaaGreatOrdC
namespace Go.Proofs.YtmkhfgggleplfaaGreat
set_option linter.unusedSimpArgs false
set_option linter.unusedVariables false
open Go.RowKit

def hitAt (g : Nat → Int) (i j : Nat) : Prop := g i ≠ 0 ∨ g j ≠ 0
theorem elim_one {g : Nat → Int} {i j p q : Nat} {w : World} (hi : i < 8) (hj : j < 8) (hp : w.cell? ⟨p, 0, none⟩ = some (.int .i64 i)) (hq : w.cell? ⟨q, 0, none⟩ = some (.int .i64 j)) :
    Calls Tryz.prog 47 #[.agg (vec8 g), .pointer (some ⟨p, 0, none⟩), .pointer (some ⟨q, 0, none⟩)] w fun e w' => Says (hitAt g i j) e ∧ Below w.heap.size w w' := by
  have hpl : p < w.heap.size := World.block_lt_of_cell? w _ hp
  have hql : q < w.heap.size := World.block_lt_of_cell? w _ hq
  obtain ⟨W0, hW0, hb0, hB0⟩ : ∃ W0, W0 = w.alloc (.cells (vec8 g) 35) ∧ Below w.heap.size w W0 ∧ Blk W0 w.heap.size 35 (vec8 g) := ⟨_, rfl, (Below.refl _ _).alloc (Nat.le_refl _) _, Blk.new _ _ _⟩
  have cp : W0.cell? ⟨p, 0, none⟩ = some (.int .i64 i) := (hb0.cell (p := ⟨p, 0, none⟩) hpl).trans hp
  have cq : W0.cell? ⟨q, 0, none⟩ = some (.int .i64 j) := (hb0.cell (p := ⟨q, 0, none⟩) hql).trans hq
  have ci := hB0.at8 hi
  have cj := hB0.at8 hj
  have hii : (i : Int) < 8 := by omega
  have hji : (j : Int) < 8 := by omega
  clear hp hq hpl hql
  go_enter Tryz.func47, Tryz.ntmps47
  go_upto_region 1 with fail
  rw [← hW0]
  clear hW0
  by_cases h1 : g i = 0
  · have b1 : (g i != 0) = false := by simp [h1]
    by_cases h2 : g j = 0
    · have b2 : (g j != 0) = false := by simp [h2]
      have HN : ¬ hitAt g i j := fun h => by unfold hitAt at h; omega
      clear h1 h2
      go_wp2
      go_ret
      exact ⟨⟨false, rfl, ⟨fun h => (by cases h), fun h => absurd h HN⟩⟩, hb0⟩
    · have b2 : (g j != 0) = true := by simp [h2]
      have HN : hitAt g i j := .inr h2
      clear h1 h2
      go_wp2
      go_ret
      exact ⟨⟨true, rfl, ⟨fun _ => HN, fun _ => rfl⟩⟩, hb0⟩
  · have b1 : (g i != 0) = true := by simp [h1]
    have HN : hitAt g i j := .inl h1
    clear h1
    go_wp2
    go_ret
    exact ⟨⟨true, rfl, ⟨fun _ => HN, fun _ => rfl⟩⟩, hb0⟩

def FirstAt (n : Nat) (f : Nat → Nat → Int) (i j r : Nat) : Prop := r < n ∧ hitAt (f r) i j ∧ ∀ s, s < r → ¬ hitAt (f s) i j
def NoneAt (n : Nat) (f : Nat → Nat → Int) (i j : Nat) : Prop := ∀ s, s < n → ¬ hitAt (f s) i j
def IndexSays (n : Nat) (f : Nat → Nat → Int) (i j : Nat) (e : Ending) : Prop :=
  (e = .returned (.int .i64 (-1)) ∧ NoneAt n f i j) ∨ ∃ r : Nat, e = .returned (.int .i64 r) ∧ FirstAt n f i j r
set_option maxRecDepth 100000 in
theorem index_order {w : World} {v : Value} {n i j p q : Nat} {f : Nat → Nat → Int} (ho : OrdV w v n f) (hi : i < 8) (hj : j < 8) (hp : w.cell? ⟨p, 0, none⟩ = some (.int .i64 i)) (hq : w.cell? ⟨q, 0, none⟩ = some (.int .i64 j)) :
    Calls Tryz.prog 46 #[v, .func (.func 47) #[] #[.pointer (some ⟨p, 0, none⟩), .pointer (some ⟨q, 0, none⟩)]] w fun e w' => IndexSays n f i j e ∧ Below w.heap.size w w' := by
  obtain ⟨A, c, rfl, hnc, hcm, hA⟩ := ho
  go_enter Tryz.func46, Tryz.ntmps46
  go_wp2_with fail
  go_loopw [8] (fun iv wr => ∃ r : Nat, r ≤ n ∧ iv = .int .i64 r ∧ (∀ s, s < r → ¬ hitAt (f s) i j) ∧ Below w.heap.size w wr) (fun i _ => n - (intOf i).toNat)
  case atStart => exact ⟨0, Nat.zero_le _, rfl, fun j hj => absurd hj (by omega), Below.refl _ _⟩
  case round =>
    obtain ⟨r, hr, rfl, hz, hb⟩ := hrel
    by_cases hlt : r < n
    · obtain ⟨bk, off, rfl, hbl, hcell⟩ := hA (by omega)
      obtain ⟨c0, c1, c2, c3, c4, c5, c6, c7⟩ := OrdV.row8 (w := wr) (b := bk) (off := off) (i := r) (f := f) (fun k hk => (hb.cell (p := ⟨bk, off + r * 8 + k, none⟩) hbl).trans (hcell r hlt k hk))
      have cp : wr.cell? ⟨p, 0, none⟩ = some (.int .i64 i) := (hb.cell (p := ⟨p, 0, none⟩) (World.block_lt_of_cell? w _ hp)).trans hp
      have cq : wr.cell? ⟨q, 0, none⟩ = some (.int .i64 j) := (hb.cell (p := ⟨q, 0, none⟩) (World.block_lt_of_cell? w _ hq)).trans hq
      have HA := Lib.hid hA
      have HZ := Lib.hid hz
      clear hA hcell hz
      go_wp2_with fail
      refine (elim_one (g := f r) hi hj cp cq).mono ?_
      rintro e w1 ⟨⟨b1, rfl, hb1⟩, hbw⟩
      cases b1
      · have HN : Hid (¬ hitAt (f r) i j) := fun h => by have := hb1.2 h; cases this
        clear hb1
        go_wp2_with fail
        go_roundw
        case rel =>
          refine ⟨r + 1, by omega, by go_num, fun s hs => ?_, hb.trans (hbw.mono hb.size)⟩
          by_cases h : s < r
          · exact HZ.out s h
          · rw [show s = r from by omega]; exact HN.out
        case measure => simp [intOf]; omega
      · have HN : Hid (hitAt (f r) i j) := hb1.1 rfl
        clear hb1
        go_wp2
        go_ret
        exact ⟨.inr ⟨r, rfl, hlt, HN.out, HZ.out⟩, hb.trans (hbw.mono hb.size)⟩
    · obtain rfl : r = n := by omega
      go_wp2
      go_ret
      exact ⟨.inl ⟨rfl, hz⟩, hb⟩

end Go.Proofs.YtmkhfgggleplfaaGreat
namespace Go.Proofs.YtmkhfgggleplfaaGreat
open Go.RowKit

def badE (n : Nat) (f : Nat → Nat → Int) (m i j : Nat) : Prop :=
  m / 2 ^ i % 2 = 1 ∧ m / 2 ^ j % 2 = 0 ∧ ((NoneAt n f i j ∧ j < i) ∨ ∃ r, FirstAt n f i j r ∧ f r j ≠ 0)
def ElimP (n : Nat) (f : Nat → Nat → Int) (m : Nat) : Prop := ∀ i, i < 8 → ∀ j, j < 8 → ¬ badE n f m i j
theorem FirstAt.one {n : Nat} {f : Nat → Nat → Int} {i j r s : Nat} (h : FirstAt n f i j r) (k : FirstAt n f i j s) : r = s := by
  rcases Nat.lt_trichotomy r s with h1 | h1 | h1
  · exact absurd h.2.1 (k.2.2 r h1)
  · exact h1
  · exact absurd k.2.1 (h.2.2 s h1)
theorem and_bit {m k : Nat} (hm : m < 256) : bits .and .u8 ((m : Int) / 2 ^ k) 1 = ((m / 2 ^ k % 2 : Nat) : Int) := by
  have e : ((m : Int) / 2 ^ k) = ((m / 2 ^ k : Nat) : Int) := by rw [Int.natCast_ediv, Int.natCast_pow]; rfl
  rw [e, and_one (Nat.lt_of_le_of_lt (Nat.div_le_self _ _) hm)]

set_option maxHeartbeats 4000000 in
set_option maxRecDepth 100000 in
theorem eliminates_any {w : World} {v : Value} {n m : Nat} {f : Nat → Nat → Int} (ho : OrdV w v n f) (hm : m < 256) :
    Calls Tryz.prog 19 #[v, .int .u8 m] w fun e w' => Says (ElimP n f m) e ∧ Below w.heap.size w w' := by
  obtain ⟨A, c, rfl, hnc, hcm, hA⟩ := id ho
  have HO := Lib.hid ho
  clear ho
  go_enter Tryz.func19, Tryz.ntmps19
  go_wp2_with fail
  go_loopw [8] (fun iv wr => ∃ i : Nat, i ≤ 8 ∧ iv = .int .i64 i ∧ (∀ i', i' < i → ∀ j, j < 8 → ¬ badE n f m i' j) ∧ Below w.heap.size w wr) (fun i _ => 8 - (intOf i).toNat)
  case atStart => exact ⟨0, Nat.zero_le _, rfl, fun j hj => absurd hj (by omega), Below.refl _ _⟩
  case round =>
    obtain ⟨i, hi, rfl, hz, hb⟩ := hrel
    by_cases hi8 : i < 8
    · have hii : (i : Int) < 8 := by omega
      obtain ⟨W1, hW1, hb1, hp1, hs1⟩ : ∃ W1, W1 = wr.alloc (.cells #[.int .i64 i] 3) ∧ Below w.heap.size w W1 ∧ W1.cell? ⟨wr.heap.size, 0, none⟩ = some (.int .i64 i) ∧ wr.heap.size < W1.heap.size :=
        ⟨_, rfl, hb.alloc hb.size _, (Blk.new wr 3 #[.int .i64 i]).cell 0, by simp⟩
      have HZ := Lib.hid hz
      clear hz
      go_wp2_with fail
      rw [← hW1]
      clear hW1
      generalize wr.heap.size = p at *
      go_loopw [11] (fun jv wr => ∃ j : Nat, j ≤ 8 ∧ jv = .int .i64 j ∧ (∀ j', j' < j → ¬ badE n f m i j') ∧ wr.cell? ⟨p, 0, none⟩ = some (.int .i64 i) ∧ Below w.heap.size w wr) (fun j _ => 8 - (intOf j).toNat)
      case atStart => exact ⟨0, Nat.zero_le _, rfl, fun j hj => absurd hj (by omega), hp1, hb1⟩
      case round =>
        obtain ⟨j, hj, rfl, hz, hp, hb⟩ := hrel
        by_cases hj8 : j < 8
        · have hji : (j : Int) < 8 := by omega
          have hpl := World.block_lt_of_cell? wr _ hp
          obtain ⟨W2, hW2, hb2, hq2, hbr⟩ : ∃ W2, W2 = wr.alloc (.cells #[.int .i64 j] 3) ∧ Below w.heap.size w W2 ∧ W2.cell? ⟨wr.heap.size, 0, none⟩ = some (.int .i64 j) ∧ Below wr.heap.size wr W2 :=
            ⟨_, rfl, hb.alloc hb.size _, (Blk.new wr 3 #[.int .i64 j]).cell 0, (Below.refl _ _).alloc (Nat.le_refl _) _⟩
          have hp2 : W2.cell? ⟨p, 0, none⟩ = some (.int .i64 i) := (hbr.cell (p := ⟨p, 0, none⟩) hpl).trans hp
          have HZ2 := Lib.hid hz
          clear hz hp hpl
          go_upto_region 7 with fail
          rw [← hW2]
          clear hW2
          generalize wr.heap.size = q at *
          rcases Nat.mod_two_eq_zero_or_one (m / 2 ^ i) with e1 | e1
          · have a1 : bits .and .u8 ((m : Int) / 2 ^ i) 1 = 0 := by rw [and_bit hm, e1]; rfl
            have HN : Hid (¬ badE n f m i j) := fun h => by have := h.1; omega
            clear e1
            go_wp2_with fail
            go_roundw
            case rel =>
              refine ⟨j + 1, by omega, by go_num, fun j' hj' => ?_, hp2, hb2⟩
              by_cases h : j' < j
              · exact HZ2.out j' h
              · rw [show j' = j from by omega]; exact HN.out
            case measure => simp [intOf]; omega
          · have a1 : bits .and .u8 ((m : Int) / 2 ^ i) 1 = 1 := by rw [and_bit hm, e1]; rfl
            rcases Nat.mod_two_eq_zero_or_one (m / 2 ^ j) with e2 | e2
            · have a2 : bits .and .u8 ((m : Int) / 2 ^ j) 1 = 0 := by rw [and_bit hm, e2]; rfl
              have E1 := Lib.hid e1
              have E2 := Lib.hid e2
              clear e1 e2
              go_wp2_with fail
              refine (index_order (HO.out.below hb2) hi8 hj8 hp2 hq2).mono ?_
              rintro e w3 ⟨hsay, hb3⟩
              have hp3 : w3.cell? ⟨p, 0, none⟩ = some (.int .i64 i) := (hb3.cell (p := ⟨p, 0, none⟩) (World.block_lt_of_cell? W2 _ hp2)).trans hp2
              have hq3 : w3.cell? ⟨q, 0, none⟩ = some (.int .i64 j) := (hb3.cell (p := ⟨q, 0, none⟩) (World.block_lt_of_cell? W2 _ hq2)).trans hq2
              have hb23 := hb2.trans (hb3.mono hb2.size)
              rcases hsay with ⟨rfl, hnone⟩ | ⟨r, rfl, hfirst⟩
              · have HNO := Lib.hid hnone
                clear hnone
                by_cases hji2 : j < i
                · have hlt : (j : Int) < (i : Int) := by omega
                  have HB : Hid (¬ ElimP n f m) := fun h => h i hi8 j hj8 ⟨E1.out, E2.out, .inl ⟨HNO.out, hji2⟩⟩
                  go_wp2_with fail
                  go_quiet (fail)
                  go_wp2
                  go_ret
                  exact ⟨⟨false, rfl, ⟨fun h => (by cases h), fun h => absurd h HB.out⟩⟩, hb23.drewN _⟩
                · have hlt : ¬ (j : Int) < (i : Int) := by omega
                  have HN : Hid (¬ badE n f m i j) := fun h => by
                    rcases h.2.2 with ⟨_, h⟩ | ⟨r, h, _⟩
                    · omega
                    · exact HNO.out r h.1 h.2.1
                  go_wp2_with fail
                  go_quiet (fail)
                  go_wp2_with fail
                  go_roundw
                  case rel =>
                    refine ⟨j + 1, by omega, by go_num, fun j' hj' => ?_, hp3, hb23.drewN _⟩
                    by_cases h : j' < j
                    · exact HZ2.out j' h
                    · rw [show j' = j from by omega]; exact HN.out
                  case measure => simp [intOf]; omega
              · obtain ⟨bk, off, rfl, hbl, hcell⟩ := hA (by have := hfirst.1; omega)
                have hc := (hb23.cell (p := ⟨bk, off + r * 8 + j, none⟩) hbl).trans (hcell r hfirst.1 j hj8)
                have hrn : r < n := hfirst.1
                have hrn0 : (0 : Int) ≤ (r : Int) := by omega
                have hrn1 : (r : Int) < (n : Int) := by omega
                have d1 : ((r : Int) < 0) = False := by simp
                have d2 : decide ((0 : Int) ≤ (r : Int)) = true := by simp
                have d3 : decide ((r : Int) < 0) = false := by simp
                have HF := Lib.hid hfirst
                have HA := Lib.hid hA
                clear hfirst hA hcell
                by_cases h0 : f r j = 0
                · have b1 : (f r j != 0) = false := by simp [h0]
                  have HN : Hid (¬ badE n f m i j) := fun h => by
                    rcases h.2.2 with ⟨h, _⟩ | ⟨s, h, h'⟩
                    · exact h r HF.out.1 HF.out.2.1
                    · rw [← HF.out.one h] at h'; exact h' h0
                  clear h0
                  go_wp2_with fail
                  go_quiet (fail)
                  go_wp2_with fail
                  go_roundw
                  case rel =>
                    refine ⟨j + 1, by omega, by go_num, fun j' hj' => ?_, hp3, hb23.drewN _⟩
                    by_cases h : j' < j
                    · exact HZ2.out j' h
                    · rw [show j' = j from by omega]; exact HN.out
                  case measure => simp [intOf]; omega
                · have b1 : (f r j != 0) = true := by simp [h0]
                  have HB : Hid (¬ ElimP n f m) := fun h => h i hi8 j hj8 ⟨E1.out, E2.out, .inr ⟨r, HF.out, h0⟩⟩
                  clear h0
                  go_wp2_with fail
                  go_quiet (fail)
                  go_wp2
                  go_ret
                  exact ⟨⟨false, rfl, ⟨fun h => (by cases h), fun h => absurd h HB.out⟩⟩, hb23.drewN _⟩
            · have a2 : bits .and .u8 ((m : Int) / 2 ^ j) 1 = 1 := by rw [and_bit hm, e2]; rfl
              have HN : Hid (¬ badE n f m i j) := fun h => by have := h.2.1; omega
              clear e1 e2
              go_wp2_with fail
              go_roundw
              case rel =>
                refine ⟨j + 1, by omega, by go_num, fun j' hj' => ?_, hp2, hb2⟩
                by_cases h : j' < j
                · exact HZ2.out j' h
                · rw [show j' = j from by omega]; exact HN.out
              case measure => simp [intOf]; omega
        · obtain rfl : j = 8 := by omega
          have HZ2 := Lib.hid hz
          clear hz
          go_wp2_with fail
          go_roundw
          case rel =>
            refine ⟨i + 1, by omega, by go_num, fun i' hi' j hj => ?_, hb⟩
            by_cases h : i' < i
            · exact HZ.out i' h j hj
            · rw [show i' = i from by omega]; exact HZ2.out j hj
          case measure => simp [intOf]; omega
    · obtain rfl : i = 8 := by omega
      have HZ := Lib.hid hz
      clear hz
      go_wp2
      go_ret
      exact ⟨⟨true, rfl, ⟨fun _ => HZ.out, fun _ => rfl⟩⟩, hb⟩

end Go.Proofs.YtmkhfgggleplfaaGreat
