/-
  The walks of Degree, last, Support, In. Conditions: exponents below 2^40 in size.
-/
import Derived.Test.YtmkhfgggleplfaaLawB
import Derived.Test.YtmkhfgggleplfaaOrdG
namespace Go.Proofs.Ytmkhfgggleplfaa
set_option linter.unusedSimpArgs false
set_option linter.unusedVariables false
open Go.RowKit

def degF (a : Nat → Int) : Nat → Int
  | 0 => 0
  | n + 1 => degF a n + a n
theorem degF_le {a : Nat → Int} {m : Int} (h : ∀ k, k < 8 → -m ≤ a k ∧ a k ≤ m) : ∀ n : Nat, n ≤ 8 → -(m * n) ≤ degF a n ∧ degF a n ≤ m * n
  | 0, _ => by simp [degF]
  | n + 1, hn => by
    have h1 := degF_le h n (by omega)
    have h2 := h n (by omega)
    rw [degF, Int.natCast_add, Int.mul_add]
    simp only [Int.natCast_one, Int.mul_one]
    omega
theorem index_mono {ra : Array Value} {k : Nat} {x : Value} (h : ra[k]? = some x) (hk : k < 8) (W : World) : (Instr.index 35 (.agg ra) (.int .i64 k)).run Try.prog W = .ok x W := by
  have h0 : (0 : Int) ≤ (k : Int) ∧ (k : Int) < 8 := by omega
  simp [Instr.index, run_underlying Try.underlying35, part, sizeOf, go_sem, Try.sizeOf3, Try.isAgg3, h, h0, Result.andThen]
  rw [if_pos hk, show Try.t3.size = 1 from by rfl, Nat.mul_one, h]
  rfl
set_option maxHeartbeats 1000000 in
set_option maxRecDepth 100000 in
theorem degree_any (a : Nat → Int) (w : World) (ha : ∀ k, k < 8 → -1099511627776 ≤ a k ∧ a k ≤ 1099511627776) :
    Calls Try.prog 16 #[.agg (vec8 a)] w fun e w' => e = .returned (.int .i64 (degF a 8)) ∧ Below w.heap.size w w' := by
  obtain ⟨W0, hW0, hb0, hB0⟩ : ∃ W0, W0 = w.alloc (.cells (vec8 a) 35) ∧ Below w.heap.size w W0 ∧ Blk W0 w.heap.size 35 (vec8 a) := ⟨_, rfl, (Below.refl _ _).alloc (Nat.le_refl _) _, Blk.new _ _ _⟩
  obtain ⟨c0, c1, c2, c3, c4, c5, c6, c7⟩ := hB0.eight
  go_enter Try.func16, Try.ntmps16
  go_wp2_with fail
  rw [← hW0]
  clear hW0
  go_wp2_with fail
  clear c0 c1 c2 c3 c4 c5 c6 c7
  go_loopw [3, 7] (fun sv kv wr => ∃ k : Nat, k ≤ 8 ∧ kv = .int .i64 k ∧ sv = .int .i64 (degF a k) ∧ Below w.heap.size w wr) (fun _ k _ => 8 - (intOf k).toNat)
  case atStart => exact ⟨0, Nat.zero_le _, rfl, rfl, hb0⟩
  case round =>
    obtain ⟨k, hk, rfl, rfl, hb⟩ := hrel
    by_cases hk8 : k < 8
    · have hki : (k : Int) < 8 := by omega
      have hix := index_mono (vec8_get a hk8) hk8
      have h1 := degF_le (m := 1099511627776) ha k (by omega)
      have h2 := ha k hk8
      have hs : IntKind.i64.wrap (degF a k + a k) = degF a (k + 1) := IntWalk.i64_in _ (by omega)
      clear h1 h2
      go_wp2_with fail
      go_roundw
      case rel => exact ⟨k + 1, by omega, by go_num, rfl, hb⟩
      case measure => simp [intOf]; omega
    · obtain rfl : k = 8 := by omega
      go_wp2
      go_ret
      exact ⟨rfl, hb⟩

/-- the comparison by the last variable that differs -/
def lastC (a b : Nat → Int) : Nat → Int
  | 0 => 0
  | n + 1 => if a n < b n then 1 else if b n < a n then -1 else lastC a b n
set_option maxHeartbeats 1000000 in
set_option maxRecDepth 100000 in
theorem last_any (a b : Nat → Int) (w : World) :
    Calls Try.prog 18 #[.agg (vec8 a), .agg (vec8 b)] w fun e w' => e = .returned (.int .i64 (lastC a b 8)) ∧ Below w.heap.size w w' := by
  go_enter Try.func18, Try.ntmps18
  go_wp2_with fail
  obtain ⟨W0, hW0, hbl, hB2, hB3, hsz⟩ := boxes2 w 35 35 (vec8 a) (vec8 b)
  rw [← hW0]
  clear hW0 hsz
  go_loopw [5] (fun kv wr => ∃ (k : Nat) (z : Int), k ≤ 8 ∧ kv = .int .i64 z ∧ z = (k : Int) - 1 ∧ lastC a b 8 = lastC a b k ∧ Blk wr w.heap.size 35 (vec8 a) ∧ Blk wr (w.heap.size + 1) 35 (vec8 b) ∧ Below w.heap.size w wr) (fun k _ => (intOf k + 1).toNat)
  case atStart => exact ⟨8, 7, by omega, rfl, by omega, rfl, hB2, hB3, hbl⟩
  case round =>
    obtain ⟨k, z, hk, rfl, hz, hl, hA, hB, hb⟩ := hrel
    rcases Nat.eq_zero_or_pos k with h0 | h0
    · subst h0
      obtain rfl : z = -1 := by omega
      have HL := Lib.hid hl
      clear hl hz
      go_wp2
      go_ret
      exact ⟨by rw [HL.out]; rfl, hb⟩
    · obtain ⟨j, rfl⟩ : ∃ j, k = j + 1 := ⟨k - 1, by omega⟩
      obtain rfl : z = (j : Int) := by omega
      have hj8 : j < 8 := by omega
      have ca := (hA.cell j).trans (vec8_get a hj8)
      have cb := (hB.cell j).trans (vec8_get b hj8)
      have hj0 : (0 : Int) ≤ (j : Int) := by omega
      have hji : (j : Int) < 8 := by omega
      have HL := Lib.hid hl
      clear hl hz
      rcases Int.lt_trichotomy (a j) (b j) with h | h | h
      · go_wp2_with fail
        go_quiet (fail)
        go_wp2
        go_ret
        exact ⟨by rw [HL.out, lastC, if_pos h]; rfl, hb.drewN _⟩
      · have h1 : ¬ a j < b j := by omega
        have h2 : ¬ b j < a j := by omega
        have N1 := Lib.hid h1
        have N2 := Lib.hid h2
        clear h
        go_wp2_with fail
        go_quiet (fail)
        go_wp2_with fail
        go_quiet (fail)
        go_wp2_with fail
        go_roundw
        case rel => exact ⟨j, _, by omega, rfl, by omega, by rw [HL.out, lastC, if_neg (by have := N1.out; omega), if_neg (by have := N2.out; omega)], hA.drewN _, hB.drewN _, hb.drewN _⟩
        case measure => simp [intOf]
      · have h1 : ¬ a j < b j := by omega
        have N1 := Lib.hid h1
        go_wp2_with fail
        go_quiet (fail)
        go_wp2_with fail
        go_quiet (fail)
        go_wp2
        go_ret
        exact ⟨by rw [HL.out, lastC, if_neg (by have := N1.out; omega), if_pos h]; rfl, (by first | exact hb.drewN _ | exact (hb.drewN _).drewN _)⟩

/-- a bit of a mask -/
def bitOf (m k : Nat) : Bool := decide (m / 2 ^ k % 2 = 1)
theorem in_any (m k : Nat) (w : World) (hm : m < 256) (hk : k < 8) :
    Calls Try.prog 25 #[.int .u8 m, .int .i64 k] w fun e w' => e = .returned (.bool (bitOf m k)) ∧ Below w.heap.size w w' := by
  have hk0 : (0 : Int) ≤ (k : Int) := by omega
  have hki : (k : Int) < 8 := by omega
  rcases Nat.mod_two_eq_zero_or_one (m / 2 ^ k) with e1 | e1
  · have a1 : bits .and .u8 ((m : Int) / 2 ^ k) 1 = 0 := by rw [and_bit hm, e1]; rfl
    have hb : bitOf m k = false := by unfold bitOf; rw [e1]; rfl
    rw [hb]
    clear e1 hb
    go_enter Try.func25, Try.ntmps25
    go_wp2
    go_ret
    exact ⟨rfl, Below.refl _ _⟩
  · have a1 : bits .and .u8 ((m : Int) / 2 ^ k) 1 = 1 := by rw [and_bit hm, e1]; rfl
    have hb : bitOf m k = true := by unfold bitOf; rw [e1]; rfl
    rw [hb]
    clear e1 hb
    go_enter Try.func25, Try.ntmps25
    go_wp2
    go_ret
    exact ⟨rfl, Below.refl _ _⟩

/-- the variables that occur, as bits -/
def SuppP (s : Nat) (a : Nat → Int) (n : Nat) : Prop := s < 2 ^ n ∧ ∀ j, j < n → (s / 2 ^ j % 2 = 1 ↔ 0 < a j)
theorem or_fin : ∀ k : Fin 8, ∀ s : Fin 128, s.val < 2 ^ k.val → bits .or .u8 ((s.val : Nat) : Int) ((2 ^ k.val : Nat) : Int) = ((s.val + 2 ^ k.val : Nat) : Int) := by decide +kernel
theorem bit_fin : ∀ k : Fin 8, ∀ s : Fin 128, s.val < 2 ^ k.val → ((s.val + 2 ^ k.val) / 2 ^ k.val % 2 = 1 ∧ s.val / 2 ^ k.val % 2 = 0 ∧ s.val + 2 ^ k.val < 2 ^ (k.val + 1) ∧ ∀ j : Fin 8, j.val < k.val → (s.val + 2 ^ k.val) / 2 ^ j.val % 2 = s.val / 2 ^ j.val % 2) := by decide +kernel
theorem pow_le {k : Nat} (hk : k < 8) : 2 ^ k ≤ 128 := by
  rcases eight hk with h | h | h | h | h | h | h | h <;> subst h <;> decide
theorem SuppP.yes {s k : Nat} {a : Nat → Int} (h : SuppP s a k) (hk : k < 8) (h0 : 0 < a k) : SuppP (s + 2 ^ k) a (k + 1) ∧ bits .or .u8 (s : Int) ((2 ^ k : Nat) : Int) = ((s + 2 ^ k : Nat) : Int) := by
  have hs : s < 128 := Nat.lt_of_lt_of_le h.1 (pow_le hk)
  obtain ⟨b1, b2, b3, b4⟩ := bit_fin ⟨k, hk⟩ ⟨s, hs⟩ h.1
  refine ⟨⟨b3, fun j hj => ?_⟩, or_fin ⟨k, hk⟩ ⟨s, hs⟩ h.1⟩
  by_cases e : j < k
  · have := b4 ⟨j, by omega⟩ e
    simp only at this
    rw [this]; exact h.2 j e
  · obtain rfl : j = k := by omega
    exact ⟨fun _ => h0, fun _ => b1⟩
theorem SuppP.no {s k : Nat} {a : Nat → Int} (h : SuppP s a k) (hk : k < 8) (h0 : ¬ 0 < a k) : SuppP s a (k + 1) := by
  have hs : s < 128 := Nat.lt_of_lt_of_le h.1 (pow_le hk)
  obtain ⟨b1, b2, b3, b4⟩ := bit_fin ⟨k, hk⟩ ⟨s, hs⟩ h.1
  refine ⟨by have := h.1; rw [Nat.pow_succ]; omega, fun j hj => ?_⟩
  by_cases e : j < k
  · exact h.2 j e
  · obtain rfl : j = k := by omega
    simp only at b2
    rw [b2]
    exact ⟨fun h => absurd h (by decide), fun h => absurd h h0⟩
set_option maxHeartbeats 1000000 in
set_option maxRecDepth 100000 in
theorem support_any (a : Nat → Int) (w : World) :
    Calls Try.prog 26 #[.agg (vec8 a)] w fun e w' => (∃ s : Nat, e = .returned (.int .u8 s) ∧ SuppP s a 8) ∧ Below w.heap.size w w' := by
  obtain ⟨W0, hW0, hb0, hB0⟩ : ∃ W0, W0 = w.alloc (.cells (vec8 a) 35) ∧ Below w.heap.size w W0 ∧ Blk W0 w.heap.size 35 (vec8 a) := ⟨_, rfl, (Below.refl _ _).alloc (Nat.le_refl _) _, Blk.new _ _ _⟩
  obtain ⟨c0, c1, c2, c3, c4, c5, c6, c7⟩ := hB0.eight
  go_enter Try.func26, Try.ntmps26
  go_wp2_with fail
  rw [← hW0]
  clear hW0
  go_wp2_with fail
  clear c0 c1 c2 c3 c4 c5 c6 c7
  go_loopw [3, 7] (fun sv kv wr => ∃ k s : Nat, k ≤ 8 ∧ kv = .int .i64 k ∧ sv = .int .u8 s ∧ SuppP s a k ∧ Below w.heap.size w wr) (fun _ k _ => 8 - (intOf k).toNat)
  case atStart => exact ⟨0, 0, Nat.zero_le _, rfl, rfl, ⟨by decide, fun j hj => absurd hj (by omega)⟩, hb0⟩
  case round =>
    obtain ⟨k, s, hk, rfl, rfl, hs, hb⟩ := hrel
    by_cases hk8 : k < 8
    · have hki : (k : Int) < 8 := by omega
      have hk0 : (0 : Int) ≤ (k : Int) := by omega
      have hix := index_mono (vec8_get a hk8) hk8
      by_cases hp : 0 < a k
      · obtain ⟨hs1, hor⟩ := hs.yes hk8 hp
        have hor2 : bits .or .u8 (s : Int) (2 ^ k % 256) = ((s + 2 ^ k : Nat) : Int) := by
          rw [← hor]
          congr 1
          have hq := pow_le hk8
          rw [show (2 : Int) ^ k = ((2 ^ k : Nat) : Int) from by rw [Int.natCast_pow]; rfl]
          clear hor hs1 hs
          generalize (2 ^ k : Nat) = q at *
          omega
        have HS := Lib.hid hs1
        have HO := Lib.hid hor2
        clear hs1 hs hor hor2
        go_wp2_with fail
        go_roundw
        case rel => exact ⟨k + 1, s + 2 ^ k, by omega, by go_num, by rw [HO.out], HS.out, hb⟩
        case measure => simp [intOf]; omega
      · have HS := Lib.hid (hs.no hk8 hp)
        clear hs
        go_wp2_with fail
        go_roundw
        case rel => exact ⟨k + 1, s, by omega, by go_num, rfl, HS.out, hb⟩
        case measure => simp [intOf]; omega
    · obtain rfl : k = 8 := by omega
      go_wp2
      go_ret
      exact ⟨⟨s, rfl, hs⟩, hb⟩

end Go.Proofs.Ytmkhfgggleplfaa
