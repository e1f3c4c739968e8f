/-
  The walks of the reference's comparing: weight, Cmp of monomials, Cmp of orders. Conditions: weights of at most 1000, exponents from 0 to 131070.
  The walk of the reference's Valid. Conditions: rows of type int.
-/
import Derived.Test.YtmkhfgggleplfaaGreatOrdP
import Derived.Test.YtmkhfgggleplfaaGreatMonA
import Derived.Test.YtmkhfgggleplfaaGreatMadeW
namespace Go.Proofs.YtmkhfgggleplfaaGreat
set_option linter.unusedSimpArgs false
set_option linter.unusedVariables false
open Go.RowKit

theorem dotA_step (r a : Nat → Int) (k : Nat) : dotA r a (k + 1) = dotA r a k + r k * a k := rfl
theorem dotA_small {r a : Nat → Int} (hr : ∀ k, k < 8 → -1000 ≤ r k ∧ r k ≤ 1000) (ha : Small a) : ∀ n : Nat, n ≤ 8 → -131070000 * (n : Int) ≤ dotA r a n ∧ dotA r a n ≤ 131070000 * (n : Int)
  | 0, _ => by simp [dotA]
  | n + 1, h => by
    have h1 := dotA_small hr ha n (by omega)
    have h2 := prod_small (x := r n) (y := a n) (hr n (by omega)) (by have := ha n (by omega); omega)
    rw [dotA_step]; omega

set_option maxHeartbeats 1000000 in
set_option maxRecDepth 100000 in
theorem rweight_any {w : World} {r a : Nat → Int} (hr : ∀ k, k < 8 → -1000 ≤ r k ∧ r k ≤ 1000) (ha : Small a) :
    Calls Tryz.prog 34 #[.agg (vec8 r), .agg (vec8 a)] w fun e w' => e = .returned (.int .i64 (dotA r a 8)) ∧ Below w.heap.size w w' := by
  go_enter Tryz.func34, Tryz.ntmps34
  go_wp2_with fail
  obtain ⟨W0, hW0, hbl, hB2, hB3, hsz⟩ := boxes2 w 35 36 (vec8 r) (vec8 a)
  try rw [← hW0]
  clear hW0
  go_loopw [5, 6] (fun nv kv wr => ∃ k : Nat, k ≤ 8 ∧ kv = .int .i64 k ∧ nv = .int .i64 (dotA r a k) ∧ Below W0.heap.size W0 wr) (fun _ k _ => 8 - (intOf k).toNat)
  case atStart => exact ⟨0, by omega, rfl, rfl, Below.refl _ _⟩
  case round =>
    obtain ⟨k, hk, rfl, rfl, hb⟩ := hrel
    by_cases hlt : k < 8
    · have c1 := (hb.cell (p := ⟨w.heap.size, k, none⟩) (by show w.heap.size < _; omega)).trans (hB2.at8 hlt)
      have c2 := (hb.cell (p := ⟨w.heap.size + 1, k, none⟩) (by show w.heap.size + 1 < _; omega)).trans (hB3.at8 hlt)
      have hp := prod_small (x := r k) (y := a k) (hr k hlt) (by have := ha k hlt; omega)
      have hd := dotA_small hr ha k (by omega)
      have u1 : IntKind.i64.wrap (r k * a k) = r k * a k := IntWalk.i64_in _ (by omega)
      have u2 : IntKind.i64.wrap (dotA r a k + r k * a k) = dotA r a k + r k * a k := IntWalk.i64_in _ (by omega)
      have HS : Hid (dotA r a (k + 1) = dotA r a k + r k * a k) := rfl
      go_wp2_with fail
      go_quiet (fail)
      go_wp2_with fail
      go_roundw
      case rel => exact ⟨k + 1, by omega, by go_num, by rw [HS.out], hb.drewN _⟩
      case measure => simp [intOf]; omega
    · obtain rfl : k = 8 := by omega
      go_wp2
      go_ret
      exact ⟨rfl, hbl.trans (hb.mono hbl.size)⟩

set_option maxHeartbeats 1000000 in
set_option maxRecDepth 100000 in
theorem rmono_cmp {w : World} (a b : Nat → Int) :
    Calls Tryz.prog 35 #[.agg (vec8 a), .agg (vec8 b)] w fun e w' => e = .returned (.int .i64 (lexC a b 8)) ∧ Below w.heap.size w w' := by
  go_enter Tryz.func35, Tryz.ntmps35
  go_wp2_with fail
  obtain ⟨W0, hW0, hbl, hB2, hB3, hsz⟩ := boxes2 w 36 36 (vec8 a) (vec8 b)
  try rw [← hW0]
  clear hW0
  go_loopw [5] (fun kv wr => ∃ k : Nat, k ≤ 8 ∧ kv = .int .i64 k ∧ lexC a b k = 0 ∧ Below W0.heap.size W0 wr) (fun k _ => 8 - (intOf k).toNat)
  case atStart => exact ⟨0, by omega, rfl, rfl, Below.refl _ _⟩
  case round =>
    obtain ⟨k, hk, rfl, hl, hb⟩ := hrel
    have HL := Lib.hid hl
    clear hl
    by_cases hlt : k < 8
    · have c1 := (hb.cell (p := ⟨w.heap.size, k, none⟩) (by show w.heap.size < _; omega)).trans (hB2.at8 hlt)
      have c2 := (hb.cell (p := ⟨w.heap.size + 1, k, none⟩) (by show w.heap.size + 1 < _; omega)).trans (hB3.at8 hlt)
      rcases Int.lt_trichotomy (a k) (b k) with h | h | h
      · have hf := cmpI_lt h
        have HF : Hid (lexC a b 8 = -1) := by show lexC a b 8 = -1; rw [lexC_hit HL.out (by rw [hf]; omega) hlt, hf]
        clear hf
        go_wp2_with fail
        go_quiet (fail)
        go_wp2
        go_ret
        exact ⟨ret_i64 HF.out.symm, hbl.trans ((hb.drewN _).mono hbl.size)⟩
      · have HF := Lib.hid (lexC_next HL.out (cmpI_eq h))
        have h1 : ¬ a k < b k := by omega
        have h2 : ¬ b k < a k := by omega
        clear h
        go_wp2_with fail
        go_quiet (fail)
        go_wp2_with fail
        go_quiet (fail)
        go_wp2
        go_roundw
        case rel => exact ⟨k + 1, by omega, by go_num, HF.out, hb.drewN _⟩
        case measure => simp [intOf]; omega
      · have hf := cmpI_gt h
        have HF : Hid (lexC a b 8 = 1) := by show lexC a b 8 = 1; rw [lexC_hit HL.out (by rw [hf]; omega) hlt, hf]
        have h1 : ¬ a k < b k := by omega
        clear hf
        go_wp2_with fail
        go_quiet (fail)
        go_wp2_with fail
        go_quiet (fail)
        go_wp2
        go_ret
        exact ⟨ret_i64 HF.out.symm, hbl.trans (((hb.drewN _).drewN _).mono hbl.size)⟩
    · obtain rfl : k = 8 := by omega
      go_wp2
      go_ret
      exact ⟨ret_i64 HL.out.symm, hbl.trans (hb.mono hbl.size)⟩

theorem below_step5 {W P w1 : World} (h : Below W.heap.size W P) (k : Below P.heap.size P w1) : Below W.heap.size W w1 := h.trans (k.mono h.size)
theorem Blk.lread8 {W : World} {g : Nat} {t : TypeId} {x : Nat → Int} (h : Blk W g t (vec8 x)) (hg : g < W.heap.size) : ∀ X k, Below W.heap.size W X → k < 8 → X.cell? ⟨g, k, none⟩ = some (.int .i64 (x k)) :=
  fun _ k hX hk => (hX.cell (p := ⟨g, k, none⟩) hg).trans (h.at8 hk)
/-- eight cells of a row in every later world -/
theorem lrow8 {W : World} {b off n i : Nat} {f : Nat → Nat → Int} (h : ∀ i, i < n → ∀ k, k < 8 → W.cell? ⟨b, off + i * 8 + k, none⟩ = some (.int .i64 (f i k))) (hi : i < n) (hlt : b < W.heap.size) (X : World) (hX : Below W.heap.size W X) :
    X.cell? ⟨b, off + i * 8, none⟩ = some (.int .i64 (f i 0)) ∧ X.cell? ⟨b, off + i * 8 + 1, none⟩ = some (.int .i64 (f i 1)) ∧ X.cell? ⟨b, off + i * 8 + 2, none⟩ = some (.int .i64 (f i 2)) ∧ X.cell? ⟨b, off + i * 8 + 3, none⟩ = some (.int .i64 (f i 3)) ∧
    X.cell? ⟨b, off + i * 8 + 4, none⟩ = some (.int .i64 (f i 4)) ∧ X.cell? ⟨b, off + i * 8 + 5, none⟩ = some (.int .i64 (f i 5)) ∧ X.cell? ⟨b, off + i * 8 + 6, none⟩ = some (.int .i64 (f i 6)) ∧ X.cell? ⟨b, off + i * 8 + 7, none⟩ = some (.int .i64 (f i 7)) :=
  OrdV.row8 (w := X) fun k hk => (hX.cell (p := ⟨b, off + i * 8 + k, none⟩) hlt).trans (h i hi k hk)
/-- behind the rows -/
theorem rows_dot {f : Nat → Nat → Int} {a b : Nat → Int} {n k : Nat} (h0 : rowsC f a b k = 0) (h1 : dotA (f k) a 8 ≠ dotA (f k) b 8) (hk : k < n) : ordC n f a b = cmpI (dotA (f k) a 8) (dotA (f k) b 8) := by
  have e : cmpI (dotI (f k) a b 8) 0 = cmpI (dotA (f k) a 8) (dotA (f k) b 8) := by
    rw [dotI_dotA]; unfold cmpI; split <;> split <;> (try split) <;> (try split) <;> omega
  rw [rowsC_hit h0 (by rw [e]; unfold cmpI; split <;> (try split) <;> omega) hk, e]
theorem rows_dot0 {f : Nat → Nat → Int} {a b : Nat → Int} {k : Nat} (h0 : rowsC f a b k = 0) (h1 : dotA (f k) a 8 = dotA (f k) b 8) : rowsC f a b (k + 1) = 0 :=
  rowsC_next h0 (by rw [dotI_dotA, h1, Int.sub_self])

set_option maxHeartbeats 1000000 in
set_option maxRecDepth 100000 in
theorem rord_cmp {w : World} {v : Value} {n : Nat} {f : Nat → Nat → Int} {a b : Nat → Int} (ho : OrdV w v n f) (hf : ∀ i, i < n → ∀ k, k < 8 → -1000 ≤ f i k ∧ f i k ≤ 1000) (ha : Small a) (hb : Small b) :
    Calls Tryz.prog 9 #[v, .agg (vec8 a), .agg (vec8 b)] w fun e w' => e = .returned (.int .i64 (ordC n f a b)) ∧ Below w.heap.size w w' := by
  obtain ⟨A, c, rfl, hnc, hcm, hA⟩ := ho
  go_enter Tryz.func9, Tryz.ntmps9
  go_wp2_with fail
  obtain ⟨W0, hW0, hbl, hB2, hB3, hsz⟩ := boxes2 w 36 36 (vec8 a) (vec8 b)
  try rw [← hW0]
  clear hW0
  have lA := hB2.lread8 (by omega)
  have lB := hB3.lread8 (by omega)
  have hsz' : w.heap.size + 1 < W0.heap.size := by omega
  have hRD : Hid (∀ k, rowsC f a b k = 0 → dotA (f k) a 8 ≠ dotA (f k) b 8 → k < n → ordC n f a b = cmpI (dotA (f k) a 8) (dotA (f k) b 8)) := fun k h0 h1 h2 => rows_dot h0 h1 h2
  have hRZ : Hid (∀ k, rowsC f a b k = 0 → dotA (f k) a 8 = dotA (f k) b 8 → rowsC f a b (k + 1) = 0) := fun k h0 h1 => rows_dot0 h0 h1
  have HSA := Lib.hid ha
  have HSB := Lib.hid hb
  clear hsz hB2 hB3 ha hb
  go_loopw [7] (fun iv wr => ∃ i : Nat, i ≤ n ∧ iv = .int .i64 i ∧ rowsC f a b i = 0 ∧ Below W0.heap.size W0 wr) (fun i _ => n - (intOf i).toNat)
  case atStart => exact ⟨0, by omega, rfl, rfl, Below.refl _ _⟩
  case round =>
    obtain ⟨i, hi, rfl, hl, hbw⟩ := hrel
    have HL := Lib.hid hl
    clear hl
    by_cases hlt : i < n
    · obtain ⟨bk, off, rfl, hbk, hcell⟩ := hA (by omega)
      have hcell0 : ∀ i, i < n → ∀ k, k < 8 → W0.cell? ⟨bk, off + i * 8 + k, none⟩ = some (.int .i64 (f i k)) := fun i hi k hk => (hbl.cell (p := ⟨bk, off + i * 8 + k, none⟩) hbk).trans (hcell i hi k hk)
      have hbk0 : bk < W0.heap.size := Nat.lt_of_lt_of_le hbk hbl.size
      have lr := lrow8 hcell0 hlt hbk0
      have q0 := fun X hX => (lr X hX).1
      have q1 := fun X hX => (lr X hX).2.1
      have q2 := fun X hX => (lr X hX).2.2.1
      have q3 := fun X hX => (lr X hX).2.2.2.1
      have q4 := fun X hX => (lr X hX).2.2.2.2.1
      have q5 := fun X hX => (lr X hX).2.2.2.2.2.1
      have q6 := fun X hX => (lr X hX).2.2.2.2.2.2.1
      have q7 := fun X hX => (lr X hX).2.2.2.2.2.2.2
      have hrow := Lib.hid (hf i hlt)
      clear hcell hcell0 lr hA hf
      obtain ⟨x, hx⟩ : ∃ x, dotA (f i) a 8 = x := ⟨_, rfl⟩
      obtain ⟨y, hy⟩ : ∃ y, dotA (f i) b 8 = y := ⟨_, rfl⟩
      have HX := Lib.hid hx
      have HY := Lib.hid hy
      clear hx hy
      go_wp2_with fail
      go_region_held3 (fun w' => Below W0.heap.size W0 w')
        ((first | with_reducible assumption | with_reducible exact (by assumption : Below W0.heap.size W0 _).drew))
        (first
          | (go_at_call 34; (with_reducible refine (rweight_any hrow.out HSA.out).mono ?_); rw [HX.out]; rintro e wl ⟨rfl, hbl⟩; have hcur := below_step5 (W := W0) (by assumption) hbl; clear hbl)
          | (go_at_call 34; (with_reducible refine (rweight_any hrow.out HSB.out).mono ?_); rw [HY.out]; rintro e wl ⟨rfl, hbl⟩; have hcur := below_step5 (W := W0) (by assumption) hbl; clear hbl))
      clear lA lB q0 q1 q2 q3 q4 q5 q6 q7
      have hend := (hbl.trans (hcur.mono hbl.size))
      rcases Int.lt_trichotomy x y with h | h | h
      · have HF : Hid (ordC n f a b = -1) := by
          show ordC n f a b = -1
          rw [hRD.out i HL.out (by rw [HX.out, HY.out]; omega) hlt, HX.out, HY.out]; exact cmpI_lt h
        go_wp2
        go_ret
        exact ⟨ret_i64 HF.out.symm, hend⟩
      · have HF := Lib.hid (hRZ.out i HL.out (by rw [HX.out, HY.out]; exact h))
        subst h
        go_wp2
        go_roundw
        case rel => exact ⟨i + 1, by omega, by go_num, HF.out, hcur⟩
        case measure => simp [intOf]; omega
      · have HF : Hid (ordC n f a b = 1) := by
          show ordC n f a b = 1
          rw [hRD.out i HL.out (by rw [HX.out, HY.out]; omega) hlt, HX.out, HY.out]; exact cmpI_gt h
        have h1 : ¬ x < y := by omega
        go_wp2
        go_ret
        exact ⟨ret_i64 HF.out.symm, hend⟩
    · obtain rfl : i = n := by omega
      have HF : Hid (ordC i f a b = lexC a b 8) := ordC_lex HL.out
      go_wp2_with fail
      refine (rmono_cmp a b).mono ?_
      rintro e wl ⟨rfl, hbl2⟩
      go_wp2
      go_ret
      exact ⟨ret_i64 HF.out.symm, (hbl.trans (hbw.mono hbl.size)).trans (hbl2.mono (hbl.trans (hbw.mono hbl.size)).size)⟩

end Go.Proofs.YtmkhfgggleplfaaGreat
namespace Go.Proofs.YtmkhfgggleplfaaGreat
open Go.RowKit

theorem okAt_first {n : Nat} {f : Nat → Nat → Int} {k : Nat} : (∀ i, i < n → okAt f i k) ↔ (∀ i, i < n → -1000 ≤ f i k ∧ f i k ≤ 1000) ∧ 0 ≤ firstNZ f k n := by
  constructor
  · intro h
    refine ⟨fun i hi => ⟨(h i hi).1, (h i hi).2.1⟩, ?_⟩
    by_cases h0 : firstNZ f k n = 0
    · omega
    · obtain ⟨i, hi, he, hz⟩ := firstNZ_at h0
      rcases Int.lt_or_le (f i k) 0 with h1 | h1
      · obtain ⟨i', hi', hp⟩ := begun_iff.1 ((h i hi).2.2 h1)
        rw [hz i' hi'] at hp; omega
      · omega
  · rintro ⟨h1, h2⟩ i hi
    refine ⟨(h1 i hi).1, (h1 i hi).2, fun hneg => ?_⟩
    have h0 : firstNZ f k n ≠ 0 := fun e => by have := firstNZ_zero e i hi; omega
    obtain ⟨j, hj, he, hz⟩ := firstNZ_at h0
    have hji : j < i := by
      rcases Nat.lt_trichotomy j i with h | h | h
      · exact h
      · subst h; omega
      · have := hz i h; omega
    exact begun_iff.2 ⟨j, hji, by omega⟩

set_option maxHeartbeats 2000000 in
set_option maxRecDepth 100000 in
theorem rvalid_any {w : World} {v : Value} {n : Nat} {f : Nat → Nat → Int} (ho : OrdV w v n f) :
    Calls Tryz.prog 30 #[v] w fun e w' => Says (validP n f) e ∧ Below w.heap.size w w' := by
  obtain ⟨A, c, rfl, hnc, hcm, hA⟩ := ho
  by_cases hn : 24 < n
  · have HN : Hid (¬ validP n f) := fun h => by have := h.1; omega
    go_enter Tryz.func30, Tryz.ntmps30
    go_wp2
    go_ret
    exact ⟨⟨false, rfl, ⟨fun h => (by cases h), fun h => absurd h HN.out⟩⟩, Below.refl _ _⟩
  · have hn' : n ≤ 24 := by omega
    go_enter Tryz.func30, Tryz.ntmps30
    go_wp2_with fail
    go_loopw [3] (fun kv wr => ∃ k : Nat, k ≤ 8 ∧ kv = .int .i64 k ∧ (∀ i, i < n → ∀ j, j < k → okAt f i j) ∧ Below w.heap.size w wr) (fun k _ => 8 - (intOf k).toNat)
    case atStart => exact ⟨0, by omega, rfl, fun i hi j hj => absurd hj (by omega), Below.refl _ _⟩
    case round =>
      obtain ⟨k, hk, rfl, hok, hb⟩ := hrel
      have HOK := Lib.hid hok
      clear hok
      obtain ⟨wo, hwo⟩ : ∃ wo : World, wo = wr := ⟨_, rfl⟩
      subst hwo
      by_cases hlt : k < 8
      · go_wp2_with fail
        go_loopw [4, 5] (fun fv iv wr => ∃ i : Nat, i ≤ n ∧ iv = .int .i64 i ∧ fv = .int .i64 (firstNZ f k i) ∧ (∀ j, j < i → -1000 ≤ f j k ∧ f j k ≤ 1000) ∧ Below w.heap.size w wr) (fun _ i _ => n - (intOf i).toNat)
        case atStart => exact ⟨0, by omega, rfl, rfl, fun j hj => absurd hj (by omega), hb⟩
        case round =>
          obtain ⟨i, hi, rfl, rfl, hr, hbw⟩ := hrel
          have HR := Lib.hid hr
          clear hr
          by_cases hlt2 : i < n
          · obtain ⟨b, off, rfl, hbk, hcell⟩ := hA (by omega)
            have hc := (hbw.cell (p := ⟨b, off + i * 8 + k, none⟩) hbk).trans (hcell i hlt2 k hlt)
            clear hA hcell
            by_cases hbad : f i k < -1000
            · have HN : Hid (¬ validP n f) := fun h => by have := (h.2 i hlt2 k hlt).1; omega
              have hd : decide (f i k < -1000) = true := by simpa using hbad
              go_wp2
              go_ret
              exact ⟨⟨false, rfl, ⟨fun h => (by cases h), fun h => absurd h HN.out⟩⟩, hbw⟩
            · have hd : decide (f i k < -1000) = false := by simpa using hbad
              by_cases hbad2 : 1000 < f i k
              · have HN : Hid (¬ validP n f) := fun h => by have := (h.2 i hlt2 k hlt).2.1; omega
                have hd2 : decide (1000 < f i k) = true := by simpa using hbad2
                go_wp2
                go_ret
                exact ⟨⟨false, rfl, ⟨fun h => (by cases h), fun h => absurd h HN.out⟩⟩, hbw⟩
              · have hd2 : decide (1000 < f i k) = false := by simpa using hbad2
                have hr' : Hid (∀ j, j < i + 1 → -1000 ≤ f j k ∧ f j k ≤ 1000) := fun j hj => by
                  by_cases e : j = i
                  · subst e; omega
                  · exact HR.out j (by omega)
                obtain ⟨z, hz⟩ : ∃ z, firstNZ f k i = z := ⟨_, rfl⟩
                by_cases h0 : z = 0
                · have HF : Hid (firstNZ f k (i + 1) = f i k) := by
                    show (if firstNZ f k i = 0 then _ else _) = _
                    rw [hz, if_pos h0]
                  have HZ := Lib.hid hz
                  rw [hz]
                  subst h0
                  clear hz
                  go_wp2
                  go_roundw
                  case rel => exact ⟨i + 1, by omega, by go_num, by rw [HF.out], hr'.out, hbw⟩
                  case measure => simp [intOf]; omega
                · have HF : Hid (firstNZ f k (i + 1) = z) := by
                    show (if firstNZ f k i = 0 then _ else _) = _
                    rw [hz, if_neg h0]
                  have hz0 : (z == 0) = false := by simpa using h0
                  rw [hz]
                  clear hz h0
                  go_wp2
                  go_roundw
                  case rel => exact ⟨i + 1, by omega, by go_num, by rw [HF.out], hr'.out, hbw⟩
                  case measure => simp [intOf]; omega
          · obtain rfl : i = n := by omega
            by_cases hneg : firstNZ f k i < 0
            · have HN : Hid (¬ validP i f) := fun h => by have := (okAt_first.1 (fun a ha => h.2 a ha k hlt)).2; omega
              go_wp2
              go_ret
              exact ⟨⟨false, rfl, ⟨fun h => (by cases h), fun h => absurd h HN.out⟩⟩, hbw⟩
            · have HK : Hid (∀ a, a < i → ∀ j, j < k + 1 → okAt f a j) := fun a ha j hj => by
                by_cases e : j = k
                · subst e; exact okAt_first.2 ⟨HR.out, by omega⟩ a ha
                · exact HOK.out a ha j (by omega)
              go_wp2
              go_roundw
              case rel => exact ⟨k + 1, by omega, by go_num, HK.out, hbw⟩
              case measure => simp [intOf]; omega
      · obtain rfl : k = 8 := by omega
        have HV : Hid (validP n f) := ⟨hn', fun i hi j hj => HOK.out i hi j hj⟩
        go_wp2
        go_ret
        exact ⟨⟨true, rfl, ⟨fun _ => HV.out, fun _ => rfl⟩⟩, hb⟩

end Go.Proofs.YtmkhfgggleplfaaGreat
