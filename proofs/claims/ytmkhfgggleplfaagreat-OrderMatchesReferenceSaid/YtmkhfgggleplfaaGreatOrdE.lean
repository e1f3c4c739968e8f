/-
  The walks of Compare, of monomial.Cmp and of order.Cmp. Conditions: weights of at most 1000, exponents of at most 65535.
-/
import Derived.Test.YtmkhfgggleplfaaGreatOrdC
import Derived.Test.YtmkhfgggleplfaaGreatNatB
import Derived.DeepKeys
namespace Go.Proofs.YtmkhfgggleplfaaGreat
set_option linter.unusedSimpArgs false
set_option linter.unusedVariables false
open Go.RowKit

def lexC (a b : Nat → Int) : Nat → Int
  | 0 => 0
  | n + 1 => if lexC a b n ≠ 0 then lexC a b n else cmpI (a n) (b n)
theorem lexC_stay {a b : Nat → Int} {k : Nat} (h : lexC a b k ≠ 0) : ∀ m, lexC a b (k + m) = lexC a b k
  | 0 => rfl
  | m + 1 => by
    have := lexC_stay h m
    show (if lexC a b (k + m) ≠ 0 then lexC a b (k + m) else _) = _
    rw [this, if_pos h]
theorem lexC_hit {a b : Nat → Int} {k : Nat} (h0 : lexC a b k = 0) (h1 : cmpI (a k) (b k) ≠ 0) (hk : k < 8) : lexC a b 8 = cmpI (a k) (b k) := by
  have e : lexC a b (k + 1) = cmpI (a k) (b k) := by show (if lexC a b k ≠ 0 then _ else _) = _; rw [if_neg (by simp [h0])]
  rw [show 8 = k + 1 + (8 - (k + 1)) from by omega, lexC_stay (by rw [e]; exact h1), e]
theorem lexC_next {a b : Nat → Int} {k : Nat} (h0 : lexC a b k = 0) (h1 : cmpI (a k) (b k) = 0) : lexC a b (k + 1) = 0 := by
  show (if lexC a b k ≠ 0 then _ else _) = _
  rw [if_neg (by simp [h0]), h1]

theorem compare_any {w : World} {g g' : Nat} {t t' : TypeId} {a b : Nat → Int} (ha : Blk w g t (vec8 a)) (hb : Blk w g' t' (vec8 b)) :
    Calls Tryz.prog 50 #[.slice (some ⟨g, 0, none⟩) 8 8, .slice (some ⟨g', 0, none⟩) 8 8] w fun e w' => e = .returned (.int .i64 (lexC a b 8)) ∧ w' = w := by
  go_enter Tryz.func50, Tryz.ntmps50
  go_wp2_with fail
  go_loopw [11] (fun kv wr => ∃ k : Nat, k ≤ 8 ∧ kv = .int .i64 k ∧ lexC a b k = 0 ∧ wr = w) (fun k _ => 8 - (intOf k).toNat)
  case atStart => exact ⟨0, by omega, rfl, rfl, rfl⟩
  case round =>
    obtain ⟨k, hk, rfl, h0, rfl⟩ := hrel
    by_cases hk8 : k < 8
    · have hki : (k : Int) < 8 := by omega
      have hki2 : ¬ (8 : Int) ≤ k := by omega
      have ca := ha.at8 hk8
      have cb := hb.at8 hk8
      go_wp2_with fail
      refine (cmp_int (a k) (b k) wr).mono ?_
      rintro e w2 ⟨rfl, rfl⟩
      by_cases hc : cmpI (a k) (b k) = 0
      · have hcb : (cmpI (a k) (b k) != 0) = false := by simp [hc]
        have HC := Lib.hid hc
        clear hc
        go_wp2_with fail
        go_roundw
        case rel => exact ⟨k + 1, by omega, by go_num, lexC_next h0 HC.out, by first | rfl | trivial⟩
        case measure => simp [intOf]; omega
      · have hcb : (cmpI (a k) (b k) != 0) = true := by simp [hc]
        have HC := Lib.hid hc
        clear hc
        go_wp2
        go_ret
        exact ⟨by rw [lexC_hit h0 HC.out hk8]; rfl, rfl⟩
    · obtain rfl : k = 8 := by omega
      have H0 := Lib.hid h0
      clear h0
      go_wp2
      go_ret
      exact ⟨by rw [H0.out]; rfl, rfl⟩
theorem compare_same {w : World} {g g' : Nat} {t t' : TypeId} {a b : Nat → Int} (ha : Blk w g t (vec8 a)) (hb : Blk w g' t' (vec8 b)) :
    Calls Tryz.prog 50 #[.slice (some ⟨g, 0, none⟩) 8 8, .slice (some ⟨g', 0, none⟩) 8 8] w fun e w' => e = .returned (.int .i64 (lexC a b 8)) ∧ Same w w' :=
  (compare_any ha hb).mono fun _ _ ⟨he, hw⟩ => ⟨he, hw ▸ Same.refl _⟩

theorem mono_cmp {w : World} (a b : Nat → Int) :
    Calls Tryz.prog 33 #[.agg (vec8 a), .agg (vec8 b)] w fun e w' => e = .returned (.int .i64 (lexC a b 8)) ∧ Below w.heap.size w w' ∧ w.drawn ≤ w'.drawn := by
  go_enter Tryz.func33, Tryz.ntmps33
  go_wp2_with fail
  obtain ⟨W0, hW0, hbl, hB2, hB3, hsz⟩ := boxes2 w 36 36 (vec8 a) (vec8 b)
  rw [← hW0]
  have hd0 : W0.drawn = w.drawn := by rw [hW0]; rfl
  clear hW0 hsz
  go_quiet ((go_at_call 50; exact quiet1S (compare_same (hB2.drewN _) (hB3.drewN _))))
  go_wp2
  go_ret
  exact ⟨rfl, hbl.drewN _, by show w.drawn ≤ W0.drawn + _; rw [hd0]; exact Nat.le_add_right _ _⟩

def dotI (r a b : Nat → Int) : Nat → Int
  | 0 => 0
  | n + 1 => dotI r a b n + r n * (a n - b n)
def rowsC (f : Nat → Nat → Int) (a b : Nat → Int) : Nat → Int
  | 0 => 0
  | n + 1 => if rowsC f a b n ≠ 0 then rowsC f a b n else cmpI (dotI (f n) a b 8) 0
def ordC (n : Nat) (f : Nat → Nat → Int) (a b : Nat → Int) : Int := if rowsC f a b n ≠ 0 then rowsC f a b n else lexC a b 8
theorem rowsC_stay {f : Nat → Nat → Int} {a b : Nat → Int} {k : Nat} (h : rowsC f a b k ≠ 0) : ∀ m, rowsC f a b (k + m) = rowsC f a b k
  | 0 => rfl
  | m + 1 => by
    have := rowsC_stay h m
    show (if rowsC f a b (k + m) ≠ 0 then rowsC f a b (k + m) else _) = _
    rw [this, if_pos h]
theorem rowsC_hit {f : Nat → Nat → Int} {a b : Nat → Int} {n k : Nat} (h0 : rowsC f a b k = 0) (h1 : cmpI (dotI (f k) a b 8) 0 ≠ 0) (hk : k < n) : ordC n f a b = cmpI (dotI (f k) a b 8) 0 := by
  have e : rowsC f a b (k + 1) = cmpI (dotI (f k) a b 8) 0 := by show (if rowsC f a b k ≠ 0 then _ else _) = _; rw [if_neg (by simp [h0])]
  have e2 : rowsC f a b n = cmpI (dotI (f k) a b 8) 0 := by
    rw [show n = k + 1 + (n - (k + 1)) from by omega, rowsC_stay (by rw [e]; exact h1), e]
  unfold ordC
  rw [e2, if_pos h1]
theorem rowsC_next {f : Nat → Nat → Int} {a b : Nat → Int} {k : Nat} (h0 : rowsC f a b k = 0) (h1 : dotI (f k) a b 8 = 0) : rowsC f a b (k + 1) = 0 := by
  show (if rowsC f a b k ≠ 0 then _ else _) = _
  rw [if_neg (by simp [h0]), h1]; rfl
theorem ordC_lex {f : Nat → Nat → Int} {a b : Nat → Int} {n : Nat} (h : rowsC f a b n = 0) : ordC n f a b = lexC a b 8 := by
  unfold ordC; rw [if_neg (by simp [h])]
theorem lexC_same (a b : Nat → Int) : ∀ n, (∀ k, k < n → a k = b k) → lexC a b n = 0
  | 0, _ => rfl
  | n + 1, h => by
    rw [lexC, if_neg (by simp [lexC_same a b n fun k hk => h k (by omega)]), h n (by omega)]
    unfold cmpI; simp
theorem dotI_same (r a b : Nat → Int) : ∀ n, (∀ k, k < n → a k = b k) → dotI r a b n = 0
  | 0, _ => rfl
  | n + 1, h => by rw [dotI, dotI_same r a b n fun k hk => h k (by omega), h n (by omega), Int.sub_self, Int.mul_zero]; rfl
theorem rowsC_same (f : Nat → Nat → Int) (a b : Nat → Int) (h : ∀ k, k < 8 → a k = b k) : ∀ n, rowsC f a b n = 0
  | 0 => rfl
  | n + 1 => by
    rw [rowsC, if_neg (by simp [rowsC_same f a b h n]), dotI_same _ _ _ _ h]; rfl
theorem ordC_same {n : Nat} {f : Nat → Nat → Int} {a b : Nat → Int} (h : ∀ k, k < 8 → a k = b k) : ordC n f a b = 0 := by
  rw [ordC_lex (rowsC_same f a b h n), lexC_same a b 8 h]
/-- the sums stay small -/
theorem prod_small {x y : Int} (hx : -1000 ≤ x ∧ x ≤ 1000) (hy : -131070 ≤ y ∧ y ≤ 131070) : -131070000 ≤ x * y ∧ x * y ≤ 131070000 := by
  have h : (x * y).natAbs ≤ 1000 * 131070 := by
    rw [Int.natAbs_mul]; exact Nat.mul_le_mul (by omega) (by omega)
  omega
theorem dotI_small {r a b : Nat → Int} (hr : ∀ k, k < 8 → -1000 ≤ r k ∧ r k ≤ 1000) (ha : ∀ k, k < 8 → 0 ≤ a k ∧ a k ≤ 131070) (hb : ∀ k, k < 8 → 0 ≤ b k ∧ b k ≤ 131070) :
    ∀ n : Nat, n ≤ 8 → -131070000 * (n : Int) ≤ dotI r a b n ∧ dotI r a b n ≤ 131070000 * (n : Int)
  | 0, _ => ⟨by simp [dotI], by simp [dotI]⟩
  | n + 1, h => by
    have := dotI_small hr ha hb n (by omega)
    have h1 := ha n (by omega)
    have h2 := hb n (by omega)
    have h3 := prod_small (hr n (by omega)) (show -131070 ≤ a n - b n ∧ a n - b n ≤ 131070 by omega)
    rw [dotI]
    omega

def lits8 (a : Nat → Int) : List Lit := [.int .i64 (a 0), .int .i64 (a 1), .int .i64 (a 2), .int .i64 (a 3), .int .i64 (a 4), .int .i64 (a 5), .int .i64 (a 6), .int .i64 (a 7)]
theorem lits8_iff (a b : Nat → Int) : lits8 a = lits8 b ↔ ∀ k, k < 8 → a k = b k := by
  constructor
  · intro h k hk
    simp only [lits8, List.cons.injEq, Lit.int.injEq, true_and, and_true] at h
    obtain ⟨h0, h1, h2, h3, h4, h5, h6, h7⟩ := h
    rcases eight hk with h | h | h | h | h | h | h | h <;> subst h <;> assumption
  · intro h
    simp only [lits8, h 0 (by omega), h 1 (by omega), h 2 (by omega), h 3 (by omega), h 4 (by omega), h 5 (by omega), h 6 (by omega), h 7 (by omega)]
def In64 (a : Nat → Int) : Prop := ∀ k, k < 8 → -9223372036854775808 ≤ a k ∧ a k ≤ 9223372036854775807
theorem wf64 {n : Int} (h : -9223372036854775808 ≤ n ∧ n ≤ 9223372036854775807) : (Lit.int .i64 n).wf = true := by
  simp only [Lit.wf, IntKind.min, IntKind.max, IntKind.signed, IntKind.bits, Bool.and_eq_true, decide_eq_true_eq, if_true]
  omega
theorem keyLit1 {n : Int} (h : -9223372036854775808 ≤ n ∧ n ≤ 9223372036854775807) : Tryz.prog.keyLits 2 3 [.int .i64 n] = some [.int .i64 n] := by
  have : Tryz.prog.keyLits 2 3 [.int .i64 n] = if IntKind.i64 = IntKind.i64 ∧ (Lit.int .i64 n).wf = true then some [.int .i64 n] else none := by kernel_rfl
  rw [this, if_pos ⟨rfl, wf64 h⟩]
theorem mapM_some {α β : Type} {g : α → Option β} {h : α → β} : ∀ l : List α, (∀ i ∈ l, g i = some (h i)) → l.mapM g = some (l.map h)
  | [], _ => rfl
  | x :: l, e => by rw [List.mapM_cons, e x List.mem_cons_self, mapM_some l fun i hi => e i (List.mem_cons_of_mem _ hi)]; rfl
theorem keyLits8 {a : Nat → Int} (h : In64 a) : (List.range 8).mapM (fun i => Tryz.prog.keyLits 2 3 (((vec8 a).toList.drop (i * 1)).take 1)) = some ((List.range 8).map fun i => [Lit.int .i64 (a i)]) := by
  refine mapM_some _ fun i hi => ?_
  have hi8 : i < 8 := List.mem_range.1 hi
  have e : ((vec8 a).toList.drop (i * 1)).take 1 = [.int .i64 (a i)] := by
    rcases eight hi8 with h | h | h | h | h | h | h | h <;> subst h <;> rfl
  rw [e, keyLit1 (h i hi8)]
theorem keyMono {a : Nat → Int} (h : In64 a) : Tryz.prog.keyLits 3 36 (Value.agg (vec8 a)).cells.toList = some (lits8 a) := by
  have : Tryz.prog.keyLits 3 36 (Value.agg (vec8 a)).cells.toList = ((List.range 8).mapM fun i => Tryz.prog.keyLits 2 3 (((vec8 a).toList.drop (i * 1)).take 1)).map List.flatten := by kernel_rfl
  rw [this, keyLits8 h]; rfl
theorem keyRow {a : Nat → Int} (h : In64 a) : Tryz.prog.keyLits 3 35 (Value.agg (vec8 a)).cells.toList = some (lits8 a) := by
  have : Tryz.prog.keyLits 3 35 (Value.agg (vec8 a)).cells.toList = ((List.range 8).mapM fun i => Tryz.prog.keyLits 2 3 (((vec8 a).toList.drop (i * 1)).take 1)).map List.flatten := by kernel_rfl
  rw [this, keyLits8 h]; rfl
def same8 (a b : Nat → Int) : Bool := (List.range 8).all fun k => decide (a k = b k)
theorem same8_iff (a b : Nat → Int) : same8 a b = true ↔ ∀ k, k < 8 → a k = b k := by unfold same8; simp only [List.all_eq_true, List.mem_range, decide_eq_true_eq]
theorem eq_mono {a b : Nat → Int} (ha : In64 a) (hb : In64 b) (w : World) : (Op.equalIn 10000 36 (.agg (vec8 a)) (.agg (vec8 b))).run Tryz.prog w = .ok (same8 a b) w := by
  obtain ⟨r, h1, h2⟩ := run_equalIn_deep (P := Tryz.prog) 9998 2 36 (by kernel_rfl) w 3 3 (.agg (vec8 a)) (.agg (vec8 b)) (lits8 a) (lits8 b) (by kernel_rfl) (by kernel_rfl) (keyMono ha) (keyMono hb)
  rw [show same8 a b = r from by rw [Bool.eq_iff_iff, same8_iff, h2, lits8_iff]]
  exact h1
theorem eq_row {a b : Nat → Int} (ha : In64 a) (hb : In64 b) (w : World) : (Op.equalIn 10000 35 (.agg (vec8 a)) (.agg (vec8 b))).run Tryz.prog w = .ok (same8 a b) w := by
  obtain ⟨r, h1, h2⟩ := run_equalIn_deep (P := Tryz.prog) 9998 2 35 (by kernel_rfl) w 3 3 (.agg (vec8 a)) (.agg (vec8 b)) (lits8 a) (lits8 b) (by kernel_rfl) (by kernel_rfl) (keyRow ha) (keyRow hb)
  rw [show same8 a b = r from by rw [Bool.eq_iff_iff, same8_iff, h2, lits8_iff]]
  exact h1

set_option maxHeartbeats 4000000 in
set_option maxRecDepth 100000 in
theorem ord_cmp {w : World} {v : Value} {n : Nat} {f : Nat → Nat → Int} {a b : Nat → Int} (ho : OrdV w v n f) (hf : ∀ i, i < n → ∀ k, k < 8 → -1000 ≤ f i k ∧ f i k ≤ 1000)
    (ha : ∀ k, k < 8 → 0 ≤ a k ∧ a k ≤ 131070) (hb : ∀ k, k < 8 → 0 ≤ b k ∧ b k ≤ 131070) :
    Calls Tryz.prog 8 #[v, .agg (vec8 a), .agg (vec8 b)] w fun e w' => e = .returned (.int .i64 (ordC n f a b)) ∧ Below w.heap.size w w' ∧ w.drawn ≤ w'.drawn := by
  obtain ⟨A, c, rfl, hnc, hcm, hA⟩ := ho
  have heq := eq_mono (a := a) (b := b) (fun k hk => by have := ha k hk; omega) (fun k hk => by have := hb k hk; omega)
  cases hs : same8 a b
  · rw [hs] at heq
    clear hs
    go_enter Tryz.func8, Tryz.ntmps8
    go_wp2_with fail
    obtain ⟨W0, hW0, hbl, hB2, hB3, hsz⟩ := boxes2 w 36 36 (vec8 a) (vec8 b)
    rw [← hW0]
    have hsz' : w.heap.size + 1 < W0.heap.size := by omega
    have hd0 : w.drawn ≤ W0.drawn := by rw [hW0]; exact Nat.le_refl _
    clear hW0 hsz heq
    go_loopw [17] (fun iv wr => ∃ i : Nat, i ≤ n ∧ iv = .int .i64 i ∧ rowsC f a b i = 0 ∧ Blk wr w.heap.size 36 (vec8 a) ∧ Blk wr (w.heap.size + 1) 36 (vec8 b) ∧ Below w.heap.size w wr ∧ w.drawn ≤ wr.drawn) (fun i _ => n - (intOf i).toNat)
    case atStart => exact ⟨0, Nat.zero_le _, rfl, rfl, hB2, hB3, hbl, hd0⟩
    case round =>
      obtain ⟨i, hi, rfl, h0, hB, hB', hbw, hdr⟩ := hrel
      by_cases hlt : i < n
      · obtain ⟨bk, off, rfl, hbl, hcell⟩ := hA (by omega)
        obtain ⟨c0, c1, c2, c3, c4, c5, c6, c7⟩ := OrdV.row8 (w := wr) (b := bk) (off := off) (i := i) (f := f) (fun k hk => (hbw.cell (p := ⟨bk, off + i * 8 + k, none⟩) hbl).trans (hcell i hlt k hk))
        have HA := Lib.hid hA
        have H0 := Lib.hid h0
        clear hA hcell h0
        go_wp2_with fail
        obtain ⟨W1, hW1, hb1⟩ : ∃ W1, W1 = wr.alloc (.cells (vec8 (f i)) 35) ∧ Below wr.heap.size wr W1 := ⟨_, rfl, (Below.refl _ _).alloc (Nat.le_refl _) _⟩
        rw [← hW1]
        replace hB := hB.below hb1 hB.lt
        replace hB' := hB'.below hb1 hB'.lt
        replace hbw := hbw.trans (hb1.mono hbw.size)
        replace hdr : w.drawn ≤ W1.drawn := by rw [hW1]; exact hdr
        clear hW1 hb1 c0 c1 c2 c3 c4 c5 c6 c7
        go_loopw [9, 22] (fun nv kv wr => ∃ k : Nat, k ≤ 8 ∧ kv = .int .i64 k ∧ nv = .int .i64 (dotI (f i) a b k) ∧ Blk wr w.heap.size 36 (vec8 a) ∧ Blk wr (w.heap.size + 1) 36 (vec8 b) ∧ Below w.heap.size w wr ∧ w.drawn ≤ wr.drawn) (fun _ k _ => 8 - (intOf k).toNat)
        case atStart => exact ⟨0, Nat.zero_le _, rfl, rfl, hB, hB', hbw, hdr⟩
        case round =>
          obtain ⟨k, hk, rfl, rfl, hB, hB', hbw, hdr⟩ := hrel
          have hds := dotI_small (hf i hlt) ha hb
          by_cases hk8 : k < 8
          · have hki : (k : Int) < 8 := by omega
            have hix := index_row (vec8_get (f i) hk8) hk8
            have ca := hB.at8 hk8
            have cb := hB'.at8 hk8
            have ra := ha k hk8
            have rb := hb k hk8
            have rp := prod_small (hf i hlt k hk8) (show -131070 ≤ a k - b k ∧ a k - b k ≤ 131070 by omega)
            have rd := hds k hk
            have e1 : IntKind.i64.wrap (a k - b k) = a k - b k := IntWalk.i64_in _ (by omega)
            have e2 : IntKind.i64.wrap (f i k * (a k - b k)) = f i k * (a k - b k) := IntWalk.i64_in _ (by omega)
            have e3 : IntKind.i64.wrap (dotI (f i) a b k + f i k * (a k - b k)) = dotI (f i) a b k + f i k * (a k - b k) := IntWalk.i64_in _ (by omega)
            clear ra rb rp rd hds
            go_wp2_with fail
            go_quiet (fail)
            go_wp2_with fail
            go_roundw
            case rel => exact ⟨k + 1, by omega, by go_num, rfl, hB.drewN _, hB'.drewN _, hbw.drewN _, Nat.le_trans hdr (Nat.le_add_right _ _)⟩
            case measure => simp [intOf]; omega
          · obtain rfl : k = 8 := by omega
            clear hds
            obtain ⟨x, hx⟩ : ∃ x, x = dotI (f i) a b 8 := ⟨_, rfl⟩
            rw [← hx]
            have HX := Lib.hid hx
            clear hx
            by_cases h1 : x < 0
            · have HR : Hid (ordC n f a b = -1) := by
                show ordC n f a b = -1
                have hc : cmpI (dotI (f i) a b 8) 0 = -1 := by rw [← HX.out]; exact cmpI_lt h1
                rw [rowsC_hit H0.out (by rw [hc]; omega) hlt, hc]
              go_wp2
              go_ret
              exact ⟨by rw [HR.out]; rfl, hbw, hdr⟩
            · by_cases h2 : 0 < x
              · have HR : Hid (ordC n f a b = 1) := by
                  show ordC n f a b = 1
                  have hc : cmpI (dotI (f i) a b 8) 0 = 1 := by rw [← HX.out]; exact cmpI_gt h2
                  rw [rowsC_hit H0.out (by rw [hc]; omega) hlt, hc]
                go_wp2
                go_ret
                exact ⟨by rw [HR.out]; rfl, hbw, hdr⟩
              · go_wp2_with fail
                go_roundw
                case rel => exact ⟨i + 1, by omega, by go_num, rowsC_next H0.out (by have := HX.out; omega), hB, hB', hbw, hdr⟩
                case measure => simp [intOf]; omega
      · obtain rfl : i = n := by omega
        have HR := Lib.hid (ordC_lex h0)
        clear h0
        obtain ⟨c0, c1, c2, c3, c4, c5, c6, c7⟩ := hB.eight
        obtain ⟨d0, d1, d2, d3, d4, d5, d6, d7⟩ := hB'.eight
        go_wp2_with fail
        refine (mono_cmp a b).mono ?_
        rintro e w2 ⟨rfl, hb2, hd2⟩
        go_wp2
        go_ret
        exact ⟨by rw [HR.out]; rfl, hbw.trans (hb2.mono hbw.size), Nat.le_trans hdr hd2⟩
  · rw [hs] at heq
    have hall := (same8_iff a b).1 hs
    have HR := Lib.hid (ordC_same (n := n) (f := f) hall)
    clear hs hall
    go_enter Tryz.func8, Tryz.ntmps8
    go_wp2
    go_ret
    exact ⟨by rw [HR.out]; rfl, (((Below.refl _ _).alloc (Nat.le_refl _) _).alloc (by simp) _), Nat.le_refl _⟩

end Go.Proofs.YtmkhfgggleplfaaGreat
