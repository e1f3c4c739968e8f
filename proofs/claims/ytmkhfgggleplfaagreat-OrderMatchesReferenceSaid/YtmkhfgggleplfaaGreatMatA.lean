/-
  The reference's Eliminates: it compares powers of variables. Conditions: a valid order.
  The walk of the reference's Sort. Conditions: at most 12 monomials, whose exponents are at most 131070; weights of at most 1000.
  The walk of OrderMatchesReference: true. Conditions: entries of type int8, exponents and numbers of type uint16.
-/
import Derived.Test.YtmkhfgggleplfaaGreatR5C
import Derived.Test.YtmkhfgggleplfaaGreatLawB
import Derived.Test.YtmkhfgggleplfaaGreatR5B
import Derived.Test.YtmkhfgggleplfaaGreatSortP
import Derived.ArgAppend
import Derived.Test.YtmkhfgggleplfaaGreatErrA
import Derived.Test.YtmkhfgggleplfaaGreatFrame2
namespace Go.Proofs.YtmkhfgggleplfaaGreat
set_option linter.unusedSimpArgs false
set_option linter.unusedVariables false
open Go.RowKit

theorem dotA_unit (r : Nat → Int) (i : Nat) (x : Int) : ∀ n, dotA r (unitF i x) n = if i < n then r i * x else 0
  | 0 => by simp [dotA]
  | n + 1 => by
    rw [dotA_step, dotA_unit r i x n]
    unfold unitF
    rcases Nat.lt_trichotomy i n with h | h | h
    · rw [if_pos h, if_neg (by omega), if_pos (by omega)]; simp
    · subst h; rw [if_neg (by omega), if_pos rfl, if_pos (by omega)]; omega
    · rw [if_neg (by omega), if_neg (by omega), if_neg (by omega)]; simp
theorem rows_none {f : Nat → Nat → Int} {i j : Nat} {x y : Int} (hi : i < 8) (hj : j < 8) : ∀ n, (∀ s, s < n → ¬ hitAt (f s) i j) → rowsC f (unitF i x) (unitF j y) n = 0
  | 0, _ => rfl
  | n + 1, h => by
    have h0 : f n i = 0 ∧ f n j = 0 := by
      have := h n (by omega)
      unfold hitAt at this
      constructor
      · rcases Int.lt_trichotomy (f n i) 0 with h | h | h <;> first | exact h | exact absurd (.inl (by omega)) this
      · rcases Int.lt_trichotomy (f n j) 0 with h | h | h <;> first | exact h | exact absurd (.inr (by omega)) this
    refine rows_dot0 (rows_none hi hj n fun s hs => h s (by omega)) ?_
    rw [dotA_unit, dotA_unit, if_pos hi, if_pos hj, h0.1, h0.2]; simp
theorem lex_units {i j : Nat} {x y : Int} (hi : i < 8) (hj : j < 8) (hx : 0 < x) (hy : 0 < y) (hij : i ≠ j) : lexC (unitF i x) (unitF j y) 8 = if i < j then 1 else -1 := by
  have hz : ∀ k, k ≤ i → k ≤ j → lexC (unitF i x) (unitF j y) k = 0 := fun k h1 h2 => lexC_same _ _ k fun a ha => by
    unfold unitF; rw [if_neg (by omega), if_neg (by omega)]
  by_cases h : i < j
  · rw [if_pos h, lexC_hit (hz i (Nat.le_refl _) (by omega)) ?_ hi]
    · unfold unitF; rw [if_pos rfl, if_neg hij]; exact cmpI_gt hx
    · unfold unitF; rw [if_pos rfl, if_neg hij, cmpI_gt hx]; omega
  · rw [if_neg h, lexC_hit (hz j (by omega) (Nat.le_refl _)) ?_ hj]
    · unfold unitF; rw [if_pos rfl, if_neg (by omega)]; exact cmpI_lt hy
    · unfold unitF; rw [if_pos rfl, if_neg (by omega), cmpI_lt hy]; omega
/-- a bad pair, told by comparing powers -/
theorem bad_iff {n : Nat} {f : Nat → Nat → Int} {m i j : Nat} (hv : validP n f) (hi : i < 8) (hj : j < 8) :
    badE n f m i j ↔ m / 2 ^ i % 2 = 1 ∧ m / 2 ^ j % 2 = 0 ∧ ordC n f (unitF i 1) (unitF j 65535) < 0 := by
  unfold badE
  refine and_congr_right fun h1 => and_congr_right fun h2 => ?_
  have hij : i ≠ j := fun e => by subst e; omega
  by_cases hn : NoneAt n f i j
  · have e : ordC n f (unitF i 1) (unitF j 65535) = if i < j then 1 else -1 := by
      rw [ordC_lex (rows_none hi hj n hn), lex_units hi hj (by omega) (by omega) hij]
    rw [e]
    constructor
    · rintro (⟨_, h⟩ | ⟨r, hr, _⟩)
      · rw [if_neg (by omega)]; omega
      · exact absurd hr.2.1 (hn r hr.1)
    · intro h
      by_cases h3 : i < j
      · rw [if_pos h3] at h; omega
      · exact .inl ⟨hn, by omega⟩
  · obtain ⟨r, hr⟩ : ∃ r, FirstAt n f i j r := by
      have hex : ∃ s, s < n ∧ hitAt (f s) i j := Classical.byContradiction fun hne => hn fun s hs h => hne ⟨s, hs, h⟩
      clear hn
      obtain ⟨s, hs, hh⟩ := hex
      induction s using Nat.strongRecOn with
      | _ s ih =>
        by_cases h : ∃ t, t < s ∧ hitAt (f t) i j
        · obtain ⟨t, ht, hht⟩ := h
          exact ih t ht (by omega) hht
        · exact ⟨s, hs, hh, fun t ht hht => h ⟨t, ht, hht⟩⟩
    have hrow := rows_none (x := 1) (y := 65535) hi hj r hr.2.2
    have d1 : dotA (f r) (unitF i 1) 8 = f r i := by rw [dotA_unit, if_pos hi, Int.mul_one]
    have d2 : dotA (f r) (unitF j 65535) 8 = f r j * 65535 := by rw [dotA_unit, if_pos hj]
    have hpos : ∀ k, k < 8 → (∀ s, s < r → f s k = 0) → 0 ≤ f r k := fun k hk h0 => by
      rcases Int.lt_or_le (f r k) 0 with h | h
      · obtain ⟨i', hi', hp⟩ := begun_iff.1 ((hv.2 r hr.1 k hk).2.2 h)
        rw [h0 i' hi'] at hp; omega
      · exact h
    have hzi : ∀ s, s < r → f s i = 0 := fun s hs => by
      have := hr.2.2 s hs; unfold hitAt at this
      rcases Int.lt_trichotomy (f s i) 0 with h | h | h <;> first | exact h | exact absurd (.inl (by omega)) this
    have hzj : ∀ s, s < r → f s j = 0 := fun s hs => by
      have := hr.2.2 s hs; unfold hitAt at this
      rcases Int.lt_trichotomy (f s j) 0 with h | h | h <;> first | exact h | exact absurd (.inr (by omega)) this
    have pi := hpos i hi hzi
    have pj := hpos j hj hzj
    have bi := (hv.2 r hr.1 i hi).2.1
    have hhit := hr.2.1
    unfold hitAt at hhit
    by_cases hj0 : f r j = 0
    · have e : ordC n f (unitF i 1) (unitF j 65535) = 1 := by
        rw [rows_dot hrow (by rw [d1, d2, hj0]; omega) hr.1, d1, d2, hj0]; exact cmpI_gt (by omega)
      rw [e]
      constructor
      · rintro (⟨h, _⟩ | ⟨s, hs, h⟩)
        · exact absurd hr.2.1 (h r hr.1)
        · rw [hs.one hr] at h; exact absurd hj0 h
      · intro h; omega
    · have e : ordC n f (unitF i 1) (unitF j 65535) = -1 := by
        rw [rows_dot hrow (by rw [d1, d2]; omega) hr.1, d1, d2]; exact cmpI_lt (by omega)
      rw [e]
      exact ⟨fun _ => by omega, fun _ => .inr ⟨r, hr, hj0⟩⟩

theorem small_unit5 (k : Nat) {x : Int} (h0 : 0 ≤ x) (h1 : x ≤ 131070) : Small (unitF k x) := fun j _ => by unfold unitF; split <;> omega
theorem rbit_mod (m k : Nat) : (rbit m k = true ↔ m / 2 ^ k % 2 = 1) ∧ (rbit m k = false ↔ m / 2 ^ k % 2 = 0) := by
  unfold rbit
  have := Nat.mod_lt (m / 2 ^ k) (show 0 < 2 by omega)
  constructor
  · simp
  · rw [decide_eq_false_iff_not]; omega

set_option maxHeartbeats 2000000 in
set_option maxRecDepth 100000 in
theorem reliminates_any {w : World} {v : Value} {n m : Nat} {f : Nat → Nat → Int} (ho : OrdV w v n f) (hm : m < 256) (hv : validP n f) :
    Calls Tryz.prog 20 #[v, .int .u8 m] w fun e w' => Says (ElimP n f m) e ∧ Below w.heap.size w w' := by
  have hbd : Hid (∀ i, i < n → ∀ k, k < 8 → -1000 ≤ f i k ∧ f i k ≤ 1000) := fun i hi k hk => ⟨(hv.2 i hi k hk).1, (hv.2 i hi k hk).2.1⟩
  have HB : Hid (∀ i j, i < 8 → j < 8 → (badE n f m i j ↔ m / 2 ^ i % 2 = 1 ∧ m / 2 ^ j % 2 = 0 ∧ ordC n f (unitF i 1) (unitF j 65535) < 0)) := fun i j hi hj => bad_iff hv hi hj
  have HO := Lib.hid ho
  clear ho hv
  go_enter Tryz.func20, Tryz.ntmps20
  go_wp2_with fail
  go_loopw [5] (fun iv wr => ∃ i : Nat, i ≤ 8 ∧ iv = .int .i64 i ∧ (∀ i', i' < i → ∀ j, j < 8 → ¬ badE n f m i' j) ∧ Below w.heap.size w wr) (fun i _ => 8 - (intOf i).toNat)
  case atStart => exact ⟨0, Nat.zero_le _, rfl, fun j hj => absurd hj (by omega), Below.refl _ _⟩
  case round =>
    obtain ⟨i, hi, rfl, hz, hb0⟩ := hrel
    have HZ := Lib.hid hz
    clear hz
    obtain ⟨wo, hwo⟩ : ∃ wo : World, wo = wr := ⟨_, rfl⟩
    subst hwo
    by_cases hi8 : i < 8
    · have hii : (i : Int) < 8 := by omega
      go_wp2_with fail
      go_loopw [6] (fun jv wr => ∃ j : Nat, j ≤ 8 ∧ jv = .int .i64 j ∧ (∀ j', j' < j → ¬ badE n f m i j') ∧ Below w.heap.size w wr) (fun j _ => 8 - (intOf j).toNat)
      case atStart => exact ⟨0, Nat.zero_le _, rfl, fun j hj => absurd hj (by omega), hb0⟩
      case round =>
        obtain ⟨j, hj, rfl, hz, hb⟩ := hrel
        have HZ2 := Lib.hid hz
        clear hz
        by_cases hj8 : j < 8
        · have hji : (j : Int) < 8 := by omega
          have hnext : ¬ badE n f m i j → Hid (∀ j', j' < j + 1 → ¬ badE n f m i j') := fun h j' hj' => by
            by_cases e : j' = j
            · subst e; exact h
            · exact HZ2.out j' (by omega)
          have r1 := rbit_mod m i
          have r2 := rbit_mod m j
          have HB1 := HB.out i j hi8 hj8
          cases hb1 : rbit m i
          · have HN := hnext fun h => by have := HB1.1 h; have := r1.2.1 hb1; omega
            clear hnext r1 r2 HB1
            go_wp2_with fail
            refine (rin_any m i wr hm hi8).mono ?_
            rw [hb1]
            rintro e w1 ⟨rfl, hbl1⟩
            go_wp2_with fail
            go_roundw
            case rel => exact ⟨j + 1, by omega, by go_num, HN.out, hb.trans (hbl1.mono hb.size)⟩
            case measure => simp [intOf]; omega
          · cases hb2 : rbit m j
            · have e1 := r1.1.1 hb1
              have e2 := r2.2.1 hb2
              obtain ⟨z, hz⟩ : ∃ z, ordC n f (unitF i 1) (unitF j 65535) = z := ⟨_, rfl⟩
              rw [hz] at HB1
              have HZZ := Lib.hid hz
              have hbad : badE n f m i j ↔ z < 0 := ⟨fun h => (HB1.1 h).2.2, fun h => HB1.2 ⟨e1, e2, h⟩⟩
              have HBD := Lib.hid hbad
              clear r1 r2 HB1 hz e1 e2 hbad
              go_wp2_with fail
              refine (rin_any m i wr hm hi8).mono ?_
              rw [hb1]
              rintro e w1 ⟨rfl, hbl1⟩
              have hc1 := hb.trans (hbl1.mono hb.size)
              go_wp2_with fail
              refine (rin_any m j w1 hm hj8).mono ?_
              rw [hb2]
              rintro e w2 ⟨rfl, hbl2⟩
              have hc2 := hc1.trans (hbl2.mono hc1.size)
              go_wp2_with fail
              refine (power_any i 1 w2 hi8).mono ?_
              rintro e w3 ⟨rfl, hbl3⟩
              have hc3 := hc2.trans (hbl3.mono hc2.size)
              go_wp2_with fail
              refine (power_any j 65535 w3 hj8).mono ?_
              rintro e w4 ⟨rfl, hbl4⟩
              have hc4 := hc3.trans (hbl4.mono hc3.size)
              go_wp2_with fail
              refine (rord_cmp (HO.out.below hc4) hbd.out (small_unit5 i (by omega) (by omega)) (small_unit5 j (by omega) (by omega))).mono ?_
              rw [HZZ.out]
              rintro e w5 ⟨rfl, hbl5⟩
              have hc5 := hc4.trans (hbl5.mono hc4.size)
              by_cases hneg : z < 0
              · have hd : decide (z < 0) = true := by simpa using hneg
                have HN : Hid (¬ ElimP n f m) := fun h => h i hi8 j hj8 (HBD.out.2 hneg)
                clear hnext hneg
                go_wp2
                go_ret
                exact ⟨⟨false, rfl, ⟨fun h => (by cases h), fun h => absurd h HN.out⟩⟩, hc5⟩
              · have hd : decide (z < 0) = false := by simpa using hneg
                have HN := hnext fun h => hneg (HBD.out.1 h)
                clear hnext hneg
                go_wp2_with fail
                go_roundw
                case rel => exact ⟨j + 1, by omega, by go_num, HN.out, hc5⟩
                case measure => simp [intOf]; omega
            · have HN := hnext fun h => by have := HB1.1 h; have := r2.1.1 hb2; omega
              clear hnext r1 r2 HB1
              go_wp2_with fail
              refine (rin_any m i wr hm hi8).mono ?_
              rw [hb1]
              rintro e w1 ⟨rfl, hbl1⟩
              have hc1 := hb.trans (hbl1.mono hb.size)
              go_wp2_with fail
              refine (rin_any m j w1 hm hj8).mono ?_
              rw [hb2]
              rintro e w2 ⟨rfl, hbl2⟩
              have hc2 := hc1.trans (hbl2.mono hc1.size)
              go_wp2_with fail
              go_roundw
              case rel => exact ⟨j + 1, by omega, by go_num, HN.out, hc2⟩
              case measure => simp [intOf]; omega
        · obtain rfl : j = 8 := by omega
          have HN : Hid (∀ i', i' < i + 1 → ∀ j, j < 8 → ¬ badE n f m i' j) := fun i' hi' j hj => by
            by_cases e : i' = i
            · subst e; exact HZ2.out j hj
            · exact HZ.out i' (by omega) j hj
          go_wp2_with fail
          go_roundw
          case rel => exact ⟨i + 1, by omega, by go_num, HN.out, hb⟩
          case measure => simp [intOf]; omega
    · obtain rfl : i = 8 := by omega
      go_wp2
      go_ret
      exact ⟨⟨true, rfl, ⟨fun _ => fun i hi j hj => HZ.out i hi j hj, fun _ => rfl⟩⟩, hb0⟩

end Go.Proofs.YtmkhfgggleplfaaGreat
namespace Go.Proofs.YtmkhfgggleplfaaGreat
open Go.RowKit

/-- a row put in at a place -/
def InsD (p : Nat) (h : Nat → Nat → Int) (x : Nat → Int) : Nat → Nat → Int := fun a => if a < p then h a else if a = p then x else h (a - 1)
theorem ins_cells {xs : List Value} {k p : Nat} {h : Nat → Nat → Int} {x : Nat → Int} (hl : xs.length = k * 8) (hx : ∀ i, i < k → ∀ c, c < 8 → xs[i * 8 + c]? = some (.int .i64 (h i c))) (hp : p ≤ k) :
    ∀ a, a < k + 1 → ∀ c, c < 8 → (xs.take (p * 8) ++ ((vec8 x).toList ++ xs.drop (p * 8)))[a * 8 + c]? = some (.int .i64 (InsD p h x a c)) := fun a ha c hc => by
  have hlt : (xs.take (p * 8)).length = p * 8 := by rw [List.length_take]; omega
  have hv : (vec8 x).toList.length = 8 := rfl
  unfold InsD
  rcases Nat.lt_trichotomy a p with h1 | h1 | h1
  · rw [if_pos h1, List.getElem?_append_left (by omega), List.getElem?_take, if_pos (by omega)]
    exact hx a (by omega) c hc
  · subst h1
    rw [if_neg (by omega), if_pos rfl, List.getElem?_append_right (by omega), List.getElem?_append_left (by omega), hlt, show a * 8 + c - a * 8 = c from by omega, Array.getElem?_toList]
    exact vec8_get x hc
  · rw [if_neg (by omega), if_neg (by omega), List.getElem?_append_right (by omega), List.getElem?_append_right (by omega), hlt, hv, List.getElem?_drop, show p * 8 + (a * 8 + c - p * 8 - 8) = (a - 1) * 8 + c from by omega]
    exact hx (a - 1) (by omega) c hc
/-- what the list holds after i rounds -/
def SortR (n i k : Nat) (f d h : Nat → Nat → Int) : Prop := k ≤ i ∧ (∀ a, a < k → ∃ j, j < i ∧ ∀ c, c < 8 → h a c = d j c) ∧ (∀ j, j < i → ∃ a, a < k ∧ ∀ c, c < 8 → h a c = d j c) ∧ (∀ a b, a < b → b < k → ordC n f (h a) (h b) = 1)
theorem SortR.nil (n : Nat) (f d h : Nat → Nat → Int) : SortR n 0 0 f d h := ⟨Nat.le_refl _, fun a ha => absurd ha (by omega), fun a ha => absurd ha (by omega), fun a b _ hb => absurd hb (by omega)⟩
theorem SortR.keep {n i k p : Nat} {f d h : Nat → Nat → Int} (hS : SortR n i k f d h) (hp : p < k) (he : ∀ c, c < 8 → h p c = d i c) : SortR n (i + 1) k f d h := by
  obtain ⟨h1, h2, h3, h4⟩ := hS
  refine ⟨by omega, fun a ha => ?_, fun j hj => ?_, h4⟩
  · obtain ⟨j, hj, e⟩ := h2 a ha; exact ⟨j, by omega, e⟩
  · by_cases h : j < i
    · exact h3 j h
    · obtain rfl : j = i := by omega
      exact ⟨p, hp, he⟩
theorem SortR.ins {n i k p : Nat} {f d h : Nat → Nat → Int} (hS : SortR n i k f d h) (hp : p ≤ k) (hb : ∀ a, a < p → ordC n f (h a) (d i) = 1) (ha : ∀ a, p ≤ a → a < k → ordC n f (d i) (h a) = 1) : SortR n (i + 1) (k + 1) f d (InsD p h (d i)) := by
  obtain ⟨h1, h2, h3, h4⟩ := hS
  have e1 : ∀ a, a < p → InsD p h (d i) a = h a := fun a h => by unfold InsD; rw [if_pos h]
  have e2 : InsD p h (d i) p = d i := by unfold InsD; rw [if_neg (by omega), if_pos rfl]
  have e3 : ∀ a, p < a → InsD p h (d i) a = h (a - 1) := fun a h => by unfold InsD; rw [if_neg (by omega), if_neg (by omega)]
  refine ⟨by omega, fun a ha' => ?_, fun j hj => ?_, fun a b hab hbk => ?_⟩
  · rcases Nat.lt_trichotomy a p with q | q | q
    · rw [e1 a q]; obtain ⟨j, hj, e⟩ := h2 a (by omega); exact ⟨j, by omega, e⟩
    · subst q; rw [e2]; exact ⟨i, by omega, fun _ _ => rfl⟩
    · rw [e3 a q]; obtain ⟨j, hj, e⟩ := h2 (a - 1) (by omega); exact ⟨j, by omega, e⟩
  · by_cases h : j < i
    · obtain ⟨a, ha', e⟩ := h3 j h
      by_cases q : a < p
      · exact ⟨a, by omega, by rw [e1 a q]; exact e⟩
      · exact ⟨a + 1, by omega, by rw [e3 (a + 1) (by omega)]; exact e⟩
    · obtain rfl : j = i := by omega
      exact ⟨p, by omega, by rw [e2]; exact fun _ _ => rfl⟩
  · rcases Nat.lt_trichotomy a p with q | q | q <;> rcases Nat.lt_trichotomy b p with r | r | r
    · rw [e1 a q, e1 b r]; exact h4 a b hab (by omega)
    · subst r; rw [e1 a q, e2]; exact hb a q
    · rw [e1 a q, e3 b r]; exact h4 a (b - 1) (by omega) (by omega)
    · omega
    · omega
    · subst q; rw [e2, e3 b r]; exact ha (b - 1) (by omega) (by omega)
    · omega
    · omega
    · rw [e3 a q, e3 b r]; exact h4 (a - 1) (b - 1) (by omega) (by omega)
theorem SortR.small {n i k m : Nat} {f d h : Nat → Nat → Int} (hS : SortR n i k f d h) (hd : ∀ j, j < m → Small (d j)) (hi : i ≤ m) : ∀ a, a < k → Small (h a) := fun a ha c hc => by
  obtain ⟨j, hj, e⟩ := hS.2.1 a ha
  rw [e c hc]; exact hd j (by omega) c hc
theorem rcmp_fix {w : World} {v : Value} {n : Nat} {f : Nat → Nat → Int} {a b : Nat → Int} {r : Int} (ho : OrdV w v n f) (hf : ∀ i, i < n → ∀ k, k < 8 → -1000 ≤ f i k ∧ f i k ≤ 1000) (ha : Small a) (hb : Small b) (hr : ordC n f a b = r) :
    Calls Tryz.prog 9 #[v, .agg (vec8 a), .agg (vec8 b)] w fun e w' => e = .returned (.int .i64 r) ∧ Below w.heap.size w w' :=
  (rord_cmp ho hf ha hb).mono fun _ _ ⟨h1, h2⟩ => ⟨by rw [h1, hr], h2⟩
theorem own_cells {W w : World} {base g k c : Nat} {xs : List Value} {h : Nat → Nat → Int} (hown : w.ownsRow base 36 8 (.slice (some ⟨g, 0, none⟩) k c) k xs) (hx : ∀ i, i < k → ∀ c, c < 8 → xs[i * 8 + c]? = some (.int .i64 (h i c))) (hb : Below w.heap.size w W) :
    ∀ a, a < k → ∀ c, c < 8 → W.cell? ⟨g, a * 8 + c, none⟩ = some (.int .i64 (h a c)) := fun a ha c hc => by
  have := (ownsRow_below hown hb).cells (g := g) rfl _ _ (hx a ha c hc)
  rwa [add_none, Nat.zero_add] at this

theorem at_world {wo w : World} {B : Nat} {C : World → Prop} (hb : Below B wo w) (h : ∀ W9, Below B wo W9 → C W9) : C w := h w hb
theorem mono_one {xs : List Value} {k : Nat} {h : Nat → Nat → Int} (hl : xs.length = k * 8) (hx : ∀ i, i < k → ∀ c, c < 8 → xs[i * 8 + c]? = some (.int .i64 (h i c))) : ∀ u ∈ xs, u.oneCell' = true := fun u hu => by
  obtain ⟨j, hj, rfl⟩ := List.mem_iff_getElem.1 hu
  have h1 := hx (j / 8) (by omega) (j % 8) (Nat.mod_lt _ (by omega))
  rw [show j / 8 * 8 + j % 8 = j from by omega, List.getElem?_eq_getElem hj] at h1
  injection h1 with h1
  rw [h1]; rfl
theorem own_vecM (w : World) (g : Nat → Int) : (w.alloc (.cells (vec8 g) 36)).ownsRow w.heap.size 36 8 (.slice (some ⟨w.heap.size, 0, none⟩) 1 1) 1 (vec8 g).toList :=
  ⟨rfl, .inr ⟨_, 1, _, rfl, Nat.le_refl _, heap_alloc_new w _, Nat.le_refl _, by simp [maxLen], rfl, rfl⟩⟩
/-- the list behind an insertion -/
theorem ins_end {w wo W9 w1 w2 : World} {g c k p i M : Nat} {v2 : Value} {xs : List Value} {d h : Nat → Nat → Int} (hM : M = 1 + (k - p)) (hown : wo.ownsRow w.heap.size 36 8 (.slice (some ⟨g, 0, none⟩) k c) k xs) (hx : ∀ i, i < k → ∀ c, c < 8 → xs[i * 8 + c]? = some (.int .i64 (h i c)))
    (hp : p ≤ k) (hb : Below w.heap.size w wo) (hb9 : Below wo.heap.size wo W9) (hw1 : Below W9.heap.size W9 w1)
    (hown2 : w2.ownsRow w1.heap.size 36 8 v2 (p + M) (xs.take (p * 8) ++ ((vec8 (d i)).toList ++ xs.drop (p * 8)))) (hg2 : w1.grownBy w2 none) :
    MonO w2 w.heap.size v2 (k + 1) (InsD p h (d i)) ∧ (∃ g c, v2 = .slice (some ⟨g, 0, none⟩) (k + 1) c ∧ k + 1 ≤ c ∧ c ≤ 9223372036854775807) ∧ Below w.heap.size w w2 := by
  rw [show p + M = k + 1 from by omega] at hown2
  have h1 := hb.size
  have h2 := hb9.size
  have h3 := hw1.size
  refine ⟨⟨_, ownsRow_mono hown2 (by omega), ins_cells hown.1 hx hp⟩, ?_, ?_⟩
  · obtain ⟨A2, c2, rfl, q1, q2, q3⟩ := own_slice hown2
    obtain ⟨g2, rfl, _⟩ := q3 (by omega)
    exact ⟨g2, c2, rfl, q1, q2⟩
  · exact (((hb.trans (hb9.mono h1)).trans (hw1.mono (by omega))).grown hg2 (by omega) (fun _ h => by cases h))

set_option maxHeartbeats 4000000 in
set_option maxRecDepth 100000 in
theorem rsort_any {w : World} {v lv : Value} {n m : Nat} {f d : Nat → Nat → Int} (ho : OrdV w v n f) (hl : OrdV w lv m d) (hf : ∀ i, i < n → ∀ k, k < 8 → -1000 ≤ f i k ∧ f i k ≤ 1000)
    (hs : ∀ i, i < m → Small (d i)) (hm : m ≤ 12) : Calls Tryz.prog 18 #[v, lv] w fun e w' => SortSays w' n m f d e ∧ Below w.heap.size w w' := by
  obtain ⟨i0, hi0, hz0, hz1, hz2⟩ := info_parts info_mono
  obtain ⟨B, cl, rfl, hmc, hcm, hB⟩ := hl
  have HO := Lib.hid ho
  have HF := Lib.hid hf
  have HSM := Lib.hid hs
  have HI := Lib.hid hi0
  have hbn : Below w.heap.size w (w.alloc (.cells #[] 36)) := (Below.refl _ _).alloc (Nat.le_refl _) _
  clear ho hf hs
  go_enter Tryz.func18, Tryz.ntmps18
  go_wp2_with fail
  go_loopw [5, 6] (fun ov iv wr => ∃ (i k : Nat) (h : Nat → Nat → Int), i ≤ m ∧ iv = .int .i64 i ∧ SortR n i k f d h ∧ MonO wr w.heap.size ov k h ∧ (∃ g c, ov = .slice (some ⟨g, 0, none⟩) k c ∧ k ≤ c ∧ c ≤ 9223372036854775807) ∧ Below w.heap.size w wr) (fun _ i _ => m - (intOf i).toNat)
  case atStart => exact ⟨0, 0, fun _ _ => 0, Nat.zero_le _, rfl, SortR.nil _ _ _ _, ⟨[], World.ownsRow_made w #[] 0 (Nat.le_refl _) (by simp [maxLen]) rfl, fun i hi => absurd hi (by omega)⟩, ⟨_, _, rfl, Nat.le_refl _, by omega⟩, hbn⟩
  case round =>
    rename World => wo
    obtain ⟨i, k, h, hi, rfl, hS, ⟨xs, hown, hx⟩, ⟨g, c, rfl, hkc, hcmo⟩, hb⟩ := hrel
    have hki : k ≤ i := hS.1
    have HR := Lib.hid hS
    have HOW := Lib.hid hown
    have HX := Lib.hid hx
    clear hS hown hx hbn
    by_cases hlt : i < m
    · obtain ⟨bl, offl, rfl, hbl, hcl⟩ := hB (by omega)
      have HCL := Lib.hid hcl
      have HH := Lib.hid (HR.out.small HSM.out hi)
      have hin0 : (0 : Int) ≤ (i : Int) := by omega
      have hin : (i : Int) < (m : Int) := by omega
      clear hcl hB
      go_wp2_with fail
      go_loopw [7] (fun pv wr => ∃ p : Nat, p ≤ k ∧ pv = .int .i64 p ∧ (∀ a, a < p → ordC n f (h a) (d i) = 1) ∧ Below wo.heap.size wo wr) (fun p _ => k - (intOf p).toNat)
      case atStart => exact ⟨0, Nat.zero_le _, rfl, fun a ha => absurd ha (by omega), Below.refl _ _⟩
      case round =>
        obtain ⟨p, hp, rfl, hz, hbx⟩ := hrel
        have HZ := Lib.hid hz
        have hwo := hb.size
        have hwr := hbx.size
        have hb0 := hb.trans (hbx.mono hwo)
        have lg : g < wr.heap.size := by have := (HOW.out.lt g rfl).2; omega
        have ll : bl < wr.heap.size := by omega
        have HC := Lib.hid (own_cells HOW.out HX.out hbx)
        have HD : Hid (∀ c, c < 8 → wr.cell? ⟨bl, offl + i * 8 + c, none⟩ = some (.int .i64 (d i c))) := fun c hc => (hb0.cell (p := ⟨bl, offl + i * 8 + c, none⟩) hbl).trans (HCL.out i hlt c hc)
        have HOr := Lib.hid (HO.out.below hb0)
        obtain ⟨e0, e1, e2, e3, e4, e5, e6, e7⟩ := row_reads ll HD.out
        clear hz
        by_cases hpk : p < k
        · obtain ⟨c0, c1, c2, c3, c4, c5, c6, c7⟩ := row_reads lg (HC.out p hpk)
          have hpi : (p : Int) < (k : Int) := by omega
          have hp0 : (0 : Int) ≤ (p : Int) := by omega
          have hgt : decide (p < k) = true := by simpa using hpk
          obtain ⟨r, hr⟩ : ∃ r, ordC n f (h p) (d i) = r := ⟨_, rfl⟩
          have hr3 := ordC_range n f (h p) (d i)
          rw [hr] at hr3
          have HRR := Lib.hid hr
          clear hr
          rcases hr3 with rfl | rfl | rfl
          · -- the same
            go_wp2_with fail
            go_region_held3 (fun w' => Below wr.heap.size wr w')
              ((first | with_reducible assumption | with_reducible exact (Below.refl _ _).drew | with_reducible exact (by assumption : Below wr.heap.size wr _).drew))
              (first
                | (go_at_call 9; (with_reducible refine (rcmp_fix (HOr.out.below (by assumption)) HF.out (HH.out p hpk) (HSM.out i hlt) HRR.out).mono ?_); rintro e wl ⟨rfl, hbl'⟩; have hcur := below_step3 (W := wr) (by assumption) hbl'; clear hbl'))
            go_wp2_with fail
            have heq := eq_mono (HH.out p hpk).in64 (HSM.out i hlt).in64
            rw [(same8_iff (h p) (d i)).2 (ordC_zero.1 HRR.out)] at heq
            have hbw := hbx.trans (hcur.mono hwr)
            clear hcur
            go_quiet (fail)
            go_wp2_with fail
            go_roundw
            case rel => exact ⟨i + 1, k, h, by omega, by go_num, HR.out.keep hpk (ordC_zero.1 HRR.out), ⟨xs, ownsRow_below HOW.out (hbw.drewN _), HX.out⟩, ⟨_, _, rfl, hkc, hcmo⟩, (hb.trans (hbw.mono hwo)).drewN _⟩
            case measure => simp [intOf]; omega
          · -- before it
            go_wp2_with fail
            go_region_held3 (fun w' => Below wr.heap.size wr w')
              ((first | with_reducible assumption | with_reducible exact (Below.refl _ _).drew | with_reducible exact (by assumption : Below wr.heap.size wr _).drew))
              (first
                | (go_at_call 9; (with_reducible refine (rcmp_fix (HOr.out.below (by assumption)) HF.out (HH.out p hpk) (HSM.out i hlt) HRR.out).mono ?_); rintro e wl ⟨rfl, hbl'⟩; have hcur := below_step3 (W := wr) (by assumption) hbl'; clear hbl'))
            go_wp2_with fail
            go_roundw
            case rel =>
              refine ⟨p + 1, by omega, by go_num, fun a ha => ?_, hbx.trans (hcur.mono hwr)⟩
              by_cases q : a < p
              · exact HZ.out a q
              · rw [show a = p from by omega]; exact HRR.out
            case measure => simp [intOf]; omega
          · -- behind it
            have hne : ¬ ∀ c, c < 8 → h p c = d i c := fun e => by
              have h9 : ordC n f (h p) (d i) = 0 := ordC_zero.2 e
              have h8 := HRR.out
              omega
            have HA : Hid (∀ a, p ≤ a → a < k → ordC n f (d i) (h a) = 1) := fun a ha hak => by
              have h1 : ordC n f (d i) (h p) = 1 := by rw [ordC_neg, HRR.out]; rfl
              rcases Nat.lt_or_ge p a with q | q
              · exact ordC_trans h1 (HR.out.2.2.2 p a q hak)
              · rw [show a = p from by omega]; exact h1
            have HNE := Lib.hid hne
            clear hne
            go_wp2_with fail
            go_region_held3 (fun w' => Below wr.heap.size wr w')
              ((first | with_reducible assumption | with_reducible exact (Below.refl _ _).drew | with_reducible exact (by assumption : Below wr.heap.size wr _).drew))
              (first
                | (go_at_call 9; (with_reducible refine (rcmp_fix (HOr.out.below (by assumption)) HF.out (HH.out p hpk) (HSM.out i hlt) HRR.out).mono ?_); rintro e wl ⟨rfl, hbl'⟩; have hcur := below_step3 (W := wr) (by assumption) hbl'; clear hbl'))
            go_wp2_with fail
            have heq := eq_mono (HH.out p hpk).in64 (HSM.out i hlt).in64
            have hsf : same8 (h p) (d i) = false := by
              cases hq : same8 (h p) (d i)
              · rfl
              · exact absurd ((same8_iff (h p) (d i)).1 hq) HNE.out
            rw [hsf] at heq
            clear hsf
            have hbw := hbx.trans (hcur.mono hwr)
            clear hcur
            go_quiet (fail)
            go_wp2_with fail
            refine at_world (C := Code.wp _ _ _ _) (B := wo.heap.size) (wo := wo) ?_ ?_
            · with_reducible first | exact hbw | exact hbw.drewN _ | exact (hbw.drewN _).drewN _
            intro W9 hb9
            have hs9 := hb9.size
            have hw9 := hb.trans (hb9.mono hwo)
            have hown9 := ownsRow_below HOW.out hb9
            have lg9 : g < W9.heap.size := (hown9.lt g rfl).2
            have HD9 : ∀ c, c < 8 → W9.cell? ⟨bl, offl + i * 8 + c, none⟩ = some (.int .i64 (d i c)) := fun c hc => (hw9.cell (p := ⟨bl, offl + i * 8 + c, none⟩) hbl).trans (HCL.out i hlt c hc)
            obtain ⟨e0, e1, e2, e3, e4, e5, e6, e7⟩ := OrdV.row8 (w := W9) HD9
            have HONE := Lib.hid (mono_one HOW.out.1 HX.out)
            have HC9 : Hid (∀ j u, xs[j]? = some u → W9.cell? ((⟨g, 0, none⟩ : Addr).add j) = some u) := hown9.cells (g := g) rfl
            have O1 : Hid ((W9.alloc (.cells (vec8 (d i)) 36)).drew.ownsRow w.heap.size 36 8 (.slice (some ⟨W9.heap.size, 0, none⟩) 1 1) 1 (vec8 (d i)).toList) := ownsRow_mono (own_vecM W9 (d i)) (by omega)
            have R0 : Hid (Reads (W9.alloc (.cells (vec8 (d i)) 36)).drew W9.heap.size 8 (some ⟨g, 0, none⟩) k xs) := ((Reads.of_own hown9).alloc (Nat.le_refl _) _).drew
            have hww9 : w.heap.size ≤ W9.heap.size := hw9.size
            have HB9 := Lib.hid hb9
            have HWB : Hid (Below W9.heap.size W9 (W9.alloc (.cells (vec8 (d i)) 36)).drew) := ((Below.refl _ _).alloc (Nat.le_refl _) _).drew
            have hq0 : (0 : Int) ≤ (p : Int) := by omega
            have hq1 : (p : Int) ≤ (k : Int) := by omega
            have hq2 : (k : Int) ≤ (c : Int) := by omega
            have hq3 : (p : Int) ≤ (c : Int) := by omega
            have hp13 : k ≤ 12 := by omega
            have HBB := Lib.hid hb
            clear hown9 HD9 hw9 hb9 hbx hbw hb0 HC HD HOr hb HNE HRR
            have hki63 : k ≤ 9223372036854775807 := by omega
            obtain ⟨M, hM⟩ : ∃ M, M = 1 + (k - p) := ⟨_, rfl⟩
            by_cases hcp : c = p
            · exfalso; omega
            · have hM1 : (1 : Nat) ≤ M := by omega
              have R3 : Hid (Reads (W9.alloc (.cells (vec8 (d i)) 36)).drew W9.heap.size 8 (some ⟨g, p * 8, none⟩) (k - p) (xs.drop (p * 8))) := by
                have h9 := R0.out.cut hp hkc
                rw [if_neg hcp] at h9
                simp only [Option.map_some, add_none, Nat.zero_add] at h9
                exact h9
              go_region_law (refine step_append_any _ rfl (.tmp 54) (.tmp 57) 32 rfl w.heap.size 36 i0 _ 8 64 Tryz.underlying32 HI.out hz0 hz1 hz2 rfl (by omega) _ 1 (vec8 (d i)).toList rfl O1.out W9.heap.size (some ⟨g, p * 8, none⟩) (k - p) (c - p) (xs.drop (p * 8)) rfl R3.out (fun u hu => HONE.out u (List.mem_of_mem_drop hu)) (by simp only [maxLen]; omega) (by omega) (by simp; omega) ?_; intro v1 w1 hown1 hg1 hat1)
              have hown1' : w1.ownsRow w.heap.size 36 8 v1 M ((vec8 (d i)).toList ++ xs.drop (p * 8)) := by
                rw [hM]; exact hown1
              have hg1' : (W9.alloc (.cells (vec8 (d i)) 36)).drew.grownBy w1 (some W9.heap.size) := hg1
              have hw1 : Below W9.heap.size W9 w1 := HWB.out.grown hg1' HWB.out.size (fun g h => by injection h with h; omega)
              clear hat1 hg1 hg1' hown1 O1 R0 HWB R3
              obtain ⟨A1, c1, rfl, hn1, hcm1, hA1⟩ := own_slice hown1'
              obtain ⟨g1, rfl, -, hl1⟩ := hA1 (by omega)
              have HN1 := Lib.hid hown1'
              have HW1 := Lib.hid hw1
              have HT : Hid ((xs.take (p * 8)).length = p * 8) := by show (xs.take (p * 8)).length = p * 8; rw [List.length_take, HOW.out.1]; omega
              have HHO : Hid (∀ b, some (⟨g, 0, none⟩ : Addr) = some b → ∀ j u, (xs.take (p * 8))[j]? = some u → w1.cell? (b.add j) = some u) := fun b hb j u hu => by
                injection hb with hb
                subst hb
                rw [List.getElem?_take] at hu
                by_cases hj : j < p * 8
                · rw [if_pos hj] at hu
                  refine (hw1.cell ?_).trans (HC9.out j u hu)
                  rw [add_none]; exact lg9
                · rw [if_neg hj] at hu; cases hu
              have HCN : Hid (∀ j u, ((vec8 (d i)).toList ++ xs.drop (p * 8))[j]? = some u → w1.cell? ((⟨g1, 0, none⟩ : Addr).add j) = some u) := hown1'.cells (g := g1) rfl
              have HLN : Hid (((vec8 (d i)).toList ++ xs.drop (p * 8)).length = M * 8) := hown1'.1
              have HON : Hid (∀ u ∈ (vec8 (d i)).toList ++ xs.drop (p * 8), u.oneCell' = true) := fun u hu => by
                rcases List.mem_append.1 hu with h1 | h1
                · exact vec8_one _ u h1
                · exact HONE.out u (List.mem_of_mem_drop h1)
              have hM13 : M ≤ 13 := by omega
              have HMM := Lib.hid hM
              clear hown1' hw1 hA1 hM e0 e1 e2 e3 e4 e5 e6 e7
              go_wp2_with (at_builtin; refine wpList_append_grows w1 rfl (.tmp 62) (.tmp 63) 32 rfl 36 i0 _ 8 64 Tryz.underlying32 HI.out hz0 hz1 hz2 rfl (by omega) (some ⟨g, 0, none⟩) p p (xs.take (p * 8)) rfl (fun h => by cases h) HT.out HHO.out ⟨g1, 0, none⟩ M c1 ((vec8 (d i)).toList ++ xs.drop (p * 8)) rfl HLN.out HCN.out HON.out (by omega) (by simp only [maxLen]; omega) (by omega) ?_; intro v2 w2 hown2 hg2)
              have hend := ins_end HMM.out HOW.out HX.out (show p ≤ k by omega) HBB.out HB9.out HW1.out hown2 hg2
              obtain ⟨hE1, hE2, hE3⟩ := hend
              have HE1 := Lib.hid hE1
              have HE2 := Lib.hid hE2
              have HE3 := Lib.hid hE3
              have HNR := Lib.hid (HR.out.ins (show p ≤ k by omega) HZ.out HA.out)
              clear hown2 hg2 hE1 hE2 hE3
              go_roundw
              case rel => exact ⟨i + 1, k + 1, InsD p h (d i), by omega, by go_num, HNR.out, HE1.out, HE2.out, HE3.out⟩
              case measure => simp [intOf]; omega
        · have hgt : decide (p < k) = false := by simp; omega
          have hbw := hbx
          have HA : Hid (∀ a, p ≤ a → a < k → ordC n f (d i) (h a) = 1) := fun a h1 h2 => absurd h1 (by omega)
          go_wp2_with fail
          go_quiet (fail)
          go_wp2_with fail
          go_quiet (fail)
          go_wp2_with fail
          refine at_world (C := Code.wp _ _ _ _) (B := wo.heap.size) (wo := wo) ?_ ?_
          · with_reducible first | exact hbw | exact hbw.drewN _ | exact (hbw.drewN _).drewN _
          intro W9 hb9
          have hs9 := hb9.size
          have hw9 := hb.trans (hb9.mono hwo)
          have hown9 := ownsRow_below HOW.out hb9
          have lg9 : g < W9.heap.size := (hown9.lt g rfl).2
          have HD9 : ∀ c, c < 8 → W9.cell? ⟨bl, offl + i * 8 + c, none⟩ = some (.int .i64 (d i c)) := fun c hc => (hw9.cell (p := ⟨bl, offl + i * 8 + c, none⟩) hbl).trans (HCL.out i hlt c hc)
          obtain ⟨e0, e1, e2, e3, e4, e5, e6, e7⟩ := OrdV.row8 (w := W9) HD9
          have HONE := Lib.hid (mono_one HOW.out.1 HX.out)
          have HC9 : Hid (∀ j u, xs[j]? = some u → W9.cell? ((⟨g, 0, none⟩ : Addr).add j) = some u) := hown9.cells (g := g) rfl
          have O1 : Hid ((W9.alloc (.cells (vec8 (d i)) 36)).drew.ownsRow w.heap.size 36 8 (.slice (some ⟨W9.heap.size, 0, none⟩) 1 1) 1 (vec8 (d i)).toList) := ownsRow_mono (own_vecM W9 (d i)) (by omega)
          have R0 : Hid (Reads (W9.alloc (.cells (vec8 (d i)) 36)).drew W9.heap.size 8 (some ⟨g, 0, none⟩) k xs) := ((Reads.of_own hown9).alloc (Nat.le_refl _) _).drew
          have hww9 : w.heap.size ≤ W9.heap.size := hw9.size
          have HB9 := Lib.hid hb9
          have HWB : Hid (Below W9.heap.size W9 (W9.alloc (.cells (vec8 (d i)) 36)).drew) := ((Below.refl _ _).alloc (Nat.le_refl _) _).drew
          have hq0 : (0 : Int) ≤ (p : Int) := by omega
          have hq1 : (p : Int) ≤ (k : Int) := by omega
          have hq2 : (k : Int) ≤ (c : Int) := by omega
          have hq3 : (p : Int) ≤ (c : Int) := by omega
          have hp13 : k ≤ 12 := by omega
          have HBB := Lib.hid hb
          clear hown9 HD9 hw9 hb9 hbx hbw hb0 HC HD HOr hb
          have hki63 : k ≤ 9223372036854775807 := by omega
          obtain ⟨M, hM⟩ : ∃ M, M = 1 + (k - p) := ⟨_, rfl⟩
          by_cases hcp : c = p
          · obtain rfl : p = k := by omega
            subst hcp
            have hM1 : (1 : Nat) ≤ M := by omega
            go_region_law (refine step_append_any _ rfl (.tmp 54) (.tmp 57) 32 rfl w.heap.size 36 i0 _ 8 64 Tryz.underlying32 HI.out hz0 hz1 hz2 rfl (by omega) _ 1 (vec8 (d i)).toList rfl O1.out W9.heap.size (some ⟨g, 0, none⟩) 0 0 [] rfl Reads.none_ (fun u hu => absurd hu List.not_mem_nil) (by simp only [maxLen]; omega) (by omega) (by simp; omega) ?_; intro v1 w1 hown1 hg1 hat1)
            have hown1' : w1.ownsRow w.heap.size 36 8 v1 M ((vec8 (d i)).toList ++ xs.drop (c * 8)) := by
              rw [hM, show 1 + (c - c) = 1 + 0 from by omega, List.drop_eq_nil_of_le (by rw [HOW.out.1]; exact Nat.le_refl _)]; exact hown1
            have hg1' : (W9.alloc (.cells (vec8 (d i)) 36)).drew.grownBy w1 (some W9.heap.size) := hg1
            have hw1 : Below W9.heap.size W9 w1 := HWB.out.grown hg1' HWB.out.size (fun g h => by injection h with h; omega)
            clear hat1 hg1 hg1' hown1 O1 R0 HWB
            obtain ⟨A1, c1, rfl, hn1, hcm1, hA1⟩ := own_slice hown1'
            obtain ⟨g1, rfl, -, hl1⟩ := hA1 (by omega)
            have HN1 := Lib.hid hown1'
            have HW1 := Lib.hid hw1
            have HT : Hid ((xs.take (c * 8)).length = c * 8) := by show (xs.take (c * 8)).length = c * 8; rw [List.length_take, HOW.out.1]; omega
            have HHO : Hid (∀ b, some (⟨g, 0, none⟩ : Addr) = some b → ∀ j u, (xs.take (c * 8))[j]? = some u → w1.cell? (b.add j) = some u) := fun b hb j u hu => by
              injection hb with hb
              subst hb
              rw [List.getElem?_take] at hu
              by_cases hj : j < c * 8
              · rw [if_pos hj] at hu
                refine (hw1.cell ?_).trans (HC9.out j u hu)
                rw [add_none]; exact lg9
              · rw [if_neg hj] at hu; cases hu
            have HCN : Hid (∀ j u, ((vec8 (d i)).toList ++ xs.drop (c * 8))[j]? = some u → w1.cell? ((⟨g1, 0, none⟩ : Addr).add j) = some u) := hown1'.cells (g := g1) rfl
            have HLN : Hid (((vec8 (d i)).toList ++ xs.drop (c * 8)).length = M * 8) := hown1'.1
            have HON : Hid (∀ u ∈ (vec8 (d i)).toList ++ xs.drop (c * 8), u.oneCell' = true) := fun u hu => by
              rcases List.mem_append.1 hu with h1 | h1
              · exact vec8_one _ u h1
              · exact HONE.out u (List.mem_of_mem_drop h1)
            have hM13 : M ≤ 13 := by omega
            have HMM := Lib.hid hM
            clear hown1' hw1 hA1 hM e0 e1 e2 e3 e4 e5 e6 e7
            go_wp2_with (at_builtin; refine wpList_append_grows w1 rfl (.tmp 62) (.tmp 63) 32 rfl 36 i0 _ 8 64 Tryz.underlying32 HI.out hz0 hz1 hz2 rfl (by omega) (some ⟨g, 0, none⟩) c c (xs.take (c * 8)) rfl (fun h => by cases h) HT.out HHO.out ⟨g1, 0, none⟩ M c1 ((vec8 (d i)).toList ++ xs.drop (c * 8)) rfl HLN.out HCN.out HON.out (by omega) (by simp only [maxLen]; omega) (by omega) ?_; intro v2 w2 hown2 hg2)
            have hend := ins_end HMM.out HOW.out HX.out (show c ≤ c by omega) HBB.out HB9.out HW1.out hown2 hg2
            obtain ⟨hE1, hE2, hE3⟩ := hend
            have HE1 := Lib.hid hE1
            have HE2 := Lib.hid hE2
            have HE3 := Lib.hid hE3
            have HNR := Lib.hid (HR.out.ins (show c ≤ c by omega) HZ.out HA.out)
            clear hown2 hg2 hE1 hE2 hE3
            go_roundw
            case rel => exact ⟨i + 1, c + 1, InsD c h (d i), by omega, by go_num, HNR.out, HE1.out, HE2.out, HE3.out⟩
            case measure => simp [intOf]; omega
          · have hM1 : (1 : Nat) ≤ M := by omega
            have R3 : Hid (Reads (W9.alloc (.cells (vec8 (d i)) 36)).drew W9.heap.size 8 (some ⟨g, p * 8, none⟩) (k - p) (xs.drop (p * 8))) := by
              have h9 := R0.out.cut hp hkc
              rw [if_neg hcp] at h9
              simp only [Option.map_some, add_none, Nat.zero_add] at h9
              exact h9
            go_region_law (refine step_append_any _ rfl (.tmp 54) (.tmp 57) 32 rfl w.heap.size 36 i0 _ 8 64 Tryz.underlying32 HI.out hz0 hz1 hz2 rfl (by omega) _ 1 (vec8 (d i)).toList rfl O1.out W9.heap.size (some ⟨g, p * 8, none⟩) (k - p) (c - p) (xs.drop (p * 8)) rfl R3.out (fun u hu => HONE.out u (List.mem_of_mem_drop hu)) (by simp only [maxLen]; omega) (by omega) (by simp; omega) ?_; intro v1 w1 hown1 hg1 hat1)
            have hown1' : w1.ownsRow w.heap.size 36 8 v1 M ((vec8 (d i)).toList ++ xs.drop (p * 8)) := by
              rw [hM]; exact hown1
            have hg1' : (W9.alloc (.cells (vec8 (d i)) 36)).drew.grownBy w1 (some W9.heap.size) := hg1
            have hw1 : Below W9.heap.size W9 w1 := HWB.out.grown hg1' HWB.out.size (fun g h => by injection h with h; omega)
            clear hat1 hg1 hg1' hown1 O1 R0 HWB R3
            obtain ⟨A1, c1, rfl, hn1, hcm1, hA1⟩ := own_slice hown1'
            obtain ⟨g1, rfl, -, hl1⟩ := hA1 (by omega)
            have HN1 := Lib.hid hown1'
            have HW1 := Lib.hid hw1
            have HT : Hid ((xs.take (p * 8)).length = p * 8) := by show (xs.take (p * 8)).length = p * 8; rw [List.length_take, HOW.out.1]; omega
            have HHO : Hid (∀ b, some (⟨g, 0, none⟩ : Addr) = some b → ∀ j u, (xs.take (p * 8))[j]? = some u → w1.cell? (b.add j) = some u) := fun b hb j u hu => by
              injection hb with hb
              subst hb
              rw [List.getElem?_take] at hu
              by_cases hj : j < p * 8
              · rw [if_pos hj] at hu
                refine (hw1.cell ?_).trans (HC9.out j u hu)
                rw [add_none]; exact lg9
              · rw [if_neg hj] at hu; cases hu
            have HCN : Hid (∀ j u, ((vec8 (d i)).toList ++ xs.drop (p * 8))[j]? = some u → w1.cell? ((⟨g1, 0, none⟩ : Addr).add j) = some u) := hown1'.cells (g := g1) rfl
            have HLN : Hid (((vec8 (d i)).toList ++ xs.drop (p * 8)).length = M * 8) := hown1'.1
            have HON : Hid (∀ u ∈ (vec8 (d i)).toList ++ xs.drop (p * 8), u.oneCell' = true) := fun u hu => by
              rcases List.mem_append.1 hu with h1 | h1
              · exact vec8_one _ u h1
              · exact HONE.out u (List.mem_of_mem_drop h1)
            have hM13 : M ≤ 13 := by omega
            have HMM := Lib.hid hM
            clear hown1' hw1 hA1 hM e0 e1 e2 e3 e4 e5 e6 e7
            go_wp2_with (at_builtin; refine wpList_append_grows w1 rfl (.tmp 62) (.tmp 63) 32 rfl 36 i0 _ 8 64 Tryz.underlying32 HI.out hz0 hz1 hz2 rfl (by omega) (some ⟨g, 0, none⟩) p p (xs.take (p * 8)) rfl (fun h => by cases h) HT.out HHO.out ⟨g1, 0, none⟩ M c1 ((vec8 (d i)).toList ++ xs.drop (p * 8)) rfl HLN.out HCN.out HON.out (by omega) (by simp only [maxLen]; omega) (by omega) ?_; intro v2 w2 hown2 hg2)
            have hend := ins_end HMM.out HOW.out HX.out (show p ≤ k by omega) HBB.out HB9.out HW1.out hown2 hg2
            obtain ⟨hE1, hE2, hE3⟩ := hend
            have HE1 := Lib.hid hE1
            have HE2 := Lib.hid hE2
            have HE3 := Lib.hid hE3
            have HNR := Lib.hid (HR.out.ins (show p ≤ k by omega) HZ.out HA.out)
            clear hown2 hg2 hE1 hE2 hE3
            go_roundw
            case rel => exact ⟨i + 1, k + 1, InsD p h (d i), by omega, by go_num, HNR.out, HE1.out, HE2.out, HE3.out⟩
            case measure => simp [intOf]; omega
    · obtain rfl : i = m := by omega
      have hS := HR.out
      have hO : MonO wo w.heap.size (.slice (some ⟨g, 0, none⟩) k c) k h := ⟨xs, HOW.out, HX.out⟩
      go_wp2
      go_ret
      exact ⟨⟨_, k, h, rfl, ⟨g, c, rfl⟩, hO.ordV, hS.1, HR.out.small HSM.out (Nat.le_refl _), hS.2.1, hS.2.2.1, hS.2.2.2⟩, hb⟩

end Go.Proofs.YtmkhfgggleplfaaGreat
namespace Go.Proofs.YtmkhfgggleplfaaGreat
open Go.RowKit

theorem rcmp_is {w : World} {v : Value} {n : Nat} {f : Nat → Nat → Int} {a b : Nat → Int} {r : Int} (ho : OrdV w v n f) (hv : validP n f) (ha : Small a) (hb : Small b) (hr : ordC n f a b = r) :
    Calls Tryz.prog 9 #[v, .agg (vec8 a), .agg (vec8 b)] w fun e w' => e = .returned (.int .i64 r) ∧ Below w.heap.size w w' := rcmp_fix ho (vb hv) ha hb hr
theorem elim_is {w : World} {v : Value} {n m : Nat} {f : Nat → Nat → Int} {b : Bool} (hv : IsB b (ElimP n f m)) (ho : OrdV w v n f) (hm : m < 256) : Calls Tryz.prog 19 #[v, .int .u8 m] w fun e w' => e = .returned (.bool b) ∧ Below w.heap.size w w' :=
  (eliminates_any ho hm).mono fun e w' ⟨⟨r, h, hr⟩, hb⟩ => ⟨by rw [h, show r = b from Bool.eq_iff_iff.2 (hr.trans (Iff.symm hv))], hb⟩
theorem relim_is {w : World} {v : Value} {n m : Nat} {f : Nat → Nat → Int} {b : Bool} (hv : IsB b (ElimP n f m)) (ho : OrdV w v n f) (hm : m < 256) (hV : validP n f) : Calls Tryz.prog 20 #[v, .int .u8 m] w fun e w' => e = .returned (.bool b) ∧ Below w.heap.size w w' :=
  (reliminates_any ho hm hV).mono fun e w' ⟨⟨r, h, hr⟩, hb⟩ => ⟨by rw [h, show r = b from Bool.eq_iff_iff.2 (hr.trans (Iff.symm hv))], hb⟩
theorem alike_of {w : World} {v v' : Value} {k k' : Nat} {h h' : Nat → Nat → Int} (ho : OrdV w v k h) (ho' : OrdV w v' k' h') (hs : ∀ i, i < k → Small (h i)) (hs' : ∀ i, i < k' → Small (h' i)) (he : k = k' ∧ ∀ i, i < k → ∀ c, c < 8 → h i c = h' i c) :
    Calls Tryz.prog 16 #[v, v'] w fun e w' => e = .returned (.bool true) ∧ Below w.heap.size w w' :=
  (alike_any ho ho' (fun i hi => (hs i hi).in64) fun i hi => (hs' i hi).in64).mono fun e w' ⟨⟨r, h, hr⟩, hb⟩ => ⟨by rw [h, hr.2 he], hb⟩
def OrdN (n : Nat) (x : Nat → Nat → Int) (w : World) (v : Value) : Prop := ∃ m, m ≤ 6 ∧ m ≤ n ∧ OrdV w v m (madeF x m)
theorem OrdN.below {n : Nat} {x : Nat → Nat → Int} {w w' : World} {v : Value} (h : OrdN n x w v) (hb : Below w.heap.size w w') : OrdN n x w' v := by
  obtain ⟨m, h1, h2, h3⟩ := h
  exact ⟨m, h1, h2, h3.below hb⟩
def MonN (n : Nat) (y : Nat → Nat → Int) (w : World) (v : Value) : Prop := ∃ (m g c : Nat), m ≤ 8 ∧ m ≤ n ∧ v = .slice (some ⟨g, 0, none⟩) m c ∧ OrdV w v m (fun i => monoF (y i))
theorem MonN.below {n : Nat} {x : Nat → Nat → Int} {w w' : World} {v : Value} (h : MonN n x w v) (hb : Below w.heap.size w w') : MonN n x w' v := by
  obtain ⟨m, g, c, h1, h2, h3, h4⟩ := h
  exact ⟨m, g, c, h1, h2, h3, h4.below hb⟩
theorem bit8_in (m : Nat) : In64 (bit8 m) := fun k _ => by unfold bit8; omega
theorem unitF_in (j : Nat) : In64 (unitF j (-1)) := fun k _ => by unfold unitF; split <;> omega
theorem revF_in : ∀ i, i < 8 → In64 (revF i) := fun i _ => by unfold revF; split; exact bit8_in _; exact unitF_in _
theorem elimF_in (m : Nat) : ∀ i, i < 9 → In64 (elimF m i) := fun i _ => by unfold elimF; split; exact bit8_in _; exact revF_in _ (by omega)
/-- a row at the head of a list, in every later world -/
theorem head_reads {W : World} {b : Nat} {x : Nat → Int} (hlt : b < W.heap.size) (h : ∀ k, k < 8 → W.cell? ⟨b, k, none⟩ = some (.int .i64 (x k))) :
    (∀ X, Below W.heap.size W X → X.cell? ⟨b, 0, none⟩ = some (.int .i64 (x 0))) ∧ (∀ X, Below W.heap.size W X → X.cell? ⟨b, 1, none⟩ = some (.int .i64 (x 1))) ∧
    (∀ X, Below W.heap.size W X → X.cell? ⟨b, 2, none⟩ = some (.int .i64 (x 2))) ∧ (∀ X, Below W.heap.size W X → X.cell? ⟨b, 3, none⟩ = some (.int .i64 (x 3))) ∧
    (∀ X, Below W.heap.size W X → X.cell? ⟨b, 4, none⟩ = some (.int .i64 (x 4))) ∧ (∀ X, Below W.heap.size W X → X.cell? ⟨b, 5, none⟩ = some (.int .i64 (x 5))) ∧
    (∀ X, Below W.heap.size W X → X.cell? ⟨b, 6, none⟩ = some (.int .i64 (x 6))) ∧ (∀ X, Below W.heap.size W X → X.cell? ⟨b, 7, none⟩ = some (.int .i64 (x 7))) :=
  have H : ∀ k, k < 8 → ∀ X, Below W.heap.size W X → X.cell? ⟨b, k, none⟩ = some (.int .i64 (x k)) := fun k hk X hX => (hX.cell (p := ⟨b, k, none⟩) hlt).trans (h k hk)
  ⟨H 0 (by omega), H 1 (by omega), H 2 (by omega), H 3 (by omega), H 4 (by omega), H 5 (by omega), H 6 (by omega), H 7 (by omega)⟩

set_option maxHeartbeats 4000000 in
set_option maxRecDepth 100000 in
theorem matches_any {w : World} {s lv : Value} {n m : Nat} {x y : Nat → Nat → Int} {z : Nat → Int} (hr : RowsV w s n x) (hx : ∀ i, i < n → ∀ k, k < 8 → -128 ≤ x i k ∧ x i k ≤ 127) (hl : ExpV w lv m y) (hy : ∀ i, i < m → U16 (y i)) (hz : ∀ i, i < 2 → 0 ≤ z i ∧ z i ≤ 65535) :
    Calls Tryz.prog 3 #[.agg #[s], lv, .agg (ofInts .u16 z 2)] w fun e w' => e = .returned (.bool true) ∧ Below w.heap.size w w' := by
  obtain ⟨a, ha, ha16⟩ : ∃ a : Nat, z 0 = (a : Int) ∧ a < 65536 := ⟨(z 0).toNat, by have := hz 0 (by omega); omega, by have := hz 0 (by omega); omega⟩
  obtain ⟨u, hu, hu16⟩ : ∃ u : Nat, z 1 = (u : Int) ∧ u < 65536 := ⟨(z 1).toNat, by have := hz 1 (by omega); omega, by have := hz 1 (by omega); omega⟩
  have ez : ofInts .u16 z 2 = #[.int .u16 (a : Int), .int .u16 (u : Int)] := by rw [← ha, ← hu]; rfl
  rw [ez]
  obtain ⟨W0, hW0, hb0, hBs, hBk, hs0⟩ := boxes2 w 24 27 #[s] #[.int .u16 (a : Int), .int .u16 (u : Int)]
  have HX := Lib.hid hx
  have HY := Lib.hid hy
  have HR := Lib.hid hr
  have HL := Lib.hid hl
  clear ez ha hu hz hx hy hr hl
  go_enter Tryz.func3, Tryz.ntmps3
  go_wp2_with fail
  rw [← hW0]
  clear hW0
  (with_reducible refine (examples_any W0).mono ?_)
  rintro e w1 ⟨rfl, hb1⟩
  have hBs1 := hBs.below hb1 (by omega)
  have hBk1 := hBk.below hb1 (by omega)
  have hb01 := hb0.trans (hb1.mono hb0.size)
  have hs1 : w.heap.size + 1 < w1.heap.size := by have := hb1.size; omega
  have HR1 := Lib.hid (HR.out.below hb01)
  have HL1 := Lib.hid (HL.out.below hb01)
  clear hBs hBk hb1 hb0 hs0 HR HL
  have ls : ∀ X, Below w1.heap.size w1 X → X.cell? ⟨w.heap.size, 0, none⟩ = some s := fun X hX => (hX.cell (p := ⟨w.heap.size, 0, none⟩) (by show w.heap.size < _; omega)).trans (hBs1.cell 0)
  have lk : ∀ X, Below w1.heap.size w1 X → X.cell? ⟨w.heap.size + 1, 0, none⟩ = some (.int .u16 (a : Int)) := fun X hX => (hX.cell (p := ⟨w.heap.size + 1, 0, none⟩) (by show w.heap.size + 1 < _; omega)).trans (hBk1.cell 0)
  have LK : Hid (∀ X, Below w1.heap.size w1 X → X.cell? ⟨w.heap.size + 1, 1, none⟩ = some (.int .u16 (u : Int))) := fun X hX => (hX.cell (p := ⟨w.heap.size + 1, 1, none⟩) (by show w.heap.size + 1 < _; omega)).trans (hBk1.cell 1)
  clear hBs1 hBk1
  have hwr8 : IntKind.u8.wrap (a : Int) = ((a % 256 : Nat) : Int) := by
    unfold IntKind.wrap; simp [IntKind.bits, IntKind.signed]
  go_upto_region 4 with fail
  go_cut [8, 9, 10] (fun xo xm xk wx => OrdN n x wx xo ∧ MonN m y wx xm ∧ xk = .int .u8 ((a % 256 : Nat) : Int) ∧ Below w1.heap.size w1 wx)
  case first =>
    go_region_held3 (fun w' => Below w1.heap.size w1 w')
      ((first | with_reducible assumption | with_reducible exact (Below.refl _ _).drew | with_reducible exact (by assumption : Below w1.heap.size w1 _).drew))
      (first
        | (go_at_call 6; (with_reducible refine (made_any (HR1.out.below (by assumption)) HX.out).mono ?_); rintro e wl ⟨r, rfl, n', h1, h2, hO, hblO⟩; have HMO : Hid (OrdN n x wl r) := ⟨n', h1, h2, hO.ordV⟩; have hcur := below_step3 (W := w1) (by assumption) hblO; have HBO := Lib.hid hblO; clear h1 h2 hO hblO)
        | (go_at_call 7; (with_reducible refine (monos_any (HL1.out.below (by assumption)) HY.out).mono ?_); rintro e wl ⟨r, rfl, m', ⟨g, c, rfl⟩, h1, h2, hO, hblM⟩; have HMM : Hid (MonN m y wl (.slice (some ⟨g, 0, none⟩) m' c)) := ⟨m', g, c, h1, h2, rfl, hO.ordV⟩; have hcur := below_step3 (W := w1) (by assumption) hblM; have HBM := Lib.hid hblM; clear h1 h2 hO hblM))
    all_goals
      go_wp2_with fail
      go_meet
      first
        | exact ⟨HMO.out.below HBM.out, HMM.out, rfl, hcur⟩
        | exact ⟨HMO.out, HMM.out.below HBO.out, rfl, hcur⟩
  obtain ⟨⟨n', hn6, hn', hO⟩, ⟨m', g, c, hm8, hm', rfl, hM⟩, rfl, hbc⟩ := hcut
  have hV : validP n' (madeF x n') := made_valid hn6 (fun i hi => HX.out i (by omega))
  have HSM : Hid (∀ i, i < m' → Small (monoF (y i))) := fun i hi => small_mono (HY.out i (by omega))
  generalize madeF x n' = f at *
  generalize hd : (fun i => monoF (y i)) = d at *
  have hdd : ∀ i, monoF (y i) = d i := fun i => by rw [← hd]
  have HSD : Hid (∀ i, i < m' → Small (d i)) := fun i hi => by rw [← hdd i]; exact HSM.out i hi
  have ha8 : a % 256 < 256 := Nat.mod_lt _ (by omega)
  clear hd hdd HSM HX HY HR1 HL1 ls lk hwr8
  generalize a % 256 = mk at *
  have HV := Lib.hid hV
  have HO := Lib.hid hO
  have HM := Lib.hid hM
  have hb0c := hb01.trans (hbc.mono hb01.size)
  obtain ⟨_, _, e, hmc, hcm, hB⟩ := hM
  injection e with e1 e2 e3
  subst e1 e3
  have HB := Lib.hid hB
  have hn63 : n' ≤ 24 := by omega
  clear e2 hV hO hB hn' hm'
  go_wp2_with fail
  go_loopw [11] (fun iv wr => ∃ i : Nat, i ≤ m' ∧ iv = .int .i64 i ∧ Below wc.heap.size wc wr) (fun i _ => m' - (intOf i).toNat)
  case atStart => exact ⟨0, Nat.zero_le _, rfl, Below.refl _ _⟩
  case round =>
    obtain ⟨i, hi, rfl, hbw⟩ := hrel
    by_cases hlt : i < m'
    · obtain ⟨bk, off, e, hbl, hcell⟩ := HB.out (by omega)
      injection e with e
      injection e with e1 e2
      subst e1 e2
      have hwcs := hbw.size
      have hcr : ∀ i, i < m' → ∀ c, c < 8 → wr.cell? ⟨g, i * 8 + c, none⟩ = some (.int .i64 (d i c)) := fun i hi c hc => by
        have := hcell i hi c hc
        rw [Nat.zero_add] at this
        exact (hbw.cell (p := ⟨g, i * 8 + c, none⟩) hbl).trans this
      obtain ⟨c0, c1, c2, c3, c4, c5, c6, c7⟩ := row_reads (show g < wr.heap.size by omega) (hcr i hlt)
      obtain ⟨e0, e1, e2, e3, e4, e5, e6, e7⟩ := head_reads (x := d 0) (show g < wr.heap.size by omega) (fun k hk => by have := hcr 0 (by omega) k hk; rwa [Nat.zero_mul, Nat.zero_add] at this)
      have HOr := Lib.hid (HO.out.below hbw)
      have h00 : 0 < m' := by omega
      have hii : (i : Int) < (m' : Int) := by omega
      have hi0 : (0 : Int) ≤ (i : Int) := by omega
      obtain ⟨r, hr⟩ : ∃ r, ordC n' f (d 0) (d i) = r := ⟨_, rfl⟩
      have HRR := Lib.hid hr
      have hS0 := Lib.hid (HSD.out 0 (by omega))
      have hSi := Lib.hid (HSD.out i hlt)
      clear hcell hcr hr
      go_wp2_with fail
      go_region_held3 (fun w' => Below wr.heap.size wr w')
        ((first | with_reducible assumption | with_reducible exact (Below.refl _ _).drew | with_reducible exact (by assumption : Below wr.heap.size wr _).drew))
        (first
          | (go_at_call 8; (with_reducible refine (cmp_fix (HOr.out.below (by assumption)) HV.out hS0.out.out hSi.out.out HRR.out).mono ?_); rintro e wl ⟨rfl, hbl'⟩; have hcur := below_step3 (W := wr) (by assumption) hbl'; clear hbl')
          | (go_at_call 9; (with_reducible refine (rcmp_is (HOr.out.below (by assumption)) HV.out hS0.out hSi.out HRR.out).mono ?_); rintro e wl ⟨rfl, hbl'⟩; have hcur := below_step3 (W := wr) (by assumption) hbl'; clear hbl'))
      go_wp2_with fail
      go_roundw
      case rel => exact ⟨i + 1, by omega, by go_num, below_step3 hbw hcur⟩
      case measure => simp [intOf]; omega
    · obtain rfl : i = m' := by omega
      have ck : wr.cell? ⟨w.heap.size + 1, 1, none⟩ = some (.int .u16 (u : Int)) := LK.out wr (below_step3 hbc hbw)
      go_wp2_with fail
      (with_reducible refine (shuf_at u wr hu16).mono ?_)
      rintro e w2 ⟨rfl, hb2⟩
      go_upto_region 11 with fail
      obtain ⟨W3, hW3, hb3, hQ3, hs3⟩ := boxes1 w2 35 (vec8 (permI (shufP u)))
      rw [← hW3]
      have hwcr := hbw.size
      have hcur : Below w.heap.size w W3 := (hb0c.trans (hbw.mono hb0c.size)).trans (((hb2.trans (hb3.mono hb2.size))).mono (Nat.le_trans hb0c.size hwcr))
      have hcr := hbw.trans ((hb2.trans (hb3.mono hb2.size)).mono hwcr)
      have HO := Lib.hid (HO.out.below hcr)
      have HM := Lib.hid (HM.out.below hcr)
      have hq3 : w2.heap.size < W3.heap.size := by omega
      clear hW3 ck hb2 hb3 hs3 hcr hbw hbc hb01 hb0c hs1 LK HB hwcr
      generalize w2.heap.size = pb at *
      generalize hq : permI (shufP u) = q at *
      clear hq
      go_wp2_with fail
      (with_reducible refine (full_end HO.out).mono ?_)
      rintro e wn ⟨⟨c1, N1, F1, r1, hR1, rfl, hO1⟩, hb⟩
      have hcur := hcur.trans (hb.mono hcur.size)
      have HO := Lib.hid (HO.out.below hb)
      have HM := Lib.hid (HM.out.below hb)
      have HR1 := Lib.hid hR1
      have HO1 := Lib.hid hO1
      have hQ3 := hQ3.below hb hq3
      have hq3 : pb < wn.heap.size := Nat.lt_of_lt_of_le hq3 hb.size
      clear hb hR1 hO1
      go_wp2_with fail
      (with_reducible refine (rfull_end HO.out).mono ?_)
      rintro e wn ⟨⟨c2, N2, F2, r2, hR2, rfl, hO2⟩, hb⟩
      obtain ⟨rfl, rfl, hE⟩ := HR1.out.one hR2
      have hcur := hcur.trans (hb.mono hcur.size)
      have HO := Lib.hid (HO.out.below hb)
      have HM := Lib.hid (HM.out.below hb)
      have HO1 := Lib.hid (HO1.out.below hb)
      have HO2 := Lib.hid hO2
      have HE := Lib.hid hE
      have hQ3 := hQ3.below hb hq3
      have hq3 : pb < wn.heap.size := Nat.lt_of_lt_of_le hq3 hb.size
      clear hb hR2 hO2 hE
      obtain ⟨d0, d1, d2, d3, d4, d5, d6, d7⟩ := hQ3.eight
      go_wp2_with fail
      clear d0 d1 d2 d3 d4 d5 d6 d7
      (with_reducible refine (perm_end (q := q) HO.out).mono ?_)
      rintro e wn ⟨⟨c3, N3, G3, r3, hR3, rfl, hO3⟩, hb⟩
      have hcur := hcur.trans (hb.mono hcur.size)
      have HO := Lib.hid (HO.out.below hb)
      have HM := Lib.hid (HM.out.below hb)
      have HO1 := Lib.hid (HO1.out.below hb)
      have HO2 := Lib.hid (HO2.out.below hb)
      have HR3 := Lib.hid hR3
      have HO3 := Lib.hid hO3
      have hQ3 := hQ3.below hb hq3
      have hq3 : pb < wn.heap.size := Nat.lt_of_lt_of_le hq3 hb.size
      clear hb hR3 hO3
      obtain ⟨d0, d1, d2, d3, d4, d5, d6, d7⟩ := hQ3.eight
      go_wp2_with fail
      clear d0 d1 d2 d3 d4 d5 d6 d7
      (with_reducible refine (rperm_end (q := q) HO.out).mono ?_)
      rintro e wn ⟨⟨c4, N4, G4, r4, hR4, rfl, hO4⟩, hb⟩
      obtain ⟨rfl, rfl, hE4⟩ := HR3.out.one hR4
      have hcur := hcur.trans (hb.mono hcur.size)
      have HO := Lib.hid (HO.out.below hb)
      have HM := Lib.hid (HM.out.below hb)
      have HO1 := Lib.hid (HO1.out.below hb)
      have HO2 := Lib.hid (HO2.out.below hb)
      have HO3 := Lib.hid (HO3.out.below hb)
      have HO4 := Lib.hid hO4
      have HE4 := Lib.hid hE4
      clear hb hR4 hO4 hE4 hQ3 hq3
      go_wp2_with fail
      (with_reducible refine (same_of HO1.out HO2.out HR1.out.in64 HE.out).mono ?_)
      rintro e wn ⟨rfl, hb⟩
      have hcur := hcur.trans (hb.mono hcur.size)
      have HO := Lib.hid (HO.out.below hb)
      have HM := Lib.hid (HM.out.below hb)
      have HO3 := Lib.hid (HO3.out.below hb)
      have HO4 := Lib.hid (HO4.out.below hb)
      clear hb HO1 HO2 HE HR1
      go_wp2_with fail
      (with_reducible refine (same_of HO3.out HO4.out HR3.out.in64 HE4.out).mono ?_)
      rintro e wn ⟨rfl, hb⟩
      have hcur := hcur.trans (hb.mono hcur.size)
      have HO := Lib.hid (HO.out.below hb)
      have HM := Lib.hid (HM.out.below hb)
      clear hb HO3 HO4 HE4 HR3
      go_wp2_with fail
      (with_reducible refine (sort_any HO.out HM.out (vb HV.out) HSD.out (by omega)).mono ?_)
      rintro e wn ⟨⟨s1, k1, h1, rfl, ⟨g1, p1, rfl⟩, hS1, hk1, hsm1, hin1, hall1, hdec1⟩, hb⟩
      have hcur := hcur.trans (hb.mono hcur.size)
      have HO := Lib.hid (HO.out.below hb)
      have HM := Lib.hid (HM.out.below hb)
      have HS1 := Lib.hid hS1
      have HSM1 := Lib.hid hsm1
      have HQ1 := Lib.hid (And.intro hin1 (And.intro hall1 hdec1))
      clear hb hS1 hsm1 hin1 hall1 hdec1
      go_wp2_with fail
      (with_reducible refine (rsort_any HO.out HM.out (vb HV.out) HSD.out (by omega)).mono ?_)
      rintro e wn ⟨⟨s2, k2, h2, rfl, ⟨g2, p2, rfl⟩, hS2, hk2, hsm2, hin2, hall2, hdec2⟩, hb⟩
      have hcur := hcur.trans (hb.mono hcur.size)
      have HO := Lib.hid (HO.out.below hb)
      have HS1 := Lib.hid (HS1.out.below hb)
      have HS2 := Lib.hid hS2
      have HSM2 := Lib.hid hsm2
      have HEQ : Hid (k1 = k2 ∧ ∀ i, i < k1 → ∀ c, c < 8 → h1 i c = h2 i c) :=
        sorted_one hdec2 HQ1.out.2.2 (fun a ha => by obtain ⟨j, hj, e⟩ := hin2 a ha; obtain ⟨b, hb, e'⟩ := HQ1.out.2.1 j hj; exact ⟨b, hb, fun c hc => (e c hc).trans (e' c hc).symm⟩)
          (fun a ha => by obtain ⟨j, hj, e⟩ := HQ1.out.1 a ha; obtain ⟨b, hb, e'⟩ := hall2 j hj; exact ⟨b, hb, fun c hc => (e c hc).trans (e' c hc).symm⟩)
      clear hb hS2 hsm2 hin2 hall2 hdec2 HQ1 HM
      go_wp2_with fail
      (with_reducible refine (alike_of HS1.out HS2.out HSM1.out HSM2.out HEQ.out).mono ?_)
      rintro e wn ⟨rfl, hb⟩
      have hcur := hcur.trans (hb.mono hcur.size)
      have HO := Lib.hid (HO.out.below hb)
      clear hb HS1 HS2 HSM1 HSM2 HEQ hk1 hk2
      obtain ⟨vb, hvb⟩ : ∃ vb : Bool, IsB vb (ElimP n' f mk) := by
        rcases Classical.em (ElimP n' f mk) with h | h
        · exact ⟨true, fun _ => h, fun _ => rfl⟩
        · exact ⟨false, fun h' => (by cases h'), fun h' => absurd h' h⟩
      have HVB := Lib.hid hvb
      clear hvb
      have HEND : Hid True := trivial
      cases vb <;>
      · go_wp2_with fail
        (with_reducible refine (elim_is HVB.out HO.out ha8).mono ?_)
        rintro e wn ⟨rfl, hb⟩
        have hcur := hcur.trans (hb.mono hcur.size)
        have HO := Lib.hid (HO.out.below hb)
        clear hb
        go_wp2_with fail
        (with_reducible refine (relim_is HVB.out HO.out ha8 HV.out).mono ?_)
        rintro e wn ⟨rfl, hb⟩
        have hcur := hcur.trans (hb.mono hcur.size)
        clear hb
        go_wp2_with fail
        (with_reducible refine (lex_any _).mono ?_)
        rintro e wn ⟨v1, rfl, hO1, hb⟩
        have hcur := hcur.trans (hb.mono hcur.size)
        have HO1 := Lib.hid hO1.ordV
        clear hb hO1
        go_wp2_with fail
        (with_reducible refine (rlex_any _).mono ?_)
        rintro e wn ⟨v2, rfl, hO2, hb⟩
        have hcur := hcur.trans (hb.mono hcur.size)
        have HO1 := Lib.hid (HO1.out.below hb)
        have HO2 := Lib.hid hO2.ordV
        clear hb hO2
        go_wp2_with fail
        (with_reducible refine (same_of HO1.out HO2.out (fun i hi => absurd hi (by omega)) (fun _ _ _ _ => rfl)).mono ?_)
        rintro e wn ⟨rfl, hb⟩
        have hcur := hcur.trans (hb.mono hcur.size)
        clear hb HO1 HO2
        go_wp2_with fail
        (with_reducible refine (graded_any _).mono ?_)
        rintro e wn ⟨v1, rfl, hO1, hb⟩
        have hcur := hcur.trans (hb.mono hcur.size)
        have HO1 := Lib.hid hO1.ordV
        clear hb hO1
        go_wp2_with fail
        (with_reducible refine (rgraded_any _).mono ?_)
        rintro e wn ⟨v2, rfl, hO2, hb⟩
        have hcur := hcur.trans (hb.mono hcur.size)
        have HO1 := Lib.hid (HO1.out.below hb)
        have HO2 := Lib.hid hO2.ordV
        clear hb hO2
        go_wp2_with fail
        (with_reducible refine (same_of HO1.out HO2.out (fun _ _ => bit8_in _) (fun _ _ _ _ => rfl)).mono ?_)
        rintro e wn ⟨rfl, hb⟩
        have hcur := hcur.trans (hb.mono hcur.size)
        clear hb HO1 HO2
        go_wp2_with fail
        (with_reducible refine (reverse_any _).mono ?_)
        rintro e wn ⟨v1, rfl, hO1, hb⟩
        have hcur := hcur.trans (hb.mono hcur.size)
        have HO1 := Lib.hid hO1.ordV
        clear hb hO1
        go_wp2_with fail
        (with_reducible refine (rreverse_any _).mono ?_)
        rintro e wn ⟨v2, rfl, hO2, hb⟩
        have hcur := hcur.trans (hb.mono hcur.size)
        have HO1 := Lib.hid (HO1.out.below hb)
        have HO2 := Lib.hid hO2.ordV
        clear hb hO2
        go_wp2_with fail
        (with_reducible refine (same_of HO1.out HO2.out revF_in (fun _ _ _ _ => rfl)).mono ?_)
        rintro e wn ⟨rfl, hb⟩
        have hcur := hcur.trans (hb.mono hcur.size)
        clear hb HO1 HO2
        go_wp2_with fail
        (with_reducible refine (eliminating_any mk _ ha8).mono ?_)
        rintro e wn ⟨v1, rfl, hO1, hb⟩
        have hcur := hcur.trans (hb.mono hcur.size)
        have HO1 := Lib.hid hO1.ordV
        clear hb hO1
        go_wp2_with fail
        (with_reducible refine (reliminating_any mk _ ha8).mono ?_)
        rintro e wn ⟨v2, rfl, hO2, hb⟩
        have hcur := hcur.trans (hb.mono hcur.size)
        have HO1 := Lib.hid (HO1.out.below hb)
        have HO2 := Lib.hid hO2.ordV
        clear hb hO2
        go_wp2_with fail
        (with_reducible refine (same_of HO1.out HO2.out (elimF_in mk) (fun _ _ _ _ => rfl)).mono ?_)
        rintro e wn ⟨rfl, hb⟩
        have hcur := hcur.trans (hb.mono hcur.size)
        clear hb HO1 HO2
        go_wp2
        go_ret
        exact ⟨rfl, hcur⟩

end Go.Proofs.YtmkhfgggleplfaaGreat
