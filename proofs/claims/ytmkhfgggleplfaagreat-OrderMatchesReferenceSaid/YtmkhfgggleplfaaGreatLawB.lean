/-
  The walks of small functions of the laws of orders: Power, alike. Conditions: exponents of type int.
  The walks of mono and monos: monomials out of exponents. Conditions: exponents of type uint16.
-/
import Derived.Test.YtmkhfgggleplfaaGreatMonB
namespace Go.Proofs.YtmkhfgggleplfaaGreat
set_option linter.unusedSimpArgs false
set_option linter.unusedVariables false
open Go.RowKit

set_option maxHeartbeats 1000000 in
theorem power_any (k : Nat) (x : Int) (w : World) (hk : k < 8) :
    Calls Tryz.prog 31 #[.int .i64 k, .int .i64 x] w fun e w' => e = .returned (.agg (vec8 (unitF k x))) ∧ Below w.heap.size w w' := by
  rcases eight hk with h | h | h | h | h | h | h | h <;> subst h
  all_goals
    go_enter Tryz.func31, Tryz.ntmps31
    go_wp2
    refine bodyPost_ret (v := .agg (vec8 (unitF _ x))) (by simp [results, Tryz.results31, go_sem, unitF]) rfl ⟨rfl, ?_⟩
    exact ((Below.refl _ _).alloc (Nat.le_refl _) _).alloc (by simp) _

/-- eight cells of a monomial of a list -/
theorem OrdV.cells {w : World} {b off n i : Nat} {f : Nat → Nat → Int} (h : ∀ i, i < n → ∀ k, k < 8 → w.cell? ⟨b, off + i * 8 + k, none⟩ = some (.int .i64 (f i k))) (hi : i < n) (wr : World) (hb : Below w.heap.size w wr) (hlt : b < w.heap.size) :
    wr.cell? ⟨b, off + i * 8, none⟩ = some (.int .i64 (f i 0)) ∧ wr.cell? ⟨b, off + i * 8 + 1, none⟩ = some (.int .i64 (f i 1)) ∧ wr.cell? ⟨b, off + i * 8 + 2, none⟩ = some (.int .i64 (f i 2)) ∧ wr.cell? ⟨b, off + i * 8 + 3, none⟩ = some (.int .i64 (f i 3)) ∧
    wr.cell? ⟨b, off + i * 8 + 4, none⟩ = some (.int .i64 (f i 4)) ∧ wr.cell? ⟨b, off + i * 8 + 5, none⟩ = some (.int .i64 (f i 5)) ∧ wr.cell? ⟨b, off + i * 8 + 6, none⟩ = some (.int .i64 (f i 6)) ∧ wr.cell? ⟨b, off + i * 8 + 7, none⟩ = some (.int .i64 (f i 7)) :=
  OrdV.row8 (w := wr) fun k hk => (hb.cell (p := ⟨b, off + i * 8 + k, none⟩) hlt).trans (h i hi k hk)

set_option maxHeartbeats 1000000 in
set_option maxRecDepth 100000 in
theorem alike_any {w : World} {v v' : Value} {n n' : Nat} {d d' : Nat → Nat → Int} (ho : OrdV w v n d) (ho' : OrdV w v' n' d') (hd : ∀ i, i < n → In64 (d i)) (hd' : ∀ i, i < n' → In64 (d' i)) :
    Calls Tryz.prog 16 #[v, v'] w fun e w' => Says (n = n' ∧ ∀ i, i < n → ∀ c, c < 8 → d i c = d' i c) e ∧ Below w.heap.size w w' := by
  obtain ⟨A, c, rfl, hnc, hcm, hA⟩ := ho
  obtain ⟨A', c', rfl, hnc', hcm', hA'⟩ := ho'
  by_cases hn : n = n'
  · subst hn
    go_enter Tryz.func16, Tryz.ntmps16
    go_wp2_with fail
    go_loopw [5] (fun iv wr => ∃ i : Nat, i ≤ n ∧ iv = .int .i64 i ∧ (∀ j, j < i → ∀ c, c < 8 → d j c = d' j c) ∧ Below w.heap.size w wr) (fun i _ => n - (intOf i).toNat)
    case atStart => exact ⟨0, Nat.zero_le _, rfl, fun j hj => absurd hj (by omega), Below.refl _ _⟩
    case round =>
      obtain ⟨i, hi, rfl, hz, hbw⟩ := hrel
      by_cases hlt : i < n
      · obtain ⟨bk, off, rfl, hbl, hcell⟩ := hA (by omega)
        obtain ⟨bk', off', rfl, hbl', hcell'⟩ := hA' (by omega)
        obtain ⟨c0, c1, c2, c3, c4, c5, c6, c7⟩ := OrdV.cells hcell hlt wr hbw hbl
        obtain ⟨d0, d1, d2, d3, d4, d5, d6, d7⟩ := OrdV.cells hcell' hlt wr hbw hbl'
        have heq := eq_mono (hd i hlt) (hd' i hlt)
        have hiff := same8_iff (d i) (d' i)
        have HZ := Lib.hid hz
        clear hz hA hcell hA' hcell'
        cases hs : same8 (d i) (d' i)
        · rw [hs] at heq hiff
          have HN : Hid (¬ ∀ c, c < 8 → d i c = d' i c) := fun h => by have := hiff.2 h; cases this
          clear hs hiff
          go_wp2_with fail
          go_quiet (fail)
          go_wp2
          go_ret
          exact ⟨⟨false, rfl, ⟨fun h => (by cases h), fun ⟨_, h⟩ => absurd (h i hlt) HN.out⟩⟩, hbw.drewN _⟩
        · rw [hs] at heq hiff
          have HN : Hid (∀ c, c < 8 → d i c = d' i c) := hiff.1 rfl
          clear hs hiff
          go_wp2_with fail
          go_quiet (fail)
          go_wp2_with fail
          go_roundw
          case rel =>
            refine ⟨i + 1, by omega, by go_num, fun j hj => ?_, hbw.drewN _⟩
            by_cases h : j < i
            · exact HZ.out j h
            · rw [show j = i from by omega]; exact HN.out
          case measure => simp [intOf]; omega
      · obtain rfl : i = n := by omega
        have HZ := Lib.hid hz
        clear hz
        go_wp2
        go_ret
        exact ⟨⟨true, rfl, ⟨fun _ => ⟨by trivial, HZ.out⟩, fun _ => rfl⟩⟩, hbw⟩
  · have hni : ((n : Int) == (n' : Int)) = false := by simp; omega
    have hni2 : ((n : Int) != (n' : Int)) = true := by simp; omega
    have HN := Lib.hid hn
    clear hn
    go_enter Tryz.func16, Tryz.ntmps16
    go_wp2
    go_ret
    exact ⟨⟨false, rfl, ⟨fun h => (by cases h), fun ⟨h, _⟩ => absurd h HN.out⟩⟩, Below.refl _ _⟩

end Go.Proofs.YtmkhfgggleplfaaGreat
namespace Go.Proofs.YtmkhfgggleplfaaGreat
open Go.RowKit

abbrev vecU (g : Nat → Int) : Array Value := #[.int .u16 (g 0), .int .u16 (g 1), .int .u16 (g 2), .int .u16 (g 3), .int .u16 (g 4), .int .u16 (g 5), .int .u16 (g 6), .int .u16 (g 7)]
theorem vecU_get (g : Nat → Int) {k : Nat} (hk : k < 8) : (vecU g)[k]? = some (.int .u16 (g k)) := by
  rcases eight hk with h | h | h | h | h | h | h | h <;> subst h <;> rfl
def U16 (x : Nat → Int) : Prop := ∀ k, k < 8 → 0 ≤ x k ∧ x k ≤ 65535
def monoF (x : Nat → Int) : Nat → Int := fun k => x k % 20000

set_option maxHeartbeats 1000000 in
set_option maxRecDepth 100000 in
theorem mono_any (x : Nat → Int) (w : World) (hx : U16 x) :
    Calls Tryz.prog 32 #[.agg (vecU x)] w fun e w' => e = .returned (.agg (vec8 (monoF x))) ∧ Below w.heap.size w w' := by
  go_enter Tryz.func32, Tryz.ntmps32
  go_wp2_with fail
  obtain ⟨W0, hW0, hbl, hB2, hB3, hB4, hsz⟩ := boxes3 w 56 36 36 (vecU x) (vec8 fun _ => 0) (vec8 fun _ => 0)
  rw [← hW0]
  clear hW0
  go_loopw [4] (fun kv wr => ∃ k : Nat, k ≤ 8 ∧ kv = .int .i64 k ∧ Blk wr w.heap.size 56 (vecU x) ∧ Blk wr (w.heap.size + 1) 36 (vec8 fun _ => 0) ∧ Blk wr (w.heap.size + 1 + 1) 36 (vec8 fun j => if j < k then monoF x j else 0) ∧ Below w.heap.size w wr) (fun k _ => 8 - (intOf k).toNat)
  case atStart => exact ⟨0, Nat.zero_le _, rfl, hB2, hB3, hB4, hbl⟩
  case round =>
    obtain ⟨k, hk, rfl, h2, h3, h4, hb⟩ := hrel
    by_cases hk8 : k < 8
    · have hki : (k : Int) < 8 := by omega
      have hc := h4.at8 hk8
      have hf := h4.frozen k
      have hcx := (h2.cell k).trans (vecU_get x hk8)
      obtain ⟨x1, x2⟩ := hx k hk8
      go_wp2_with fail
      go_roundw
      case rel =>
        refine ⟨k + 1, by omega, by go_num, h2.far (by show w.heap.size ≠ w.heap.size + 1 + 1; omega) _, h3.far (by show w.heap.size + 1 ≠ w.heap.size + 1 + 1; omega) _, ?_, hb.setCell (by show w.heap.size ≤ w.heap.size + 1 + 1; omega) _⟩
        have := h4.set8 hk8 (monoF x k)
        rwa [vec8_congr (h := fun j => if j < k + 1 then monoF x j else 0)] at this
        intro j hj
        by_cases e : j = k
        · subst e; rw [if_pos rfl, if_pos (Nat.lt_succ_self j)]
        · rw [if_neg e]
          by_cases h : j < k
          · rw [if_pos h, if_pos (by omega)]
          · rw [if_neg h, if_neg (by omega)]
      case measure => simp [intOf]; omega
    · obtain rfl : k = 8 := by omega
      obtain ⟨c0, c1, c2, c3, c4, c5, c6, c7⟩ := h4.eight
      obtain ⟨d0, d1, d2, d3, d4, d5, d6, d7⟩ := h3.eight
      obtain ⟨e0, e1, e2, e3, e4, e5, e6, e7⟩ := h3.eightF
      go_wp2
      refine bodyPost_ret (v := .agg (vec8 (monoF x))) (by simp [results, Tryz.results32, go_sem, d0, d1, d2, d3, d4, d5, d6, d7]) rfl ⟨rfl, ?_⟩
      have hs : w.heap.size ≤ w.heap.size + 1 := by omega
      exact (((((((hb.setCell hs _).setCell hs _).setCell hs _).setCell hs _).setCell hs _).setCell hs _).setCell hs _).setCell hs _

/-- a list of exponents -/
def ExpV (w : World) (v : Value) (n : Nat) (x : Nat → Nat → Int) : Prop :=
  ∃ A c, v = .slice A n c ∧ n ≤ c ∧ c ≤ 9223372036854775807 ∧ (0 < n → ∃ b off, A = some ⟨b, off, none⟩ ∧ b < w.heap.size ∧ ∀ i, i < n → ∀ k, k < 8 → w.cell? ⟨b, off + i * 8 + k, none⟩ = some (.int .u16 (x i k)))
theorem ExpV.below {w w' : World} {v : Value} {n : Nat} {f : Nat → Nat → Int} (h : ExpV w v n f) (hb : Below w.heap.size w w') : ExpV w' v n f := by
  obtain ⟨A, c, e, h1, h2, h3⟩ := h
  refine ⟨A, c, e, h1, h2, fun h0 => ?_⟩
  obtain ⟨b, off, e, hlt, hc⟩ := h3 h0
  exact ⟨b, off, e, Nat.lt_of_lt_of_le hlt hb.size, fun i hi k hk => (hb.cell (p := ⟨b, off + i * 8 + k, none⟩) hlt).trans (hc i hi k hk)⟩
theorem MonO.push {w' : World} {base n : Nat} {v' : Value} {f : Nat → Nat → Int} {g : Nat → Int} {xs : List Value} (hx : ∀ i, i < n → ∀ k, k < 8 → xs[i * 8 + k]? = some (.int .i64 (f i k))) (hl : xs.length = n * 8)
    (hown : w'.ownsRow base 36 8 v' (n + 1) (xs ++ (vec8 g).toList)) : MonO w' base v' (n + 1) (fun i => if i < n then f i else g) := by
  refine ⟨_, hown, fun i hi k hk => ?_⟩
  by_cases h : i < n
  · rw [List.getElem?_append_left (by omega)]
    show _ = some (Value.int .i64 ((if i < n then f i else g) k))
    rw [if_pos h]; exact hx i h k hk
  · rw [List.getElem?_append_right (by omega), hl, show i * 8 + k - n * 8 = k from by omega]
    show _ = some (Value.int .i64 ((if i < n then f i else g) k))
    rw [if_neg h, Array.getElem?_toList]; exact vec8_get g hk
theorem mono_reads (w : World) (g : Nat → Int) : Reads (w.alloc (.cells (vec8 g) 36)) (w.heap.size + 1) 8 (some ⟨w.heap.size, 0, none⟩) 1 (vec8 g).toList := by
  refine ⟨rfl, fun _ => ⟨_, rfl, by show w.heap.size < w.heap.size + 1; omega, fun j u hu => ?_⟩⟩
  rw [add_none, Nat.zero_add, (Blk.new w 36 (vec8 g)).cell]
  simpa using hu
set_option maxHeartbeats 1000000 in
set_option maxRecDepth 100000 in
theorem monos_any {w : World} {v : Value} {n : Nat} {x : Nat → Nat → Int} (ho : ExpV w v n x) (hx : ∀ i, i < n → U16 (x i)) :
    Calls Tryz.prog 7 #[v] w fun e w' => ∃ r : Value, e = .returned r ∧ ∃ m : Nat, (∃ g c, r = .slice (some ⟨g, 0, none⟩) m c) ∧ m ≤ 8 ∧ m ≤ n ∧ MonO w' w.heap.size r m (fun i => monoF (x i)) ∧ Below w.heap.size w w' := by
  obtain ⟨A, c, rfl, hnc, hcm, hA⟩ := ho
  obtain ⟨i0, hi0, hz0, hz1, hz2⟩ := info_parts info_mono
  go_enter Tryz.func7, Tryz.ntmps7
  go_wp2_with fail
  obtain ⟨W0, hW0, hb0, hO0⟩ : ∃ W0, W0 = w.alloc (.cells #[] 36) ∧ Below w.heap.size w W0 ∧ MonO W0 w.heap.size (.slice (some ⟨w.heap.size, 0, none⟩) 0 0) 0 (fun i => monoF (x i)) :=
    ⟨_, rfl, (Below.refl _ _).alloc (Nat.le_refl _) _, ⟨[], World.ownsRow_made w #[] 0 (Nat.le_refl _) (by simp [maxLen]) rfl, fun i hi => absurd hi (by omega)⟩⟩
  rw [← hW0]
  clear hW0
  go_loopw [3, 4] (fun lv iv wr => ∃ i : Nat, i ≤ n ∧ i ≤ 8 ∧ iv = .int .i64 i ∧ (∃ g c, lv = .slice (some ⟨g, 0, none⟩) i c) ∧ MonO wr w.heap.size lv i (fun i => monoF (x i)) ∧ Below w.heap.size w wr) (fun _ i _ => n - (intOf i).toNat)
  case atStart => exact ⟨0, Nat.zero_le _, by omega, rfl, ⟨_, _, rfl⟩, hO0, hb0⟩
  case round =>
    obtain ⟨i, hi, hi8, rfl, hlv, ⟨xs, hown, hxs⟩, hb⟩ := hrel
    by_cases hlt : i < n
    · by_cases h8 : i < 8
      · have h8i : (i : Int) < 8 := by omega
        obtain ⟨bk, off, rfl, hbl, hcell⟩ := hA (by omega)
        have hcr : ∀ k, k < 8 → wr.cell? ⟨bk, off + i * 8 + k, none⟩ = some (.int .u16 (x i k)) := fun k hk => (hb.cell (p := ⟨bk, off + i * 8 + k, none⟩) hbl).trans (hcell i hlt k hk)
        have c0 : wr.cell? ⟨bk, off + i * 8, none⟩ = some (.int .u16 (x i 0)) := hcr 0 (by omega)
        have c1 := hcr 1 (by omega)
        have c2 := hcr 2 (by omega)
        have c3 := hcr 3 (by omega)
        have c4 := hcr 4 (by omega)
        have c5 := hcr 5 (by omega)
        have c6 := hcr 6 (by omega)
        have c7 := hcr 7 (by omega)
        have HX := Lib.hid hxs
        have HO := Lib.hid hown
        have HA := Lib.hid hA
        clear hxs hown hA hcell hcr hlv
        go_wp2_with fail
        refine (mono_any (x i) wr (hx i hlt)).mono ?_
        rintro e w2 ⟨rfl, hb2⟩
        have hr := Lib.hid (mono_reads w2 (monoF (x i)))
        have hW2 : Below wr.heap.size wr (w2.alloc (.cells (vec8 (monoF (x i))) 36)) := hb2.alloc hb2.size _
        have hown2 := Lib.hid (ownsRow_below HO.out hW2)
        have hsz := hb.size
        have hsz2 := hb2.size
        go_wp2_with (at_builtin; refine wpList_append_any _ rfl (.tmp 16) (.tmp 22) _ rfl w.heap.size 36 i0 _ 8 64 Tryz.underlying32 hi0 hz0 hz1 hz2 rfl (by omega) _ i xs rfl hown2.out (w2.heap.size + 1) (some ⟨w2.heap.size, 0, none⟩) 1 1 (vec8 (monoF (x i))).toList rfl hr.out (vec8_one _) (by simp only [maxLen]; omega) (by omega) (by simp; omega) ?_; intro v3 w3 hown3 hg3 hat3)
        go_roundw
        case rel =>
          obtain ⟨A3, c3', rfl, h31, h32, h33⟩ := own_slice hown3
          obtain ⟨g3, rfl, _, _⟩ := h33 (by omega)
          refine ⟨i + 1, by omega, by omega, by go_num, ⟨g3, c3', rfl⟩, (MonO.push HX.out HO.out.1 hown3).congr ?_, (hb.trans (hW2.mono hb.size)).grown hg3 (by simp; omega) (fun g h => (hown2.out.lt g h).1)⟩
          intro j hj k hk
          by_cases h : j < i
          · simp [h]
          · simp only [h, if_false]; rw [show j = i from by omega]
        case measure => simp [intOf]; omega
      · obtain rfl : i = 8 := by omega
        obtain ⟨g, cg, rfl⟩ := hlv
        go_wp2
        go_ret
        exact ⟨_, rfl, 8, ⟨g, cg, rfl⟩, Nat.le_refl _, hi, ⟨xs, hown, hxs⟩, hb⟩
    · obtain rfl : i = n := by omega
      obtain ⟨g, cg, rfl⟩ := hlv
      go_wp2
      go_ret
      exact ⟨_, rfl, i, ⟨g, cg, rfl⟩, hi8, Nat.le_refl _, ⟨xs, hown, hxs⟩, hb⟩

end Go.Proofs.YtmkhfgggleplfaaGreat
