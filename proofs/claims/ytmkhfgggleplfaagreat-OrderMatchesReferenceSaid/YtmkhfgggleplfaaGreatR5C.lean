/-
  The walks of the reference's named orders: In, Lex, Graded, unit, Reverse, Eliminating. Conditions: none.
-/
import Derived.Test.YtmkhfgggleplfaaGreatR5B
import Derived.Test.YtmkhfgggleplfaaGreatOrdG
namespace Go.Proofs.YtmkhfgggleplfaaGreat
set_option linter.unusedSimpArgs false
set_option linter.unusedVariables false
open Go.RowKit

/-- a bit of a mask -/
def rbit (m k : Nat) : Bool := decide (m / 2 ^ k % 2 = 1)
theorem rin_any (m k : Nat) (w : World) (hm : m < 256) (hk : k < 8) :
    Calls Tryz.prog 48 #[.int .u8 m, .int .i64 k] w fun e w' => e = .returned (.bool (rbit m k)) ∧ Below w.heap.size w w' := by
  have hk0 : (0 : Int) ≤ (k : Int) := by omega
  have hki : (k : Int) < 8 := by omega
  rcases Nat.mod_two_eq_zero_or_one (m / 2 ^ k) with e1 | e1
  · have a1 : bits .and .u8 ((m : Int) / 2 ^ k) 1 = 0 := by rw [and_bit hm, e1]; rfl
    have hb : rbit m k = false := by unfold rbit; rw [e1]; rfl
    rw [hb]
    clear e1 hb
    go_enter Tryz.func48, Tryz.ntmps48
    go_wp2
    go_ret
    exact ⟨rfl, Below.refl _ _⟩
  · have a1 : bits .and .u8 ((m : Int) / 2 ^ k) 1 = 1 := by rw [and_bit hm, e1]; rfl
    have hb : rbit m k = true := by unfold rbit; rw [e1]; rfl
    rw [hb]
    clear e1 hb
    go_enter Tryz.func48, Tryz.ntmps48
    go_wp2
    go_ret
    exact ⟨rfl, Below.refl _ _⟩

theorem rlex_any (w : World) : Calls Tryz.prog 22 #[] w fun e w' => ∃ v, e = .returned v ∧ OrdO w' w.heap.size v 0 (fun _ _ => 0) ∧ Below w.heap.size w w' := by
  go_enter Tryz.func22, Tryz.ntmps22
  go_wp2
  go_ret
  exact ⟨_, rfl, ⟨[], World.ownsRow_made w #[] 0 (Nat.le_refl _) (by simp [maxLen]) rfl, fun i hi => absurd hi (by omega)⟩, (Below.refl _ _).alloc (Nat.le_refl _) _⟩
theorem rgraded_any (w : World) : Calls Tryz.prog 24 #[] w fun e w' => ∃ v, e = .returned v ∧ OrdO w' w.heap.size v 1 (fun _ => bit8 255) ∧ Below w.heap.size w w' := by
  go_enter Tryz.func24, Tryz.ntmps24
  go_wp2
  go_ret
  exact ⟨_, rfl, own_vec w (bit8 255), (Below.refl _ _).alloc (Nat.le_refl _) _⟩
set_option maxHeartbeats 1000000 in
theorem runit_any (k : Nat) (x : Int) (w : World) (hk : k < 8) :
    Calls Tryz.prog 40 #[.int .i64 k, .int .i64 x] w fun e w' => e = .returned (.agg (vec8 (unitF k x))) ∧ Below w.heap.size w w' := by
  rcases eight hk with h | h | h | h | h | h | h | h <;> subst h
  all_goals
    go_enter Tryz.func40, Tryz.ntmps40
    go_wp2
    refine bodyPost_ret (v := .agg (vec8 (unitF _ x))) (by simp [results, Tryz.results40, go_sem, unitF]) rfl ⟨rfl, ?_⟩
    exact ((Below.refl _ _).alloc (Nat.le_refl _) _).alloc (by simp) _
set_option maxHeartbeats 1000000 in
set_option maxRecDepth 100000 in
theorem rreverse_any (w : World) : Calls Tryz.prog 26 #[] w fun e w' => ∃ v, e = .returned v ∧ OrdO w' w.heap.size v 8 revF ∧ Below w.heap.size w w' := by
  obtain ⟨i0, hi0, hz0, hz1, hz2⟩ := info_parts info_row
  go_enter Tryz.func26, Tryz.ntmps26
  go_wp2_with fail
  refine (rgraded_any w).mono ?_
  rintro e w1 ⟨v1, rfl, hv1, hb1⟩
  go_wp2_with fail
  go_loopw [1, 2] (fun lv kv wr => ∃ j : Nat, j ≤ 7 ∧ kv = .int .i64 ((7 - j : Nat) : Int) ∧ OrdO wr w.heap.size lv (j + 1) revF ∧ Below w.heap.size w wr) (fun _ k _ => (intOf k).toNat)
  case atStart => exact ⟨0, Nat.zero_le _, rfl, hv1.congr (fun i hi k hk => by rw [show i = 0 from by omega]; rfl), hb1⟩
  case round =>
    obtain ⟨j, hj, rfl, ⟨xs, hown, hx⟩, hb⟩ := hrel
    obtain ⟨m, hm⟩ : ∃ m, m = 7 - j := ⟨_, rfl⟩
    rw [← hm]
    have HM := Lib.hid hm
    by_cases hm0 : 0 < m
    · have hmi : (0 : Int) < (m : Int) := by omega
      have hm1 : ((m : Int) - 1) = ((m - 1 : Nat) : Int) := by omega
      have HX := Lib.hid hx
      have HO := Lib.hid hown
      have hm7 : m ≤ 7 := by omega
      clear hx hown hm
      go_wp2_with fail
      refine (runit_any m (-1) wr (by omega)).mono ?_
      rintro e w2 ⟨rfl, hb2⟩
      have hr := Lib.hid (vec8_reads w2 (unitF m (-1)))
      have hW2 : Below wr.heap.size wr (w2.alloc (.cells (vec8 (unitF m (-1))) 35)) := hb2.alloc hb2.size _
      have hown2 := Lib.hid (ownsRow_below HO.out hW2)
      have hsz := hb.size
      have hsz2 := hb2.size
      go_wp2_with (at_builtin; refine wpList_append_any _ rfl (.tmp 8) (.tmp 11) _ rfl w.heap.size 35 i0 _ 8 64 Tryz.underlying30 hi0 hz0 hz1 hz2 rfl (by omega) _ (j + 1) xs rfl hown2.out (w2.heap.size + 1) (some ⟨w2.heap.size, 0, none⟩) 1 1 (vec8 (unitF m (-1))).toList rfl hr.out (vec8_one _) (by simp only [maxLen]; omega) (by omega) (by simp; omega) ?_; intro v3 w3 hown3 hg3 hat3)
      go_roundw
      case rel =>
        have hm := HM.out
        refine ⟨j + 1, by omega, ?_, (OrdO.push HX.out HO.out.1 hown3).congr ?_, (hb.trans (hW2.mono hb.size)).grown hg3 (by simp; omega) (fun g h => (hown2.out.lt g h).1)⟩
        · rw [show 7 - (j + 1) = m - 1 from by omega]; try rfl
        · intro i hi k hk
          by_cases h : i < j + 1
          · simp [h]
          · simp only [h, if_false]
            rw [revF, if_neg (by omega), show 8 - i = m from by omega]
      case measure => simp [intOf]; omega
    · obtain rfl : m = 0 := by omega
      go_wp2
      go_ret
      exact ⟨_, rfl, by rw [show j + 1 = 8 from by omega] at hown hx; exact ⟨xs, hown, hx⟩, hb⟩


theorem own_vecR (w : World) (g : Nat → Int) : (w.alloc (.cells (vec8 g) 35)).ownsRow w.heap.size 35 8 (.slice (some ⟨w.heap.size, 0, none⟩) 1 1) 1 (vec8 g).toList :=
  ⟨rfl, .inr ⟨_, 1, _, rfl, Nat.le_refl _, heap_alloc_new w _, Nat.le_refl _, by simp [maxLen], rfl, rfl⟩⟩
theorem vec8_getL (g : Nat → Int) {k : Nat} (hk : k < 8) : (vec8 g).toList[0 * 8 + k]? = some (.int .i64 (g k)) := by
  rw [Nat.zero_mul, Nat.zero_add, Array.getElem?_toList]; exact vec8_get g hk
theorem rbit_val (m k : Nat) : (rbit m k = true → bit8 m k = 1) ∧ (rbit m k = false → bit8 m k = 0) := by
  unfold rbit bit8
  have := Nat.mod_lt (m / 2 ^ k) (show 0 < 2 by omega)
  constructor
  · intro h; have : m / 2 ^ k % 2 = 1 := by simpa using h
    rw [this]; rfl
  · intro h; have h1 : ¬ m / 2 ^ k % 2 = 1 := by simpa using h
    have : m / 2 ^ k % 2 = 0 := by omega
    rw [this]; rfl
set_option maxHeartbeats 1000000 in
set_option maxRecDepth 100000 in
theorem reliminating_any (m : Nat) (w : World) (hm : m < 256) : Calls Tryz.prog 28 #[.int .u8 m] w fun e w' => ∃ v, e = .returned v ∧ OrdO w' w.heap.size v 9 (elimF m) ∧ Below w.heap.size w w' := by
  obtain ⟨i0, hi0, hz0, hz1, hz2⟩ := info_parts info_row
  go_enter Tryz.func28, Tryz.ntmps28
  go_wp2_with fail
  obtain ⟨W0, hW0, hbl, hB2, hsz⟩ := boxes1 w 35 (vec8 fun _ => 0)
  try rw [← hW0]
  clear hW0
  go_loopw [4] (fun kv wr => ∃ k : Nat, k ≤ 8 ∧ kv = .int .i64 k ∧ Blk wr w.heap.size 35 (vec8 fun j => if j < k then bit8 m j else 0) ∧ Below w.heap.size w wr) (fun k _ => 8 - (intOf k).toNat)
  case atStart => exact ⟨0, Nat.zero_le _, rfl, hB2, hbl⟩
  case round =>
    obtain ⟨k, hk, rfl, h3, hb⟩ := hrel
    by_cases hk8 : k < 8
    · have hki : (k : Int) < 8 := by omega
      have hstep : ∀ x, x = bit8 m k → vec8 (fun j => if j = k then x else if j < k then bit8 m j else 0) = vec8 (fun j => if j < k + 1 then bit8 m j else 0) := fun x hx => vec8_congr fun j hj => by
        by_cases e : j = k
        · subst e; rw [if_pos rfl, if_pos (Nat.lt_succ_self j), hx]
        · rw [if_neg e]
          by_cases h : j < k
          · rw [if_pos h, if_pos (by omega)]
          · rw [if_neg h, if_neg (by omega)]
      have HS := Lib.hid hstep
      clear hstep
      have hv := rbit_val m k
      cases hbt : rbit m k
      · have HV := Lib.hid (hv.2 hbt)
        clear hv
        go_wp2_with fail
        refine (rin_any m k wr hm hk8).mono ?_
        rw [hbt]
        rintro e w1 ⟨rfl, hb1⟩
        have h3' := h3.below hb1 h3.lt
        go_wp2_with fail
        go_roundw
        case rel =>
          refine ⟨k + 1, by omega, by go_num, ?_, hb.trans (hb1.mono hb.size)⟩
          rw [← HS.out 0 HV.out.symm]
          rwa [vec8_congr (h := fun j => if j = k then 0 else if j < k then bit8 m j else 0)] at h3'
          intro j hj
          by_cases e : j = k
          · subst e; rw [if_pos rfl, if_neg (by omega)]
          · rw [if_neg e]
        case measure => simp [intOf]; omega
      · have HV := Lib.hid (hv.1 hbt)
        clear hv
        go_wp2_with fail
        refine (rin_any m k wr hm hk8).mono ?_
        rw [hbt]
        rintro e w1 ⟨rfl, hb1⟩
        have h3' := h3.below hb1 h3.lt
        have hc := h3'.at8 hk8
        have hf := h3'.frozen k
        have hlt := h3'.lt
        go_wp2_with fail
        go_roundw
        case rel =>
          refine ⟨k + 1, by omega, by go_num, ?_, (hb.trans (hb1.mono hb.size)).setCell (Nat.le_refl _) _⟩
          rw [← HS.out 1 HV.out.symm]
          exact h3'.set8 hk8 1
        case measure => simp [intOf]; omega
    · obtain rfl : k = 8 := by omega
      replace h3 : Blk wr w.heap.size 35 (vec8 (bit8 m)) := by
        rwa [vec8_congr (h := bit8 m)] at h3
        intro j hj; rw [if_pos hj]
      have lR := h3.lread8 h3.lt
      have HV1 := Lib.hid (own_vecR wr (bit8 m))
      have hsw := hb.size
      clear h3
      go_wp2_with fail
      go_region_held3 (fun w' => Below wr.heap.size wr w')
        ((repeat' (first | with_reducible assumption | with_reducible exact Below.refl _ _ | with_reducible refine Below.drew ?_ | with_reducible refine Below.alloc ?_ (by first | exact Nat.le_refl _ | (simp only [heap_drew, alloc_size]; omega) | omega) _)))
        (first
          | (go_at_call 26; refine (rreverse_any _).mono ?_; rintro e wl ⟨vl, rfl, hO, hbl⟩; have hcur := below_step5 (W := wr) (by assumption) hbl; have hsl := hcur.size; obtain ⟨A, c, rfl, hn8, hc8, -⟩ := id hO.ordV; have hr := Lib.hid hO.ordV.reads; clear hO)
          | (refine step_append_any _ rfl (.tmp 16) (.tmp 17) 30 rfl wr.heap.size 35 i0 _ 8 64 Tryz.underlying30 hi0 hz0 hz1 hz2 rfl (by omega) _ 1 (vec8 (bit8 m)).toList rfl ?_ wl.heap.size A 8 c (flat revF 8) rfl ?_ (flat_one _ _) (by simp only [maxLen]; omega) (by omega) ?_ ?_; (focus (exact ownsRow_below HV1.out hbl.undrew)); (focus (exact hr.out)); (focus (exact (hcur).size)); intro v3 w3 hown3 hg3 hat3; have hcur3 := (hcur).grown hg3 (hcur).size (fun g h => ((ownsRow_below HV1.out hbl.undrew).lt g h).1); have HOW := Lib.hid hown3; clear hat3 hg3 hown3)
          | (refine step_append_any _ rfl (.tmp 16) (.tmp 17) 30 rfl wr.heap.size 35 i0 _ 8 64 Tryz.underlying30 hi0 hz0 hz1 hz2 rfl (by omega) _ 1 (vec8 (bit8 m)).toList rfl ?_ wl.heap.size A 8 c (flat revF 8) rfl ?_ (flat_one _ _) (by simp only [maxLen]; omega) (by omega) ?_ ?_; (focus (exact ownsRow_mono (own_vecR wl (bit8 m)) hcur.size)); (focus (exact hr.out.alloc (Nat.le_refl _) _)); (focus (exact (hcur.alloc hcur.size (.cells (vec8 (bit8 m)) 35)).size)); intro v3 w3 hown3 hg3 hat3; have hcur3 := (hcur.alloc hcur.size (.cells (vec8 (bit8 m)) 35)).grown hg3 (hcur.alloc hcur.size (.cells (vec8 (bit8 m)) 35)).size (fun g h => ((ownsRow_mono (own_vecR wl (bit8 m)) hcur.size).lt g h).1); have HOW := Lib.hid hown3; clear hat3 hg3 hown3))
      all_goals
        go_wp2
        go_ret
        refine ⟨_, rfl, OrdO.mono ((OrdO.append (f := fun _ => bit8 m) (g := revF) (fun i hi k hk => ?_) rfl HOW.out).congr ?_) hsw, hb.trans (hcur3.mono hsw)⟩
        · rw [show i = 0 from by omega]; exact vec8_getL _ hk
        · intro i hi k hk
          unfold catF elimF
          by_cases h : i < 1
          · rw [if_pos h, if_pos (by omega)]
          · rw [if_neg h, if_neg (by omega)]

end Go.Proofs.YtmkhfgggleplfaaGreat
