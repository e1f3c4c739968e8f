/-
  The walk of Made: an order out of raw rows. Conditions: entries of type int8.
  The walk of Made: an order out of raw rows. Conditions: entries of type int8.
-/
import Derived.Test.YtmkhfgggleplfaaGreatOrdB
import Derived.Test.YtmkhfgggleplfaaGreatOrdP
import Derived.Deep.CutBlock
import Derived.Deep.DeepCutAuto
namespace Go.Proofs.YtmkhfgggleplfaaGreat
set_option linter.unusedSimpArgs false
set_option linter.unusedVariables false
open Go.RowKit

/-- a list of rows of eight int8 -/
def RowsV (w : World) (v : Value) (n : Nat) (x : Nat → Nat → Int) : Prop :=
  ∃ A c, v = .slice A n c ∧ n ≤ c ∧ c ≤ 9223372036854775807 ∧ (0 < n → ∃ b off, A = some ⟨b, off, none⟩ ∧ b < w.heap.size ∧ ∀ i, i < n → ∀ k, k < 8 → w.cell? ⟨b, off + i * 8 + k, none⟩ = some (.int .i8 (x i k)))
theorem RowsV.below {w w' : World} {v : Value} {n : Nat} {f : Nat → Nat → Int} (h : RowsV w v n f) (hb : Below w.heap.size w w') : RowsV w' v n f := by
  obtain ⟨A, c, e, h1, h2, h3⟩ := h
  refine ⟨A, c, e, h1, h2, fun h0 => ?_⟩
  obtain ⟨b, off, e, hlt, hc⟩ := h3 h0
  exact ⟨b, off, e, Nat.lt_of_lt_of_le hlt hb.size, fun i hi k hk => (hb.cell (p := ⟨b, off + i * 8 + k, none⟩) hlt).trans (hc i hi k hk)⟩
/-- the first entry of a column that is not 0 -/
def firstNZ (x : Nat → Nat → Int) (k : Nat) : Nat → Int
  | 0 => 0
  | n + 1 => if firstNZ x k n = 0 then x n k else firstNZ x k n
def madeF (x : Nat → Nat → Int) (m : Nat) : Nat → Nat → Int := fun i k => if firstNZ x k m < 0 then -(x i k) else x i k
theorem firstNZ_zero {x : Nat → Nat → Int} {k : Nat} : ∀ {n}, firstNZ x k n = 0 → ∀ i, i < n → x i k = 0
  | 0, _ => fun i h => absurd h (by omega)
  | n + 1, h => fun i hi => by
    rw [firstNZ] at h
    by_cases h0 : firstNZ x k n = 0
    · rw [if_pos h0] at h
      rcases Nat.lt_or_ge i n with h1 | h1
      · exact firstNZ_zero h0 i h1
      · rw [show i = n from by omega]; exact h
    · rw [if_neg h0] at h; exact absurd h h0
theorem firstNZ_at {x : Nat → Nat → Int} {k : Nat} : ∀ {n}, firstNZ x k n ≠ 0 → ∃ i, i < n ∧ x i k = firstNZ x k n ∧ ∀ j, j < i → x j k = 0
  | 0, h => absurd rfl h
  | n + 1, h => by
    by_cases h0 : firstNZ x k n = 0
    · refine ⟨n, by omega, by rw [firstNZ, if_pos h0], fun j hj => firstNZ_zero h0 j hj⟩
    · obtain ⟨i, h1, h2, h3⟩ := firstNZ_at h0
      exact ⟨i, by omega, by rw [firstNZ, if_neg h0]; exact h2, h3⟩
/-- what Made makes is a valid order -/
theorem made_valid {x : Nat → Nat → Int} {m : Nat} (hm : m ≤ 6) (hx : ∀ i, i < m → ∀ k, k < 8 → -128 ≤ x i k ∧ x i k ≤ 127) : validP m (madeF x m) := by
  refine ⟨by omega, fun i hi k hk => ?_⟩
  have h1 := hx i hi k hk
  refine ⟨?_, ?_, fun h => ?_⟩
  · unfold madeF; split <;> omega
  · unfold madeF; split <;> omega
  · have hne : firstNZ x k m ≠ 0 := fun h0 => by
      have := firstNZ_zero h0 i hi
      unfold madeF at h
      rw [h0, if_neg (by omega)] at h
      omega
    obtain ⟨j, hj, he, hz⟩ := firstNZ_at hne
    rw [begun_iff]
    refine ⟨j, ?_, ?_⟩
    · rcases Nat.lt_trichotomy j i with h2 | h2 | h2
      · exact h2
      · subst h2
        unfold madeF at h
        split at h <;> omega
      · have := hz i h2
        unfold madeF at h
        split at h <;> omega
    · unfold madeF
      split <;> omega

end Go.Proofs.YtmkhfgggleplfaaGreat
namespace Go.Proofs.YtmkhfgggleplfaaGreat
open Go.RowKit

theorem OrdO.cell {w : World} {base n : Nat} {g c i k : Nat} {f : Nat → Nat → Int} (h : OrdO w base (.slice (some ⟨g, 0, none⟩) n c) n f) (hi : i < n) (hk : k < 8) :
    w.cell? ⟨g, i * 8 + k, none⟩ = some (.int .i64 (f i k)) ∧ w.frozen? ⟨g, i * 8 + k, none⟩ = false := by
  obtain ⟨xs, h1, h2⟩ := h
  have := h1.cells (g := g) rfl _ _ (h2 i hi k hk)
  rw [add_none, Nat.zero_add] at this
  refine ⟨this, ?_⟩
  rcases h1.2 with ⟨_, h0⟩ | ⟨g', cap, cur, e, _, hg, _⟩
  · omega
  · injection e with e _ _
    injection e with e
    injection e with e
    subst e
    exact Blk.frozen (cs := cur) (t := 35) hg _
theorem OrdO.drewN {w : World} {base n : Nat} {v : Value} {f : Nat → Nat → Int} (h : OrdO w base v n f) (k : Nat) : OrdO (w.drewN k) base v n f := h
/-- a number is put into an owned row -/
theorem OrdO.put {w : World} {base n : Nat} {g c i k : Nat} {y : Int} {f : Nat → Nat → Int} (h : OrdO w base (.slice (some ⟨g, 0, none⟩) n c) n f) (hi : i < n) (hk : k < 8) :
    OrdO (w.setCell ⟨g, i * 8 + k, none⟩ (.int .i64 y)) base (.slice (some ⟨g, 0, none⟩) n c) n (fun i' k' => if i' = i ∧ k' = k then y else f i' k') := by
  obtain ⟨xs, h1, h2⟩ := h
  obtain ⟨hl, h3⟩ := id h1
  refine ⟨xs.set (i * 8 + k) (.int .i64 y), ⟨by rw [List.length_set]; exact hl, ?_⟩, fun i' hi' k' hk' => ?_⟩
  · rcases h3 with ⟨_, h0⟩ | ⟨g', cap, cur, e, hb, hg, hn, hm, hs, ht⟩
    · omega
    · refine .inr ⟨g', cap, cur.setIfInBounds (i * 8 + k) (.int .i64 y), e, hb, ?_, hn, hm, by rw [Array.size_setIfInBounds]; exact hs, ?_⟩
      · injection e with e _ _
        injection e with e
        injection e with e
        subst e
        exact Blk.set_ (t := 35) hg _ _
      · rw [Array.toList_setIfInBounds, List.take_set, ht]
  · show _ = some (Value.int .i64 (if i' = i ∧ k' = k then y else f i' k'))
    by_cases e : i' = i ∧ k' = k
    · rw [if_pos e, e.1, e.2, List.getElem?_set_self (by omega)]
    · rw [if_neg e, List.getElem?_set_ne (by omega)]; exact h2 i' hi' k' hk'
set_option maxHeartbeats 4000000 in
set_option maxRecDepth 100000 in
theorem made_any {w : World} {s : Value} {n : Nat} {x : Nat → Nat → Int} (ho : RowsV w s n x) (hx : ∀ i, i < n → ∀ k, k < 8 → -128 ≤ x i k ∧ x i k ≤ 127) :
    Calls Tryz.prog 6 #[.agg #[s]] w fun e w' => ∃ r : Value, e = .returned r ∧ ∃ m : Nat, m ≤ 6 ∧ m ≤ n ∧ OrdO w' w.heap.size r m (madeF x m) ∧ Below w.heap.size w w' := by
  obtain ⟨A, c, rfl, hnc, hcm, hA⟩ := ho
  obtain ⟨i0, hi0, hz0, hz1, hz2⟩ := info_parts info_row
  go_enter Tryz.func6, Tryz.ntmps6
  go_upto_block 0 with fail
  obtain ⟨W0, hW0, hb0, hB0, hO0⟩ : ∃ W0, W0 = (w.alloc (.cells #[.slice A n c] 24)).alloc (.cells #[] 35) ∧ Below w.heap.size w W0 ∧ W0.cell? ⟨w.heap.size, 0, none⟩ = some (.slice A n c) ∧
      OrdO W0 (w.heap.size + 1) (.slice (some ⟨w.heap.size + 1, 0, none⟩) 0 0) 0 x :=
    ⟨_, rfl, ((Below.refl _ _).alloc (Nat.le_refl _) _).alloc (by simp) _, ((Blk.new w 24 #[.slice A n c]).alloc _).cell 0, by
      have e : (w.alloc (.cells #[.slice A n c] 24)).heap.size = w.heap.size + 1 := by simp
      exact ⟨[], by have := World.ownsRow_made (e := 35) (size := 8) (base := w.heap.size + 1) (w.alloc (.cells #[.slice A n c] 24)) #[] 0 (by omega) (by simp [maxLen]) rfl; rwa [e] at this, fun i hi => absurd hi (by omega)⟩⟩
  rw [← hW0]
  clear hW0
  go_cut [3] (fun lv wx => ∃ m : Nat, m ≤ 6 ∧ m ≤ n ∧ OrdO wx (w.heap.size + 1) lv m x ∧ Below w.heap.size w wx)
  case first =>
    go_wp2_with fail
    go_loopw [3, 4] (fun lv iv wr => ∃ i : Nat, i ≤ n ∧ i ≤ 6 ∧ iv = .int .i64 i ∧ wr.cell? ⟨w.heap.size, 0, none⟩ = some (.slice A n c) ∧ OrdO wr (w.heap.size + 1) lv i x ∧ Below w.heap.size w wr) (fun _ i _ => n - (intOf i).toNat)
    case atStart => exact ⟨0, Nat.zero_le _, by omega, rfl, hB0, hO0, hb0⟩
    case round =>
      obtain ⟨i, hi, hi6, rfl, hB, hO, hb⟩ := hrel
      by_cases hlt : i < n
      · by_cases h6 : i < 6
        · have h6i : (i : Int) < 6 := by omega
          obtain ⟨bk, off, rfl, hbl, hcell⟩ := hA (by omega)
          have hws := World.block_lt_of_cell? wr _ hB
          obtain ⟨W1, hW1, hb1, hR1, hs1⟩ : ∃ W1, W1 = wr.alloc (.cells (vec8 fun _ => 0) 35) ∧ Below wr.heap.size wr W1 ∧ Blk W1 wr.heap.size 35 (vec8 fun _ => 0) ∧ W1.heap.size = wr.heap.size + 1 :=
            ⟨_, rfl, (Below.refl _ _).alloc (Nat.le_refl _) _, Blk.new _ _ _, by simp⟩
          have HO := Lib.hid hO
          have HA := Lib.hid hA
          have HC := Lib.hid hcell
          clear hO hA hcell
          go_wp2_with fail
          rw [← hW1]
          clear hW1
          have hB1 : W1.cell? ⟨w.heap.size, 0, none⟩ = some (.slice (some ⟨bk, off, none⟩) n c) := (hb1.cell (p := ⟨w.heap.size, 0, none⟩) hws).trans hB
          clear hB
          have hO1 := Lib.hid (HO.out.below hb1)
          have hbb := hb.trans (hb1.mono hb.size)
          have hszr := hb.size
          generalize hgr : wr.heap.size = rb at *
          go_loopw [6] (fun kv wk => ∃ k : Nat, k ≤ 8 ∧ kv = .int .i64 k ∧ Blk wk rb 35 (vec8 fun j => if j < k then x i j else 0) ∧ Only rb W1 wk) (fun k _ => 8 - (intOf k).toNat)
          case atStart => exact ⟨0, Nat.zero_le _, rfl, hR1, Only.refl _ _⟩
          case round =>
            obtain ⟨k, hk, rfl, hR, hOn⟩ := hrel
            have hBk : wr.cell? ⟨w.heap.size, 0, none⟩ = some (.slice (some ⟨bk, off, none⟩) n c) := (hOn.cell (p := ⟨w.heap.size, 0, none⟩) (by show w.heap.size < _; omega) (by show w.heap.size ≠ rb; omega)).trans hB1
            by_cases hk8 : k < 8
            · have hki : (k : Int) < 8 := by omega
              have hcx : wr.cell? ⟨bk, off + i * 8 + k, none⟩ = some (.int .i8 (x i k)) := (hOn.cell (p := ⟨bk, off + i * 8 + k, none⟩) (by show bk < _; omega) (by show bk ≠ rb; omega)).trans ((hbb.cell (p := ⟨bk, off + i * 8 + k, none⟩) hbl).trans (HC.out i hlt k hk8))
              have hcc := hR.at8 hk8
              have hff := hR.frozen k
              obtain ⟨x1, x2⟩ := hx i hlt k hk8
              go_wp2_with fail
              go_roundw
              case rel =>
                refine ⟨k + 1, by omega, by go_num, ?_, hOn.setCell (p := ⟨rb, k, none⟩) rfl _⟩
                have := hR.set8 hk8 (x i k)
                rwa [vec8_congr (h := fun j => if j < k + 1 then x i j else 0)] at this
                intro j hj
                by_cases e : j = k
                · subst e; rw [if_pos rfl, if_pos (Nat.lt_succ_self j)]
                · rw [if_neg e]
                  by_cases h : j < k
                  · rw [if_pos h, if_pos (by omega)]
                  · rw [if_neg h, if_neg (by omega)]
              case measure => simp [intOf]; omega
            · obtain rfl : k = 8 := by omega
              have hR8 : Blk wr rb 35 (vec8 (x i)) := by
                rw [vec8_congr (h := x i) (fun j hj => if_pos hj)] at hR
                exact hR
              obtain ⟨c0, c1, c2, c3, c4, c5, c6, c7⟩ := hR8.eight
              obtain ⟨xs, hown0, hxs⟩ := HO.out
              have hnb : u3.ownBlock = none ∨ u3.ownBlock ≠ some rb := by
                cases hob : u3.ownBlock with
                | none => exact .inl rfl
                | some k => exact .inr (fun e => by injection e with e; have := (hown0.lt k hob).2; omega)
              have hown1 : wr.ownsRow (w.heap.size + 1) 35 8 u3 i xs := by
                have h1 := ownsRow_below hown0 (hgr ▸ hb1)
                exact h1.kept (row := some rb) ⟨hOn.os, hOn.tape, hOn.output, hOn.size, fun k hk hne => hOn.block k hk (fun e => hne (by rw [e]))⟩ hnb
              have hbk := hbb.trans (hOn.below (B := w.heap.size) hszr hbb.size)
              have hW2 : Below wr.heap.size wr (wr.alloc (.cells (vec8 (x i)) 35)) := (Below.refl _ _).alloc (Nat.le_refl _) _
              have hown2 := Lib.hid (ownsRow_below hown1 hW2)
              have hr := Lib.hid (vec8_reads wr (x i))
              have hszk := hOn.size
              have HX := Lib.hid hxs
              have HL := Lib.hid hown1.1
              have hB3 := hBk
              clear hown0 hxs hown1 hR hO1 HO hnb hgr
              go_wp2_with (at_builtin; refine wpList_append_any _ rfl (.tmp 38) (.tmp 40) _ rfl (w.heap.size + 1) 35 i0 _ 8 64 Tryz.underlying30 hi0 hz0 hz1 hz2 rfl (by omega) _ i xs rfl hown2.out (wr.heap.size + 1) (some ⟨wr.heap.size, 0, none⟩) 1 1 (vec8 (x i)).toList rfl hr.out (vec8_one _) (by simp only [maxLen]; omega) (by omega) (by simp; omega) ?_; intro v3 w3 hown3 hg3 hat3)
              go_roundw
              case rel =>
                refine ⟨i + 1, by omega, by omega, by go_num, ?_, (OrdO.push HX.out HL.out hown3).congr ?_, (hbk.trans (hW2.mono hbk.size)).grown hg3 (by simp; omega) (fun g h => by have := (hown2.out.lt g h).1; omega)⟩
                · refine hg3.cell ((hW2.cell (p := ⟨w.heap.size, 0, none⟩) (by show w.heap.size < _; omega)).trans hB3) (fun e => ?_)
                  have := (hown2.out.lt w.heap.size e.symm).1
                  omega
                · intro j hj k hk
                  by_cases h : j < i
                  · simp [h]
                  · simp only [h, if_false]; rw [show j = i from by omega]
              case measure => simp [intOf]; omega
        · obtain rfl : i = 6 := by omega
          go_wp2_with fail
          go_meet
          exact ⟨6, Nat.le_refl _, hi, hO, hb⟩
      · obtain rfl : i = n := by omega
        go_wp2_with fail
        go_meet
        exact ⟨i, hi6, Nat.le_refl _, hO, hb⟩
  case rest =>
    obtain ⟨m, hm6, hmn, hO, hb⟩ := hcut
    obtain ⟨A1, c1, rfl, hm1, hm2, hm3⟩ : ∃ A c, u3 = .slice A m c ∧ m ≤ c ∧ c ≤ 9223372036854775807 ∧ (0 < m → ∃ g, A = some ⟨g, 0, none⟩ ∧ w.heap.size + 1 ≤ g) := by
      obtain ⟨xs, h1, _⟩ := hO
      obtain ⟨A, c, e, h2, h3, h4⟩ := own_slice h1
      exact ⟨A, c, e, h2, h3, fun h0 => by obtain ⟨g, e, h5, _⟩ := h4 h0; exact ⟨g, e, h5⟩⟩
    clear hA hB0 hO0 hb0
    go_wp2_with fail
    go_loopw [7] (fun kv wr => ∃ k : Nat, k ≤ 8 ∧ kv = .int .i64 k ∧ OrdO wr (w.heap.size + 1) (.slice A1 m c1) m (fun i j => if j < k then madeF x m i j else x i j) ∧ Below w.heap.size w wr) (fun k _ => 8 - (intOf k).toNat)
    case atStart => exact ⟨0, Nat.zero_le _, rfl, by simpa using hO, hb⟩
    case round =>
      obtain ⟨k, hk, rfl, hO, hb⟩ := hrel
      by_cases hk8 : k < 8
      · have hki : (k : Int) < 8 := by omega
        go_wp2_with fail
        obtain ⟨w5, rfl⟩ : ∃ w5, w5 = wr := ⟨_, rfl⟩
        go_loopw [8, 9] (fun fv iv wk => ∃ i : Nat, i ≤ m ∧ iv = .int .i64 i ∧ fv = .int .i64 (firstNZ x k i) ∧ wk = w5) (fun _ i _ => m - (intOf i).toNat)
        case atStart => exact ⟨0, Nat.zero_le _, rfl, rfl, rfl⟩
        case round =>
          obtain ⟨i, hi, rfl, rfl, rfl⟩ := hrel
          by_cases hlt : i < m
          · obtain ⟨g, rfl, hg⟩ := hm3 (by omega)
            have hc := (hO.cell hlt hk8).1
            rw [if_neg (Nat.lt_irrefl k)] at hc
            have hstep : firstNZ x k (i + 1) = if firstNZ x k i = 0 then x i k else firstNZ x k i := rfl
            generalize firstNZ x k i = y at *
            by_cases hy : y = 0
            · rw [if_pos hy] at hstep
              have hyb : (y == 0) = true := by simp [hy]
              have HS := Lib.hid hstep
              clear hstep hy
              go_wp2_with fail
              go_roundw
              case rel => exact ⟨i + 1, by omega, by go_num, by rw [HS.out], by trivial⟩
              case measure => simp [intOf]; omega
            · rw [if_neg hy] at hstep
              have hyb : (y == 0) = false := by simp [hy]
              have HS := Lib.hid hstep
              clear hstep hy
              go_wp2_with fail
              go_roundw
              case rel => exact ⟨i + 1, by omega, by go_num, by rw [HS.out], by trivial⟩
              case measure => simp [intOf]; omega
          · obtain rfl : i = m := by omega
            obtain ⟨y, hy⟩ : ∃ y, y = firstNZ x k i := ⟨_, rfl⟩
            rw [← hy]
            have HY := Lib.hid hy
            clear hy
            go_wp2_with fail
            go_loopw [10] (fun rv wk => ∃ r : Nat, r ≤ i ∧ rv = .int .i64 r ∧ (0 ≤ y → r = 0) ∧ OrdO wk (w.heap.size + 1) (.slice A1 i c1) i (fun i' j => if j < k ∨ (j = k ∧ i' < r) then madeF x i i' j else x i' j) ∧ Below w.heap.size w wk) (fun r _ => i - (intOf r).toNat)
            case atStart => exact ⟨0, Nat.zero_le _, rfl, fun _ => rfl, hO.congr (fun i' _ j _ => by simp), hb⟩
            case round =>
              obtain ⟨r, hr, rfl, hr0, hO, hb⟩ := hrel
              by_cases hy0 : y < 0
              · have hyb : decide (y < 0) = true := by simp [hy0]
                by_cases hrl : r < i
                · obtain ⟨g, rfl, hg⟩ := hm3 (by omega)
                  obtain ⟨hc, hf⟩ := hO.cell hrl hk8
                  rw [if_neg (by omega)] at hc
                  have hxr := hx r (by omega) k hk8
                  have hwn : IntKind.i64.wrap (-(x r k)) = -(x r k) := IntWalk.i64_in _ (by omega)
                  have HO := Lib.hid hO
                  clear hO
                  go_wp2_with fail
                  go_region
                  go_wp2_with fail
                  go_roundw
                  case rel =>
                    refine ⟨r + 1, by omega, by go_num, fun h => absurd hy0 (by omega), ((HO.out.drewN _).put hrl hk8 (y := -(x r k))).congr (fun i' hi' j hj => ?_), (hb.drewN _).setCell (by show w.heap.size ≤ g; omega) _⟩
                    have hmf : madeF x i r k = -(x r k) := by unfold madeF; rw [← HY.out, if_pos hy0]
                    by_cases e : i' = r ∧ j = k
                    · rw [if_pos e, e.1, e.2, if_pos (by omega), hmf]
                    · rw [if_neg e]
                      by_cases e2 : j < k ∨ (j = k ∧ i' < r)
                      · rw [if_pos e2, if_pos (by omega)]
                      · rw [if_neg e2, if_neg (by omega)]
                  case measure => simp [intOf]; omega
                · obtain rfl : r = i := by omega
                  go_wp2_with fail
                  go_roundw
                  case rel =>
                    refine ⟨k + 1, by omega, by go_num, hO.congr (fun i' hi' j hj => ?_), hb⟩
                    by_cases e2 : j < k ∨ (j = k ∧ i' < r)
                    · rw [if_pos e2, if_pos (by omega)]
                    · rw [if_neg e2, if_neg (by omega)]
                  case measure => simp [intOf]; omega
              · have hyb : decide (y < 0) = false := by simp [hy0]
                obtain rfl : r = 0 := hr0 (by omega)
                have hnext : Hid (OrdO wr (w.heap.size + 1) (.slice A1 i c1) i fun i' j => if j < k + 1 then madeF x i i' j else x i' j) := hO.congr (fun i' hi' j hj => by
                  by_cases e2 : j < k
                  · rw [if_pos (by omega), if_pos (by omega)]
                  · rw [if_neg (by omega)]
                    by_cases e3 : j = k
                    · rw [if_pos (by omega)]; unfold madeF; rw [e3, ← HY.out, if_neg hy0]
                    · rw [if_neg (by omega)])
                clear hO
                go_wp2_with fail
                all_goals go_roundw
                all_goals first
                  | exact ⟨k + 1, by omega, by go_num, hnext.out, hb⟩
                  | (simp [intOf]; omega)
      · obtain rfl : k = 8 := by omega
        go_wp2
        go_ret
        exact ⟨_, rfl, m, hm6, hmn, (hO.mono (by omega)).congr (fun i hi j hj => if_pos hj), hb⟩

theorem below_put8 {B : Nat} {a w : World} {g : Nat} (x : Nat → Int) (h : Below B a w) (hg : B ≤ g) : Below B a ((((((((w.setCell ⟨g, 0, none⟩ (.int .i64 (x 0))).setCell ⟨g, 1, none⟩ (.int .i64 (x 1))).setCell ⟨g, 2, none⟩ (.int .i64 (x 2))).setCell ⟨g, 3, none⟩ (.int .i64 (x 3))).setCell ⟨g, 4, none⟩ (.int .i64 (x 4))).setCell ⟨g, 5, none⟩ (.int .i64 (x 5))).setCell ⟨g, 6, none⟩ (.int .i64 (x 6))).setCell ⟨g, 7, none⟩ (.int .i64 (x 7))) :=
  (((((((h.setCell hg _).setCell hg _).setCell hg _).setCell hg _).setCell hg _).setCell hg _).setCell hg _).setCell hg _

end Go.Proofs.YtmkhfgggleplfaaGreat
