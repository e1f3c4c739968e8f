/-
  The walks of IndexFunc with the closure of independent, and of Delete. Conditions: at most 100 rows.
-/
import Derived.Test.YtmkhfgggleplfaaGreatMem
import Derived.Deep.RegionLaw
import Derived.Lib.SliceRun
namespace Go.Proofs.YtmkhfgggleplfaaGreat
set_option linter.unusedSimpArgs false
set_option linter.unusedVariables false
open Go.RowKit

theorem cmpI_zero (q : Rat) : (cmpI q.num 0 != 0) = decide (q ≠ 0) := by
  unfold cmpI
  by_cases h : q = 0
  · subst h; rfl
  · have hn : q.num ≠ 0 := fun e => h (Rat.num_eq_zero.1 e)
    simp only [h, ne_eq, not_false_eq_true, decide_true]
    split
    · rfl
    · rw [if_pos (by omega)]; rfl

theorem info_rats : (Tryz.prog.info? 72).map (fun i => (i.zero, i.size, i.bytes)) = some (some (.slice none 0 0), 1, 24) := by kernel_rfl
theorem indep_sign {h j : Nat} {c : Nat} {q : Nat → Rat} {w : World} {kp : Nat} (hr : RowAt w h q) (hj : j < 8) (hk : w.cell? ⟨kp, 0, none⟩ = some (.int .i64 j)) (hc : 8 ≤ c) :
    Calls Tryz.prog 53 #[.slice (some ⟨h, 0, none⟩) 8 c, .pointer (some ⟨kp, 0, none⟩)] w fun e w' => e = .returned (.bool (decide (q j ≠ 0))) ∧ Below w.heap.size w w' := by
  obtain ⟨a, b, c', d, k1, k2, k3, k4, k5⟩ := hr.get hj
  go_enter Tryz.func53, Tryz.ntmps53
  go_wp2_with fail
  refine (rat_sign k5).mono ?_
  rintro e w1 ⟨rfl, hb⟩
  go_wp2
  go_ret
  exact ⟨by rw [← cmpI_zero]; rfl, hb⟩

/-- the list of rows as a slice -/
def LeftV (w : World) (base : Nat) (v : Value) (n : Nat) (hs : Nat → Nat) (rows : Nat → Nat → Rat) : Prop :=
  ∃ A c, v = .slice A n c ∧ n ≤ c ∧ c ≤ 9223372036854775807 ∧ (0 < n → ∃ G, A = some ⟨G, 0, none⟩ ∧ LeftAt w base G n hs rows)
theorem LeftV.below {w w' : World} {base n : Nat} {v : Value} {hs : Nat → Nat} {rows : Nat → Nat → Rat} (h : LeftV w base v n hs rows) (hb : Below w.heap.size w w') : LeftV w' base v n hs rows := by
  obtain ⟨A, c, e, h1, h2, h3⟩ := h
  exact ⟨A, c, e, h1, h2, fun h0 => by obtain ⟨G, e, hL⟩ := h3 h0; exact ⟨G, e, hL.below hb⟩⟩

theorem index_rat {w : World} {base n k kp : Nat} {v : Value} {hs : Nat → Nat} {rows : Nat → Nat → Rat} (hL : LeftV w base v n hs rows) (hk : k < 8) (hkp : w.cell? ⟨kp, 0, none⟩ = some (.int .i64 k)) :
    Calls Tryz.prog 52 #[v, .func (.func 53) #[] #[.pointer (some ⟨kp, 0, none⟩)]] w fun e w' =>
      ((e = .returned (.int .i64 (-1)) ∧ ∀ i, i < n → rows i k = 0) ∨ ∃ i : Nat, i < n ∧ e = .returned (.int .i64 i) ∧ rows i k ≠ 0) ∧ Below w.heap.size w w' := by
  obtain ⟨A, c, rfl, hn, hc, hA⟩ := hL
  go_enter Tryz.func52, Tryz.ntmps52
  go_wp2_with fail
  go_loopw [8] (fun iv wr => ∃ i : Nat, i ≤ n ∧ iv = .int .i64 i ∧ (∀ j, j < i → rows j k = 0) ∧ Below w.heap.size w wr) (fun i _ => n - (intOf i).toNat)
  case atStart => exact ⟨0, Nat.zero_le _, rfl, fun j hj => absurd hj (by omega), Below.refl _ _⟩
  case round =>
    obtain ⟨i, hi, rfl, hz, hb⟩ := hrel
    by_cases hlt : i < n
    · obtain ⟨G, rfl, hL⟩ := hA (by omega)
      obtain ⟨cur, hB, -, hcur⟩ := hL.blk
      obtain ⟨c', hc8, hcm, hcell⟩ := hcur i hlt
      have hcell : wr.cell? ⟨G, i, none⟩ = some (.slice (some ⟨hs i, 0, none⟩) 8 c') := by rw [hb.cell (p := ⟨G, i, none⟩) hB.lt, hB.cell]; exact hcell
      have hkr : wr.cell? ⟨kp, 0, none⟩ = some (.int .i64 k) := by rw [hb.cell (p := ⟨kp, 0, none⟩) (World.block_lt_of_cell? w _ hkp)]; exact hkp
      have hrow := (hL.row i hlt).2.below hb
      go_wp2_with fail
      refine (indep_sign hrow hk hkr hc8).mono ?_
      rintro e w1 ⟨rfl, hb1⟩
      by_cases h0 : rows i k = 0
      · have hdec : decide (rows i k ≠ 0) = false := by simp [h0]
        rw [hdec]
        go_wp2_with fail
        go_roundw
        case rel => exact ⟨i + 1, by omega, by go_num, fun j hj => by rcases Nat.lt_or_ge j i with h | h; exact hz j h; rw [show j = i from by omega]; exact h0, hb.trans (hb1.mono hb.size)⟩
        case measure => simp [intOf]; omega
      · have hdec : decide (rows i k ≠ 0) = true := by simp [h0]
        rw [hdec]
        go_wp2
        go_ret
        exact ⟨.inr ⟨i, hlt, rfl, h0⟩, hb.trans (hb1.mono hb.size)⟩
    · obtain rfl : i = n := by omega
      go_wp2
      go_ret
      exact ⟨.inl ⟨rfl, hz⟩, hb⟩

def cutAt {α : Type} (f : Nat → α) (at_ : Nat) : Nat → α := fun i => if i < at_ then f i else f (i + 1)

theorem zero_rats (w : World) : (zeroValue 72).run Tryz.prog w = .ok (.slice none 0 0) w := by kernel_rfl
set_option maxHeartbeats 1600000 in
set_option maxRecDepth 1000000 in
theorem delete_rat {w : World} {base G n c i : Nat} {hs : Nat → Nat} {rows : Nat → Nat → Rat} (hL : LeftAt w base G n hs rows) (hi : i < n) (hn : n ≤ c) (hc : c ≤ 9223372036854775807) :
    Calls Tryz.prog 55 #[.slice (some ⟨G, 0, none⟩) n c, .int .i64 i, .int .i64 ((i : Int) + 1)] w fun e w' =>
      e = .returned (.slice (some ⟨G, 0, none⟩) (n - 1) c) ∧ LeftAt w' base G (n - 1) (cutAt hs i) (cutAt rows i) ∧ Only G w w' := by
  obtain ⟨cur, hB, hnw, hcur⟩ := hL.blk
  obtain ⟨i0, hi0, hz0, hz1, hz2⟩ := info_parts info_rats
  have hclen : n ≤ cur.toList.length := by
    rcases Nat.lt_or_ge cur.toList.length n with h | h
    · obtain ⟨c', -, -, h3⟩ := hcur (n - 1) (by omega)
      rw [Array.getElem?_eq_none (by rw [← Array.length_toList]; omega)] at h3
      cases h3
    · exact h
  obtain ⟨news, hnews⟩ : ∃ l : List Value, l = (cur.toList.drop (i + 1)).take (n - (i + 1)) := ⟨_, rfl⟩
  have hnl : news.length = n - (i + 1) := by rw [hnews, List.length_take, List.length_drop]; omega
  have hng : ∀ j, j < n - (i + 1) → news[j]? = cur.toList[i + 1 + j]? := fun j hj => by rw [hnews, List.getElem?_take_of_lt hj, List.getElem?_drop]
  have hcell : ∀ k, w.drew.cell? ⟨G, k, none⟩ = cur.toList[k]? := fun k => by rw [show w.drew.cell? ⟨G, k, none⟩ = w.cell? ⟨G, k, none⟩ from rfl, hB.cell]; simp
  obtain ⟨A, hA, hat⟩ : ∃ A : Addr, (if c = i + 1 then some (⟨G, 0, none⟩ : Addr) else some ⟨G, i + 1, none⟩) = some A ∧ Hid (∀ j u, news[j]? = some u → w.drew.cell? (A.add j) = some u) := by
    by_cases h : c = i + 1
    · refine ⟨⟨G, 0, none⟩, by simp [h], fun j u hu => ?_⟩
      rw [List.eq_nil_of_length_eq_zero (l := news) (by omega)] at hu
      simp at hu
    · refine ⟨⟨G, i + 1, none⟩, by simp [h], fun j u hu => ?_⟩
      have hj : j < n - (i + 1) := by
        have := (List.getElem?_eq_some_iff.1 hu).1
        omega
      rw [hng j hj] at hu
      rw [Addr.add_lit, hcell]
      exact hu
  have hsl : ∀ k, i + 1 ≤ k → k < n → ∃ c', 8 ≤ c' ∧ c' ≤ 9223372036854775807 ∧ cur.toList[k]? = some (.slice (some ⟨hs k, 0, none⟩) 8 c') := fun k _ hk => by simpa using hcur k hk
  have hone : ∀ u ∈ news, u.oneCell' = true ∧ nw u = true := fun u hu => by
    obtain ⟨j, hj, rfl⟩ := List.mem_iff_getElem.1 hu
    obtain ⟨c', -, -, h3⟩ := hsl (i + 1 + j) (by omega) (by omega)
    have := hng j (by omega)
    rw [h3, List.getElem?_eq_getElem hj] at this
    injection this with this
    rw [this]; exact ⟨rfl, rfl⟩
  have s1 : Hid (news.length = (n - (i + 1)) * 1) := by rw [Nat.mul_one]; exact hnl
  have s2 : Hid (∀ u ∈ news, u.oneCell' = true) := fun u hu => (hone u hu).1
  have s3 : Hid (∀ j, j < news.length → (w.drew.cell? ⟨G, 0 + i * 1 + j, none⟩).isSome = true ∧ w.drew.frozen? ⟨G, 0 + i * 1 + j, none⟩ = false) := by
    intro j hj
    refine ⟨?_, hB.frozen _⟩
    rw [hcell, List.getElem?_eq_getElem (by omega)]; rfl
  have hic : i ≤ c := by omega
  have hwr : IntKind.i64.wrap ((i : Int) + 1) = (i : Int) + 1 := by rw [IntKind.wrap_i64]; omega
  have hp0 : (0 : Int) ≤ (i : Int) + 1 := by omega
  have hp1 : (i : Int) + 1 ≤ (n : Int) := by omega
  have hp2 : ((i : Int) + 1).toNat = i + 1 := by omega
  -- what the block holds behind the append
  have hB1 : Blk (w.drew.setCells G (0 + i * 1) news) G 72 (setL cur.toList (0 + i * 1) news).toArray := Blk.setCells news cur.toList (0 + i * 1) w.drew hB.drew
  have hO1 : Only G w (w.drew.setCells G (0 + i * 1) news) := only_setCells _ _ _ _ ((Only.refl G w).drewN 1)
  have hget : ∀ k, k < n - 1 → (setL cur.toList (0 + i * 1) news)[k]? = cur.toList[if k < i then k else k + 1]? := fun k hk => by
    by_cases h : k < i
    · rw [if_pos h, setL_out _ _ _ _ (by omega)]
    · rw [if_neg h]
      obtain ⟨j, rfl⟩ : ∃ j, k = 0 + i * 1 + j := ⟨k - i, by omega⟩
      rw [setL_in _ _ _ _ (by omega) (by omega), hng j (by omega)]
      congr 1; omega
  obtain ⟨w1, hw1⟩ : ∃ w1, w1 = w.drew.setCells G (0 + i * 1) news := ⟨_, rfl⟩
  rw [← hw1] at hB1 hO1
  obtain ⟨m, hm⟩ : ∃ m, n = m + 1 := ⟨n - 1, by omega⟩
  have e1 : i + (n - (i + 1)) = m := by omega
  have e2 : n - m = 1 := by omega
  have e3 : ((i : Int) + (n - (i + 1) : Nat)) = (m : Int) := by omega
  have hcl : ∀ ty, (Builtin.clear_ #[71] ty #[.slice (some ⟨G, m, none⟩) 1 (c - m)]).run Tryz.prog w1 = .ok (.tuple #[]) (w1.setCells G m (List.replicate 1 (.slice none 0 0))) :=
    fun ty => Lib.run_clear_slice w1 71 72 ty (.slice none 0 0) Tryz.underlying71 zero_rats rfl rfl G m 1 (c - m) (by omega)
      (fun j hj => by rw [hB1.cell, List.getElem?_toArray, List.getElem?_eq_getElem (by rw [setL_len]; omega)]; rfl) (fun j hj => hB1.frozen _)
  have hB2 : Blk (w1.setCell ⟨G, m, none⟩ (.slice none 0 0)) G 72 (setL cur.toList (0 + i * 1) news |>.set m (.slice none 0 0)).toArray := by
    have := hB1.set_ m (.slice none 0 0)
    rwa [List.setIfInBounds_toArray] at this
  have hO2 : Only G w (w1.setCell ⟨G, m, none⟩ (.slice none 0 0)) := hO1.setCell (p := ⟨G, m, none⟩) rfl _
  have hfin : LeftAt (w1.setCell ⟨G, m, none⟩ (.slice none 0 0)) base G m (cutAt hs i) (cutAt rows i) := by
    refine ⟨⟨_, hB2, noU32_of ?_, fun k hk => ?_⟩, hL.low, fun k l hk hl h => ?_, fun k hk => ?_⟩
    · show ∀ u ∈ (setL cur.toList (0 + i * 1) news).set m (.slice none 0 0), nw u = true
      exact all_set (setL_all _ _ _ (noU32_all hnw) fun u hu => (hone u hu).2) rfl
    · have h1 := hget k (by omega)
      obtain ⟨c', h8, h9, h10⟩ := hcur (if k < i then k else k + 1) (by split <;> omega)
      refine ⟨c', h8, h9, ?_⟩
      rw [List.getElem?_toArray, List.getElem?_set_ne (by omega), h1, Array.getElem?_toList, h10]
      congr 1
      congr 1
      congr 1
      unfold cutAt
      by_cases h : k < i
      · rw [if_pos h, if_pos h]
      · rw [if_neg h, if_neg h]
    · have hinj := hL.inj
      unfold cutAt at h
      by_cases h1 : k < i <;> by_cases h2 : l < i
      · rw [if_pos h1, if_pos h2] at h; exact hinj _ _ (by omega) (by omega) h
      · rw [if_pos h1, if_neg h2] at h; have := hinj _ _ (by omega) (by omega) h; omega
      · rw [if_neg h1, if_pos h2] at h; have := hinj _ _ (by omega) (by omega) h; omega
      · rw [if_neg h1, if_neg h2] at h; have := hinj _ _ (by omega) (by omega) h; omega
    · unfold cutAt
      have hr : ∀ j, j < n → base ≤ hs j ∧ RowAt (w1.setCell ⟨G, m, none⟩ (.slice none 0 0)) (hs j) (rows j) := fun j hj =>
        ⟨(hL.row j hj).1, (hL.row j hj).2.only hB hnw hO2 (fun e => hL.ne (hL.row j hj).2 e.symm)⟩
      by_cases h : k < i
      · rw [if_pos h, if_pos h]; exact hr k (by omega)
      · rw [if_neg h, if_neg h]; exact hr (k + 1) (by omega)
  have hn1 : n - 1 = m := by omega
  rw [hn1]
  clear hn1 hm hget hnl hone hcur hng hsl hcell hnews hB2 hB1 hO1 hB hL
  go_enter Tryz.func55, Tryz.ntmps55
  go_wp2_with fail
  go_region_law (refine step_append_room rfl (.tmp 22) (.tmp 25) 71 rfl 72 i0 1 Tryz.underlying71 hi0 hz1 G 0 i c (by simp [Act.eval, Act.put]) A (n - (i + 1)) (c - (i + 1)) news (by simp [Act.eval, Act.put]) s1.out hat.out s2.out (by omega) s3.out ?_; rw [← hw1]; clear hw1)
  go_wp2_with (simp only [hcl])
  go_ret
  exact ⟨rfl, hfin, hO2⟩

end Go.Proofs.YtmkhfgggleplfaaGreat
