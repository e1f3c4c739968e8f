/-
  The walk of independent. Conditions: at most 1000 rows, whose numbers are of type int.
-/
import Derived.Test.YtmkhfgggleplfaaGreatIndB
namespace Go.Proofs.YtmkhfgggleplfaaGreat
set_option linter.unusedSimpArgs false
set_option linter.unusedVariables false
open Go.RowKit

theorem info_rat : (Tryz.prog.info? 77).map (fun i => (i.zero, i.size, i.bytes)) = some (some (.agg #[.bool false, .slice none 0 0, .bool false, .slice none 0 0]), 4, 64) := by kernel_rfl
/-- eight cells of a row -/
theorem OrdV.row {w : World} {b off i : Nat} {f : Nat → Nat → Int} (h : ∀ k, k < 8 → w.cell? ⟨b, off + i * 8 + k, none⟩ = some (.int .i64 (f i k))) :
    w.cell? ⟨b, off + i * 8, none⟩ = some (.int .i64 (f i 0)) ∧ w.cell? ⟨b, off + i * 8 + 1, none⟩ = some (.int .i64 (f i 1)) ∧ w.cell? ⟨b, off + i * 8 + 2, none⟩ = some (.int .i64 (f i 2)) ∧ w.cell? ⟨b, off + i * 8 + 3, none⟩ = some (.int .i64 (f i 3)) ∧
    w.cell? ⟨b, off + i * 8 + 4, none⟩ = some (.int .i64 (f i 4)) ∧ w.cell? ⟨b, off + i * 8 + 5, none⟩ = some (.int .i64 (f i 5)) ∧ w.cell? ⟨b, off + i * 8 + 6, none⟩ = some (.int .i64 (f i 6)) ∧ w.cell? ⟨b, off + i * 8 + 7, none⟩ = some (.int .i64 (f i 7)) :=
  ⟨h 0 (by omega), h 1 (by omega), h 2 (by omega), h 3 (by omega), h 4 (by omega), h 5 (by omega), h 6 (by omega), h 7 (by omega)⟩

theorem zrat_nw : ∀ u ∈ (Value.agg #[.bool false, .slice none 0 0, .bool false, .slice none 0 0]).cells.toList, nw u = true := by
  intro u hu
  simp [Value.cells] at hu
  rcases hu with rfl | rfl | rfl | rfl <;> rfl
theorem zsl_nw : ∀ u ∈ (Value.slice none 0 0).cells.toList, nw u = true := by
  intro u hu
  simp [Value.cells] at hu
  rcases hu with rfl; rfl
theorem rbd_int {x : Int} (h1 : -9223372036854775808 ≤ x) (h2 : x ≤ 9223372036854775807) : RBd (2 * 9 ^ 0) (x : Rat) := by
  have hp : pw (2 * 9 ^ 0) = 18446744073709551616 := by decide
  refine ⟨?_, ?_⟩
  · unfold Bd; rw [hp, Rat.num_intCast]; omega
  · unfold Bd; rw [hp, Rat.den_intCast]; decide
theorem mix_next (f p : Nat → Rat) (k j : Nat) : ∀ x, x < 8 → (if x = j then f j - f k / p k * p j else if x < j then elimR f p k x else f x) = if x < j + 1 then elimR f p k x else f x := fun x _ => by
  by_cases e : x = j
  · subst e; rw [if_pos rfl, if_pos (Nat.lt_succ_self x)]; rfl
  · rw [if_neg e]
    by_cases h : x < j
    · rw [if_pos h, if_pos (by omega)]
    · rw [if_neg h, if_neg (by omega)]
theorem mix_rows (rows : Nat → Nat → Rat) (p : Nat → Rat) (k r x : Nat) : (if x = r then elimR (rows r) p k else if x < r then elimR (rows x) p k else rows x) = if x < r + 1 then elimR (rows x) p k else rows x := by
  by_cases e : x = r
  · subst e; rw [if_pos rfl, if_pos (Nat.lt_succ_self x)]
  · rw [if_neg e]
    by_cases h : x < r
    · rw [if_pos h, if_pos (by omega)]
    · rw [if_neg h, if_neg (by omega)]
theorem LeftAt.congr {w : World} {base G n : Nat} {hs : Nat → Nat} {rows rows' : Nat → Nat → Rat} (h : LeftAt w base G n hs rows) (e : ∀ i, i < n → rows i = rows' i) : LeftAt w base G n hs rows' :=
  ⟨h.blk, h.low, h.inj, fun i hi => e i hi ▸ h.row i hi⟩
theorem rbd_elim {k : Nat} {r p : Nat → Rat} {c j : Nat} (h1 : RBd (2 * 9 ^ k) (r c)) (h2 : RBd (2 * 9 ^ k) (p c)) (h3 : RBd (2 * 9 ^ k) (r j)) (h4 : RBd (2 * 9 ^ k) (p j)) (h0 : p c ≠ 0) : RBd (2 * 9 ^ (k + 1)) (elimR r p c j) := by
  have hB : 2 * 9 ^ (k + 1) = 9 * (2 * 9 ^ k) := by rw [Nat.pow_succ]; omega
  have hpos : 0 < 2 * 9 ^ k := Nat.mul_pos (by omega) (Nat.pow_pos (by omega))
  rw [hB]
  generalize 2 * 9 ^ k = B at *
  have hd := RBd.div h1 h2 (fun e => h0 (Rat.num_eq_zero.1 e))
  have hm := RBd.mul hd (h4.mono (show B ≤ B + B by omega))
  exact (RBd.sub (h3.mono (show B ≤ B + B + (B + B) by omega)) hm).mono (by omega)
theorem index8 {ra : Array Value} {k : Nat} {x : Value} (h : ra[k]? = some x) (hk : k < 8) (W : World) : (Instr.index 35 (.agg ra) (.int .i64 k)).run Tryz.prog W = .ok x W := by
  have h0 : (0 : Int) ≤ (k : Int) ∧ (k : Int) < 8 := by omega
  simp [Instr.index, run_underlying Tryz.underlying35, part, sizeOf, go_sem, Tryz.sizeOf3, Tryz.isAgg3, h, h0, Result.andThen]
  rw [if_pos hk, show Tryz.t3.size = 1 from by rfl, Nat.mul_one, h]
  rfl
set_option maxHeartbeats 4000000 in
set_option maxRecDepth 100000 in
theorem independent_any {w : World} {v : Value} {n : Nat} {f : Nat → Nat → Int} (ho : OrdV w v n f) (hn : n ≤ 1000) (hf : ∀ i, i < n → ∀ k, k < 8 → -9223372036854775808 ≤ f i k ∧ f i k ≤ 9223372036854775807) :
    Calls Tryz.prog 37 #[v] w fun e w' => ∃ r : Bool, e = .returned (.bool r) ∧ (r = true ↔ Inj8 0 (listQ n (rowQ f))) ∧ Below w.heap.size w w' := by
  obtain ⟨A, c, rfl, hnc, hcm, hA⟩ := ho
  obtain ⟨i0, hi0, hz0, hz1, hz2⟩ := info_parts info_rat
  obtain ⟨j0, hj0, hy0, hy1, hy2⟩ := info_parts info_rats
  go_enter Tryz.func37, Tryz.ntmps37
  go_wp2_with fail
  go_loopw [3, 19] (fun lv iv wr => ∃ i : Nat, i ≤ n ∧ iv = .int .i64 i ∧ BuildL w wr f lv i) (fun _ i _ => n - (intOf i).toNat)
  case atStart => exact ⟨0, Nat.zero_le _, rfl, BuildL.start w f⟩
  case round =>
    obtain ⟨i, hi, rfl, hBL⟩ := hrel
    by_cases hlt : i < n
    · obtain ⟨b, off, rfl, hb, hcell⟩ := hA (by omega)
      have hBw : Below w.heap.size w wr := by obtain ⟨_, _, _, _, _, _, _, h⟩ := hBL; exact h
      obtain ⟨c0, c1, c2, c3, c4, c5, c6, c7⟩ := OrdV.row (w := wr) (b := b) (off := off) (i := i) (f := f) (fun k hk => (hBw.cell (p := ⟨b, off + i * 8 + k, none⟩) hb).trans (hcell i hlt k hk))
      obtain ⟨ra, hra⟩ : ∃ ra : Array Value, ra = #[Value.int .i64 (f i 0), .int .i64 (f i 1), .int .i64 (f i 2), .int .i64 (f i 3), .int .i64 (f i 4), .int .i64 (f i 5), .int .i64 (f i 6), .int .i64 (f i 7)] := ⟨_, rfl⟩
      have HI : Hid (∀ m : Nat, m < 8 → ra[m]? = some (.int .i64 (f i m))) := by
        intro m hm
        subst hra
        rcases (by omega : m = 0 ∨ m = 1 ∨ m = 2 ∨ m = 3 ∨ m = 4 ∨ m = 5 ∨ m = 6 ∨ m = 7) with h | h | h | h | h | h | h | h <;> subst h <;> rfl
      have hrs : ra.size = 8 := by rw [hra]; rfl
      have HC := Lib.hid hcell
      have HF := Lib.hid hf
      have HB := Lib.hid hBL
      have HA := Lib.hid hA
      clear hcell hf hBL hA hi
      have HR := Lib.hid hra
      clear hra
      go_wp2_with fail
      rw [← HR.out]
      obtain ⟨wa, hwa, hba⟩ : ∃ wa, wa = wr.alloc (.cells ra 35) ∧ Below wr.heap.size wr wa := ⟨_, rfl, (Below.refl _ _).alloc (Nat.le_refl _) _⟩
      rw [← hwa]
      clear hwa c0 c1 c2 c3 c4 c5 c6 c7
      go_loopw [6, 24] (fun rv kv wk => ∃ k : Nat, k ≤ 8 ∧ kv = .int .i64 k ∧ BuildR wa wk f i rv k) (fun _ k _ => 8 - (intOf k).toNat)
      case atStart => exact ⟨0, Nat.zero_le _, rfl, BuildR.start wa f i⟩
      case round =>
        obtain ⟨k, hk, rfl, ys, hown, hev, hq, hbk⟩ := hrel
        by_cases hk8 : k < 8
        · have hik := index8 (HI.out k hk8) hk8
          obtain ⟨l1, l2⟩ := HF.out i hlt k hk8
          have HOwn := Lib.hid hown
          have HEv := Lib.hid hev
          have HQ := Lib.hid hq
          clear hown hev hq
          have hk8i : (k : Int) < 8 := by omega
          go_wp2_with fail
          refine (rat_whole (f i k) _ l1 l2).mono ?_
          rintro e w1 ⟨rv1, rfl, hrv1, hb1⟩
          obtain ⟨a1, a2, a3, a4, rfl, n1, n2, n3, n4, o1, o2, o3, o4⟩ := hrv1.fields
          have hW2 : Below wr.heap.size wr (w1.alloc (.cells #[a1, a2, a3, a4] 77)) := hb1.alloc hb1.size _
          have hown2 := Lib.hid (ownsRow_below HOwn.out hW2)
          have hev2 := Lib.hid (HEv.out.below HOwn.out hW2)
          have hnew : Hid (∀ j u, [a1, a2, a3, a4][j]? = some u → (w1.alloc (.cells #[a1, a2, a3, a4] 77)).cell? ((⟨w1.heap.size, 0, none⟩ : Addr).add j) = some u) := by
            intro j u hu
            rw [Addr.add_lit, (Blk.new w1 77 #[a1, a2, a3, a4]).cell, Nat.zero_add]
            simpa using hu
          have hone : Hid (∀ u ∈ [a1, a2, a3, a4], u.oneCell' = true) := by intro u hu; simp at hu; rcases hu with rfl | rfl | rfl | rfl <;> assumption
          have hnwl : Hid (∀ u ∈ [a1, a2, a3, a4], nw u = true) := by intro u hu; simp at hu; rcases hu with rfl | rfl | rfl | rfl <;> assumption
          have hsz1 : wa.heap.size ≤ w1.heap.size := by have := hbk.size; have := hb1.size; omega
          go_wp2_with (at_builtin; refine wpList_append_ev _ rfl nw (.tmp 27) (.tmp 30) _ rfl wa.heap.size 77 i0 _ 4 64 Tryz.underlying72 hi0 hz0 hz1 hz2 rfl (by omega) _ k ys rfl hown2.out ⟨w1.heap.size, 0, none⟩ 1 1 [a1, a2, a3, a4] rfl rfl hnew.out hone.out (by simp only [maxLen]; omega) (by omega) (by simp; omega) hev2.out hnwl.out zrat_nw ?_; intro v' w3 hown3 hg3 hev3)
          go_roundw
          case rel =>
            exact ⟨k + 1, by omega, by go_num, BuildR.next hown2.out hev2.out (fun k' hk' => (HQ.out k' hk').below hW2) (hbk.trans (hW2.mono hbk.size)) (hrv1.below ((Below.refl _ _).alloc (Nat.le_refl _) _)) hown3 hg3 hev3⟩
          case measure => simp [intOf]; omega
        · obtain rfl : k = 8 := by omega
          obtain ⟨h, ch, rfl, hch, hcm', hh, hrow⟩ := row_built hown hev hq
          clear hown hev hq
          have hszo := hba.size
          have hBB := hba.trans (hbk.mono hba.size)
          obtain ⟨xs, hs, hown, hev, hx, hinj, hrows, hbw⟩ := HB.out
          have hrows0 : ∀ j, j < i → hs j ≠ h := fun j hj e => by have := (hrows j hj).2.lt; omega
          replace hev := hev.below hown hBB
          replace hown := ownsRow_below hown hBB
          replace hrows : ∀ j, j < i → w.heap.size ≤ hs j ∧ RowAt wr (hs j) (rowQ f j) := fun j hj => ⟨(hrows j hj).1, (hrows j hj).2.below hBB⟩
          replace hbw := hbw.trans (hBB.mono hbw.size)
          have hW2 : Below wr.heap.size wr (wr.alloc (.cells #[.slice (some ⟨h, 0, none⟩) 8 ch] 72)) := (Below.refl _ _).alloc (Nat.le_refl _) _
          have hown2 := Lib.hid (ownsRow_below hown hW2)
          have hev2 := Lib.hid (hev.below hown hW2)
          have hbw2 := hbw.trans (hW2.mono hbw.size)
          have hnew : Hid (∀ j u, [Value.slice (some ⟨h, 0, none⟩) 8 ch][j]? = some u → (wr.alloc (.cells #[.slice (some ⟨h, 0, none⟩) 8 ch] 72)).cell? ((⟨wr.heap.size, 0, none⟩ : Addr).add j) = some u) := by
            intro j u hu
            rw [Addr.add_lit, (Blk.new wr 72 #[.slice (some ⟨h, 0, none⟩) 8 ch]).cell, Nat.zero_add]
            simpa using hu
          have hone : Hid (∀ u ∈ [Value.slice (some ⟨h, 0, none⟩) 8 ch], u.oneCell' = true) := by intro u hu; simp at hu; rcases hu with rfl; rfl
          have hnwl : Hid (∀ u ∈ [Value.slice (some ⟨h, 0, none⟩) 8 ch], nw u = true) := by intro u hu; simp at hu; rcases hu with rfl; rfl
          have HX := Lib.hid hx
          have HJ := Lib.hid hinj
          have HRW := Lib.hid hrows
          have HR0 := Lib.hid hrows0
          have hsz1 : w.heap.size ≤ wr.heap.size := hbw.size
          clear hx hinj hrows hrows0 hown hev
          go_wp2_with (at_builtin; refine wpList_append_ev _ rfl nw (.tmp 33) (.tmp 35) _ rfl w.heap.size 72 j0 _ 1 24 Tryz.underlying71 hj0 hy0 hy1 hy2 rfl (by omega) _ i xs rfl hown2.out ⟨wr.heap.size, 0, none⟩ 1 1 [.slice (some ⟨h, 0, none⟩) 8 ch] rfl rfl hnew.out hone.out (by simp only [maxLen]; omega) (by omega) (by simp; omega) hev2.out hnwl.out zsl_nw ?_; intro v' w3 hown3 hg3 hev3)
          go_roundw
          case rel =>
            exact ⟨i + 1, by omega, by go_num, BuildL.next hown2.out hev2.out HX.out HJ.out (fun j hj => ⟨(HRW.out j hj).1, HR0.out j hj, (HRW.out j hj).2.below hW2⟩) hbw2 (hrow.below hW2) (by have := hBw.size; omega) hch hcm' hown3 hg3 hev3⟩
          case measure => simp [intOf]; omega
    · obtain rfl : i = n := by omega
      have hbw : Below w.heap.size w wr := by obtain ⟨_, _, _, _, _, _, _, h⟩ := hBL; exact h
      obtain ⟨hs, hLV⟩ := hBL.done
      clear hBL
      clear hA
      have HF := Lib.hid hf
      clear hf hi hlt
      go_wp2_with fail
      go_loopw [3, 38] (fun lv kv wk => ∃ (k m : Nat) (hs : Nat → Nat) (rows : Nat → Nat → Rat), k ≤ 8 ∧ kv = .int .i64 k ∧ m ≤ 1000 ∧ LeftV wk w.heap.size lv m hs rows ∧ (∀ i, i < m → ∀ j, j < 8 → RBd (2 * 9 ^ k) (rows i j)) ∧
        (Inj8 0 (listQ i (rowQ f)) ↔ Inj8 k (listQ m rows)) ∧ Below w.heap.size w wk) (fun _ k _ => 8 - (intOf k).toNat)
      case atStart => exact ⟨0, i, hs, rowQ f, by omega, rfl, hn, hLV, fun a ha j hj => rbd_int (HF.out a ha j hj).1 (HF.out a ha j hj).2, Iff.rfl, hbw⟩
      case round =>
        obtain ⟨k, m, hs, rows, hk, rfl, hm, hLV, hbd, hinj, hbw⟩ := hrel
        by_cases hk8 : k < 8
        · have hk8i : (k : Int) < 8 := by omega
          have hLW := hLV.below ((Below.refl wr.heap.size wr).alloc (Nat.le_refl _) (.cells #[.int .i64 k] 3))
          obtain ⟨kp, hkp, hkp0, hkB, hkb⟩ : ∃ kp, kp = wr.heap.size ∧ w.heap.size ≤ kp ∧ Blk (wr.alloc (.cells #[.int .i64 k] 3)) kp 3 #[.int .i64 k] ∧ Below w.heap.size w (wr.alloc (.cells #[.int .i64 k] 3)) :=
            ⟨_, rfl, hbw.size, Blk.new _ _ _, hbw.trans (((Below.refl _ _).alloc (Nat.le_refl _) _).mono hbw.size)⟩
          go_wp2_with fail
          rw [← hkp]
          clear hkp
          generalize wr.alloc (.cells #[.int .i64 k] 3) = w0 at *
          refine (index_rat hLW hk8 (hkB.cell 0)).mono ?_
          rintro e w1 ⟨(⟨rfl, hz⟩ | ⟨at_, hat, rfl, hne⟩), hb1⟩
          · go_wp2_with fail
            go_ret
            refine ⟨false, rfl, ?_, hkb.trans (hb1.mono hkb.size)⟩
            rw [hinj]
            refine ⟨fun h => (by cases h), fun h => absurd h (inj_none hk8 fun r hr => ?_)⟩
            obtain ⟨x, hx, rfl⟩ := List.mem_map.1 hr
            exact hz x (List.mem_range.1 hx)
          · replace hLW := hLW.below hb1
            replace hkB := hkB.below hb1 hkB.lt
            replace hkb := hkb.trans (hb1.mono hkb.size)
            clear hLV
            obtain ⟨A', c', rfl, hmc, hcm', hAA⟩ := hLW
            obtain ⟨G, rfl, hL⟩ := hAA (by omega)
            obtain ⟨m', rfl⟩ : ∃ m', m = m' + 1 := ⟨m - 1, by omega⟩
            obtain ⟨cp, hcp8, hcpm, hcpc⟩ : ∃ cp, 8 ≤ cp ∧ cp ≤ 9223372036854775807 ∧ w1.cell? ⟨G, at_, none⟩ = some (.slice (some ⟨hs at_, 0, none⟩) 8 cp) := by
              obtain ⟨cur, h1, -, h3⟩ := hL.blk
              obtain ⟨cp, h4, h5, h6⟩ := h3 at_ hat
              exact ⟨cp, h4, h5, (h1.cell at_).trans h6⟩
            clear hb1 hAA
            go_wp2_with fail
            refine (delete_rat hL hat hmc hcm').mono ?_
            rintro e w2 ⟨rfl, hL2, hO2⟩
            rw [Nat.add_sub_cancel] at hL2
            have hcur := hL.blk
            have hpR : RowAt w2 (hs at_) (rows at_) := by
              obtain ⟨cur, h1, h2, -⟩ := hcur
              exact (hL.row at_ hat).2.only h1 h2 hO2 (fun e => hL.ne (hL.row at_ hat).2 e.symm)
            have hkB2 : Blk w2 kp 3 #[.int .i64 k] := by
              obtain ⟨cur, h1, -⟩ := hcur
              exact hkB.only hO2 (hkB.ne_ h1 (by decide))
            have hkb2 : Below w.heap.size w w2 := hkb.trans (hO2.below hL.low hkb.size)
            have hpne : ∀ x, x < m' → cutAt hs at_ x ≠ hs at_ := fun x hx e => by
              unfold cutAt at e
              by_cases h : x < at_
              · rw [if_pos h] at e; have := hL.inj x at_ (by omega) hat e; omega
              · rw [if_neg h] at e; have := hL.inj (x + 1) at_ (by omega) hat e; omega
            have hbd' : ∀ x, x < m' → ∀ j, j < 8 → RBd (2 * 9 ^ k) (cutAt rows at_ x j) := fun x hx j hj => by
              unfold cutAt
              by_cases h : x < at_
              · rw [if_pos h]; exact hbd x (by omega) j hj
              · rw [if_neg h]; exact hbd (x + 1) (by omega) j hj
            have hbp := hbd at_ hat
            have hstep : Inj8 k (listQ (m' + 1) rows) ↔ Inj8 (k + 1) (listQ m' (fun x => elimR (cutAt rows at_ x) (rows at_) k)) := by
              rw [show listQ m' (fun x => elimR (cutAt rows at_ x) (rows at_) k) = (listQ m' (cutAt rows at_)).map (fun r => elimR r (rows at_) k) from by simp [listQ]]
              refine inj_step hk8 hne fun r => ?_
              simp only [listQ, List.mem_map, List.mem_range]
              constructor
              · rintro ⟨x, hx, rfl⟩
                rcases Nat.lt_trichotomy x at_ with h | h | h
                · exact .inr ⟨x, by omega, by unfold cutAt; rw [if_pos h]⟩
                · subst h; exact .inl rfl
                · exact .inr ⟨x - 1, by omega, by unfold cutAt; rw [if_neg (by omega), Nat.sub_add_cancel (by omega)]⟩
              · rintro (rfl | ⟨x, hx, rfl⟩)
                · exact ⟨at_, hat, rfl⟩
                · unfold cutAt
                  by_cases h : x < at_
                  · exact ⟨x, by omega, by rw [if_pos h]⟩
                  · exact ⟨x + 1, by omega, by rw [if_neg h]⟩
            rw [hstep] at hinj
            have hp0 : w.heap.size ≤ hs at_ := (hL.row at_ hat).1
            clear hstep hbd hkb hkB hO2 hcur hL hcpc
            generalize hs at_ = hp at *
            generalize rows at_ = p at *
            generalize cutAt hs at_ = hs' at *
            generalize cutAt rows at_ = rows' at *
            simp only [Nat.add_sub_cancel]
            clear hbw
            have HIN := Lib.hid hinj
            clear hinj
            have HBD := Lib.hid hbd'
            have HBP := Lib.hid hbp
            clear hbd' hbp
            go_wp2_with fail
            go_loopw [57] (fun iv wk => ∃ i : Nat, i ≤ m' ∧ iv = .int .i64 i ∧ LeftAt wk w.heap.size G m' hs' (fun x => if x < i then elimR (rows' x) p k else rows' x) ∧ RowAt wk hp p ∧ Blk wk kp 3 #[.int .i64 k] ∧ Below w.heap.size w wk) (fun i _ => m' - (intOf i).toNat)
            case atStart => exact ⟨0, Nat.zero_le _, rfl, by simpa using hL2, hpR, hkB2, hkb2⟩
            case round =>
              obtain ⟨r, hr, rfl, hL4, hp4, hk4, hb4⟩ := hrel
              by_cases hrm : r < m'
              · obtain ⟨cr, hcr8, hcrm, hcrc⟩ : ∃ cp, 8 ≤ cp ∧ cp ≤ 9223372036854775807 ∧ wr.cell? ⟨G, r, none⟩ = some (.slice (some ⟨hs' r, 0, none⟩) 8 cp) := by
                  obtain ⟨cur, h1, -, h3⟩ := hL4.blk
                  obtain ⟨cp, h4, h5, h6⟩ := h3 r hrm
                  exact ⟨cp, h4, h5, (h1.cell r).trans h6⟩
                have hrow : RowAt wr (hs' r) (rows' r) := by have := (hL4.row r hrm).2; rwa [if_neg (Nat.lt_irrefl r)] at this
                obtain ⟨x1, x2, x3, x4, q1, q2, q3, q4, hx⟩ := hrow.get hk8
                obtain ⟨y1, y2, y3, y4, s1, s2, s3, s4, hy⟩ := hp4.get hk8
                have hkc := hk4.cell 0
                have HL4 := Lib.hid hL4
                clear hL4
                have lt1 : hp < wr.heap.size := hp4.lt
                have lt2 : hs' r < wr.heap.size := hrow.lt
                have lt3 : kp < wr.heap.size := hk4.lt
                have lt1' : hp ≠ wr.heap.size := by omega
                have lt2' : hs' r ≠ wr.heap.size := by omega
                have lt3' : kp ≠ wr.heap.size := by omega
                have hpk : (p k).num ≠ 0 := fun e => hne (Rat.num_eq_zero.1 e)
                have hbx := HBD.out r hrm k hk8
                have hby := HBP.out k hk8
                have hkc : wr.cell? ⟨kp, 0, none⟩ = some (.int .i64 k) := hkc
                go_upto_region 24 with fail
                go_cut [14, 57] (fun s14 s57 wx => s57 = .int .i64 r ∧ ∃ cb a b c d, s14 = .pointer (some ⟨cb, 0, none⟩) ∧ Blk wx cb 77 #[a, b, c, d] ∧ RatV wx (.agg #[a, b, c, d]) (rows' r k / p k) ∧ Below wr.heap.size wr wx ∧ wr.heap.size ≤ cb)
                case first =>
                  have hB : 2 * 9 ^ k ≤ 34359738368 := Nat.le_trans (Nat.mul_le_mul_left 2 (Nat.pow_le_pow_right (by omega) (show k ≤ 8 by omega))) (by decide)
                  clear hcrc hrow hp4 hk4 HL4
                  go_region_held3 (fun w' => w'.cell? ⟨kp, 0, none⟩ = some (.int .i64 k) ∧ w'.cell? ⟨hs' r, k * 4, none⟩ = some x1 ∧ w'.cell? ⟨hs' r, k * 4 + 1, none⟩ = some x2 ∧ w'.cell? ⟨hs' r, k * 4 + 2, none⟩ = some x3 ∧ w'.cell? ⟨hs' r, k * 4 + 3, none⟩ = some x4 ∧ w'.cell? ⟨hp, k * 4, none⟩ = some y1 ∧ w'.cell? ⟨hp, k * 4 + 1, none⟩ = some y2 ∧ w'.cell? ⟨hp, k * 4 + 2, none⟩ = some y3 ∧ w'.cell? ⟨hp, k * 4 + 3, none⟩ = some y4)
                    (((try dsimp only); (repeat' apply And.intro); all_goals first | (refine keep_cell (W := wr) ?_ (by assumption) (by assumption); ((repeat' (first | with_reducible exact Below.refl _ _ | with_reducible exact hC1 | with_reducible refine Below.drew ?_ | with_reducible refine Below.alloc ?_ (by simp) _ | with_reducible refine Below.alloc ?_ (by omega) _))); done) | (rw [cell_set4 (by omega)]; refine keep_cell (W := wr) ?_ (by assumption) (by assumption); ((repeat' (first | with_reducible exact Below.refl _ _ | with_reducible exact hC1 | with_reducible refine Below.drew ?_ | with_reducible refine Below.alloc ?_ (by simp) _ | with_reducible refine Below.alloc ?_ (by omega) _))); done) | (go_keep; done)))
                    (first
                      | (go_at_call 56; refine (rat_div (RatV.below hx ?_) (RatV.below hy ?_) hbx hby hB hpk).mono ?_; (focus ((repeat' (first | with_reducible exact Below.refl _ _ | with_reducible refine Below.drew ?_ | with_reducible refine Below.alloc ?_ (by simp) _)))); (focus ((repeat' (first | with_reducible exact Below.refl _ _ | with_reducible refine Below.drew ?_ | with_reducible refine Below.alloc ?_ (by simp) _)))); rintro e w5 ⟨v5, rfl, hv5, hb5⟩; have hC1 : Below wr.heap.size wr w5 := (by refine below_step ?_ hb5; ((repeat' (first | with_reducible exact Below.refl _ _ | with_reducible refine Below.drew ?_ | with_reducible refine Below.alloc ?_ (by simp) _)))); have hs5 := hC1.size; have hv5' := hv5; obtain ⟨A5, n5, c5, A6, n6, c6, rfl, -, -⟩ := hv5'; (try (obtain ⟨⟨g0, g1, g2, g3⟩, ⟨g4, g5, g6, g7⟩, g8⟩ := (Blk.below (Blk.drew (Blk.new wr 77 #[.bool false, .slice none 0 0, .bool false, .slice none 0 0])) hb5 (by simp)).four))))
                  all_goals (go_wp2_with fail; go_meet)
                  · exact ⟨rfl, _, _, _, _, _, rfl, Blk.new w5 _ _, hv5.below ((Below.refl _ _).alloc (Nat.le_refl _) _), hC1.alloc hs5 _, hs5⟩
                  · have hBk : Blk w5 wr.heap.size 77 #[.bool false, .slice none 0 0, .bool false, .slice none 0 0] := Blk.below (Blk.drew (Blk.new wr 77 #[.bool false, .slice none 0 0, .bool false, .slice none 0 0])) hb5 (by simp)
                    exact ⟨rfl, wr.heap.size, _, _, _, _, rfl, hBk.put4 0 _ _ _ _, hv5.only hBk rfl (put4_only w5 wr.heap.size 0 _ _ _ _), hC1.trans ((put4_only w5 wr.heap.size 0 _ _ _ _).below (Nat.le_refl _) hs5), Nat.le_refl _⟩
                case rest =>
                  obtain ⟨rfl, cb, z1, z2, z3, z4, rfl, hcB, hcV, hbc, hcb⟩ := hcut
                  have hL5 := HL4.out.below hbc
                  have hp5 := hp4.below hbc
                  have hr5 := hrow.below hbc
                  have hk5 := hk4.below hbc lt3
                  have hb5 := hb4.trans (hbc.mono hb4.size)
                  have hne1 : cb ≠ hs' r := by omega
                  have hne2 : hp ≠ hs' r := fun e => hpne r hrm e.symm
                  have hne3 : kp ≠ hs' r := by
                    obtain ⟨_, h1, -⟩ := hrow
                    exact hk4.ne_ h1 (by decide)
                  have bC := RBd.div hbx hby hpk
                  obtain ⟨cur5, hB5, -, hnw5, -⟩ := id hr5
                  clear hcrc hrow hp4 hk4 HL4 hx hy hbx hby hkc q1 q2 q3 q4 s1 s2 s3 s4 lt1 lt2 lt3 lt1' lt2' lt3' hb4 hbc
                  have HL5 := Lib.hid hL5
                  clear hL5
                  go_wp2_with fail
                  go_loopw [75] (fun jv wk => ∃ j : Nat, j ≤ 8 ∧ jv = .int .i64 j ∧ RowAt wk (hs' r) (fun x => if x < j then elimR (rows' r) p k x else rows' r x) ∧ Only (hs' r) wc wk) (fun j _ => 8 - (intOf j).toNat)
                  case atStart => exact ⟨0, Nat.zero_le _, rfl, by simpa using hr5, Only.refl _ _⟩
                  case round =>
                    obtain ⟨j, hj, rfl, hrow, honly⟩ := hrel
                    by_cases hj8 : j < 8
                    · have hj8i : (j : Int) < 8 := by omega
                      obtain ⟨x1, x2, x3, x4, q1, q2, q3, q4, hx⟩ := hrow.get hj8
                      rw [if_neg (Nat.lt_irrefl j)] at hx
                      have hp6 := hp5.only hB5 hnw5 honly hne2
                      obtain ⟨y1, y2, y3, y4, s1, s2, s3, s4, hy⟩ := hp6.get hj8
                      have hcB6 := hcB.only honly hne1
                      obtain ⟨⟨d0, d1, d2, d3⟩, -, lt3⟩ := hcB6.four
                      have hcV6 := hcV.only hB5 hnw5 honly
                      have lt1 : hp < wr.heap.size := hp6.lt
                      have lt2 : hs' r < wr.heap.size := hrow.lt
                      have bP := HBP.out j hj8
                      have bL := HBD.out r hrm j hj8
                      have hBk : 2 * 9 ^ k ≤ 9565938 := Nat.le_trans (Nat.mul_le_mul_left 2 (Nat.pow_le_pow_right (by omega) (show k ≤ 7 by omega))) (by decide)
                      generalize 2 * 9 ^ k = B at *
                      have bM := RBd.mul bC (bP.mono (show B ≤ B + B by omega))
                      have HROW := Lib.hid hrow
                      clear hrow hp6 hcB6
                      clear HL5 HIN HF hLV hbw hi0 hz0 hz1 hz2 hj0 hy0 hy1 hy2 hkB2 hkb2 hpR hL2 hk5 hb5 hp5 hr5 HBD HBP hpne hkc hne hpk
                      go_upto_region 28 with fail
                      go_region_with
                        (first
                          | (go_at_call 58; refine (rat_mul (RatV.below hcV6 ?_) (RatV.below hy ?_) bC (bP.mono (show B ≤ B + B by omega)) (by omega)).mono ?_; (focus ((repeat' (first | with_reducible exact Below.refl _ _ | with_reducible refine Below.drew ?_)))); (focus ((repeat' (first | with_reducible exact Below.refl _ _ | with_reducible refine Below.drew ?_)))); rintro e w6 ⟨v6, rfl, hv6, hb6⟩; have hC1 : Below wr.heap.size wr w6 := (by refine below_step ?_ hb6; ((repeat' (first | with_reducible exact Below.refl _ _ | with_reducible refine Below.drew ?_)))); have m0 := (hC1.cell (p := ⟨hs' r, j * 4, none⟩) lt2).trans q1; have m1 := (hC1.cell (p := ⟨hs' r, j * 4 + 1, none⟩) lt2).trans q2; have m2 := (hC1.cell (p := ⟨hs' r, j * 4 + 2, none⟩) lt2).trans q3; have m3 := (hC1.cell (p := ⟨hs' r, j * 4 + 3, none⟩) lt2).trans q4)
                          | (go_at_call 57; refine (rat_sub (RatV.below hx ?_) (RatV.below hv6 ?_) (bL.mono (show B ≤ B + B + (B + B) by omega)) bM (by omega)).mono ?_; (focus ((repeat' (first | with_reducible exact Below.refl _ _ | with_reducible exact hC1 | with_reducible refine Below.drew ?_)))); (focus ((repeat' (first | with_reducible exact Below.refl _ _ | with_reducible refine Below.drew ?_)))); rintro e w7 ⟨v7, rfl, hv7, hb7⟩; have hC2 : Below wr.heap.size wr w7 := (by refine below_step ?_ hb7; ((repeat' (first | with_reducible exact Below.refl _ _ | with_reducible exact hC1 | with_reducible refine Below.drew ?_)))); have hv7' := hv7; obtain ⟨A5, n5, c5, A6, n6, c6, rfl, -, -⟩ := hv7'; have hrow7 := HROW.out.below hC2; have fr0 := hrow7.frozen (j * 4); have fr1 := hrow7.frozen (j * 4 + 1); have fr2 := hrow7.frozen (j * 4 + 2); have fr3 := hrow7.frozen (j * 4 + 3); have e0 := (hC2.cell (p := ⟨hs' r, j * 4, none⟩) lt2).trans q1; have e1 := (hC2.cell (p := ⟨hs' r, j * 4 + 1, none⟩) lt2).trans q2; have e2 := (hC2.cell (p := ⟨hs' r, j * 4 + 2, none⟩) lt2).trans q3; have e3 := (hC2.cell (p := ⟨hs' r, j * 4 + 3, none⟩) lt2).trans q4))
                      all_goals
                        go_wp2_with fail
                        go_roundw
                      all_goals first
                        | (exact ⟨j + 1, by omega, by go_num, (hrow7.put hj8 hv7).congr (mix_next _ _ _ _), honly.trans ((Only.of_below hC2).trans (put4_only w7 (hs' r) (j * 4) _ _ _ _))⟩)
                        | (simp [intOf]; omega)
                    · obtain rfl : j = 8 := by omega
                      have hrow8 : RowAt wr (hs' r) (elimR (rows' r) p k) := hrow.congr (fun x hx => if_pos hx)
                      have hL6 := HL5.out.turn hrm honly hrow8
                      go_wp2_with fail
                      go_roundw
                      case rel =>
                        exact ⟨r + 1, by omega, by go_num, hL6.congr (fun x hx => mix_rows _ _ _ _ _), hp5.only hB5 hnw5 honly hne2, hk5.only honly hne3, hb5.trans (honly.below (HL5.out.row r hrm).1 hb5.size)⟩
                      case measure => simp [intOf]; omega
              · obtain rfl : r = m' := by omega
                have hL7 : LeftAt wr w.heap.size G r hs' (fun x => elimR (rows' x) p k) := hL4.congr (fun x hx => if_pos hx)
                go_wp2_with fail
                go_roundw
                case rel =>
                  exact ⟨k + 1, r, hs', fun x => elimR (rows' x) p k, by omega, by go_num, by omega, ⟨_, c', rfl, by omega, hcm', fun _ => ⟨G, rfl, hL7⟩⟩, fun x hx j hj => rbd_elim (HBD.out x hx k hk8) (HBP.out k hk8) (HBD.out x hx j hj) (HBP.out j hj) hne, HIN.out, hb4⟩
                case measure => simp [intOf]; omega
        · obtain rfl : k = 8 := by omega
          go_wp2_with fail
          go_ret
          exact ⟨true, rfl, by rw [hinj]; exact ⟨fun _ => inj_all _, fun _ => rfl⟩, hbw⟩

end Go.Proofs.YtmkhfgggleplfaaGreat
