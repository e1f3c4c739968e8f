/-
  The walks of the reference's Full, Permutation. Conditions: rows of type int.
  The walks of the reference's Permutation and Permute. Conditions: rows of type int.
-/
import Derived.Test.YtmkhfgggleplfaaGreatR5B
import Derived.Test.YtmkhfgggleplfaaGreatR5C
import Derived.Test.YtmkhfgggleplfaaGreatR5G
import Derived.Test.YtmkhfgggleplfaaGreatPermA
namespace Go.Proofs.YtmkhfgggleplfaaGreat
set_option linter.unusedSimpArgs false
set_option linter.unusedVariables false
open Go.RowKit

set_option maxHeartbeats 2000000 in
set_option maxRecDepth 100000 in
theorem rfull_any {w : World} {v : Value} {n : Nat} {f : Nat → Nat → Int} (ho : OrdV w v n f) :
    Calls Tryz.prog 12 #[v] w fun e w' => FullSays w w' n f e ∧ Below w.heap.size w w' := by
  obtain ⟨i0, hi0, hz0, hz1, hz2⟩ := info_parts info_row
  obtain ⟨A, c, rfl, hnc, hcm, -⟩ := id ho
  have HO := Lib.hid ho
  clear ho
  go_enter Tryz.func12, Tryz.ntmps12
  go_wp2_with fail
  refine (rvalid_any HO.out).mono ?_
  rintro e w1 ⟨⟨b1, rfl, hv⟩, hb1⟩
  cases b1
  · have hnv : ¬ validP n f := fun h => by have := hv.2 h; cases this
    go_wp2
    exact bodyPost_ret (v := .tuple #[.slice none 0 0, .int .i64 50]) (by simp [results, Tryz.results12, go_sem]) rfl ⟨.inl ⟨hnv, rfl⟩, hb1⟩
  · have hV : validP n f := hv.1 rfl
    have hn : n ≤ 24 := hV.1
    have HV := Lib.hid hV
    have hr1 := Lib.hid ((HO.out.below hb1).reads.alloc (Nat.le_refl _) (.cells #[] 35))
    have hw1 : World.ownsRow (w1.alloc (.cells #[] 35)) w1.heap.size 35 8 (.slice (some ⟨w1.heap.size, 0, none⟩) 0 0) 0 [] := World.ownsRow_made w1 #[] 0 (Nat.le_refl _) (by simp [maxLen]) rfl
    have HW1 := Lib.hid hw1
    have hsw := hb1.size
    clear hv hV hw1
    go_wp2_with (at_builtin; refine wpList_append_any _ rfl (.tmp 9) (.tmp 10) _ rfl w1.heap.size 35 i0 _ 8 64 Tryz.underlying30 hi0 hz0 hz1 hz2 rfl (by omega) (.slice (some ⟨w1.heap.size, 0, none⟩) 0 0) 0 [] rfl HW1.out w1.heap.size A n c (flat f n) rfl hr1.out (flat_one f n) (by simp only [maxLen]; omega) (by omega) (by simp) ?_; intro v2 w2 hown2 hg2 hat2)
    rw [Nat.zero_add, List.nil_append] at hown2
    have hbg : Below w1.heap.size w1 w2 := Below.trans ((Below.refl _ _).alloc (Nat.le_refl _) _) (grown_below' hg2 (B := w1.heap.size) (by simp) (fun k hk => by simp [Value.ownBlock] at hk; omega))
    have hb12 := hb1.trans (hbg.mono hsw)
    have hO2 : OrdO w2 w.heap.size v2 n f := OrdO.mono ⟨_, hown2, fun i hi k hk => flat_at f hi hk⟩ hsw
    have hor := HO.out.below hb12
    clear hown2 hg2 hat2 hbg HW1 hr1
    go_wp2_with fail
    refine (rrank_any hor HV.out).mono ?_
    rintro e w3 ⟨⟨m, rfl, hm⟩, hb3⟩
    have hb13 := hb12.trans (hb3.mono hb12.size)
    have hO3 := hO2.below hb3
    by_cases hm8 : m = 8
    · have hI : Hid (IndepP n f) := hm.1 hm8
      have hme : ((m : Int) == 8) = true := by rw [beq_iff_eq]; omega
      clear hm hm8
      go_wp2
      exact bodyPost_ret (v := .tuple #[v2, .int .i64 0]) (by simp [results, Tryz.results12, go_sem]) rfl ⟨.inr (.inl ⟨HV.out, hI.out, _, rfl, hO3⟩), hb13⟩
    · have hI : Hid (¬ IndepP n f) := fun h => hm8 (hm.2 h)
      have hme : ((m : Int) == 8) = false := by rw [beq_eq_false_iff_ne]; omega
      clear hm hm8
      by_cases hbig : 16 < n
      · go_wp2
        exact bodyPost_ret (v := .tuple #[.slice none 0 0, .int .i64 2]) (by simp [results, Tryz.results12, go_sem]) rfl ⟨.inr (.inr (.inr ⟨HV.out, hI.out, by omega, rfl⟩)), hb13⟩
      · have hn16 : n ≤ 16 := by omega
        clear hbig
        go_wp2_with fail
        go_loopw [4, 5] (fun lv kv wr => ∃ k : Nat, k ≤ 8 ∧ kv = .int .i64 k ∧ OrdO wr w.heap.size lv (n + k) (fullF n f) ∧ Below w.heap.size w wr) (fun _ k _ => 8 - (intOf k).toNat)
        case atStart => exact ⟨0, Nat.zero_le _, rfl, hO3.congr (fun i hi k hk => by unfold fullF catF; rw [if_pos hi]), hb13⟩
        case round =>
          obtain ⟨k, hk, rfl, ⟨xs, hown, hx⟩, hb⟩ := hrel
          by_cases hk8 : k < 8
          · have hki : (k : Int) < 8 := by omega
            have HX := Lib.hid hx
            have HOW := Lib.hid hown
            clear hx hown hO3
            go_wp2_with fail
            refine (runit_any k 1 wr hk8).mono ?_
            rintro e w4 ⟨rfl, hb4⟩
            have hr := Lib.hid (vec8_reads w4 (unitF k 1))
            have hW2 : Below wr.heap.size wr (w4.alloc (.cells (vec8 (unitF k 1)) 35)) := hb4.alloc hb4.size _
            have hown2 := Lib.hid (ownsRow_below HOW.out hW2)
            have hsz := hb.size
            have hsz2 := hb4.size
            go_wp2_with (at_builtin; refine wpList_append_any _ rfl (.tmp 23) (.tmp 26) _ rfl w.heap.size 35 i0 _ 8 64 Tryz.underlying30 hi0 hz0 hz1 hz2 rfl (by omega) _ (n + k) xs rfl hown2.out (w4.heap.size + 1) (some ⟨w4.heap.size, 0, none⟩) 1 1 (vec8 (unitF k 1)).toList rfl hr.out (vec8_one _) (by simp only [maxLen]; omega) (by omega) (by simp; omega) ?_; intro v5 w5 hown5 hg5 hat5)
            go_roundw
            case rel =>
              refine ⟨k + 1, by omega, by go_num, (OrdO.push HX.out HOW.out.1 hown5).congr ?_, (hb.trans (hW2.mono hb.size)).grown hg5 (by simp; omega) (fun g h => (hown2.out.lt g h).1)⟩
              intro i hi k' hk'
              by_cases h : i < n + k
              · simp [h]
              · simp only [h, if_false]
                unfold fullF catF
                rw [if_neg (by omega), show i - n = k from by omega]
            case measure => simp [intOf]; omega
          · obtain rfl : k = 8 := by omega
            obtain ⟨A', c', rfl, hnc, hcm, -⟩ := own_slice hown
            go_wp2
            exact bodyPost_ret (v := .tuple #[.slice A' (n + 8) c', .int .i64 0]) (by simp [results, Tryz.results12, go_sem]) rfl ⟨.inr (.inr (.inl ⟨HV.out, hI.out, by omega, _, rfl, xs, hown, hx⟩)), hb⟩

end Go.Proofs.YtmkhfgggleplfaaGreat
namespace Go.Proofs.YtmkhfgggleplfaaGreat
open Go.RowKit

theorem okPerm_seen {q : Nat → Int} {k y : Nat} (hj : seenF q k y = true) (hy : q k = (y : Int)) (hk : k < 8) : ¬ okPerm q := fun h => by
  obtain ⟨j, hj, e⟩ := seenF_iff.1 hj
  exact (h k hk).2.2 j hj (e.trans hy.symm)
set_option maxHeartbeats 2000000 in
set_option maxRecDepth 100000 in
theorem rpermutation_any {w : World} {q : Nat → Int} :
    Calls Tryz.prog 41 #[.agg (vec8 q)] w fun e w' => Says (okPerm q) e ∧ Below w.heap.size w w' := by
  obtain ⟨W2, hW2, hb2, hQ2, hS2, hs2⟩ := boxes2 w 35 63 (vec8 q) (vecb fun _ => false)
  go_enter Tryz.func41, Tryz.ntmps41
  go_wp2_with fail
  rw [← hW2]
  clear hW2
  go_loopw [4] (fun kv wr => ∃ k : Nat, k ≤ 8 ∧ kv = .int .i64 k ∧ (∀ k', k' < k → 0 ≤ q k' ∧ q k' < 8 ∧ ∀ j, j < k' → q j ≠ q k') ∧ Blk wr (w.heap.size + 1) 63 (vecb (seenF q k)) ∧ Blk wr w.heap.size 35 (vec8 q) ∧ Below w.heap.size w wr) (fun k _ => 8 - (intOf k).toNat)
  case atStart => exact ⟨0, Nat.zero_le _, rfl, fun j hj => absurd hj (by omega), hS2, hQ2, hb2⟩
  case round =>
    obtain ⟨k, hk, rfl, hz, hS, hQ, hbr⟩ := hrel
    have HZ := Lib.hid hz
    clear hz
    by_cases hk8 : k < 8
    · have hki : (k : Int) < 8 := by omega
      have hcq := hQ.at8 hk8
      obtain ⟨x, hx⟩ : ∃ x, x = q k := ⟨_, rfl⟩
      rw [← hx] at hcq
      have HX := Lib.hid hx
      clear hx
      by_cases h1 : x < 0
      · go_wp2
        go_ret
        refine ⟨⟨false, rfl, fun h => (by cases h), fun h => ?_⟩, by with_reducible first | assumption | exact hbr.drewN _⟩
        have := (h k hk8).1
        rw [← HX.out] at this
        omega
      by_cases h2 : 7 < x
      · go_wp2
        go_ret
        refine ⟨⟨false, rfl, fun h => (by cases h), fun h => ?_⟩, by with_reducible first | assumption | exact hbr.drewN _⟩
        have := (h k hk8).2.1
        rw [← HX.out] at this
        omega
      obtain ⟨y, rfl⟩ : ∃ y : Nat, x = (y : Int) := ⟨x.toNat, by omega⟩
      have hy8 : y < 8 := by omega
      have hyi : (y : Int) < 8 := by omega
      have hy0 : (0 : Int) ≤ (y : Int) := by omega
      have hcs := (hS.cell y).trans (vecb_get _ hy8)
      have hfs := hS.frozen y
      have HS := Lib.hid hS
      have HQ := Lib.hid hQ
      clear hS hQ
      obtain ⟨sb, hsb⟩ : ∃ sb, sb = seenF q k y := ⟨_, rfl⟩
      rw [← hsb] at hcs
      have HSB := Lib.hid hsb
      clear hsb
      cases sb
      · go_wp2_with fail
        go_roundw
        case rel =>
          refine ⟨k + 1, by omega, by go_num, fun k' hk' => ?_, ?_, HQ.out.far (by show w.heap.size ≠ w.heap.size + 1; omega) _, hbr.setCell (by show w.heap.size ≤ w.heap.size + 1; omega) _⟩
          · by_cases e : k' < k
            · exact HZ.out k' e
            · obtain rfl : k' = k := by omega
              refine ⟨by rw [← HX.out]; omega, by rw [← HX.out]; omega, fun j hj e' => ?_⟩
              have : seenF q k' y = true := seenF_iff.2 ⟨j, hj, e'.trans HX.out.symm⟩
              rw [← HSB.out] at this
              cases this
          · have := HS.out.set_ y (.bool true)
            rw [vecb_set _ hy8, vecb_congr (h := seenF q (k + 1))] at this
            · exact this
            · intro j hj
              rw [seenF_step, ← HX.out]
              by_cases e : j = y
              · subst e; rw [if_pos rfl]; simp
              · rw [if_neg e]
                have : decide ((y : Int) = (j : Int)) = false := by simp; omega
                rw [this, Bool.or_false]
        case measure => simp [intOf]; omega
      · go_wp2
        go_ret
        exact ⟨⟨false, rfl, fun h => (by cases h), fun h => absurd h (okPerm_seen HSB.out.symm HX.out.symm hk8)⟩, by with_reducible first | assumption | exact hbr.drewN _⟩
    · obtain rfl : k = 8 := by omega
      have HP : Hid (okPerm q) := HZ.out
      clear hS hQ HZ
      go_wp2
      go_ret
      exact ⟨⟨true, rfl, fun _ => HP.out, fun _ => rfl⟩, by with_reducible first | assumption | exact hbr.drewN _⟩

set_option maxHeartbeats 4000000 in
set_option maxRecDepth 100000 in
theorem rpermute_any {w : World} {v : Value} {n : Nat} {f : Nat → Nat → Int} {q : Nat → Int} (ho : OrdV w v n f) :
    Calls Tryz.prog 14 #[v, .agg (vec8 q)] w fun e w' => PermuteSays w w' n f q e ∧ Below w.heap.size w w' := by
  obtain ⟨i0, hi0, hz0, hz1, hz2⟩ := info_parts info_row
  obtain ⟨W0, hW0, hb0, hQ0, hs0⟩ := boxes1 w 35 (vec8 q)
  have hs0 : w.heap.size < W0.heap.size := by omega
  have HO := Lib.hid (ho.below hb0)
  clear ho
  go_enter Tryz.func14, Tryz.ntmps14
  go_wp2_with fail
  rw [← hW0]
  clear hW0
  (with_reducible refine (rvalid_any HO.out).mono ?_)
  rintro e w1 ⟨⟨b1, rfl, hv⟩, hb1⟩
  have hQ1 := hQ0.below hb1 hs0
  have hb01 := hb0.trans (hb1.mono hb0.size)
  have HO1 := Lib.hid (HO.out.below hb1)
  clear HO hQ0
  cases b1
  · have hnv : ¬ validP n f := fun h => by have := hv.2 h; cases this
    go_wp2
    exact bodyPost_ret (v := .tuple #[.slice none 0 0, .int .i64 50]) (by simp [results, Tryz.results14, go_sem]) rfl ⟨.inl ⟨hnv, rfl⟩, hb01⟩
  · have HV : Hid (validP n f) := hv.1 rfl
    clear hv
    obtain ⟨c0, c1, c2, c3, c4, c5, c6, c7⟩ := hQ1.eight
    go_wp2_with fail
    clear c0 c1 c2 c3 c4 c5 c6 c7
    (with_reducible refine (rpermutation_any (q := q)).mono ?_)
    rintro e w2 ⟨⟨b2, rfl, hp⟩, hb2⟩
    have hQ2 := hQ1.below hb2 hQ1.lt
    have hb02 := hb01.trans (hb2.mono hb01.size)
    have HO2 := Lib.hid (HO1.out.below hb2)
    clear HO1 hQ1
    cases b2
    · have hnp : ¬ okPerm q := fun h => by have := hp.2 h; cases this
      go_wp2
      exact bodyPost_ret (v := .tuple #[.slice none 0 0, .int .i64 1]) (by simp [results, Tryz.results14, go_sem]) rfl ⟨.inr (.inl ⟨HV.out, hnp, rfl⟩), hb02⟩
    have HP : Hid (okPerm q) := hp.1 rfl
    clear hp
    go_wp2_with fail
    (with_reducible refine (rfull_any HO2.out).mono ?_)
    rintro e w4 ⟨hF, hb4⟩
    have hQ4 := hQ2.below hb4 hQ2.lt
    have hb04 := hb02.trans (hb4.mono hb02.size)
    have hcomb : (e = .returned (.tuple #[.slice none 0 0, .int .i64 2]) ∧ ¬ IndepP n f ∧ 24 < n + 8) ∨ ∃ (N : Nat) (F : Nat → Nat → Int), ((IndepP n f ∧ N = n ∧ F = f) ∨ (¬ IndepP n f ∧ n + 8 ≤ 24 ∧ N = n + 8 ∧ F = fullF n f)) ∧ N ≤ 24 ∧ ∃ r, e = .returned (.tuple #[r, .int .i64 0]) ∧ OrdO w4 w2.heap.size r N F := by
      rcases hF with ⟨h, _⟩ | ⟨h0, h, r, h1, h2⟩ | ⟨h0, h, h1, r, h2, h3⟩ | ⟨h0, h, h1, h2⟩
      · exact absurd HV.out h
      · exact .inr ⟨n, f, .inl ⟨h, rfl, rfl⟩, HV.out.1, r, h1, h2⟩
      · exact .inr ⟨n + 8, _, .inr ⟨h, h1, rfl, rfl⟩, h1, r, h2, h3⟩
      · exact .inl ⟨h2, h, h1⟩
    clear hF
    rcases hcomb with ⟨rfl, hni, hbig⟩ | ⟨N, F, hNF, hN24, r, rfl, hr⟩
    · go_wp2
      exact bodyPost_ret (v := .tuple #[.slice none 0 0, .int .i64 2]) (by simp [results, Tryz.results14, go_sem]) rfl ⟨.inr (.inr (.inl ⟨HV.out, HP.out, hni, hbig, rfl⟩)), hb04⟩
    · have HNF := Lib.hid hNF
      clear hNF
      obtain ⟨A, c, rfl, hNc, hcm, hA⟩ := hr.ordV
      have HR := Lib.hid hr
      clear hr
      have hq4 := hQ4.lt
      have hs4 : w.heap.size ≤ w4.heap.size := hb04.size
      have hN63 : N ≤ 9223372036854775807 := by omega
      have hbn := below_one w4 (.cells #[] 35)
      have HQ4 := Lib.hid hQ4
      clear hQ2 hb2 hb1 hb01 hb02 hb4 hb0 hs0 HO2 hQ4
      go_wp2_with fail
      go_loopw [8, 9] (fun ov iv wx => ∃ (i : Nat) (G : Nat → Nat → Int), i ≤ N ∧ iv = .int .i64 i ∧ (∀ i', i' < i → ∀ k, k < 8 → G i' (q k).toNat = F i' k) ∧ OrdO wx w4.heap.size ov i G ∧ Below w4.heap.size w4 wx) (fun _ i _ => N - (intOf i).toNat)
      case atStart => exact ⟨0, fun _ _ => 0, Nat.zero_le _, rfl, fun j hj => absurd hj (by omega), ⟨[], World.ownsRow_made w4 #[] 0 (Nat.le_refl _) (by simp [maxLen]) rfl, fun i hi => absurd hi (by omega)⟩, hbn⟩
      case round =>
        rename World => wo
        obtain ⟨i, G, hi, rfl, hz, ⟨xs, hown, hx⟩, hbx⟩ := hrel
        by_cases hlt : i < N
        · have hii : (i : Int) < (N : Int) := by omega
          have hin0 : (0 : Int) ≤ (i : Int) := by omega
          obtain ⟨W5, hW5, hb5, hR5, hs5⟩ := boxes1 wo 35 (vec8 fun _ => 0)
          obtain ⟨bk, off, rfl, hbl, hcell⟩ := hA (by omega)
          have HZ := Lib.hid hz
          have HOW := Lib.hid hown
          have HX := Lib.hid hx
          have HC : Hid (∀ k, k < 8 → w4.cell? ⟨bk, off + i * 8 + k, none⟩ = some (.int .i64 (F i k))) := fun k hk => hcell i hlt k hk
          have hsz4 := hbx.size
          clear hz hown hx hcell hA hs5
          go_wp2_with fail
          rw [← hW5]
          clear hW5
          go_loopw [11] (fun kv wk => ∃ (k : Nat) (R : Nat → Int), k ≤ 8 ∧ kv = .int .i64 k ∧ (∀ k', k' < k → R (q k').toNat = F i k') ∧ Blk wk wo.heap.size 35 (vec8 R) ∧ Below wo.heap.size wo wk) (fun k _ => 8 - (intOf k).toNat)
          case atStart => exact ⟨0, _, Nat.zero_le _, rfl, fun j hj => absurd hj (by omega), hR5, hb5⟩
          case round =>
            obtain ⟨k, R, hk, rfl, hk1, hR, hbk⟩ := hrel
            have HK1 := Lib.hid hk1
            clear hk1 hR5 hb5
            have hb4k := hbx.trans (hbk.mono hsz4)
            by_cases hk8 : k < 8
            · have hki : (k : Int) < 8 := by omega
              have hk0 : (0 : Int) ≤ (k : Int) := by omega
              obtain ⟨y, hy⟩ : ∃ y : Nat, q k = (y : Int) := ⟨(q k).toNat, by have := HP.out k hk8; omega⟩
              have hy8 : y < 8 := by have := HP.out k hk8; omega
              have hyi : (y : Int) < 8 := by omega
              have hy0 : (0 : Int) ≤ (y : Int) := by omega
              have cq : wr.cell? ⟨w.heap.size, k, none⟩ = some (.int .i64 (y : Int)) := by
                rw [← hy]; exact (hb4k.cell (p := ⟨w.heap.size, k, none⟩) (by show w.heap.size < _; omega)).trans (HQ4.out.at8 hk8)
              have cr : wr.cell? ⟨bk, off + i * 8 + k, none⟩ = some (.int .i64 (F i k)) := (hb4k.cell (p := ⟨bk, off + i * 8 + k, none⟩) hbl).trans (HC.out k hk8)
              have fs := hR.frozen y
              have cs := hR.at8 hy8
              have HY := Lib.hid hy
              have HR5 := Lib.hid hR
              clear hy hR
              go_wp2_with fail
              go_still_tail 10, (by kernel_rfl)
              change wpList _ _ _ _ _ wr.drew
              have fs' : wr.drew.frozen? ⟨wo.heap.size, y, none⟩ = false := fs
              have cs' : wr.drew.cell? ⟨wo.heap.size, y, none⟩ = some (.int .i64 (R y)) := cs
              go_wp2_with fail
              go_roundw
              case rel =>
                refine ⟨k + 1, _, by omega, by go_num, fun k' hk' => ?_, HR5.out.drew.set8 hy8 (F i k), (hbk.drewN 1).setCell (Nat.le_refl _) _⟩
                show (if (q k').toNat = y then F i k else R (q k').toNat) = F i k'
                by_cases e : k' = k
                · subst e; rw [if_pos (by rw [HY.out]; rfl)]
                · have hne : ¬ (q k').toNat = y := fun h => by
                    have h1 := HP.out k' (by omega)
                    have h2 := HP.out k hk8
                    have h3 := HY.out
                    exact h2.2.2 k' (by omega) (by omega)
                  rw [if_neg hne]
                  exact HK1.out k' (by omega)
              case measure => simp [intOf]; omega
            · obtain rfl : k = 8 := by omega
              obtain ⟨c0, c1, c2, c3, c4, c5, c6, c7⟩ := hR.eight
              have hr := Lib.hid (vec8_reads wr R)
              have hW2 : Below wo.heap.size wo (wr.alloc (.cells (vec8 R) 35)) := hbk.alloc hbk.size _
              have hown2 := Lib.hid (ownsRow_below HOW.out hW2)
              have hszk := hbk.size
              clear hR
              go_wp2_with (at_builtin; refine wpList_append_any _ rfl (.tmp 48) (.tmp 50) _ rfl w4.heap.size 35 i0 _ 8 64 Tryz.underlying30 hi0 hz0 hz1 hz2 rfl (by omega) _ i xs rfl hown2.out (wr.heap.size + 1) (some ⟨wr.heap.size, 0, none⟩) 1 1 (vec8 R).toList rfl hr.out (vec8_one _) (by simp only [maxLen]; omega) (by omega) (by simp; omega) ?_; intro v5 w5 hown5 hg5 hat5)
              go_roundw
              case rel =>
                refine ⟨i + 1, _, by omega, by go_num, ?_, OrdO.push HX.out HOW.out.1 hown5, (hbx.trans (hW2.mono hbx.size)).grown hg5 (by simp; omega) (fun g h => (hown2.out.lt g h).1)⟩
                intro i' hi' k' hk'
                have hP := HP.out k' hk'
                by_cases h : i' < i
                · simp only [h, if_true]; exact HZ.out i' h k' hk'
                · obtain rfl : i' = i := by omega
                  simp only [h, if_false]; exact HK1.out k' hk'
              case measure => simp [intOf]; omega
        · obtain rfl : i = N := by omega
          obtain ⟨A', c', rfl, hnc, hcm', -⟩ := own_slice hown
          have HZ := Lib.hid hz
          have HOW := Lib.hid hown
          have HX := Lib.hid hx
          clear hz hown hx hA
          go_wp2
          exact bodyPost_ret (v := .tuple #[.slice A' i c', .int .i64 0]) (by simp [results, Tryz.results14, go_sem]) rfl ⟨.inr (.inr (.inr ⟨HV.out, HP.out, i, F, G, HNF.out, HZ.out, _, rfl, OrdO.mono ⟨xs, HOW.out, HX.out⟩ hs4⟩)), hb04.trans (hbx.mono hs4)⟩

end Go.Proofs.YtmkhfgggleplfaaGreat
