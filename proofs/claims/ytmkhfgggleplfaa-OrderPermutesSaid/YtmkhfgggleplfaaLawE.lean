/-
  The walk of OrderSorts: true. Conditions: entries of type int8, exponents of type uint16.
-/
import Derived.Test.YtmkhfgggleplfaaLawB
import Derived.Test.YtmkhfgggleplfaaLawD
import Derived.Test.YtmkhfgggleplfaaMadeW
namespace Go.Proofs.Ytmkhfgggleplfaa
set_option linter.unusedSimpArgs false
set_option linter.unusedVariables false
open Go.RowKit

/-- two strictly decreasing lists of the same monomials are equal -/
theorem sorted_sub {n k k' : Nat} {f h h' : Nat → Nat → Int} (hs : ∀ a b, a < b → b < k → ordC n f (h a) (h b) = 1) (hs' : ∀ a b, a < b → b < k' → ordC n f (h' a) (h' b) = 1)
    (h1 : ∀ a, a < k → ∃ b, b < k' ∧ ∀ c, c < 8 → h a c = h' b c) (h2 : ∀ a, a < k' → ∃ b, b < k ∧ ∀ c, c < 8 → h' a c = h b c) : ∀ a, a < k → a < k' ∧ ∀ c, c < 8 → h' a c = h a c := by
  have ne : ∀ a b, a < b → b < k → ¬ ∀ c, c < 8 → h a c = h b c := fun a b p q e => by
    have := hs a b p q; rw [ordC_zero.2 e] at this; exact absurd this (by decide)
  have ne' : ∀ a b, a < b → b < k' → ¬ ∀ c, c < 8 → h' a c = h' b c := fun a b p q e => by
    have := hs' a b p q; rw [ordC_zero.2 e] at this; exact absurd this (by decide)
  intro a
  induction a using Nat.strongRecOn with
  | ind a ih =>
    intro ha
    obtain ⟨b, hb, eb⟩ := h1 a ha
    have hba : a ≤ b := by
      rcases Nat.lt_or_ge b a with h | h
      · exact absurd (fun c hc => by rw [eb c hc, (ih b h (by omega)).2 c hc]) (ne b a h ha)
      · exact h
    have hak : a < k' := by omega
    refine ⟨hak, ?_⟩
    rcases Nat.lt_or_ge a b with hab | hab
    · exfalso
      obtain ⟨e, he, ee⟩ := h2 a hak
      have o1 : ordC n f (h e) (h a) = 1 := by
        rw [← hs' a b hab hb]
        exact ordC_congr (fun _ _ _ _ => rfl) (fun c hc => (ee c hc).symm) eb
      rcases Nat.lt_trichotomy e a with h3 | h3 | h3
      · exact ne' e a h3 hak fun c hc => by rw [(ih e h3 he).2 c hc, ee c hc]
      · subst h3
        rw [ordC_zero.2 (fun _ _ => rfl)] at o1
        exact absurd o1 (by decide)
      · have o2 := hs a e h3 he
        rw [ordC_neg, o2] at o1
        exact absurd o1 (by decide)
    · have : b = a := by omega
      subst this
      exact fun c hc => (eb c hc).symm
theorem sorted_one {n k k' : Nat} {f h h' : Nat → Nat → Int} (hs : ∀ a b, a < b → b < k → ordC n f (h a) (h b) = 1) (hs' : ∀ a b, a < b → b < k' → ordC n f (h' a) (h' b) = 1)
    (h1 : ∀ a, a < k → ∃ b, b < k' ∧ ∀ c, c < 8 → h a c = h' b c) (h2 : ∀ a, a < k' → ∃ b, b < k ∧ ∀ c, c < 8 → h' a c = h b c) : k' = k ∧ ∀ a, a < k' → ∀ c, c < 8 → h' a c = h a c := by
  have A := sorted_sub hs hs' h1 h2
  have B := sorted_sub hs' hs h2 h1
  have hk : k' = k := by
    rcases Nat.lt_trichotomy k' k with h | h | h
    · have := (A k' h).1; omega
    · exact h
    · have := (B k h).1; omega
  exact ⟨hk, fun a ha => (A a (by omega)).2⟩

theorem has_yes {w : World} {v : Value} {n : Nat} {d : Nat → Nat → Int} {b : Nat → Int} (ho : OrdV w v n d) (hd : ∀ i, i < n → In64 (d i)) (hb : In64 b) (hy : ∃ i, i < n ∧ ∀ c, c < 8 → d i c = b c) :
    Calls Try.prog 12 #[v, .agg (vec8 b)] w fun e w' => e = .returned (.bool true) ∧ Below w.heap.size w w' :=
  (has_any ho hd hb).mono fun e w' ⟨⟨r, h, hr⟩, hb⟩ => ⟨by rw [h, hr.2 hy], hb⟩
theorem Small.out {a : Nat → Int} (h : Small a) : ∀ k, k < 8 → 0 ≤ a k ∧ a k ≤ 131070 := h
theorem Small.in64 {a : Nat → Int} (h : Small a) : In64 a := fun k hk => by have := h k hk; omega
theorem small_mono {x : Nat → Int} (h : U16 x) : Small (monoF x) := fun k hk => by
  have := h k hk
  unfold monoF
  omega
/-- the eight cells of a row, in every later world -/
theorem row_reads {W : World} {b o : Nat} {x : Nat → Int} (hlt : b < W.heap.size) (h : ∀ k, k < 8 → W.cell? ⟨b, o + k, none⟩ = some (.int .i64 (x k))) :
    (∀ X, Below W.heap.size W X → X.cell? ⟨b, o, none⟩ = some (.int .i64 (x 0))) ∧ (∀ X, Below W.heap.size W X → X.cell? ⟨b, o + 1, none⟩ = some (.int .i64 (x 1))) ∧
    (∀ X, Below W.heap.size W X → X.cell? ⟨b, o + 2, none⟩ = some (.int .i64 (x 2))) ∧ (∀ X, Below W.heap.size W X → X.cell? ⟨b, o + 3, none⟩ = some (.int .i64 (x 3))) ∧
    (∀ X, Below W.heap.size W X → X.cell? ⟨b, o + 4, none⟩ = some (.int .i64 (x 4))) ∧ (∀ X, Below W.heap.size W X → X.cell? ⟨b, o + 5, none⟩ = some (.int .i64 (x 5))) ∧
    (∀ X, Below W.heap.size W X → X.cell? ⟨b, o + 6, none⟩ = some (.int .i64 (x 6))) ∧ (∀ X, Below W.heap.size W X → X.cell? ⟨b, o + 7, none⟩ = some (.int .i64 (x 7))) :=
  have H : ∀ k, k < 8 → ∀ X, Below W.heap.size W X → X.cell? ⟨b, o + k, none⟩ = some (.int .i64 (x k)) := fun k hk X hX => (hX.cell (p := ⟨b, o + k, none⟩) hlt).trans (h k hk)
  ⟨H 0 (by omega), H 1 (by omega), H 2 (by omega), H 3 (by omega), H 4 (by omega), H 5 (by omega), H 6 (by omega), H 7 (by omega)⟩

section
variable {P : Program} {ops : Array Oper} {Q : Exit → Act → World → Prop} {md : Region.Mode} {S : World → Prop}
/-- an operation that only yields a value is taken first -/
theorem wpAnyH_pure {i : Nat} {oi : Oper} {d : Option Tmp} {v : Value} {fuel : Nat} {listed : Array Bool} {a : Act} {w : World} (hi : ops[i]? = some oi) (hd : oi.dst = d)
    (hs : Region.noSelect ops = true) (hf : Region.free md ops listed i = true) (hr : (Region.ready md ops listed).contains i = true)
    (hQ : ∀ c a w, Q (.panic c) (a.put d v) w → Q (.panic c) a w) (hw : Region.wanted oi (yielded ops a.tmps) = true) (hy : ∀ w, S w → (execOp a.eval oi).run P w = .ok (.value v) w) (hS : S w)
    (h : wpAnyH P md ops Q S fuel (listed.setIfInBounds i true) (a.put d v) w) : wpAnyH P md ops Q S (fuel + 1) listed a w := by
  subst hd
  exact wpAnyH_take hi hs hf hr hQ (.inl ⟨hw, hy⟩) hS h
/-- an operation that is not wanted is passed by -/
theorem wpAnyH_skip {i : Nat} {oi : Oper} {d : Option Tmp} {fuel : Nat} {listed : Array Bool} {a : Act} {w : World} (hi : ops[i]? = some oi) (hd : oi.dst = d)
    (hs : Region.noSelect ops = true) (hf : Region.free md ops listed i = true) (hr : (Region.ready md ops listed).contains i = true)
    (hQ : ∀ c a w, Q (.panic c) (a.put d undef) w → Q (.panic c) a w) (hw : Region.wanted oi (yielded ops a.tmps) = false) (hS : S w)
    (h : wpAnyH P md ops Q S fuel (listed.setIfInBounds i true) (a.put d undef) w) : wpAnyH P md ops Q S (fuel + 1) listed a w := by
  subst hd
  exact wpAnyH_take hi hs hf hr hQ (.inr ⟨hw, rfl⟩) hS h
end
set_option maxHeartbeats 4000000 in
set_option maxRecDepth 100000 in
theorem sorts_any {w : World} {s lv : Value} {n m : Nat} {x y : Nat → Nat → Int} (hr : RowsV w s n x) (hx : ∀ i, i < n → ∀ k, k < 8 → -128 ≤ x i k ∧ x i k ≤ 127) (hl : ExpV w lv m y) (hy : ∀ i, i < m → U16 (y i)) :
    Calls Try.prog 3 #[.agg #[s], lv] w fun e w' => e = .returned (.bool true) ∧ Below w.heap.size w w' := by
  obtain ⟨W0, hW0, hb0, hbx0, hs0⟩ : ∃ W0, W0 = w.alloc (.cells #[s] 24) ∧ Below w.heap.size w W0 ∧ W0.cell? ⟨w.heap.size, 0, none⟩ = some s ∧ W0.heap.size = w.heap.size + 1 :=
    ⟨_, rfl, (Below.refl _ _).alloc (Nat.le_refl _) _, (Blk.new w 24 #[s]).cell 0, by simp⟩
  go_enter Try.func3, Try.ntmps3
  go_wp2_with fail
  rw [← hW0]
  clear hW0
  refine (examples_any W0).mono ?_
  rintro e w1 ⟨rfl, hb1⟩
  have hbx1 : w1.cell? ⟨w.heap.size, 0, none⟩ = some s := (hb1.cell (p := ⟨w.heap.size, 0, none⟩) (by show w.heap.size < _; omega)).trans hbx0
  have hb01 := hb0.trans (hb1.mono hb0.size)
  clear hs0 hbx0
  go_wp2_with fail
  refine (made_any (hr.below hb01) hx).mono ?_
  rintro e w2 ⟨o, rfl, n', hn6, hn', hO, hb2⟩
  have hb02 := hb01.trans (hb2.mono hb01.size)
  clear hbx1
  go_wp2_with fail
  refine (monos_any (hl.below hb02) hy).mono ?_
  rintro e w3 ⟨mv, rfl, m', ⟨gm, cm, rfl⟩, hm8, hm', hM, hb3⟩
  have hb03 := hb02.trans (hb3.mono hb02.size)
  have hV : validP n' (madeF x n') := made_valid hn6 (fun i hi => hx i (by omega))
  have hO3 := hO.ordV.below hb3
  have hM3 := hM.ordV
  go_wp2_with fail
  refine (sort_any hO3 hM3 (vb hV) (fun i hi => small_mono (hy i (by omega))) (by omega)).mono ?_
  rintro e w4 ⟨⟨r, k, h, rfl, ⟨gs, cs, rfl⟩, hS, hkm, hsm, hin, hall, hdec⟩, hb4⟩
  have hb04 := hb03.trans (hb4.mono hb03.size)
  have HO4 := Lib.hid (hO3.below hb4)
  have HM4 := Lib.hid (hM3.below hb4)
  have hS4 := Lib.hid hS
  have HV := Lib.hid hV
  have Hin := Lib.hid hin
  have Hall := Lib.hid hall
  have Hdec := Lib.hid hdec
  have Hsm := Lib.hid hsm
  have Hsy : Hid (∀ i, i < m' → Small (monoF (y i))) := fun i hi => small_mono (hy i (by omega))
  obtain ⟨_, _, e, hkc, hcc, hA⟩ := hS
  injection e with e1 e2 e3
  subst e1 e3
  have HA := Lib.hid hA
  clear e2 hA hin hall hdec hsm hV hO3 hM3 hO hM hy hx hr hl
  clear hb0 hb1 hb01 hb2 hb02 hb3 hb03 hb4
  go_wp2_with fail
  go_loopw [9] (fun iv wr => ∃ i : Nat, i ≤ k ∧ iv = .int .i64 i ∧ Below w4.heap.size w4 wr) (fun i _ => k - (intOf i).toNat)
  case atStart => exact ⟨0, Nat.zero_le _, rfl, Below.refl _ _⟩
  case round =>
    obtain ⟨i, hi, rfl, hbw⟩ := hrel
    by_cases hlt : i < k
    · obtain ⟨bk, off, e, hbl, hcell⟩ := HA.out (by omega)
      injection e with e
      injection e with e1 e2
      subst e1 e2
      have hc' : ∀ i, i < k → ∀ c, c < 8 → w4.cell? ⟨gs, i * 8 + c, none⟩ = some (.int .i64 (h i c)) := fun i hi c hc => by have := hcell i hi c hc; rwa [Nat.zero_add] at this
      obtain ⟨c0, c1, c2, c3, c4, c5, c6, c7⟩ := row_reads hbl (hc' i hlt)
      have HC := Lib.hid hc'
      clear hcell hc'
      have hy1 : Hid (∃ j, j < m' ∧ ∀ c, c < 8 → monoF (y j) c = h i c) := by
        obtain ⟨j, hj, e⟩ := Hin.out i hlt
        exact ⟨j, hj, fun c hc => (e c hc).symm⟩
      rcases Nat.eq_zero_or_pos i with hz | hz
      · have hgt : decide (0 < i) = false := by subst hz; rfl
        have HZ := Lib.hid hz
        clear hz
        go_wp2_with fail
        refine wp_region_noPanic ?_
        refine wp_region_held_drew (S := fun w' => Below w4.heap.size w4 w') (by kernel_rfl) (hbw.drew) (fun hHeld => ?_)
        refine wpAnyH_pure (i := 0) (d := some 27) (v := ?_) rfl rfl (by kernel_rfl) (by kernel_rfl) (by kernel_rfl) (fun _ _ _ h => h) (by rfl) ?_ (by assumption) ?_
        rotate_left
        · intro w hSw; (try dsimp only at hSw); go_simp; all_goals with_reducible rfl
        try simp only [Act.put, List.setIfInBounds_toArray, List.set_cons_zero, List.set_cons_succ]
        refine wpAnyH_pure (i := 1) (d := some 28) (v := ?_) rfl rfl (by kernel_rfl) (by kernel_rfl) (by kernel_rfl) (fun _ _ _ h => h) (by rfl) ?_ (by assumption) ?_
        rotate_left
        · intro w hSw; (try dsimp only at hSw); go_simp; all_goals with_reducible rfl
        try simp only [Act.put, List.setIfInBounds_toArray, List.set_cons_zero, List.set_cons_succ]
        refine wpAnyH_pure (i := 2) (d := some 29) (v := ?_) rfl rfl (by kernel_rfl) (by kernel_rfl) (by kernel_rfl) (fun _ _ _ h => h) (by rfl) ?_ (by assumption) ?_
        rotate_left
        · intro w hSw; (try dsimp only at hSw); go_simp; all_goals with_reducible rfl
        try simp only [Act.put, List.setIfInBounds_toArray, List.set_cons_zero, List.set_cons_succ]
        refine wpAnyH_pure (i := 3) (d := some 30) (v := ?_) rfl rfl (by kernel_rfl) (by kernel_rfl) (by kernel_rfl) (fun _ _ _ h => h) (by rfl) ?_ (by assumption) ?_
        rotate_left
        · intro w hSw; (try dsimp only at hSw); go_simp; all_goals with_reducible rfl
        try simp only [Act.put, List.setIfInBounds_toArray, List.set_cons_zero, List.set_cons_succ]
        refine wpAnyH_pure (i := 4) (d := some 31) (v := ?_) rfl rfl (by kernel_rfl) (by kernel_rfl) (by kernel_rfl) (fun _ _ _ h => h) (by rfl) ?_ (by assumption) ?_
        rotate_left
        · intro w hSw; (try dsimp only at hSw); go_simp; all_goals with_reducible rfl
        try simp only [Act.put, List.setIfInBounds_toArray, List.set_cons_zero, List.set_cons_succ]
        refine wpAnyH_ready (rs := [5]) (by kernel_rfl) (by simp) ?_
        refine AllReadyH.cons rfl (fun K hK => ?_) AllReadyH.nil
        go_simp
        refine (has_yes (HM4.out.below (by assumption)) (fun i hi => (Hsy.out i hi).in64) (Hsm.out i hlt).in64 hy1.out).mono ?_
        rintro e wl ⟨rfl, hbl⟩
        have hcur := below_step3 (W := w4) (by assumption) hbl
        clear hbl hHeld
        go_wp2_with fail
        refine hK.out _ _ hcur (fun hHeld => ?_)
        clear hK K
        try simp only [Act.put, List.setIfInBounds_toArray, List.set_cons_zero, List.set_cons_succ]
        refine wpAnyH_pure (i := 6) (d := some 33) (v := ?_) rfl rfl (by kernel_rfl) (by kernel_rfl) (by kernel_rfl) (fun _ _ _ h => h) (by rfl) ?_ (by assumption) ?_
        rotate_left
        · intro w hSw; (try dsimp only at hSw); go_simp; all_goals with_reducible rfl
        try simp only [Act.put, List.setIfInBounds_toArray, List.set_cons_zero, List.set_cons_succ]
        refine wpAnyH_pure (i := 7) (d := some 34) (v := ?_) rfl rfl (by kernel_rfl) (by kernel_rfl) (by kernel_rfl) (fun _ _ _ h => h) (by rfl) ?_ (by assumption) ?_
        rotate_left
        · intro w hSw; (try dsimp only at hSw); go_simp; all_goals with_reducible rfl
        try simp only [Act.put, List.setIfInBounds_toArray, List.set_cons_zero, List.set_cons_succ]
        refine wpAnyH_pure (i := 8) (d := some 35) (v := ?_) rfl rfl (by kernel_rfl) (by kernel_rfl) (by kernel_rfl) (fun _ _ _ h => h) (by rfl) ?_ (by assumption) ?_
        rotate_left
        · intro w hSw; (try dsimp only at hSw); go_simp; all_goals with_reducible rfl
        try simp only [Act.put, List.setIfInBounds_toArray, List.set_cons_zero, List.set_cons_succ]
        refine wpAnyH_pure (i := 9) (d := some 36) (v := ?_) rfl rfl (by kernel_rfl) (by kernel_rfl) (by kernel_rfl) (fun _ _ _ h => h) (by rfl) ?_ (by assumption) ?_
        rotate_left
        · intro w hSw; (try dsimp only at hSw); go_simp; all_goals with_reducible rfl
        try simp only [Act.put, List.setIfInBounds_toArray, List.set_cons_zero, List.set_cons_succ]
        refine wpAnyH_pure (i := 10) (d := some 37) (v := ?_) rfl rfl (by kernel_rfl) (by kernel_rfl) (by kernel_rfl) (fun _ _ _ h => h) (by rfl) ?_ (by assumption) ?_
        rotate_left
        · intro w hSw; (try dsimp only at hSw); go_simp; all_goals with_reducible rfl
        try simp only [Act.put, List.setIfInBounds_toArray, List.set_cons_zero, List.set_cons_succ]
        refine wpAnyH_skip (i := 11) (d := some 38) rfl rfl (by kernel_rfl) (by kernel_rfl) (by kernel_rfl) (fun _ _ _ h => h) (by rfl) (by assumption) ?_
        try simp only [Act.put, List.setIfInBounds_toArray, List.set_cons_zero, List.set_cons_succ]
        refine wpAnyH_skip (i := 12) (d := some 39) rfl rfl (by kernel_rfl) (by kernel_rfl) (by kernel_rfl) (fun _ _ _ h => h) (by rfl) (by assumption) ?_
        try simp only [Act.put, List.setIfInBounds_toArray, List.set_cons_zero, List.set_cons_succ]
        refine wpAnyH_skip (i := 13) (d := some 40) rfl rfl (by kernel_rfl) (by kernel_rfl) (by kernel_rfl) (fun _ _ _ h => h) (by rfl) (by assumption) ?_
        try simp only [Act.put, List.setIfInBounds_toArray, List.set_cons_zero, List.set_cons_succ]
        refine wpAnyH_skip (i := 14) (d := some 41) rfl rfl (by kernel_rfl) (by kernel_rfl) (by kernel_rfl) (fun _ _ _ h => h) (by rfl) (by assumption) ?_
        try simp only [Act.put, List.setIfInBounds_toArray, List.set_cons_zero, List.set_cons_succ]
        refine wpAnyH_skip (i := 15) (d := some 42) rfl rfl (by kernel_rfl) (by kernel_rfl) (by kernel_rfl) (fun _ _ _ h => h) (by rfl) (by assumption) ?_
        try simp only [Act.put, List.setIfInBounds_toArray, List.set_cons_zero, List.set_cons_succ]
        refine wpAnyH_skip (i := 16) (d := some 43) rfl rfl (by kernel_rfl) (by kernel_rfl) (by kernel_rfl) (fun _ _ _ h => h) (by rfl) (by assumption) ?_
        try simp only [Act.put, List.setIfInBounds_toArray, List.set_cons_zero, List.set_cons_succ]
        refine wpAnyH_skip (i := 17) (d := some 44) rfl rfl (by kernel_rfl) (by kernel_rfl) (by kernel_rfl) (fun _ _ _ h => h) (by rfl) (by assumption) ?_
        try simp only [Act.put, List.setIfInBounds_toArray, List.set_cons_zero, List.set_cons_succ]
        refine wpAnyH_skip (i := 18) (d := some 45) rfl rfl (by kernel_rfl) (by kernel_rfl) (by kernel_rfl) (fun _ _ _ h => h) (by rfl) (by assumption) ?_
        try simp only [Act.put, List.setIfInBounds_toArray, List.set_cons_zero, List.set_cons_succ]
        refine wpAnyH_skip (i := 19) (d := some 46) rfl rfl (by kernel_rfl) (by kernel_rfl) (by kernel_rfl) (fun _ _ _ h => h) (by rfl) (by assumption) ?_
        try simp only [Act.put, List.setIfInBounds_toArray, List.set_cons_zero, List.set_cons_succ]
        refine wpAnyH_skip (i := 20) (d := some 47) rfl rfl (by kernel_rfl) (by kernel_rfl) (by kernel_rfl) (fun _ _ _ h => h) (by rfl) (by assumption) ?_
        try simp only [Act.put, List.setIfInBounds_toArray, List.set_cons_zero, List.set_cons_succ]
        refine wpAnyH_skip (i := 21) (d := some 48) rfl rfl (by kernel_rfl) (by kernel_rfl) (by kernel_rfl) (fun _ _ _ h => h) (by rfl) (by assumption) ?_
        try simp only [Act.put, List.setIfInBounds_toArray, List.set_cons_zero, List.set_cons_succ]
        refine wpAnyH_skip (i := 22) (d := some 49) rfl rfl (by kernel_rfl) (by kernel_rfl) (by kernel_rfl) (fun _ _ _ h => h) (by rfl) (by assumption) ?_
        try simp only [Act.put, List.setIfInBounds_toArray, List.set_cons_zero, List.set_cons_succ]
        refine wpAnyH_pure (i := 23) (d := some 50) (v := ?_) rfl rfl (by kernel_rfl) (by kernel_rfl) (by kernel_rfl) (fun _ _ _ h => h) (by rfl) ?_ (by assumption) ?_
        rotate_left
        · intro w hSw; (try dsimp only at hSw); go_simp; all_goals with_reducible rfl
        try simp only [Act.put, List.setIfInBounds_toArray, List.set_cons_zero, List.set_cons_succ]
        refine wpAnyH_pure (i := 24) (d := some 51) (v := ?_) rfl rfl (by kernel_rfl) (by kernel_rfl) (by kernel_rfl) (fun _ _ _ h => h) (by rfl) ?_ (by assumption) ?_
        rotate_left
        · intro w hSw; (try dsimp only at hSw); go_simp; all_goals with_reducible rfl
        try simp only [Act.put, List.setIfInBounds_toArray, List.set_cons_zero, List.set_cons_succ]
        refine wpAnyH_done (by kernel_rfl) ?_ _
        refine NoPanic.normal ?_
        go_wp2_with fail
        go_roundw
        case rel => exact ⟨i + 1, by omega, by go_num, hcur⟩
        case measure => simp [intOf]; omega
      · have hgt : decide (0 < i) = true := by simpa using hz
        obtain ⟨j, hj⟩ : ∃ j, i = j + 1 := ⟨i - 1, by omega⟩
        have hjk : j < k := by omega
        have hij : IntKind.i64.wrap ((i : Int) - 1) = (j : Int) := by rw [show (i : Int) - 1 = (j : Int) from by omega]; exact IntWalk.i64_in _ (by omega)
        obtain ⟨d0, d1, d2, d3, d4, d5, d6, d7⟩ := row_reads hbl (HC.out j hjk)
        have HJ := Lib.hid hj
        clear hj
        go_wp2_with fail
        go_region_held3 (fun w' => Below w4.heap.size w4 w')
          ((first | with_reducible assumption | with_reducible exact (by assumption : Below w4.heap.size w4 _).drew))
          (first
            | (go_at_call 12; (with_reducible refine (has_yes (HM4.out.below (by assumption)) (fun i hi => (Hsy.out i hi).in64) (Hsm.out i hlt).in64 hy1.out).mono ?_); rintro e wl ⟨rfl, hbl⟩; have hcur := below_step3 (W := w4) (by assumption) hbl; clear hbl)
            | (go_at_call 13; (with_reducible refine (cmp_fix (HO4.out.below (by assumption)) HV.out (Hsm.out j hjk).out (Hsm.out i hlt).out (Hdec.out j i (by have := HJ.out; omega) hlt)).mono ?_); rintro e wl ⟨rfl, hbl⟩; have hcur := below_step3 (W := w4) (by assumption) hbl; clear hbl))
        go_wp2_with fail
        go_roundw
        case rel => exact ⟨i + 1, by omega, by go_num, hcur⟩
        case measure => simp [intOf]; omega
    · obtain rfl : i = k := by omega
      go_wp2_with fail
      obtain ⟨W5, hW5⟩ : ∃ W5, W5 = wr := ⟨_, rfl⟩
      go_loopw [10] (fun iv wx => ∃ j : Nat, j ≤ m' ∧ iv = .int .i64 j ∧ Below w4.heap.size w4 wx) (fun i _ => m' - (intOf i).toNat)
      case atStart => exact ⟨0, Nat.zero_le _, rfl, hbw⟩
      case round =>
        obtain ⟨j, hj, rfl, hbx⟩ := hrel
        by_cases hlt : j < m'
        · obtain ⟨_, _, e, hmc, hcm, hB⟩ := HM4.out
          injection e with e1 e2 e3
          subst e1 e3
          obtain ⟨bk, off, e, hbl, hcell⟩ := hB (by omega)
          injection e with e
          injection e with e1 e2
          subst e1 e2
          obtain ⟨c0, c1, c2, c3, c4, c5, c6, c7⟩ := row_reads hbl (fun c hc => by have := hcell j hlt c hc; rwa [Nat.zero_add] at this)
          have hy1 : Hid (∃ a, a < i ∧ ∀ c, c < 8 → h a c = monoF (y j) c) := Hall.out j hlt
          clear hcell hB
          go_wp2_with fail
          refine (has_yes (hS4.out.below hbx) (fun i hi => (Hsm.out i hi).in64) (Hsy.out j hlt).in64 hy1.out).mono ?_
          rintro e w6 ⟨rfl, hb6⟩
          have hb46 := below_step3 hbx hb6
          go_wp2_with fail
          go_roundw
          case rel => exact ⟨j + 1, by omega, by go_num, hb46⟩
          case measure => simp [intOf]; omega
        · obtain rfl : j = m' := by omega
          go_wp2_with fail
          refine (sort_any (HO4.out.below hbx) (hS4.out.below hbx) (vb HV.out) (fun i hi => Hsm.out i hi) (by omega)).mono ?_
          rintro e w6 ⟨⟨r', k', h', rfl, ⟨g', c', rfl⟩, hS', hkm', hsm', hin', hall', hdec'⟩, hb6⟩
          have hb46 := below_step3 hbx hb6
          obtain ⟨hk', he'⟩ := sorted_one Hdec.out hdec' (fun a ha => by obtain ⟨b, hb, e⟩ := hall' a ha; exact ⟨b, hb, fun c hc => (e c hc).symm⟩) hin'
          have HE := Lib.hid he'
          have HS' := Lib.hid hS'
          have HSM := Lib.hid hsm'
          have HK := Lib.hid hk'
          clear he' hS' hsm' hk' hin' hall' hdec'
          go_wp2_with fail
          refine (alike_any HS'.out (hS4.out.below hb46) (fun i hi => (HSM.out i hi).in64) (fun i hi => (Hsm.out i hi).in64)).mono ?_
          rintro e w7 ⟨⟨b7, rfl, h7⟩, hb7⟩
          have hb47 := below_step3 hb46 hb7
          obtain rfl : b7 = true := h7.2 ⟨HK.out, HE.out⟩
          clear h7
          go_wp2
          go_ret
          exact ⟨rfl, hb04.trans (hb47.mono hb04.size)⟩

end Go.Proofs.Ytmkhfgggleplfaa
