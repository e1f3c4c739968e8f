/-
  The walk of OrderErrors: true. Conditions: none.
-/
import Derived.Test.YtmkhfgggleplfaaGreatR5I
namespace Go.Proofs.YtmkhfgggleplfaaGreat
set_option linter.unusedSimpArgs false
set_option linter.unusedVariables false
open Go.RowKit

theorem ok_permS {q : Nat → Int} (h : okPerm q) : PermS (fun k => (q k).toNat) := by
  have hlt : ∀ k, k < 8 → (q k).toNat < 8 := fun k hk => by have := h k hk; omega
  have hinj : ∀ i j, i < 8 → j < 8 → (q i).toNat = (q j).toNat → i = j := fun i j hi hj e => by
    have h1 := h i hi
    have h2 := h j hj
    rcases Nat.lt_trichotomy i j with h3 | h3 | h3
    · exact absurd (show q i = q j by omega) (h2.2.2 i h3)
    · exact h3
    · exact absurd (show q j = q i by omega) (h1.2.2 j h3)
  refine ⟨⟨hlt, hinj⟩, fun j hj => ?_⟩
  rcases Classical.em (∃ k, k < 8 ∧ (q k).toNat = j) with h1 | h1
  · exact h1
  · exfalso
    have hne : ∀ k, k < 8 → (q k).toNat ≠ j := fun k hk e => h1 ⟨k, hk, e⟩
    have := php 7 8 (fun k => if (q k).toNat < j then (q k).toNat else (q k).toNat - 1) (fun k hk => by
      have h2 := hlt k hk
      have h3 := hne k hk
      show (if (q k).toNat < j then (q k).toNat else (q k).toNat - 1) < 7
      split <;> omega) (fun k l hk hl e => by
      have h2 := hne k hk
      have h3 := hne l hl
      replace e : (if (q k).toNat < j then (q k).toNat else (q k).toNat - 1) = (if (q l).toNat < j then (q l).toNat else (q l).toNat - 1) := e
      refine hinj k l hk hl ?_
      split at e <;> split at e <;> omega)
    omega
theorem valid_in64 {n : Nat} {f : Nat → Nat → Int} (h : validP n f) : ∀ i, i < n → In64 (f i) := fun i hi k hk => by have := vb h i hi k hk; omega
theorem same_of {w : World} {v v' : Value} {n : Nat} {d d' : Nat → Nat → Int} (ho : OrdV w v n d) (ho' : OrdV w v' n d') (hd : ∀ i, i < n → In64 (d i)) (he : ∀ i, i < n → ∀ c, c < 8 → d i c = d' i c) :
    Calls Tryz.prog 15 #[v, v'] w fun e w' => e = .returned (.bool true) ∧ Below w.heap.size w w' :=
  (same_any ho ho' hd fun i hi c hc => by rw [← he i hi c hc]; exact hd i hi c hc).mono fun e w' ⟨⟨r, h, hr⟩, hb⟩ => ⟨by rw [h, hr.2 ⟨rfl, he⟩], hb⟩
theorem ordV_nil (w : World) (f : Nat → Nat → Int) : OrdV w (.slice none 0 0) 0 f := ⟨none, 0, rfl, Nat.le_refl _, by omega, fun h => absurd h (by omega)⟩

/-- the answers of Full -/
def FullRes (n : Nat) (f : Nat → Nat → Int) (c : Nat) (N : Nat) (F : Nat → Nat → Int) : Prop :=
  (¬ validP n f ∧ c = 50 ∧ N = 0) ∨ (validP n f ∧ FullOf n f N F ∧ c = 0) ∨ (validP n f ∧ ¬ IndepP n f ∧ 24 < n + 8 ∧ c = 2 ∧ N = 0)
theorem FullRes.in64 {n c N : Nat} {f F : Nat → Nat → Int} (h : FullRes n f c N F) : ∀ i, i < N → In64 (F i) := by
  rcases h with ⟨_, _, rfl⟩ | ⟨hv, hF, _⟩ | ⟨_, _, _, _, rfl⟩
  · exact fun i hi => absurd hi (by omega)
  · exact valid_in64 (hF.valid hv)
  · exact fun i hi => absurd hi (by omega)
theorem FullRes.one {n c N c' N' : Nat} {f F F' : Nat → Nat → Int} (h : FullRes n f c N F) (h' : FullRes n f c' N' F') : c' = c ∧ N' = N ∧ ∀ i, i < N → ∀ k, k < 8 → F i k = F' i k := by
  rcases h with ⟨a, rfl, rfl⟩ | ⟨a, b, rfl⟩ | ⟨a, b, d, rfl, rfl⟩ <;> rcases h' with ⟨a', rfl, rfl⟩ | ⟨a', b', rfl⟩ | ⟨a', b', d', rfl, rfl⟩
  · exact ⟨rfl, rfl, fun i hi => absurd hi (by omega)⟩
  · exact absurd a' a
  · exact absurd a' a
  · exact absurd a a'
  · obtain ⟨e1, e2⟩ := b.one b'; exact ⟨rfl, e1, fun i _ k _ => by rw [e2]⟩
  · rcases b with ⟨b, _⟩ | ⟨_, b, _⟩
    · exact absurd b b'
    · omega
  · exact absurd a a'
  · rcases b' with ⟨b', _⟩ | ⟨_, b', _⟩
    · exact absurd b' b
    · omega
  · exact ⟨rfl, rfl, fun i hi => absurd hi (by omega)⟩
def FullEnd (w' : World) (n : Nat) (f : Nat → Nat → Int) (e : Ending) : Prop := ∃ (c N : Nat) (F : Nat → Nat → Int) (r : Value), FullRes n f c N F ∧ e = .returned (.tuple #[r, .int .i64 (c : Int)]) ∧ OrdV w' r N F
theorem FullSays.end_ {w w' : World} {n : Nat} {f : Nat → Nat → Int} {e : Ending} (h : FullSays w w' n f e) : FullEnd w' n f e := by
  rcases h with ⟨h, rfl⟩ | ⟨h0, h, r, rfl, h2⟩ | ⟨h0, h, h1, r, rfl, h3⟩ | ⟨h0, h, h1, rfl⟩
  · exact ⟨50, 0, f, _, .inl ⟨h, rfl, rfl⟩, rfl, ordV_nil _ _⟩
  · exact ⟨0, n, f, r, .inr (.inl ⟨h0, .inl ⟨h, rfl, rfl⟩, rfl⟩), rfl, h2.ordV⟩
  · exact ⟨0, n + 8, _, r, .inr (.inl ⟨h0, .inr ⟨h, h1, rfl, rfl⟩, rfl⟩), rfl, h3.ordV⟩
  · exact ⟨2, 0, f, _, .inr (.inr ⟨h0, h, h1, rfl, rfl⟩), rfl, ordV_nil _ _⟩
theorem full_end {w : World} {v : Value} {n : Nat} {f : Nat → Nat → Int} (ho : OrdV w v n f) : Calls Tryz.prog 11 #[v] w fun e w' => FullEnd w' n f e ∧ Below w.heap.size w w' :=
  (full_any ho).mono fun _ _ ⟨h, hb⟩ => ⟨h.end_, hb⟩
theorem rfull_end {w : World} {v : Value} {n : Nat} {f : Nat → Nat → Int} (ho : OrdV w v n f) : Calls Tryz.prog 12 #[v] w fun e w' => FullEnd w' n f e ∧ Below w.heap.size w w' :=
  (rfull_any ho).mono fun _ _ ⟨h, hb⟩ => ⟨h.end_, hb⟩

/-- the answers of Permute -/
def PermRes (n : Nat) (f : Nat → Nat → Int) (q : Nat → Int) (c : Nat) (N : Nat) (G : Nat → Nat → Int) : Prop :=
  (¬ validP n f ∧ c = 50 ∧ N = 0) ∨ (validP n f ∧ ¬ okPerm q ∧ c = 1 ∧ N = 0) ∨ (validP n f ∧ okPerm q ∧ c = 2 ∧ N = 0 ∧ ¬ IndepP n f ∧ 24 < n + 8) ∨
  (validP n f ∧ okPerm q ∧ c = 0 ∧ ∃ F, FullOf n f N F ∧ ∀ i, i < N → ∀ k, k < 8 → G i (q k).toNat = F i k)
theorem PermRes.in64 {n c N : Nat} {f G : Nat → Nat → Int} {q : Nat → Int} (h : PermRes n f q c N G) : ∀ i, i < N → In64 (G i) := by
  rcases h with ⟨_, _, rfl⟩ | ⟨_, _, _, rfl⟩ | ⟨_, _, _, rfl, _⟩ | ⟨hv, hq, _, F, hF, hG⟩
  · exact fun i hi => absurd hi (by omega)
  · exact fun i hi => absurd hi (by omega)
  · exact fun i hi => absurd hi (by omega)
  · exact valid_in64 (valid_perm (ok_permS hq) hG (hF.valid hv))
theorem PermRes.one {n c N c' N' : Nat} {f G G' : Nat → Nat → Int} {q : Nat → Int} (h : PermRes n f q c N G) (h' : PermRes n f q c' N' G') : c' = c ∧ N' = N ∧ ∀ i, i < N → ∀ k, k < 8 → G i k = G' i k := by
  rcases h with ⟨a, rfl, rfl⟩ | ⟨a, b, rfl, rfl⟩ | ⟨a, b, rfl, rfl, d, e⟩ | ⟨a, b, rfl, F, hF, hG⟩ <;> rcases h' with ⟨a', rfl, rfl⟩ | ⟨a', b', rfl, rfl⟩ | ⟨a', b', rfl, rfl, d', e'⟩ | ⟨a', b', rfl, F', hF', hG'⟩
  · exact ⟨rfl, rfl, fun i hi => absurd hi (by omega)⟩
  · exact absurd a' a
  · exact absurd a' a
  · exact absurd a' a
  · exact absurd a a'
  · exact ⟨rfl, rfl, fun i hi => absurd hi (by omega)⟩
  · exact absurd b' b
  · exact absurd b' b
  · exact absurd a a'
  · exact absurd b b'
  · exact ⟨rfl, rfl, fun i hi => absurd hi (by omega)⟩
  · rcases hF' with ⟨h, _⟩ | ⟨_, h, _⟩
    · exact absurd h d
    · omega
  · exact absurd a a'
  · exact absurd b b'
  · rcases hF with ⟨h, _⟩ | ⟨_, h, _⟩
    · exact absurd h d'
    · omega
  · obtain ⟨rfl, rfl⟩ := hF.one hF'
    refine ⟨rfl, rfl, fun i hi k hk => ?_⟩
    obtain ⟨j, hj, e⟩ := (ok_permS b).2 k hk
    replace e : (q j).toNat = k := e
    rw [← e, hG i hi j hj, hG' i hi j hj]
def PermEnd (w' : World) (n : Nat) (f : Nat → Nat → Int) (q : Nat → Int) (e : Ending) : Prop := ∃ (c N : Nat) (G : Nat → Nat → Int) (r : Value), PermRes n f q c N G ∧ e = .returned (.tuple #[r, .int .i64 (c : Int)]) ∧ OrdV w' r N G
theorem PermuteSays.end_ {w w' : World} {n : Nat} {f : Nat → Nat → Int} {q : Nat → Int} {e : Ending} (h : PermuteSays w w' n f q e) : PermEnd w' n f q e := by
  rcases h with ⟨h, rfl⟩ | ⟨h, h1, rfl⟩ | ⟨h, h1, h2, h3, rfl⟩ | ⟨h0, h1, N, F, G, hF, hG, r, rfl, ho⟩
  · exact ⟨50, 0, f, _, .inl ⟨h, rfl, rfl⟩, rfl, ordV_nil _ _⟩
  · exact ⟨1, 0, f, _, .inr (.inl ⟨h, h1, rfl, rfl⟩), rfl, ordV_nil _ _⟩
  · exact ⟨2, 0, f, _, .inr (.inr (.inl ⟨h, h1, rfl, rfl, h2, h3⟩)), rfl, ordV_nil _ _⟩
  · exact ⟨0, N, G, r, .inr (.inr (.inr ⟨h0, h1, rfl, F, hF, hG⟩)), rfl, ho.ordV⟩
theorem perm_end {w : World} {v : Value} {n : Nat} {f : Nat → Nat → Int} {q : Nat → Int} (ho : OrdV w v n f) : Calls Tryz.prog 13 #[v, .agg (vec8 q)] w fun e w' => PermEnd w' n f q e ∧ Below w.heap.size w w' :=
  (permute_any ho).mono fun _ _ ⟨h, hb⟩ => ⟨h.end_, hb⟩
theorem rperm_end {w : World} {v : Value} {n : Nat} {f : Nat → Nat → Int} {q : Nat → Int} (ho : OrdV w v n f) : Calls Tryz.prog 14 #[v, .agg (vec8 q)] w fun e w' => PermEnd w' n f q e ∧ Below w.heap.size w w' :=
  (rpermute_any ho).mono fun _ _ ⟨h, hb⟩ => ⟨h.end_, hb⟩
def IsB (b : Bool) (P : Prop) : Prop := b = true ↔ P
theorem valid_is {w : World} {v : Value} {n : Nat} {f : Nat → Nat → Int} {b : Bool} (hv : IsB b (validP n f)) (ho : OrdV w v n f) : Calls Tryz.prog 29 #[v] w fun e w' => e = .returned (.bool b) ∧ Below w.heap.size w w' :=
  (valid_any ho).mono fun e w' ⟨⟨r, h, hr⟩, hb⟩ => ⟨by rw [h, show r = b from Bool.eq_iff_iff.2 (hr.trans (Iff.symm hv))], hb⟩
theorem rvalid_is {w : World} {v : Value} {n : Nat} {f : Nat → Nat → Int} {b : Bool} (hv : IsB b (validP n f)) (ho : OrdV w v n f) : Calls Tryz.prog 30 #[v] w fun e w' => e = .returned (.bool b) ∧ Below w.heap.size w w' :=
  (rvalid_any ho).mono fun e w' ⟨⟨r, h, hr⟩, hb⟩ => ⟨by rw [h, show r = b from Bool.eq_iff_iff.2 (hr.trans (Iff.symm hv))], hb⟩

set_option maxHeartbeats 4000000 in
set_option maxRecDepth 100000 in
theorem errors_any {w : World} {v : Value} {n : Nat} {f : Nat → Nat → Int} {q : Nat → Int} (ho : OrdV w v n f) :
    Calls Tryz.prog 4 #[v, .agg (vec8 q)] w fun e w' => e = .returned (.bool true) ∧ Below w.heap.size w w' := by
  obtain ⟨W0, hW0, hb0, hQ0, hs0⟩ := boxes1 w 35 (vec8 q)
  have hq0 : w.heap.size < W0.heap.size := by omega
  obtain ⟨A, c, rfl, hnc, hcm, -⟩ := id ho
  have HO := Lib.hid (ho.below hb0)
  clear ho hs0
  go_enter Tryz.func4, Tryz.ntmps4
  go_wp2_with fail
  rw [← hW0]
  clear hW0
  (with_reducible refine (examples_any W0).mono ?_)
  rintro e w1 ⟨rfl, hb1⟩
  have hQ1 := hQ0.below hb1 hq0
  have hcur := hb0.trans (hb1.mono hb0.size)
  have HO := Lib.hid (HO.out.below hb1)
  clear hQ0 hb0 hb1 hq0
  by_cases hn : 40 < n
  · go_wp2
    go_ret
    exact ⟨rfl, hcur⟩
  have hn40 : n ≤ 40 := by omega
  clear hn
  go_wp2_with fail
  (with_reducible refine (full_end HO.out).mono ?_)
  rintro e w2 ⟨⟨c1, N1, F1, r1, hR1, rfl, hO1⟩, hb⟩
  have hQ2 := hQ1.below hb hQ1.lt
  have hcur := hcur.trans (hb.mono hcur.size)
  have HO := Lib.hid (HO.out.below hb)
  have HR1 := Lib.hid hR1
  have HO1 := Lib.hid hO1
  clear hQ1 hb hR1 hO1
  go_wp2_with fail
  (with_reducible refine (rfull_end HO.out).mono ?_)
  rintro e w3 ⟨⟨c2, N2, F2, r2, hR2, rfl, hO2⟩, hb⟩
  obtain ⟨rfl, rfl, hE⟩ := HR1.out.one hR2
  have hQ3 := hQ2.below hb hQ2.lt
  have hcur := hcur.trans (hb.mono hcur.size)
  have HO := Lib.hid (HO.out.below hb)
  have HO1 := Lib.hid (HO1.out.below hb)
  have HO2 := Lib.hid hO2
  have HE := Lib.hid hE
  clear hQ2 hb hR2 hO2 hE
  obtain ⟨d0, d1, d2, d3, d4, d5, d6, d7⟩ := hQ3.eight
  go_wp2_with fail
  clear d0 d1 d2 d3 d4 d5 d6 d7
  (with_reducible refine (perm_end (q := q) HO.out).mono ?_)
  rintro e w4 ⟨⟨c3, N3, G3, r3, hR3, rfl, hO3⟩, hb⟩
  have hQ4 := hQ3.below hb hQ3.lt
  have hcur := hcur.trans (hb.mono hcur.size)
  have HO := Lib.hid (HO.out.below hb)
  have HO1 := Lib.hid (HO1.out.below hb)
  have HO2 := Lib.hid (HO2.out.below hb)
  have HO3 := Lib.hid hO3
  have HR3 := Lib.hid hR3
  clear hQ3 hb hR3 hO3
  obtain ⟨d0, d1, d2, d3, d4, d5, d6, d7⟩ := hQ4.eight
  go_wp2_with fail
  clear d0 d1 d2 d3 d4 d5 d6 d7
  (with_reducible refine (rperm_end (q := q) HO.out).mono ?_)
  rintro e w5 ⟨⟨c4, N4, G4, r4, hR4, rfl, hO4⟩, hb⟩
  obtain ⟨rfl, rfl, hE4⟩ := HR3.out.one hR4
  have hcur := hcur.trans (hb.mono hcur.size)
  have HO := Lib.hid (HO.out.below hb)
  have HO1 := Lib.hid (HO1.out.below hb)
  have HO2 := Lib.hid (HO2.out.below hb)
  have HO3 := Lib.hid (HO3.out.below hb)
  have HO4 := Lib.hid hO4
  have HE4 := Lib.hid hE4
  clear hQ4 hb hR4 hO4 hE4
  obtain ⟨vb, hvb⟩ : ∃ vb : Bool, IsB vb (validP n f) := by
    rcases Classical.em (validP n f) with h | h
    · exact ⟨true, fun _ => h, fun _ => rfl⟩
    · exact ⟨false, fun h' => (by cases h'), fun h' => absurd h' h⟩
  have HVB := Lib.hid hvb
  clear hvb
  cases vb <;>
  · go_wp2_with fail
    (with_reducible refine (valid_is HVB.out HO.out).mono ?_)
    rintro e w6 ⟨rfl, hb⟩
    have hcur := hcur.trans (hb.mono hcur.size)
    have HO := Lib.hid (HO.out.below hb)
    have HO1 := Lib.hid (HO1.out.below hb)
    have HO2 := Lib.hid (HO2.out.below hb)
    have HO3 := Lib.hid (HO3.out.below hb)
    have HO4 := Lib.hid (HO4.out.below hb)
    clear hb
    go_wp2_with fail
    (with_reducible refine (rvalid_is HVB.out HO.out).mono ?_)
    rintro e w7 ⟨rfl, hb⟩
    have hcur := hcur.trans (hb.mono hcur.size)
    have HO1 := Lib.hid (HO1.out.below hb)
    have HO2 := Lib.hid (HO2.out.below hb)
    have HO3 := Lib.hid (HO3.out.below hb)
    have HO4 := Lib.hid (HO4.out.below hb)
    clear hb
    go_wp2_with fail
    (with_reducible refine (same_of HO1.out HO2.out HR1.out.in64 HE.out).mono ?_)
    rintro e w8 ⟨rfl, hb⟩
    have hcur := hcur.trans (hb.mono hcur.size)
    have HO3 := Lib.hid (HO3.out.below hb)
    have HO4 := Lib.hid (HO4.out.below hb)
    clear hb
    go_wp2_with fail
    (with_reducible refine (same_of HO3.out HO4.out HR3.out.in64 HE4.out).mono ?_)
    rintro e w9 ⟨rfl, hb⟩
    have hcur := hcur.trans (hb.mono hcur.size)
    go_wp2
    go_ret
    exact ⟨rfl, hcur⟩

end Go.Proofs.YtmkhfgggleplfaaGreat
