/-
  The walk of Compact of a list of monomials. Conditions: exponents of type int.
  The walk of Compact of a list of monomials. Conditions: exponents of type int.
  The walk of Sort. Conditions: at most 12 monomials, whose exponents are at most 131070; weights of at most 1000.
-/
import Derived.Test.YtmkhfgggleplfaaGreatMonB
import Derived.Lib.SliceRun
namespace Go.Proofs.YtmkhfgggleplfaaGreat
set_option linter.unusedSimpArgs false
set_option linter.unusedVariables false
open Go.RowKit

theorem run_clear_wide {P : Program} (w : World) (t e ty : TypeId) (z : Value) (ht : P.underlying t = some (.slice e)) (hv : ∀ w, (zeroValue e).run P w = .ok z w) (h1 : ∀ u ∈ z.cells.toList, u.oneCell' = true) (b o n c : Nat) (hn : 0 < n)
    (hc : ∀ j, j < n * z.cells.size → (w.cell? ⟨b, o + j, none⟩).isSome = true) (hf : ∀ j, j < n * z.cells.size → w.frozen? ⟨b, o + j, none⟩ = false) :
    (Builtin.clear_ #[t] ty #[.slice (some ⟨b, o, none⟩) n c]).run P w = .ok (.tuple #[]) (w.setCells b o (Builtin.zeroCells z.cells n).toList) := by
  have hl : (Builtin.zeroCells z.cells n).toList.length = n * z.cells.size := by simp [Builtin.zeroCells]
  have hst := run_storeCells_cells (P := P) b o (Builtin.zeroCells z.cells n).toList 0 w (by rw [hl]; simpa using hc) (by rw [hl]; simpa using hf) (fun u hu => zeroCells_all (φ := fun u => u.oneCell') h1 n u hu)
  simp only [Nat.add_zero] at hst
  obtain ⟨m, rfl⟩ : ∃ m, n = m + 1 := ⟨n - 1, by omega⟩
  simp [Builtin.clear_, run_underlying ht, hv, hst]
theorem zero_mono (w : World) : (zeroValue 36).run Tryz.prog w = .ok (.agg (vec8 fun _ => 0)) w := by kernel_rfl

/-- what Compact has found among the first i: k of them, by the places E, no two neighbours alike -/
structure Comp (d : Nat → Nat → Int) (i k : Nat) (h : Nat → Nat → Int) (E : Nat → Nat) : Prop where
  le : k ≤ i
  at_ : ∀ a, a < k → E a < i ∧ ∀ c, c < 8 → h a c = d (E a) c
  up : ∀ a b, a < b → b < k → E a < E b
  far : ∀ a, a + 1 < k → ¬ ∀ c, c < 8 → h a c = h (a + 1) c
  all : ∀ j, j < i → ∃ a, a < k ∧ ∀ c, c < 8 → h a c = d j c
  last : 0 < i → 0 < k ∧ ∀ c, c < 8 → h (k - 1) c = d (i - 1) c
theorem Comp.one (d : Nat → Nat → Int) : Comp d 1 1 d id where
  le := Nat.le_refl _
  at_ a ha := ⟨ha, fun _ _ => rfl⟩
  up a b h1 h2 := by omega
  far a ha := by omega
  all j hj := ⟨0, by omega, fun c _ => by rw [show j = 0 from by omega]⟩
  last _ := ⟨by omega, fun _ _ => rfl⟩
theorem Comp.skip {d : Nat → Nat → Int} {i k : Nat} {h : Nat → Nat → Int} {E : Nat → Nat} (hc : Comp d i k h E) (hi : 0 < i) (e : ∀ c, c < 8 → d i c = d (i - 1) c) : Comp d (i + 1) k h E where
  le := by have := hc.le; omega
  at_ a ha := ⟨by have := (hc.at_ a ha).1; omega, (hc.at_ a ha).2⟩
  up := hc.up
  far := hc.far
  all j hj := by
    rcases Nat.lt_or_ge j i with h1 | h1
    · exact hc.all j h1
    · obtain ⟨h2, h3⟩ := hc.last hi
      exact ⟨k - 1, by omega, fun c hcc => by rw [show j = i from by omega, h3 c hcc, e c hcc]⟩
  last _ := by
    obtain ⟨h2, h3⟩ := hc.last hi
    exact ⟨h2, fun c hcc => by rw [h3 c hcc, Nat.add_sub_cancel, e c hcc]⟩
theorem Comp.take {d : Nat → Nat → Int} {i k : Nat} {h h' : Nat → Nat → Int} {E : Nat → Nat} (hc : Comp d i k h E) (hi : 0 < i) (e : ¬ ∀ c, c < 8 → d i c = d (i - 1) c) (h1 : ∀ a, a < k → ∀ c, c < 8 → h' a c = h a c) (h2 : ∀ c, c < 8 → h' k c = d i c) :
    Comp d (i + 1) (k + 1) h' (fun a => if a = k then i else E a) where
  le := by have := hc.le; omega
  at_ a ha := by
    by_cases h : a = k
    · subst h; rw [if_pos rfl]; exact ⟨Nat.lt_succ_self _, h2⟩
    · rw [if_neg h]
      obtain ⟨k1, k2⟩ := hc.at_ a (by omega)
      exact ⟨by omega, fun c hcc => by rw [h1 a (by omega) c hcc, k2 c hcc]⟩
  up a b hab hb := by
    rw [if_neg (show a ≠ k by omega)]
    by_cases h : b = k
    · rw [if_pos h]; exact (hc.at_ a (by omega)).1
    · rw [if_neg h]; exact hc.up a b hab (by omega)
  far a ha hall := by
    by_cases h : a + 1 = k
    · refine e fun c hcc => ?_
      obtain ⟨_, h4⟩ := hc.last hi
      have := hall c hcc
      rw [h, h2 c hcc, h1 a (by omega) c hcc, show a = k - 1 from by omega, h4 c hcc] at this
      exact this.symm
    · exact hc.far a (by omega) fun c hcc => by
        have := hall c hcc
        rwa [h1 a (by omega) c hcc, h1 (a + 1) (by omega) c hcc] at this
  all j hj := by
    rcases Nat.lt_or_ge j i with h3 | h3
    · obtain ⟨a, ha, he⟩ := hc.all j h3
      exact ⟨a, by omega, fun c hcc => by rw [h1 a ha c hcc, he c hcc]⟩
    · exact ⟨k, by omega, fun c hcc => by rw [h2 c hcc, show j = i from by omega]⟩
  last _ := ⟨by omega, fun c hcc => by rw [Nat.add_sub_cancel, Nat.add_sub_cancel]; exact h2 c hcc⟩

theorem Comp.congrE {d : Nat → Nat → Int} {i k : Nat} {h : Nat → Nat → Int} {E E' : Nat → Nat} (hc : Comp d i k h E) (e : ∀ a, a < k → E a = E' a) : Comp d i k h E' where
  le := hc.le
  at_ a ha := by rw [← e a ha]; exact hc.at_ a ha
  up a b h1 h2 := by rw [← e a (by omega), ← e b h2]; exact hc.up a b h1 h2
  far := hc.far
  all := hc.all
  last := hc.last
/-- eight cells of a monomial in a block -/
theorem MonH.row {w : World} {g m : Nat} {d : Nat → Nat → Int} (h : MonH w g m d) {i : Nat} (hi : i < m) :
    w.cell? ⟨g, i * 8, none⟩ = some (.int .i64 (d i 0)) ∧ w.cell? ⟨g, i * 8 + 1, none⟩ = some (.int .i64 (d i 1)) ∧ w.cell? ⟨g, i * 8 + 2, none⟩ = some (.int .i64 (d i 2)) ∧ w.cell? ⟨g, i * 8 + 3, none⟩ = some (.int .i64 (d i 3)) ∧
    w.cell? ⟨g, i * 8 + 4, none⟩ = some (.int .i64 (d i 4)) ∧ w.cell? ⟨g, i * 8 + 5, none⟩ = some (.int .i64 (d i 5)) ∧ w.cell? ⟨g, i * 8 + 6, none⟩ = some (.int .i64 (d i 6)) ∧ w.cell? ⟨g, i * 8 + 7, none⟩ = some (.int .i64 (d i 7)) :=
  ⟨(h i hi 0 (by omega)).1, (h i hi 1 (by omega)).1, (h i hi 2 (by omega)).1, (h i hi 3 (by omega)).1, (h i hi 4 (by omega)).1, (h i hi 5 (by omega)).1, (h i hi 6 (by omega)).1, (h i hi 7 (by omega)).1⟩
theorem MonH.rowF {w : World} {g m : Nat} {d : Nat → Nat → Int} (h : MonH w g m d) {i : Nat} (hi : i < m) :
    w.frozen? ⟨g, i * 8, none⟩ = false ∧ w.frozen? ⟨g, i * 8 + 1, none⟩ = false ∧ w.frozen? ⟨g, i * 8 + 2, none⟩ = false ∧ w.frozen? ⟨g, i * 8 + 3, none⟩ = false ∧
    w.frozen? ⟨g, i * 8 + 4, none⟩ = false ∧ w.frozen? ⟨g, i * 8 + 5, none⟩ = false ∧ w.frozen? ⟨g, i * 8 + 6, none⟩ = false ∧ w.frozen? ⟨g, i * 8 + 7, none⟩ = false :=
  ⟨(h i hi 0 (by omega)).2, (h i hi 1 (by omega)).2, (h i hi 2 (by omega)).2, (h i hi 3 (by omega)).2, (h i hi 4 (by omega)).2, (h i hi 5 (by omega)).2, (h i hi 6 (by omega)).2, (h i hi 7 (by omega)).2⟩
theorem MonH.drewN {w : World} {g m : Nat} {d : Nat → Nat → Int} (h : MonH w g m d) (n : Nat) : MonH (w.drewN n) g m d := h
/-- a list of values is laid at place k -/
theorem MonH.put {w : World} {g m : Nat} {d : Nat → Nat → Int} (h : MonH w g m d) (k : Nat) (x : Nat → Int) (hk : k < m) : MonH (w.setCells g (k * 8) (vec8 x).toList) g m (fun a => if a = k then x else d a) := fun i hi c hc => by
  refine ⟨?_, by rw [World.frozen?_setCells]; exact (h i hi c hc).2⟩
  by_cases e : i = k
  · subst e
    have := World.cell?_setCells_in g (vec8 x).toList (i * 8) w (fun j hj => by
      have hj8 : j < 8 := by simpa using hj
      rw [(h i hi j hj8).1]; rfl) c (by simpa using hc)
    rw [this]
    show some _ = some (Value.int .i64 ((if i = i then x else d i) c))
    rw [if_pos rfl]
    rcases eight hc with h | h | h | h | h | h | h | h <;> subst h <;> rfl
  · show _ = some (Value.int .i64 ((if i = k then x else d i) c))
    rw [if_neg e, World.cell?_setCells_out]
    · exact (h i hi c hc).1
    · intro _ _
      have h8 : (vec8 x).toList.length = 8 := rfl
      show i * 8 + c < k * 8 ∨ k * 8 + (vec8 x).toList.length ≤ i * 8 + c
      rw [h8]
      omega

end Go.Proofs.YtmkhfgggleplfaaGreat
namespace Go.Proofs.YtmkhfgggleplfaaGreat
open Go.RowKit

def CompactSays (d : Nat → Nat → Int) (g m c : Nat) (w' : World) (e : Ending) : Prop :=
  ∃ (k : Nat) (h : Nat → Nat → Int) (E : Nat → Nat), e = .returned (.slice (some ⟨g, 0, none⟩) k c) ∧ Comp d m k h E ∧ MonH w' g k h

set_option maxHeartbeats 4000000 in
set_option maxRecDepth 100000 in
theorem compact_any {w : World} {g m c : Nat} {d : Nat → Nat → Int} (hd : MonH w g m d) (_hg : g < w.heap.size) (hs : ∀ i, i < m → In64 (d i)) (hm : m ≤ c) (hc : c ≤ 9223372036854775807) :
    Calls Tryz.prog 45 #[.slice (some ⟨g, 0, none⟩) m c] w fun e w' => CompactSays d g m c w' e ∧ Only g w w' := by
  by_cases h2 : m < 2
  · have h2i : (m : Int) < 2 := by omega
    go_enter Tryz.func45, Tryz.ntmps45
    go_wp2
    go_ret
    refine ⟨⟨m, d, id, rfl, ?_, hd⟩, Only.refl _ _⟩
    rcases (by omega : m = 0 ∨ m = 1) with h | h
    · subst h
      exact ⟨Nat.le_refl _, fun a ha => absurd ha (by omega), fun a b _ hb => absurd hb (by omega), fun a ha => absurd ha (by omega), fun j hj => absurd hj (by omega), fun h => absurd h (by omega)⟩
    · subst h; exact Comp.one d
  · have h2i : ¬ (m : Int) < 2 := by omega
    go_enter Tryz.func45, Tryz.ntmps45
    go_wp2_with fail
    go_loopw [3] (fun iv wr => ∃ i : Nat, 1 ≤ i ∧ i ≤ m ∧ iv = .int .i64 i ∧ Comp d i i d id ∧ MonH wr g m d ∧ Only g w wr) (fun i _ => m - (intOf i).toNat)
    case atStart => exact ⟨1, Nat.le_refl _, by omega, rfl, Comp.one d, hd, Only.refl _ _⟩
    case round =>
      obtain ⟨i, hi1, him, rfl, hC, hM, hO⟩ := hrel
      by_cases hlt : i < m
      · obtain ⟨j, hj⟩ : ∃ j, i = j + 1 := ⟨i - 1, by omega⟩
        have hij : ((i : Int) - 1) = (j : Int) := by omega
        have hjm : j < m := by omega
        obtain ⟨c0, c1, c2, c3, c4, c5, c6, c7⟩ := hM.row hlt
        obtain ⟨d0, d1, d2, d3, d4, d5, d6, d7⟩ := hM.row hjm
        have heq := eq_mono (hs i hlt) (hs j hjm)
        have HC := Lib.hid hC
        have HJ := Lib.hid hj
        have HS := Lib.hid hs
        clear hC hj hs
        cases hsame : same8 (d i) (d j)
        · rw [hsame] at heq
          have HN : Hid (¬ ∀ c, c < 8 → d i c = d (i - 1) c) := fun h => by
            have := (same8_iff (d i) (d j)).2 (fun k hk => by rw [h k hk, HJ.out]; rfl)
            rw [hsame] at this; cases this
          clear hsame
          go_wp2_with fail
          go_quiet (fail)
          go_wp2_with fail
          go_roundw
          case rel =>
            exact ⟨i + 1, by omega, by omega, by go_num, (HC.out.take hi1 HN.out (fun _ _ _ _ => rfl) (fun _ _ => rfl)).congrE (fun a ha => by by_cases h : a = i <;> simp [h]), hM.drewN _, hO.drewN _⟩
          case measure => simp [intOf]; omega
        · rw [hsame] at heq
          have HE : Hid (∀ c, c < 8 → d i c = d (i - 1) c) := fun k hk => by rw [(same8_iff (d i) (d j)).1 hsame k hk, HJ.out]; rfl
          clear hsame
          go_wp2_with fail
          go_quiet (fail)
          go_wp2_with fail
          have hC1 := HC.out.skip hi1 HE.out
          clear heq c0 c1 c2 c3 c4 c5 c6 c7 d0 d1 d2 d3 d4 d5 d6 d7 hij hjm
          have hM1 := hM.drewN nq
          have hO1 := hO.drewN nq
          clear hM hO
          generalize wr.drewN nq = w1 at *
          go_loopw [3, 5] (fun kv qv wr => ∃ (q k : Nat) (s : Nat → Nat → Int) (E : Nat → Nat), 1 ≤ q ∧ i + q ≤ m ∧ qv = .int .i64 q ∧ kv = .int .i64 k ∧ k + 1 ≤ i + q ∧ Comp d (i + q) k s E ∧ MonH wr g m s ∧ (∀ a, i + q ≤ a + 1 → a < m → ∀ c, c < 8 → s a c = d a c) ∧ Only g w wr) (fun _ q _ => m - (intOf q).toNat)
          case atStart => exact ⟨1, i, d, id, Nat.le_refl _, by omega, rfl, rfl, Nat.le_refl _, hC1, hM1, fun _ _ _ _ _ => rfl, hO1⟩
          case round =>
            obtain ⟨q, k, s, E, hq1, hqm, rfl, rfl, hkq, hC, hM, hsame, hO⟩ := hrel
            by_cases hlq : i + q < m
            · obtain ⟨r, hr⟩ : ∃ r, q = r + 1 := ⟨q - 1, by omega⟩
              have hqr : ((q : Int) - 1) = (r : Int) := by omega
              have hqlt : (q : Int) < ((m - i : Nat) : Int) := by omega
              have hqlt' : q < m - i := by omega
              have hrlt' : r < m - i := by omega
              have hkm : k < m := by omega
              obtain ⟨c0, c1, c2, c3, c4, c5, c6, c7⟩ := hM.row hlq
              obtain ⟨d0, d1, d2, d3, d4, d5, d6, d7⟩ := hM.row (show i + r < m by omega)
              obtain ⟨k0, k1, k2, k3, k4, k5, k6, k7⟩ := hM.row hkm
              obtain ⟨f0, f1, f2, f3, f4, f5, f6, f7⟩ := hM.rowF hkm
              rw [Nat.add_mul] at c0 c1 c2 c3 c4 c5 c6 c7 d0 d1 d2 d3 d4 d5 d6 d7
              have i1 : In64 (s (i + q)) := fun c hc => by rw [hsame (i + q) (by omega) hlq c hc]; exact HS.out _ hlq c hc
              have i2 : In64 (s (i + r)) := fun c hc => by rw [hsame (i + r) (by omega) (by omega) c hc]; exact HS.out _ (by omega) c hc
              have heq := eq_mono i1 i2
              have HCC := Lib.hid hC
              have HSS := Lib.hid hsame
              have HR := Lib.hid hr
              clear hC hsame hr i1 i2
              have hiff := same8_iff (s (i + q)) (s (i + r))
              cases hsm : same8 (s (i + q)) (s (i + r))
              · rw [hsm] at heq hiff
                have HN : Hid (¬ ∀ c, c < 8 → d (i + q) c = d (i + q - 1) c) := fun h => by
                  have := hiff.2 (fun c hc => by
                    have hr := HR.out
                    rw [HSS.out (i + q) (by omega) hlq c hc, HSS.out (i + r) (by omega) (by omega) c hc, h c hc, show i + q - 1 = i + r from by omega])
                  cases this
                clear hsm hiff
                go_wp2_with fail
                go_quiet (fail)
                go_wp2_with fail
                go_roundw
                case rel =>
                  refine ⟨q + 1, k + 1, fun a => if a = k then s (i + q) else s a, _, by omega, by omega, by go_num, by go_num, by omega, HCC.out.take (by omega) HN.out (fun a ha c hc => ?_) (fun c hc => ?_), (hM.drewN nq).put k (s (i + q)) hkm, fun a h1 h2 c hc => ?_, only_setCells (vec8 (s (i + q))).toList (k * 8) _ _ (hO.drewN nq)⟩
                  · show (if a = k then s (i + q) else s a) c = s a c
                    rw [if_neg (by omega)]
                  · show (if k = k then s (i + q) else s k) c = d (i + q) c
                    rw [if_pos rfl]
                    exact HSS.out _ (by omega) hlq c hc
                  · show (if a = k then s (i + q) else s a) c = d a c
                    rw [if_neg (by omega)]
                    exact HSS.out a (by omega) h2 c hc
                case measure => simp [intOf]; omega
              · rw [hsm] at heq hiff
                have HE2 : Hid (∀ c, c < 8 → d (i + q) c = d (i + q - 1) c) := fun c hc => by
                  have hr := HR.out
                  have := hiff.1 rfl c hc
                  rw [HSS.out (i + q) (by omega) hlq c hc, HSS.out (i + r) (by omega) (by omega) c hc] at this
                  rw [this, show i + q - 1 = i + r from by omega]
                clear hsm hiff
                go_wp2_with fail
                go_quiet (fail)
                go_wp2_with fail
                go_roundw
                case rel =>
                  exact ⟨q + 1, k, s, E, by omega, by omega, by go_num, rfl, by omega, HCC.out.skip (by omega) HE2.out, hM.drewN _, fun a h1 h2 => HSS.out a (by omega) h2, hO.drewN _⟩
                case measure => simp [intOf]; omega
            · have hqlt : ¬ (q : Int) < ((m - i : Nat) : Int) := by omega
              have hqlt' : ¬ q < m - i := by omega
              have hpm : i + q = m := by omega
              have hkm : k < m := by omega
              have hzl : (Builtin.zeroCells (Value.agg (vec8 fun _ => 0)).cells (m - k)).toList.length = (m - k) * 8 := by simp [Builtin.zeroCells]; rfl
              have hcl : ∀ ty, (Builtin.clear_ #[32] ty #[.slice (some ⟨g, k * 8, none⟩) (m - k) (c - k)]).run Tryz.prog wr = .ok (.tuple #[]) (wr.setCells g (k * 8) (Builtin.zeroCells (Value.agg (vec8 fun _ => 0)).cells (m - k)).toList) :=
                fun ty => run_clear_wide wr 32 36 ty (.agg (vec8 fun _ => 0)) Tryz.underlying32 zero_mono (fun u hu => vec8_one (fun _ => 0) u hu) g (k * 8) (m - k) (c - k) (by omega)
                  (fun j hj => by
                    have hj8 : j < (m - k) * 8 := hj
                    have := (hM (k + j / 8) (by omega) (j % 8) (by omega)).1
                    rw [show (k + j / 8) * 8 + j % 8 = k * 8 + j from by omega] at this
                    rw [this]; rfl)
                  (fun j hj => by
                    have hj8 : j < (m - k) * 8 := hj
                    have := (hM (k + j / 8) (by omega) (j % 8) (by omega)).2
                    rwa [show (k + j / 8) * 8 + j % 8 = k * 8 + j from by omega] at this)
              have hfin : MonH (wr.setCells g (k * 8) (Builtin.zeroCells (Value.agg (vec8 fun _ => 0)).cells (m - k)).toList) g k s := fun a ha c hc => by
                refine ⟨?_, by rw [World.frozen?_setCells]; exact (hM a (by omega) c hc).2⟩
                rw [World.cell?_setCells_out]
                · exact (hM a (by omega) c hc).1
                · intro _ _; show a * 8 + c < k * 8 ∨ _; omega
              have hOf : Only g w (wr.setCells g (k * 8) (Builtin.zeroCells (Value.agg (vec8 fun _ => 0)).cells (m - k)).toList) := only_setCells _ _ _ _ hO
              rw [hpm] at hC
              have HCC := Lib.hid hC
              clear hC hsame hpm hzl
              generalize wr.setCells g (k * 8) (Builtin.zeroCells (Value.agg (vec8 fun _ => 0)).cells (m - k)).toList = wz at *
              go_wp2_with (simp only [hcl])
              go_ret
              exact ⟨⟨k, s, E, rfl, HCC.out, hfin⟩, hOf⟩
      · obtain rfl : i = m := by omega
        go_wp2
        go_ret
        exact ⟨⟨i, d, id, rfl, hC, hM⟩, hO⟩

end Go.Proofs.YtmkhfgggleplfaaGreat
namespace Go.Proofs.YtmkhfgggleplfaaGreat
open Go.RowKit

def SortSays (w' : World) (n m : Nat) (f d : Nat → Nat → Int) (e : Ending) : Prop :=
  ∃ (r : Value) (k : Nat) (h : Nat → Nat → Int), e = .returned r ∧ (∃ g c, r = .slice (some ⟨g, 0, none⟩) k c) ∧ OrdV w' r k h ∧ k ≤ m ∧ (∀ a, a < k → Small (h a)) ∧ (∀ a, a < k → ∃ j, j < m ∧ ∀ c, c < 8 → h a c = d j c) ∧
    (∀ j, j < m → ∃ a, a < k ∧ ∀ c, c < 8 → h a c = d j c) ∧ (∀ a b, a < b → b < k → ordC n f (h a) (h b) = 1)

theorem comp_sorted {n m k : Nat} {f s h : Nat → Nat → Int} {E : Nat → Nat} (hC : Comp s m k h E) (hs : ∀ i j, i < j → j < m → 0 ≤ ordC n f (s i) (s j)) : ∀ b a, a < b → b < k → ordC n f (h a) (h b) = 1 := by
  have hnext : ∀ a, a + 1 < k → ordC n f (h a) (h (a + 1)) = 1 := fun a ha => by
    obtain ⟨k1, k2⟩ := hC.at_ a (by omega)
    obtain ⟨k3, k4⟩ := hC.at_ (a + 1) ha
    have h1 := hs (E a) (E (a + 1)) (hC.up a (a + 1) (by omega) ha) k3
    rw [← ordC_congr (f := f) (fun _ _ _ _ => rfl) k2 k4] at h1
    rcases ordC_range n f (h a) (h (a + 1)) with h2 | h2 | h2
    · exact absurd (ordC_zero.1 h2) (hC.far a ha)
    · exact h2
    · omega
  intro b
  induction b with
  | zero => intro a h1; omega
  | succ b ih =>
    intro a h1 h2
    rcases Nat.lt_or_ge a b with h3 | h3
    · exact ordC_trans (ih a h3 (by omega)) (hnext b h2)
    · rw [show a = b from by omega]; exact hnext b h2

set_option maxHeartbeats 1000000 in
theorem sort_any {w : World} {v : Value} {n m c : Nat} {ad : Addr} {f d : Nat → Nat → Int} (ho : OrdV w v n f) (hl : OrdV w (.slice (some ad) m c) m d) (hf : ∀ i, i < n → ∀ k, k < 8 → -1000 ≤ f i k ∧ f i k ≤ 1000)
    (hs : ∀ i, i < m → Small (d i)) (hm : m ≤ 12) : Calls Tryz.prog 17 #[v, .slice (some ad) m c] w fun e w' => SortSays w' n m f d e ∧ Below w.heap.size w w' := by
  obtain ⟨W0, hW0, hb0, hbx0, hs0⟩ : ∃ W0, W0 = w.alloc (.cells #[v] 30) ∧ Below w.heap.size w W0 ∧ W0.cell? ⟨w.heap.size, 0, none⟩ = some v ∧ W0.heap.size = w.heap.size + 1 :=
    ⟨_, rfl, (Below.refl _ _).alloc (Nat.le_refl _) _, (Blk.new w 30 #[v]).cell 0, by simp⟩
  obtain ⟨A, c0, rfl, hnc, hcm, hA⟩ := id ho
  go_enter Tryz.func17, Tryz.ntmps17
  go_wp2_with fail
  rw [← hW0]
  clear hW0
  refine (clone_monos (hl.below hb0) (by omega)).mono ?_
  rintro e w1 ⟨r, rfl, hr, hrg, hb1⟩
  obtain ⟨g, c1, rfl, hc1, hcm1, hg1, hg2⟩ := hrg ad c rfl
  have hbx1 : w1.cell? ⟨w.heap.size, 0, none⟩ = some (.slice A n c0) := (hb1.cell (p := ⟨w.heap.size, 0, none⟩) (by show w.heap.size < _; omega)).trans hbx0
  have hb01 := hb0.trans (hb1.mono hb0.size)
  have ho1 := ho.below hb01
  have hne : 0 < n → ∀ b : Nat, (Value.slice A n c0).ownBlock = some b → b ≠ g := fun h0 b hb => by
    obtain ⟨b', off, rfl, hlt, _⟩ := hA h0
    simp [Value.ownBlock] at hb
    omega
  go_wp2_with fail
  refine (sort_monos ho1 hbx1 hf hne (by omega) hg2 hr.monH hs hm).mono ?_
  rintro e w2 ⟨rfl, d', hM, hsm, hin, hall, hsort, hO⟩
  have hg3 : g < w2.heap.size := by have := hO.size; omega
  have hb02 : Below w.heap.size w w2 := hb01.trans (hO.below (by omega) hb01.size)
  go_wp2_with fail
  refine (compact_any hM hg3 (fun i hi k hk => by have := hsm i hi k hk; omega) hc1 hcm1).mono ?_
  rintro e w3 ⟨⟨k, h, E, rfl, hC, hM3⟩, hO3⟩
  go_wp2
  go_ret
  have hb03 : Below w.heap.size w w3 := hb02.trans (hO3.below (by omega) hb02.size)
  have hsame : ∀ a, a < k → ∃ j, j < m ∧ ∀ c, c < 8 → h a c = d' j c := fun a ha => ⟨E a, (hC.at_ a ha).1, (hC.at_ a ha).2⟩
  refine ⟨⟨_, k, h, rfl, ⟨g, c1, rfl⟩, hM3.ordV (by have := hO3.size; omega) (by have := hC.le; omega) hcm1, hC.le, fun a ha x hx => ?_, fun a ha => ?_, fun j hj => ?_, fun a b h1 h2 => comp_sorted hC hsort b a h1 h2⟩, hb03⟩
  · obtain ⟨j, hj, e⟩ := hsame a ha
    rw [e x hx]; exact hsm j hj x hx
  · obtain ⟨j, hj, e⟩ := hsame a ha
    obtain ⟨i, hi, e'⟩ := hin j hj
    exact ⟨i, hi, fun x hx => by rw [e x hx, e' x hx]⟩
  · obtain ⟨i, hi, e⟩ := hall j hj
    obtain ⟨a, ha, e'⟩ := hC.all i hi
    exact ⟨a, ha, fun x hx => by rw [e' x hx, e x hx]⟩

end Go.Proofs.YtmkhfgggleplfaaGreat
