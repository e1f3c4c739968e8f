/-
  The walk of Compact of a list of monomials. Conditions: exponents of type int.
-/
import Derived.Test.YtmkhfgggleplfaaMonC
namespace Go.Proofs.Ytmkhfgggleplfaa
set_option linter.unusedSimpArgs false
set_option linter.unusedVariables false
open Go.RowKit

def CompactSays (d : Nat → Nat → Int) (g m c : Nat) (w' : World) (e : Ending) : Prop :=
  ∃ (k : Nat) (h : Nat → Nat → Int) (E : Nat → Nat), e = .returned (.slice (some ⟨g, 0, none⟩) k c) ∧ Comp d m k h E ∧ MonH w' g k h

set_option maxHeartbeats 4000000 in
set_option maxRecDepth 100000 in
theorem compact_any {w : World} {g m c : Nat} {d : Nat → Nat → Int} (hd : MonH w g m d) (hg : g < w.heap.size) (hs : ∀ i, i < m → In64 (d i)) (hm : m ≤ c) (hc : c ≤ 9223372036854775807) :
    Calls Try.prog 38 #[.slice (some ⟨g, 0, none⟩) m c] w fun e w' => CompactSays d g m c w' e ∧ Only g w w' := by
  by_cases h2 : m < 2
  · have h2i : (m : Int) < 2 := by omega
    go_enter Try.func38, Try.ntmps38
    go_wp2
    go_ret
    refine ⟨⟨m, d, id, rfl, ?_, hd⟩, Only.refl _ _⟩
    rcases (by omega : m = 0 ∨ m = 1) with h | h
    · subst h
      exact ⟨Nat.le_refl _, fun a ha => absurd ha (by omega), fun a b _ hb => absurd hb (by omega), fun a ha => absurd ha (by omega), fun j hj => absurd hj (by omega), fun h => absurd h (by omega)⟩
    · subst h; exact Comp.one d
  · have h2i : ¬ (m : Int) < 2 := by omega
    go_enter Try.func38, Try.ntmps38
    go_wp2_with fail
    go_loopw [3] (fun iv wr => ∃ i : Nat, 1 ≤ i ∧ i ≤ m ∧ iv = .int .i64 i ∧ Comp d i i d id ∧ MonH wr g m d ∧ Only g w wr) (fun i _ => m - (intOf i).toNat)
    case atStart => exact ⟨1, Nat.le_refl _, by omega, rfl, Comp.one d, hd, Only.refl _ _⟩
    case round =>
      obtain ⟨i, hi1, him, rfl, hC, hM, hO⟩ := hrel
      by_cases hlt : i < m
      · obtain ⟨j, hj⟩ : ∃ j, i = j + 1 := ⟨i - 1, by omega⟩
        have hij : ((i : Int) - 1) = (j : Int) := by omega
        have hjm : j < m := by omega
        obtain ⟨c0, c1, c2, c3, c4, c5, c6, c7⟩ := hM.row hlt
        obtain ⟨d0, d1, d2, d3, d4, d5, d6, d7⟩ := hM.row hjm
        have heq := eq_mono (hs i hlt) (hs j hjm)
        have HC := Lib.hid hC
        have HJ := Lib.hid hj
        have HS := Lib.hid hs
        clear hC hj hs
        cases hsame : same8 (d i) (d j)
        · rw [hsame] at heq
          have HN : Hid (¬ ∀ c, c < 8 → d i c = d (i - 1) c) := fun h => by
            have := (same8_iff (d i) (d j)).2 (fun k hk => by rw [h k hk, HJ.out]; rfl)
            rw [hsame] at this; cases this
          clear hsame
          go_wp2_with fail
          go_quiet (fail)
          go_wp2_with fail
          go_roundw
          case rel =>
            exact ⟨i + 1, by omega, by omega, by go_num, (HC.out.take hi1 HN.out (fun _ _ _ _ => rfl) (fun _ _ => rfl)).congrE (fun a ha => by by_cases h : a = i <;> simp [h]), hM.drewN _, hO.drewN _⟩
          case measure => simp [intOf]; omega
        · rw [hsame] at heq
          have HE : Hid (∀ c, c < 8 → d i c = d (i - 1) c) := fun k hk => by rw [(same8_iff (d i) (d j)).1 hsame k hk, HJ.out]; rfl
          clear hsame
          go_wp2_with fail
          go_quiet (fail)
          go_wp2_with fail
          have hC1 := HC.out.skip hi1 HE.out
          clear heq c0 c1 c2 c3 c4 c5 c6 c7 d0 d1 d2 d3 d4 d5 d6 d7 hij hjm
          have hM1 := hM.drewN nq
          have hO1 := hO.drewN nq
          clear hM hO
          generalize wr.drewN nq = w1 at *
          go_loopw [3, 5] (fun kv qv wr => ∃ (q k : Nat) (s : Nat → Nat → Int) (E : Nat → Nat), 1 ≤ q ∧ i + q ≤ m ∧ qv = .int .i64 q ∧ kv = .int .i64 k ∧ k + 1 ≤ i + q ∧ Comp d (i + q) k s E ∧ MonH wr g m s ∧ (∀ a, i + q ≤ a + 1 → a < m → ∀ c, c < 8 → s a c = d a c) ∧ Only g w wr) (fun _ q _ => m - (intOf q).toNat)
          case atStart => exact ⟨1, i, d, id, Nat.le_refl _, by omega, rfl, rfl, Nat.le_refl _, hC1, hM1, fun _ _ _ _ _ => rfl, hO1⟩
          case round =>
            obtain ⟨q, k, s, E, hq1, hqm, rfl, rfl, hkq, hC, hM, hsame, hO⟩ := hrel
            by_cases hlq : i + q < m
            · obtain ⟨r, hr⟩ : ∃ r, q = r + 1 := ⟨q - 1, by omega⟩
              have hqr : ((q : Int) - 1) = (r : Int) := by omega
              have hqlt : (q : Int) < ((m - i : Nat) : Int) := by omega
              have hqlt' : q < m - i := by omega
              have hrlt' : r < m - i := by omega
              have hkm : k < m := by omega
              obtain ⟨c0, c1, c2, c3, c4, c5, c6, c7⟩ := hM.row hlq
              obtain ⟨d0, d1, d2, d3, d4, d5, d6, d7⟩ := hM.row (show i + r < m by omega)
              obtain ⟨k0, k1, k2, k3, k4, k5, k6, k7⟩ := hM.row hkm
              obtain ⟨f0, f1, f2, f3, f4, f5, f6, f7⟩ := hM.rowF hkm
              rw [Nat.add_mul] at c0 c1 c2 c3 c4 c5 c6 c7 d0 d1 d2 d3 d4 d5 d6 d7
              have i1 : In64 (s (i + q)) := fun c hc => by rw [hsame (i + q) (by omega) hlq c hc]; exact HS.out _ hlq c hc
              have i2 : In64 (s (i + r)) := fun c hc => by rw [hsame (i + r) (by omega) (by omega) c hc]; exact HS.out _ (by omega) c hc
              have heq := eq_mono i1 i2
              have HCC := Lib.hid hC
              have HSS := Lib.hid hsame
              have HR := Lib.hid hr
              clear hC hsame hr i1 i2
              have hiff := same8_iff (s (i + q)) (s (i + r))
              cases hsm : same8 (s (i + q)) (s (i + r))
              · rw [hsm] at heq hiff
                have HN : Hid (¬ ∀ c, c < 8 → d (i + q) c = d (i + q - 1) c) := fun h => by
                  have := hiff.2 (fun c hc => by
                    have hr := HR.out
                    rw [HSS.out (i + q) (by omega) hlq c hc, HSS.out (i + r) (by omega) (by omega) c hc, h c hc, show i + q - 1 = i + r from by omega])
                  cases this
                clear hsm hiff
                go_wp2_with fail
                go_quiet (fail)
                go_wp2_with fail
                go_roundw
                case rel =>
                  refine ⟨q + 1, k + 1, fun a => if a = k then s (i + q) else s a, _, by omega, by omega, by go_num, by go_num, by omega, HCC.out.take (by omega) HN.out (fun a ha c hc => ?_) (fun c hc => ?_), (hM.drewN nq).put k (s (i + q)) hkm, fun a h1 h2 c hc => ?_, only_setCells (vec8 (s (i + q))).toList (k * 8) _ _ (hO.drewN nq)⟩
                  · show (if a = k then s (i + q) else s a) c = s a c
                    rw [if_neg (by omega)]
                  · show (if k = k then s (i + q) else s k) c = d (i + q) c
                    rw [if_pos rfl]
                    exact HSS.out _ (by omega) hlq c hc
                  · show (if a = k then s (i + q) else s a) c = d a c
                    rw [if_neg (by omega)]
                    exact HSS.out a (by omega) h2 c hc
                case measure => simp [intOf]; omega
              · rw [hsm] at heq hiff
                have HE2 : Hid (∀ c, c < 8 → d (i + q) c = d (i + q - 1) c) := fun c hc => by
                  have hr := HR.out
                  have := hiff.1 rfl c hc
                  rw [HSS.out (i + q) (by omega) hlq c hc, HSS.out (i + r) (by omega) (by omega) c hc] at this
                  rw [this, show i + q - 1 = i + r from by omega]
                clear hsm hiff
                go_wp2_with fail
                go_quiet (fail)
                go_wp2_with fail
                go_roundw
                case rel =>
                  exact ⟨q + 1, k, s, E, by omega, by omega, by go_num, rfl, by omega, HCC.out.skip (by omega) HE2.out, hM.drewN _, fun a h1 h2 => HSS.out a (by omega) h2, hO.drewN _⟩
                case measure => simp [intOf]; omega
            · have hqlt : ¬ (q : Int) < ((m - i : Nat) : Int) := by omega
              have hqlt' : ¬ q < m - i := by omega
              have hpm : i + q = m := by omega
              have hkm : k < m := by omega
              have hzl : (Builtin.zeroCells (Value.agg (vec8 fun _ => 0)).cells (m - k)).toList.length = (m - k) * 8 := by simp [Builtin.zeroCells]; rfl
              have hcl : ∀ ty, (Builtin.clear_ #[30] ty #[.slice (some ⟨g, k * 8, none⟩) (m - k) (c - k)]).run Try.prog wr = .ok (.tuple #[]) (wr.setCells g (k * 8) (Builtin.zeroCells (Value.agg (vec8 fun _ => 0)).cells (m - k)).toList) :=
                fun ty => run_clear_wide wr 30 35 ty (.agg (vec8 fun _ => 0)) Try.underlying30 zero_mono (fun u hu => vec8_one (fun _ => 0) u hu) g (k * 8) (m - k) (c - k) (by omega)
                  (fun j hj => by
                    have hj8 : j < (m - k) * 8 := hj
                    have := (hM (k + j / 8) (by omega) (j % 8) (by omega)).1
                    rw [show (k + j / 8) * 8 + j % 8 = k * 8 + j from by omega] at this
                    rw [this]; rfl)
                  (fun j hj => by
                    have hj8 : j < (m - k) * 8 := hj
                    have := (hM (k + j / 8) (by omega) (j % 8) (by omega)).2
                    rwa [show (k + j / 8) * 8 + j % 8 = k * 8 + j from by omega] at this)
              have hfin : MonH (wr.setCells g (k * 8) (Builtin.zeroCells (Value.agg (vec8 fun _ => 0)).cells (m - k)).toList) g k s := fun a ha c hc => by
                refine ⟨?_, by rw [World.frozen?_setCells]; exact (hM a (by omega) c hc).2⟩
                rw [World.cell?_setCells_out]
                · exact (hM a (by omega) c hc).1
                · intro _ _; show a * 8 + c < k * 8 ∨ _; omega
              have hOf : Only g w (wr.setCells g (k * 8) (Builtin.zeroCells (Value.agg (vec8 fun _ => 0)).cells (m - k)).toList) := only_setCells _ _ _ _ hO
              rw [hpm] at hC
              have HCC := Lib.hid hC
              clear hC hsame hpm hzl
              generalize wr.setCells g (k * 8) (Builtin.zeroCells (Value.agg (vec8 fun _ => 0)).cells (m - k)).toList = wz at *
              go_wp2_with (simp only [hcl])
              go_ret
              exact ⟨⟨k, s, E, rfl, HCC.out, hfin⟩, hOf⟩
      · obtain rfl : i = m := by omega
        go_wp2
        go_ret
        exact ⟨⟨i, d, id, rfl, hC, hM⟩, hO⟩

end Go.Proofs.Ytmkhfgggleplfaa
