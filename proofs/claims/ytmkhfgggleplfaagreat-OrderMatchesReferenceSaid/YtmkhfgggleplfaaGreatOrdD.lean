/-
  The walk of Full. Conditions: at most 2^36 rows.
-/
import Derived.Test.YtmkhfgggleplfaaGreatOrdB
import Derived.Test.YtmkhfgggleplfaaGreatOrdC
import Derived.Test.YtmkhfgggleplfaaGreatIndC
namespace Go.Proofs.YtmkhfgggleplfaaGreat
set_option linter.unusedSimpArgs false
set_option linter.unusedVariables false
open Go.RowKit

def IndepP (n : Nat) (f : Nat → Nat → Int) : Prop := Inj8 0 (listQ n (rowQ f))
def fullF (n : Nat) (f : Nat → Nat → Int) : Nat → Nat → Int := catF n f (fun i => unitF i 1)
def FullSays (w w' : World) (n : Nat) (f : Nat → Nat → Int) (e : Ending) : Prop :=
  (¬ validP n f ∧ e = .returned (.tuple #[.slice none 0 0, .int .i64 50])) ∨
  (validP n f ∧ IndepP n f ∧ ∃ r, e = .returned (.tuple #[r, .int .i64 0]) ∧ OrdO w' w.heap.size r n f) ∨
  (validP n f ∧ ¬ IndepP n f ∧ n + 8 ≤ 24 ∧ ∃ r, e = .returned (.tuple #[r, .int .i64 0]) ∧ OrdO w' w.heap.size r (n + 8) (fullF n f)) ∨
  (validP n f ∧ ¬ IndepP n f ∧ 24 < n + 8 ∧ e = .returned (.tuple #[.slice none 0 0, .int .i64 2]))

set_option maxHeartbeats 2000000 in
set_option maxRecDepth 100000 in
theorem full_any {w : World} {v : Value} {n : Nat} {f : Nat → Nat → Int} (ho : OrdV w v n f) :
    Calls Tryz.prog 11 #[v] w fun e w' => FullSays w w' n f e ∧ Below w.heap.size w w' := by
  obtain ⟨i0, hi0, hz0, hz1, hz2⟩ := info_parts info_row
  go_enter Tryz.func11, Tryz.ntmps11
  go_wp2_with fail
  refine (valid_any ho).mono ?_
  rintro e w1 ⟨⟨b1, rfl, hv⟩, hb1⟩
  cases b1
  · have hnv : ¬ validP n f := fun h => by have := hv.2 h; cases this
    go_wp2
    exact bodyPost_ret (v := .tuple #[.slice none 0 0, .int .i64 50]) (by simp [results, Tryz.results11, go_sem]) rfl ⟨.inl ⟨hnv, rfl⟩, hb1⟩
  · have hV : validP n f := hv.1 rfl
    have hn : n ≤ 24 := hV.1
    have HV := Lib.hid hV
    clear hv hV
    go_wp2_with fail
    refine (clone_rows (ho.below hb1) (by omega)).mono ?_
    rintro e w2 ⟨v2, rfl, hv2, hb2⟩
    have hb12 := hb1.trans (hb2.mono hb1.size)
    go_wp2_with fail
    refine (independent_any (ho.below hb12) (by omega) (fun i hi k hk => by have := HV.out.2 i hi k hk; unfold okAt at this; omega)).mono ?_
    rintro e w3 ⟨b3, rfl, hind, hb3⟩
    have hb13 := hb12.trans (hb3.mono hb12.size)
    have hv3 := (hv2.below hb3).mono hb1.size
    cases b3
    · have hI : Hid (¬ IndepP n f) := fun h => by have := hind.2 h; cases this
      clear hind hv2 ho
      go_wp2_with fail
      go_loopw [4, 14] (fun lv kv wr => ∃ k : Nat, k ≤ 8 ∧ kv = .int .i64 k ∧ OrdO wr w.heap.size lv (n + k) (fullF n f) ∧ Below w.heap.size w wr) (fun _ k _ => 8 - (intOf k).toNat)
      case atStart => exact ⟨0, Nat.zero_le _, rfl, hv3.congr (fun i hi k hk => by unfold fullF catF; rw [if_pos hi]), hb13⟩
      case round =>
        obtain ⟨k, hk, rfl, ⟨xs, hown, hx⟩, hb⟩ := hrel
        by_cases hk8 : k < 8
        · have hki : (k : Int) < 8 := by omega
          have HX := Lib.hid hx
          have HO := Lib.hid hown
          clear hx hown hv3
          go_wp2_with fail
          refine (unit_any k 1 wr hk8).mono ?_
          rintro e w4 ⟨rfl, hb4⟩
          have hr := Lib.hid (vec8_reads w4 (unitF k 1))
          have hW2 : Below wr.heap.size wr (w4.alloc (.cells (vec8 (unitF k 1)) 35)) := hb4.alloc hb4.size _
          have hown2 := Lib.hid (ownsRow_below HO.out hW2)
          have hsz := hb.size
          have hsz2 := hb4.size
          go_wp2_with (at_builtin; refine wpList_append_any _ rfl (.tmp 17) (.tmp 20) _ rfl w.heap.size 35 i0 _ 8 64 Tryz.underlying30 hi0 hz0 hz1 hz2 rfl (by omega) _ (n + k) xs rfl hown2.out (w4.heap.size + 1) (some ⟨w4.heap.size, 0, none⟩) 1 1 (vec8 (unitF k 1)).toList rfl hr.out (vec8_one _) (by simp only [maxLen]; omega) (by omega) (by simp; omega) ?_; intro v5 w5 hown5 hg5 hat5)
          go_roundw
          case rel =>
            refine ⟨k + 1, by omega, by go_num, (OrdO.push HX.out HO.out.1 hown5).congr ?_, (hb.trans (hW2.mono hb.size)).grown hg5 (by simp; omega) (fun g h => (hown2.out.lt g h).1)⟩
            intro i hi k' hk'
            by_cases h : i < n + k
            · simp [h]
            · simp only [h, if_false]
              unfold fullF catF
              rw [if_neg (by omega), show i - n = k from by omega]
          case measure => simp [intOf]; omega
        · obtain rfl : k = 8 := by omega
          obtain ⟨A', c', rfl, hnc, hcm, -⟩ := own_slice hown
          by_cases hbig : n + 8 ≤ 24
          · have hbi : ¬ (24 : Int) < ((n : Int) + 8) := by omega
            have hbi2 : ((n + 8 : Nat) : Int) ≤ 24 := by omega
            go_wp2
            exact bodyPost_ret (v := .tuple #[.slice A' (n + 8) c', .int .i64 0]) (by simp [results, Tryz.results11, go_sem]) rfl ⟨.inr (.inr (.inl ⟨HV.out, hI.out, hbig, _, rfl, xs, hown, hx⟩)), hb⟩
          · have hbi : (24 : Int) < ((n : Int) + 8) := by omega
            have hbi2 : (24 : Int) < ((n + 8 : Nat) : Int) := by omega
            go_wp2
            exact bodyPost_ret (v := .tuple #[.slice none 0 0, .int .i64 2]) (by simp [results, Tryz.results11, go_sem]) rfl ⟨.inr (.inr (.inr ⟨HV.out, hI.out, by omega, rfl⟩)), hb⟩
    · have hI : IndepP n f := hind.1 rfl
      clear hind
      go_wp2
      exact bodyPost_ret (v := .tuple #[v2, .int .i64 0]) (by simp [results, Tryz.results11, go_sem]) rfl ⟨.inr (.inl ⟨HV.out, hI, _, rfl, hv3⟩), hb13⟩

end Go.Proofs.YtmkhfgggleplfaaGreat
