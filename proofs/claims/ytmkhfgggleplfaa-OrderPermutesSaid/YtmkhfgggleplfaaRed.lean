/-
  The walk of reduce, one step of long division. Conditions: lengths below 2^40; the top word of the divisor is not 0; the window is below 2^32 times the divisor.
-/
import Derived.Test.YtmkhfgggleplfaaNatE
import Derived.Test.YtmkhfgggleplfaaRedP
import Derived.Deep.DeepCutAuto
namespace Go.Proofs.Ytmkhfgggleplfaa
set_option linter.unusedSimpArgs false
set_option linter.unusedVariables false
open Go.RowKit

/-- the digit is at most 2^32 - 1 and not too small -/
def DigOk (W v : List Nat) (n : Nat) (s6 : Value) : Prop := ∃ d : Nat, s6 = .int .u64 d ∧ d < 4294967296 ∧ vs W (n + 1) < (d + 1) * vs v n

def EstRel (W v : List Nat) (m : Nat) (w : World) (dv rv : Value) (wr : World) : Prop :=
  ∃ d r : Nat, dv = .int .u64 d ∧ rv = .int .u64 r ∧ d < 4294967296 ∧ r ≤ 8589934590 ∧ d * dg v (m + 1) + r = dg W (m + 2) * 4294967296 + dg W (m + 1) ∧ vs W (m + 3) < (d + 1) * vs v (m + 2) ∧ Same w wr

def MsRel (P W R v : List Nat) (g d n : Nat) (w : World) (cv bv iv : Value) (wr : World) : Prop :=
  ∃ (i c bw : Nat) (W' : List Nat), i ≤ n + 1 ∧ iv = .int .i64 i ∧ cv = .int .u64 c ∧ bv = .int .u32 bw ∧ c < 4294967296 ∧ bw ≤ 1 ∧ W'.length = n + 1 ∧ Ds W' ∧ Own wr 109 g (P ++ (W' ++ R)) ∧
    (∀ j, i ≤ j → dg W' j = dg W j) ∧ vs W' i + d * vs v i = vs W i + (bw + c) * pw i ∧ (n < i → c = 0) ∧ Only g w wr
def BkRel (P W R v : List Nat) (g n : Nat) (w : World) (dv bv : Value) (wr : World) : Prop :=
  ∃ (d bw : Nat) (W' : List Nat), dv = .int .u64 d ∧ bv = .int .u32 bw ∧ d < 4294967296 ∧ bw ≤ 1 ∧ W'.length = n + 1 ∧ Ds W' ∧ Own wr 109 g (P ++ (W' ++ R)) ∧
    vs W' (n + 1) + d * vs v n = vs W (n + 1) + bw * pw (n + 1) ∧ vs W (n + 1) < (d + 1) * vs v n ∧ Only g w wr
def AdRel (P W R v : List Nat) (g n : Nat) (w : World) (mv iv : Value) (wr : World) : Prop :=
  ∃ (i mo : Nat) (W' : List Nat), i ≤ n + 1 ∧ iv = .int .i64 i ∧ mv = .int .u32 mo ∧ mo ≤ 1 ∧ W'.length = n + 1 ∧ Ds W' ∧ Own wr 109 g (P ++ (W' ++ R)) ∧
    (∀ j, i ≤ j → dg W' j = dg W j) ∧ vs W' i + mo * pw i = vs W i + vs v i ∧ Only g w wr

set_option maxHeartbeats 4000000 in
set_option maxRecDepth 100000 in
theorem reduce_any (g p n m b' off' c c' : Nat) (P W R v : List Nat) (w : World) (hown : Own w 109 g (P ++ (W ++ R))) (hp : P.length = p) (hW : W.length = n + 1) (hv : v.length = n) (hnm : n = m + 2)
    (hvin : WordsIn w b' off' v) (hne : b' ≠ g) (dW : Ds W) (dv : Ds v) (hv0 : 0 < dg v (m + 1)) (hlt : vs W (n + 1) < 4294967296 * vs v n) (ln : n ≤ 1099511627776) :
    Calls Try.prog 101 #[.slice (some ⟨g, p, none⟩) (n + 1) c, .slice (some ⟨b', off', none⟩) n c'] w fun e w' =>
      e = .returned (.int .u32 ((vs W (n + 1) / vs v n : Nat) : Int)) ∧ ∃ W', W'.length = n + 1 ∧ Ds W' ∧ Own w' 109 g (P ++ (W' ++ R)) ∧ vs W' (n + 1) = vs W (n + 1) % vs v n ∧ Only g w w' := by
  have HP := Lib.hid hp
  have HW := Lib.hid hW
  have HV := Lib.hid hv
  have hc0 := hown.winCell (i := n) hp (by omega)
  have hc1 := hown.winCell (i := m + 1) hp (by omega)
  have hc2 := hown.winCell (i := m) hp (by omega)
  have hv1 := hvin.2 (m + 1) (by omega)
  have hv2 := hvin.2 m (by omega)
  have i1 : ((n : Int) - 1) = ((m + 1 : Nat) : Int) := by omega
  have i2 : ((n : Int) - 2) = (m : Int) := by omega
  have HNM := Lib.hid hnm
  clear hp hW hv hnm
  have dw0 := dW n
  have dw1 := dW (m + 1)
  have dw2 := dW m
  have dv1 := dv (m + 1)
  have dv2 := dv m
  go_enter Try.func101, Try.ntmps101
  go_wp2_with fail
  go_quiet (fail)
  go_upto_if 26 with (fail)
  go_cut [6] (fun s6 wx => DigOk W v n s6 ∧ Same w wx)
  case first =>
    by_cases hlt2 : dg W n < dg v (m + 1)
    · have hcast : ((dg W n * 4294967296 + dg W (m + 1) : Nat) : Int) = (dg W n : Int) * 4294967296 + (dg W (m + 1) : Int) := by omega
      obtain ⟨d0, hd0⟩ : ∃ q : Nat, q = (dg W n * 4294967296 + dg W (m + 1)) / dg v (m + 1) := ⟨_, rfl⟩
      obtain ⟨r0, hr0⟩ : ∃ q : Nat, q = (dg W n * 4294967296 + dg W (m + 1)) % dg v (m + 1) := ⟨_, rfl⟩
      have hq : ((dg W n : Int) * 4294967296 + (dg W (m + 1) : Int)) / (dg v (m + 1) : Int) = (d0 : Int) := by rw [hd0, Int.natCast_ediv, hcast]
      have hr : ((dg W n : Int) * 4294967296 + (dg W (m + 1) : Int)) % (dg v (m + 1) : Int) = (r0 : Int) := by rw [hr0, Int.natCast_emod, hcast]
      have hdn : d0 < 4294967296 := by have := div32_lt (dg W n : Int) (dg W (m + 1) : Int) (dg v (m + 1) : Int) (by omega) (by omega) (by omega) (by omega); omega
      have hrn : r0 < dg v (m + 1) := by rw [hr0]; exact Nat.mod_lt _ hv0
      have hest : Hid (vs W (m + 3) < (d0 + 1) * vs v (m + 2)) := by
        refine est1 dW hv0 ?_
        rw [hd0, ← HNM.out]
      have hrel0 : Hid (d0 * dg v (m + 1) + r0 = dg W (m + 2) * 4294967296 + dg W (m + 1)) := by
        show d0 * dg v (m + 1) + r0 = dg W (m + 2) * 4294967296 + dg W (m + 1)
        rw [hd0, hr0, ← HNM.out, Nat.mul_comm]; exact Nat.div_add_mod _ _
      clear hd0 hr0 hcast
      go_wp2_with fail
      go_quiet ((go_at_call 107; first | exact quiet2S (div32_any _ _ _ _ (by omega) (by omega) (by omega) (by omega) (by omega)) | exact quiet1S (div32_any _ _ _ _ (by omega) (by omega) (by omega) (by omega) (by omega))))
      go_wp2_with fail
      go_loopw [6, 9] (fun dv rv wr => EstRel W v m w dv rv wr) (fun d _ _ => (intOf d).toNat)
      case atStart => exact ⟨d0, r0, rfl, rfl, hdn, by omega, hrel0.out, hest.out, by first | exact ⟨_, rfl⟩ | exact ((Same.refl _).drewN _).drewN _⟩
      case round =>
        obtain ⟨d, r, rfl, rfl, hd, hrb, hre, hX, hs⟩ := hrel
        clear hq hr hdn hrn hest hrel0
        have hc0r := hs.below.cell (p := ⟨g, p + m, none⟩) hown.lt
        have hv1r := hs.below.cell (p := ⟨b', off' + (m + 1), none⟩) hvin.1
        have hv2r := hs.below.cell (p := ⟨b', off' + m, none⟩) hvin.1
        rw [hc2] at hc0r
        rw [hv1] at hv1r
        rw [hv2] at hv2r
        clear hc0 hc1 hc2 hv1 hv2 hown hvin
        have HR := Lib.hid hre
        clear hre hlt
        by_cases hr1 : r ≤ 4294967295
        · obtain ⟨P2, hP2⟩ : ∃ q : Nat, q = d * dg v m := ⟨_, rfl⟩
          have hP2b : P2 ≤ 4294967295 * 4294967295 := by rw [hP2]; exact Nat.mul_le_mul (by omega) (by omega)
          have hPi : (d : Int) * (dg v m : Int) = (P2 : Int) := by rw [hP2]; exact (Int.natCast_mul _ _).symm
          have hP2b' : P2 ≤ 18446744065119617025 := by omega
          have HP2 := Lib.hid hP2
          clear hP2 hP2b
          have w1 : IntKind.u64.wrap (P2 : Int) = (P2 : Int) := by rw [IntKind.wrap_u64]; omega
          have w2 : IntKind.u64.wrap ((r : Int) * 4294967296) = (r : Int) * 4294967296 := by rw [IntKind.wrap_u64]; omega
          have ho := or_u64 (r : Int) (dg W m : Int) (by omega) (by omega) (by omega) (by omega)
          have w3 : IntKind.i64.wrap ((n : Int) - 2) = (m : Int) := by rw [i2]; exact IntWalk.i64_in _ (by omega)
          have hdec : decide ((r : Int) ≤ 4294967295) = true := by simp; omega
          by_cases htest : r * 4294967296 + dg W m < P2
          · have hti : ((r : Int) * 4294967296 + (dg W m : Int)) < (P2 : Int) := by omega
            have hX' := est2 (W := W) (v := v) (m := m) (d := d) (r := r) dW HR.out (by rw [← HP2.out]; exact htest)
            have hd1 : 1 ≤ d := by
              rcases Nat.eq_zero_or_pos d with h0 | h0
              · rw [h0, Nat.zero_mul] at hX'; omega
              · omega
            have hre' : Hid ((d - 1) * dg v (m + 1) + (r + dg v (m + 1)) = dg W (m + 2) * 4294967296 + dg W (m + 1)) := by
              show (d - 1) * dg v (m + 1) + (r + dg v (m + 1)) = dg W (m + 2) * 4294967296 + dg W (m + 1)
              obtain ⟨d', rfl⟩ : ∃ d', d = d' + 1 := ⟨d - 1, by omega⟩
              have := HR.out
              rw [Nat.add_mul, Nat.one_mul] at this; rw [Nat.add_sub_cancel]; omega
            go_wp2_with fail
            go_quiet (fail)
            go_wp2_with fail
            go_roundw
            case rel => exact ⟨d - 1, r + dg v (m + 1), by go_num, by go_num, by omega, by omega, hre'.out, by rw [show d - 1 + 1 = d from by omega]; exact hX', hs.drewN _⟩
            case measure => simp [intOf]; omega
          · have hti0 : ¬ ((r : Int) * 4294967296 + (dg W m : Int)) < (P2 : Int) := by omega
            have hti : decide (((r : Int) * 4294967296 + (dg W m : Int)) < (P2 : Int)) = false := by simp; omega
            go_wp2_with fail
            go_quiet (fail)
            go_wp2_with fail
            go_meet
            exact ⟨⟨d, rfl, hd, by rw [HNM.out]; exact hX⟩, hs.drewN _⟩
        · have hdec : decide ((r : Int) ≤ 4294967295) = false := by simp; omega
          go_wp2_with fail
          go_quiet (fail)
          go_wp2_with fail
          go_meet
          exact ⟨⟨d, rfl, hd, by rw [HNM.out]; exact hX⟩, hs.drewN _⟩
    · go_wp2_with fail
      go_meet
      exact ⟨⟨4294967295, rfl, by omega, by simpa using hlt⟩, ⟨_, rfl⟩⟩
  case rest =>
    obtain ⟨⟨d, rfl, hd, hX⟩, hs⟩ := hcut
    have hown0 := hown
    clear hc0 hc1 hc2 hv1 hv2 i1 i2 hlt hown
    have honly0 : Only g w wc := Only.of_below hs.below
    have hownc : Own wc 109 g (P ++ (W ++ R)) := by obtain ⟨q, rfl⟩ := hs; exact hown0
    clear hs
    go_wp2_with fail
    go_loopw [10, 11, 83] (fun cv bv iv wr => MsRel P W R v g d n w cv bv iv wr) (fun _ _ i _ => n + 1 - (intOf i).toNat)
    case atStart => exact ⟨0, 0, 0, W, Nat.zero_le _, rfl, rfl, rfl, by omega, Nat.zero_le _, HW.out, dW, hownc, fun _ _ => rfl, by simp [vs], fun h => absurd h (by omega), honly0⟩
    case round =>
      obtain ⟨i, cy, bw, W', hi, rfl, rfl, rfl, hcy, hbw, hl, hd', hown, hsame, hv, hc0, honly⟩ := hrel
      have HS := Lib.hid hsame
      have HC0 := Lib.hid hc0
      have hvr := (hvin.only honly hne).at_
      clear hsame hc0 hownc honly0
      by_cases hlt : i < n + 1
      · have hcell := hown.winCell (i := i) HP.out (by omega)
        have hfr := hown.frozen (p + i)
        have dvi := dv i
        have dwi := hd' i
        obtain ⟨P2, hP2⟩ : ∃ q : Nat, q = d * dg v i := ⟨_, rfl⟩
        have hP2b : P2 ≤ 4294967295 * 4294967295 := by rw [hP2]; exact Nat.mul_le_mul (by omega) (by omega)
        have hPi : (d : Int) * (dg v i : Int) = (P2 : Int) := by rw [hP2]; exact (Int.natCast_mul _ _).symm
        have hP2b' : P2 ≤ 18446744065119617025 := by omega
        obtain ⟨lo, hlo⟩ : ∃ s : Nat, ((cy : Int) + (P2 : Int)) % 4294967296 = (s : Int) := ⟨(cy + P2) % 4294967296, by omega⟩
        obtain ⟨c2, hc2⟩ : ∃ s : Nat, ((cy : Int) + (P2 : Int)) / 4294967296 = (s : Int) := ⟨(cy + P2) / 4294967296, by omega⟩
        have hlob : lo < 4294967296 := by omega
        have hc2b : c2 < 4294967296 := by omega
        have hHlo : Hid (lo + 4294967296 * c2 = cy + d * dg v i) := by show lo + 4294967296 * c2 = cy + d * dg v i; rw [← hP2]; omega
        have hc2z : Hid (n < i + 1 → c2 = 0) := by
          intro h
          have hz : dg v i = 0 := dg_ge (by rw [HV.out]; omega)
          rw [hz, Nat.mul_zero] at hP2
          omega
        obtain ⟨s, hs⟩ : ∃ s : Nat, ((dg W' i : Int) - (lo : Int) - (bw : Int)) % 4294967296 = (s : Int) := ⟨(((dg W' i : Int) - (lo : Int) - (bw : Int)) % 4294967296).toNat, by omega⟩
        obtain ⟨bw', hbw'⟩ : ∃ s : Nat, bor32 (dg W' i : Int) (lo : Int) (bw : Int) = (s : Int) := ⟨(bor32 (dg W' i : Int) (lo : Int) (bw : Int)).toNat, by unfold bor32; split <;> rfl⟩
        have hsb : s < 4294967296 := by omega
        have hst : Hid (s + lo + bw = dg W' i + 4294967296 * bw') := by
          show s + lo + bw = dg W' i + 4294967296 * bw'
          unfold bor32 at hbw'
          split at hbw' <;> omega
        have hbw1 : bw' ≤ 1 := by unfold bor32 at hbw'; split at hbw' <;> omega
        have hstep := Lib.hid (red_step hv (by omega) (HS.out i (Nat.le_refl _)) hHlo.out hst.out)
        have HL := Lib.hid hl
        clear hl hv hP2 hP2b hst hHlo dv dW hX
        go_wp2_with (first | (go_at_call 104; refine (at_any _ _ _ _ _ _ (by assumption) HV.out (by omega) (by omega)).mono ?_; rintro e w' ⟨rfl, rfl⟩) | (go_at_call 105; refine (sub32_any _ _ _ _ (by omega) (by omega) (by omega) (by omega) (by omega) (by omega)).mono ?_; rintro e w' ⟨rfl, rfl⟩))
        go_roundw
        case rel =>
          refine ⟨i + 1, c2, bw', W'.set i s, by omega, by go_num, rfl, rfl, hc2b, hbw1, by rw [List.length_set]; exact HL.out, hd'.set hsb, hown.winSet HP.out (by rw [HL.out]; omega), fun j hj => ?_, hstep.out, hc2z.out, honly.setCell rfl _⟩
          rw [dg_set_ne (by omega)]; exact HS.out j (by omega)
        case measure => simp [intOf]; omega
      · have hi' : i = n + 1 := by omega
        subst hi'
        have hcz : cy = 0 := HC0.out (by omega)
        subst hcz
        have hvn : vs v (n + 1) = vs v n := vs_ge (fun j hj => dg_ge (by rw [HV.out]; exact hj)) (by omega)
        rw [hvn, Nat.add_zero] at hv
        have HVN := Lib.hid hvn
        have HV2 := Lib.hid hv
        have HL := Lib.hid hl
        clear hvn hv hl
        go_wp2_with fail
        go_loopw [6, 11] (fun dv bv wr => BkRel P W R v g n w dv bv wr) (fun d _ _ => (intOf d).toNat)
        case atStart => exact ⟨d, bw, W', rfl, rfl, hd, hbw, HL.out, hd', hown, HV2.out, hX, honly⟩
        case round =>
          obtain ⟨d1, bw1, W1, rfl, rfl, hd1, hbw1, hl1, hds1, hown1, hv1, hX1, honly1⟩ := hrel
          obtain ⟨wo, hwo⟩ : ∃ wo : World, wo = wr := ⟨_, rfl⟩
          subst hwo
          clear hd hX hown honly HV2 HL hd' hvr
          by_cases hb1 : bw1 = 0
          · subst hb1
            rw [Nat.zero_mul, Nat.add_zero] at hv1
            obtain ⟨hq, hr⟩ : d1 = vs W (n + 1) / vs v n ∧ vs W1 (n + 1) = vs W (n + 1) % vs v n := quot_of hv1 hX1
            have HQ := Lib.hid hq
            have HR2 := Lib.hid hr
            have HL1 := Lib.hid hl1
            clear hq hr hv1 hX1 hl1
            go_wp2
            go_ret
            exact ⟨by rw [← HQ.out]; rfl, W1, HL1.out, hds1, hown1, HR2.out, honly1⟩
          · have hbe : bw1 = 1 := by omega
            subst hbe
            rw [Nat.one_mul] at hv1
            have hdp : 1 ≤ d1 := by
              rcases Nat.eq_zero_or_pos d1 with h0 | h0
              · rw [h0, Nat.zero_mul] at hv1
                have := vs_lt (l := W1) (i := n + 1) (fun j _ => hds1 j)
                omega
              · exact h0
            have HX1 : Hid (vs W (n + 1) < d1 * vs v n) := by
              show vs W (n + 1) < d1 * vs v n
              have := vs_lt (l := W1) (i := n + 1) (fun j _ => hds1 j)
              omega
            have HV1 := Lib.hid hv1
            have HL1 := Lib.hid hl1
            have hl1' : W1.length ≤ n + 1 := by omega
            clear hv1 hl1 hX1
            go_wp2_with fail
            go_loopw [13, 117] (fun mv iv wr => AdRel P W1 R v g n w mv iv wr) (fun _ i _ => n + 1 - (intOf i).toNat)
            case atStart => exact ⟨0, 0, W1, Nat.zero_le _, rfl, rfl, Nat.zero_le _, HL1.out, hds1, hown1, fun _ _ => rfl, by simp [vs], honly1⟩
            case round =>
              obtain ⟨i, mo, W2, hi2, rfl, rfl, hmo, hl2, hds2, hown2, hsame2, hv2, honly2⟩ := hrel
              have HS2 := Lib.hid hsame2
              have hvr := (hvin.only honly2 hne).at_
              clear hsame2 hown1 honly1
              by_cases hlt2 : i < n + 1
              · have hcell := hown2.winCell (i := i) HP.out (by omega)
                have hfr := hown2.frozen (p + i)
                have dvi := dv i
                have dwi := hds2 i
                obtain ⟨s, hs⟩ : ∃ s : Nat, ((dg W2 i : Int) + (dg v i : Int) + (mo : Int)) % 4294967296 = (s : Int) := ⟨(dg W2 i + dg v i + mo) % 4294967296, by omega⟩
                obtain ⟨mo', hmo'⟩ : ∃ s : Nat, ((dg W2 i : Int) + (dg v i : Int) + (mo : Int)) / 4294967296 = (s : Int) := ⟨(dg W2 i + dg v i + mo) / 4294967296, by omega⟩
                have hsb : s < 4294967296 := by omega
                have hmb : mo' ≤ 1 := by omega
                have hst : Hid (s + 4294967296 * mo' = dg W2 i + dg v i + mo) := by show s + 4294967296 * mo' = dg W2 i + dg v i + mo; omega
                have hstep := Lib.hid (back_step hv2 (by omega) (HS2.out i (Nat.le_refl _)) hst.out)
                have HL2 := Lib.hid hl2
                clear hl2 hv2 hst dv dW
                go_wp2_with fail
                go_region_with (first | (go_at_call 104; refine (at_any _ _ _ _ _ _ (by assumption) HV.out (by omega) (by omega)).mono ?_; rintro e w' ⟨rfl, rfl⟩) | (go_at_call 103; refine (add32_any _ _ _ _ (by omega) (by omega) (by omega) (by omega) (by omega) (by omega)).mono ?_; rintro e w' ⟨rfl, rfl⟩))
                all_goals
                  go_wp2
                  go_roundw
                  case rel =>
                    (repeat apply Exists.intro)
                    refine ⟨?_, rfl⟩
                    refine ⟨i + 1, mo', W2.set i s, by omega, by go_num, rfl, hmb, by rw [List.length_set]; exact HL2.out, hds2.set hsb, hown2.winSet HP.out (by rw [HL2.out]; omega), fun j hj => ?_, hstep.out, (honly2.setCell (p := ⟨g, p + i, none⟩) rfl _).drewN 1⟩
                    rw [dg_set_ne (by omega)]; exact HS2.out j (by omega)
                  case measure => simp [intOf]; omega
              · have hi' : i = n + 1 := by omega
                subst hi'
                have hnext : Hid (vs W2 (n + 1) + (d1 - 1) * vs v n = vs W (n + 1) + (1 - mo) * pw (n + 1)) := by
                  refine back_all HV1.out ?_ hdp hmo
                  rw [hv2, HVN.out]
                have HL2 := Lib.hid hl2
                clear hl2 hv2
                go_wp2
                go_roundw
                case rel => exact ⟨d1 - 1, 1 - mo, W2, by go_num, by go_num, by omega, by omega, HL2.out, hds2, hown2, hnext.out, by rw [show d1 - 1 + 1 = d1 from by omega]; exact HX1.out, honly2⟩
                case measure => simp [intOf]; omega

end Go.Proofs.Ytmkhfgggleplfaa
