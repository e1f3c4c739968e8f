/-
  The walks of the reference's product of words and division by one word: times, shortly. Conditions: lengths below 2^40; words below 2^32; the divisor is not 0.
  The walks of the reference's steps of long division: guess, lessen, restore. Conditions: lengths below 2^40; the top word of the divisor is not 0; the window is below 2^32 times the divisor.
-/
import Derived.Test.YtmkhfgggleplfaaGreatRnB
import Derived.Test.YtmkhfgggleplfaaGreatNatD
import Derived.Test.YtmkhfgggleplfaaGreatNatE
import Derived.Test.YtmkhfgggleplfaaGreatRed
namespace Go.Proofs.YtmkhfgggleplfaaGreat
set_option linter.unusedSimpArgs false
set_option linter.unusedVariables false
open Go.RowKit

set_option maxHeartbeats 2000000 in
set_option maxRecDepth 100000 in
theorem rtimes_any (A A' : Option Addr) (n m c c' : Nat) (x y : List Nat) (w : World) (hx : WordsAt w A x) (hy : WordsAt w A' y) (hn : x.length = n) (hm : y.length = m) (dx : Ds x) (dy : Ds y)
    (lx : n ≤ 1099511627776) (ly : m ≤ 1099511627776) :
    Calls Tryz.prog 105 #[.slice A n c, .slice A' m c'] w fun e w' => ∃ r, e = .returned r ∧ NatV w' r (val x * val y) ∧ Below w.heap.size w w' := by
  have hmk1 := make_u32s (n + m) (by omega)
  rw [show ((n + m : Nat) : Int) = (n : Int) + (m : Int) from by omega] at hmk1
  have hN := Lib.hid hn
  have hM := Lib.hid hm
  clear hn hm
  go_enter Tryz.func105, Tryz.ntmps105
  go_wp2_with fail
  go_loopw [6] (fun i wr => MulRel x y w i wr) (fun i _ => n - (intOf i).toNat)
  case atStart =>
    refine ⟨0, List.replicate (n + m) 0, Nat.zero_le _, rfl, Own.made w 110 (n + m), by simp [hN.out, hM.out], Ds.zeros _, ?_, (Below.refl _ _).alloc (Nat.le_refl _) _⟩
    rw [vs_zero fun j _ => dg_replicate _ j]; simp [vs]
  case round =>
    obtain ⟨i, o0, hi, rfl, hown0, hlo0, hdo0, hv0, hb0⟩ := hrel
    obtain ⟨wo, hwo⟩ : ∃ wo : World, wo = wr := ⟨_, rfl⟩
    subst hwo
    rw [hN.out] at hi hlo0
    rw [hM.out] at hlo0 hv0
    have HL0 := Lib.hid hlo0
    have HV0 := Lib.hid hv0
    have hlo0' : o0.length ≤ n + m := by omega
    clear hmk1 hlo0 hv0
    by_cases hlt : i < n
    · have hdx := dx i
      go_wp2_with fail
      go_loopw [7, 8] (fun cv k wr => MulIn y o0 w i (dg x i) k cv wr) (fun _ k _ => m - (intOf k).toNat)
      case atStart =>
        exact ⟨0, 0, o0, Nat.zero_le _, rfl, rfl, by omega, hown0, rfl, hdo0, fun _ _ => rfl, by simp [vs], hb0⟩
      case round =>
        obtain ⟨k, cy, o, hk, rfl, rfl, hcy, hown, hlo, hdo, hsame, hv, hb⟩ := hrel
        rw [hM.out] at hk
        have HS := Lib.hid hsame
        clear hsame hown0
        by_cases hlt2 : k < m
        · obtain ⟨b, off, rfl, hbb, hcell⟩ := (hx.below hb) (by rw [hN.out]; omega)
          have hcx := hcell i (by rw [hN.out]; omega)
          clear hcell
          obtain ⟨b', off', rfl, hbb', hcell'⟩ := (hy.below hb) (by rw [hM.out]; omega)
          have hcy' := hcell' k (by rw [hM.out]; omega)
          clear hcell'
          have hik : i + k < o.length := by rw [hlo, HL0.out]; omega
          have hc1 := hown.cell (i := i + k) hik
          have hf1 := hown.frozen (i + k)
          have dyk := dy k
          have dok := hdo (i + k)
          obtain ⟨p, hp⟩ : ∃ p : Nat, dg x i * dg y k = p := ⟨_, rfl⟩
          have hpb : p ≤ 4294967295 * 4294967295 := by rw [← hp]; exact Nat.mul_le_mul (by omega) (by omega)
          have hpi : (dg x i : Int) * (dg y k : Int) = (p : Int) := by rw [← hp]; exact (Int.natCast_mul _ _).symm
          have hpb' : p ≤ 18446744065119617025 := by omega
          obtain ⟨s, hs⟩ : ∃ s : Nat, ((p : Int) + (dg o (i + k) : Int) + (cy : Int)) % 4294967296 = (s : Int) := ⟨(p + dg o (i + k) + cy) % 4294967296, by omega⟩
          obtain ⟨c2, hc2⟩ : ∃ s : Nat, ((p : Int) + (dg o (i + k) : Int) + (cy : Int)) / 4294967296 = (s : Int) := ⟨(p + dg o (i + k) + cy) / 4294967296, by omega⟩
          have hsn : s < 4294967296 := by omega
          have hcn : c2 < 4294967296 := by omega
          have hst : Hid (s + 4294967296 * c2 = cy + (dg x i * dg y k + dg o (i + k))) := by show s + 4294967296 * c2 = cy + (dg x i * dg y k + dg o (i + k)); rw [hp]; omega
          have hstep := Lib.hid (mul_step hv hik (HS.out _ (Nat.le_refl _)) hst.out)
          have hlo' : Hid (o.length = _) := hlo
          have u1 : IntKind.u64.wrap (p : Int) = (p : Int) := by rw [IntKind.wrap_u64]; omega
          have u2 : IntKind.u64.wrap ((p : Int) + (dg o (i + k) : Int)) = (p : Int) + (dg o (i + k) : Int) := by rw [IntKind.wrap_u64]; omega
          have u3 : IntKind.u64.wrap ((p : Int) + (dg o (i + k) : Int) + (cy : Int)) = (p : Int) + (dg o (i + k) : Int) + (cy : Int) := by rw [IntKind.wrap_u64]; omega
          have u4 : IntKind.i64.wrap ((i : Int) + (k : Int)) = (i : Int) + (k : Int) := IntWalk.i64_in _ (by omega)
          have u5 : (0 : Int) ≤ (i : Int) + (k : Int) := by omega
          have u6 : ((i : Int) + (k : Int)).toNat = i + k := by omega
          have HB := Lib.hid hb
          clear hp hpb hlo hv hst hik hb
          go_wp2_with fail
          go_quiet (fail)
          have hown' := Lib.hid ((hown.drewN nq).set (i + k) s)
          clear u4 u5 u6
          go_wp2_with fail
          go_roundw
          case rel =>
            refine ⟨k + 1, c2, o.set (i + k) s, by rw [hM.out]; omega, by go_num, by first | rfl | rw [hc2], hcn, hown'.out, by rw [List.length_set]; exact hlo'.out, hdo.set hsn, fun j hj => ?_, hstep.out, (HB.out.drewN nq).setCell (Nat.le_refl _) _⟩
            rw [dg_set_ne (by omega)]; exact HS.out j (by omega)
          case measure => simp [intOf]; omega
        · have hk' : k = m := by omega
          subst hk'
          have hik : i + k < o.length := by rw [hlo, HL0.out]; omega
          have hc1 := hown.cell (i := i + k) hik
          have hf1 := hown.frozen (i + k)
          have hown' := Lib.hid (hown.set (i + k) cy)
          have htop : Hid (vs (o.set (i + k) cy) (i + 1 + k) = vs x (i + 1) * val y) := by
            have := mul_top (x := x) (y := y) (o := o) (o0 := o0) (i := i) (c := cy) (by rw [hM.out]; exact HV0.out) (by rw [hM.out]; exact hv) (by rw [hM.out]; exact hik)
            rwa [hM.out] at this
          have hlo' : Hid (o.length = _) := hlo
          clear hlo hv hown hik
          go_wp2_with fail
          go_roundw
          case rel =>
            exact ⟨i + 1, o.set (i + k) cy, by rw [hN.out]; omega, by go_num, hown'.out, by rw [List.length_set, hN.out, hM.out]; exact hlo'.out.trans HL0.out, hdo.set hcy, by rw [hM.out]; exact htop.out, hb.setCell (Nat.le_refl _) _⟩
          case measure => simp [intOf]; omega
    · have hi' : i = n := by omega
      subst hi'
      have hfin : Hid (val o0 = val x * val y) := by
        show vs o0 o0.length = _
        rw [HL0.out, HV0.out, ← hN.out]; rfl
      have hw := hown0.words
      go_wp2_with fail
      refine (rtrim_any _ _ _ _ _ hw HL0.out (Nat.le_refl _) (by omega)).mono ?_
      rintro e w' ⟨rfl, rfl⟩
      go_wp2
      go_ret
      exact ⟨_, rfl, by rw [← hfin.out]; exact NatV.of_rtrim hw hdo0 (by rw [HL0.out]; omega) (by omega), hb0⟩

def RShRel (x : List Nat) (d n : Nat) (w : World) (rv iv : Value) (wr : World) : Prop :=
  ∃ (i j r : Nat) (o : List Nat), n = i + j ∧ iv = .int .i64 ((j : Int) - 1) ∧ rv = .int .u64 r ∧ r < d ∧ Own wr 110 w.heap.size o ∧ o.length = n ∧ Ds o ∧ hi x n i = d * hi o n i + r ∧ Below w.heap.size w wr

set_option maxHeartbeats 1000000 in
set_option maxRecDepth 100000 in
theorem rshortly_any (A : Option Addr) (n c d : Nat) (x : List Nat) (w : World) (hx : WordsAt w A x) (hn : x.length = n) (dx : Ds x) (hd : 0 < d) (hd2 : d < 4294967296) (lx : n ≤ 1099511627776) :
    Calls Tryz.prog 141 #[.slice A n c, .int .u64 (d : Int)] w fun e w' => ∃ q, e = .returned (.tuple #[q, .int .u64 ((val x % d : Nat) : Int)]) ∧ NatV w' q (val x / d) ∧ Below w.heap.size w w' := by
  have hmk1 := make_u32s n (by omega)
  have hN := Lib.hid hn
  clear hn
  go_enter Tryz.func141, Tryz.ntmps141
  go_wp2_with fail
  go_loopw [7, 8] (fun r i wr => RShRel x d n w r i wr) (fun _ i _ => (intOf i + 1).toNat)
  case atStart =>
    exact ⟨0, n, 0, List.replicate n 0, (Nat.zero_add n).symm, rfl, rfl, hd, Own.made w 110 n, by simp, Ds.zeros _, by simp [hi], (Below.refl _ _).alloc (Nat.le_refl _) _⟩
  case round =>
    obtain ⟨i, j, r, o, hij, rfl, rfl, hr, hown, hlo, hdo, hv, hb⟩ := hrel
    clear hmk1
    by_cases hlt : 0 < j
    · obtain ⟨j, rfl⟩ : ∃ k, j = k + 1 := ⟨j - 1, by omega⟩
      have hidx : ((j + 1 : Nat) : Int) - 1 = (j : Int) := by omega
      rw [hidx]
      have hjn : j < n := by omega
      have HJ : Hid (n = i + j + 1) := by show n = i + j + 1; omega
      clear hij
      obtain ⟨b, off, rfl, hbb, hcell⟩ := (hx.below hb) (by rw [hN.out]; omega)
      have hcx := hcell j (by rw [hN.out]; omega)
      have hc1 := hown.cell (i := j) (by omega)
      have hf1 := hown.frozen j
      have dxj := dx j
      have hcast : ((r * 4294967296 + dg x j : Nat) : Int) = (r : Int) * 4294967296 + (dg x j : Int) := by omega
      obtain ⟨q, hq⟩ : ∃ q : Nat, ((r : Int) * 4294967296 + (dg x j : Int)) / (d : Int) = (q : Int) := ⟨(r * 4294967296 + dg x j) / d, by rw [Int.natCast_ediv, hcast]⟩
      obtain ⟨r', hr'⟩ : ∃ q : Nat, ((r : Int) * 4294967296 + (dg x j : Int)) % (d : Int) = (q : Int) := ⟨(r * 4294967296 + dg x j) % d, by rw [Int.natCast_emod, hcast]⟩
      have hqn : q < 4294967296 := by have := div32_lt (r : Int) (dg x j : Int) (d : Int) (by omega) (by omega) (by omega) (by omega); omega
      have hrn : r' < d := by have := Int.emod_lt_of_pos ((r : Int) * 4294967296 + (dg x j : Int)) (show (0 : Int) < d by omega); omega
      have hst : Hid (d * q + r' = r * 4294967296 + dg x j) := by
        show d * q + r' = r * 4294967296 + dg x j
        have h1 := Int.mul_ediv_add_emod ((r : Int) * 4294967296 + (dg x j : Int)) (d : Int)
        rw [hq, hr'] at h1
        have h2 : ((d * q : Nat) : Int) = (d : Int) * (q : Int) := Int.natCast_mul _ _
        omega
      have hstep := Lib.hid (word_step HJ.out hlo hv hst.out)
      have hlo' : Hid (o.length = _) := hlo
      have hd0 : ((d : Int) == 0) = false := by rw [beq_eq_false_iff_ne]; omega
      have hd1 : ((d : Int) != 0) = true := by rw [bne_iff_ne]; omega
      clear hlo hv hst dx hcell hcast
      go_wp2_with fail
      go_roundw
      case rel => exact ⟨i + 1, j, r', o.set j q, by have := HJ.out; omega, rfl, by first | rfl | rw [hr'], hrn, hown.set j q, by rw [List.length_set]; exact hlo'.out, hdo.set hqn, hstep.out, hb.setCell (Nat.le_refl _) _⟩
      case measure => simp [intOf]
    · have hk' : j = 0 := by omega
      subst hk'
      have hin : i = n := by omega
      subst hin
      have hv' : val x = d * val o + r := by
        have h1 : val x = hi x i i := by rw [hi_all, ← hN.out]; rfl
        have h2 : val o = hi o i i := by rw [hi_all, ← hlo]; rfl
        rw [h1, h2]; exact hv
      have hq : Hid (val o = val x / d) := by
        show val o = val x / d
        rw [hv', Nat.mul_add_div hd, Nat.div_eq_of_lt hr, Nat.add_zero]
      have hr' : Hid (r = val x % d) := by
        show r = val x % d
        rw [hv', Nat.mul_add_mod, Nat.mod_eq_of_lt hr]
      have hw := hown.words
      have hlo' : Hid (o.length = _) := hlo
      clear hlo hv hv' dx hij
      go_wp2_with fail
      refine (rtrim_any _ _ _ _ _ hw hlo'.out (Nat.le_refl _) (by omega)).mono ?_
      rintro e w' ⟨rfl, rfl⟩
      go_wp2
      go_ret2
      exact ⟨_, by rw [← hr'.out]; rfl, by rw [← hq.out]; exact NatV.of_rtrim hw hdo (by rw [hlo'.out]; omega) (by omega), hb⟩

end Go.Proofs.YtmkhfgggleplfaaGreat
namespace Go.Proofs.YtmkhfgggleplfaaGreat
open Go.RowKit

theorem est3 {W v : List Nat} {m q r : Nat} (hv : Ds v) (hv0 : 0 < dg v (m + 1)) (hr : q * dg v (m + 1) + r = dg W (m + 2) * 4294967296 + dg W (m + 1))
    (hq : q < 4294967296) (h : q * dg v m ≤ r * 4294967296 + dg W m) : q * vs v (m + 2) < vs W (m + 3) + vs v (m + 2) := by
  have e1 := vs_three W m
  have e2 := vs_two v m
  have h1 : vs v m < pw m := vs_lt fun j _ => hv j
  have h2 : q * vs v m ≤ 4294967295 * pw m := Nat.mul_le_mul (by omega) (by omega)
  have h3 : q * (dg v m + dg v (m + 1) * 4294967296) ≤ dg W m + dg W (m + 1) * 4294967296 + dg W (m + 2) * 18446744073709551616 := by
    rw [Nat.mul_add, ← Nat.mul_assoc]
    omega
  have h4 : q * (dg v m + dg v (m + 1) * 4294967296) * pw m ≤ (dg W m + dg W (m + 1) * 4294967296 + dg W (m + 2) * 18446744073709551616) * pw m := Nat.mul_le_mul_right _ h3
  have h5 : 4294967296 * pw m ≤ (dg v m + dg v (m + 1) * 4294967296) * pw m := Nat.mul_le_mul_right _ (by omega)
  have h6 : q * vs v (m + 2) = q * vs v m + q * (dg v m + dg v (m + 1) * 4294967296) * pw m := by rw [e2, Nat.mul_add, Nat.mul_assoc]
  have h7 := pw_pos m
  omega
theorem est4 {v : List Nat} {m q r u : Nat} (hv : Ds v) (hq : q < 4294967296) (hr : 4294967296 ≤ r) : q * dg v m ≤ r * 4294967296 + u := by
  have h1 : q * dg v m ≤ 4294967295 * 4294967295 := Nat.mul_le_mul (by omega) (by have := hv m; omega)
  omega
theorem top_le {W v : List Nat} {m : Nat} (hv : Ds v) (hlt : vs W (m + 3) < 4294967296 * vs v (m + 2)) : dg W (m + 2) ≤ dg v (m + 1) := by
  have e : vs W (m + 3) = vs W (m + 2) + dg W (m + 2) * pw (m + 2) := rfl
  have e2 : vs v (m + 2) = vs v (m + 1) + dg v (m + 1) * pw (m + 1) := rfl
  have h1 : vs v (m + 1) < pw (m + 1) := vs_lt fun j _ => hv j
  have e3 : pw (m + 2) = 4294967296 * pw (m + 1) := rfl
  rcases Nat.lt_or_ge (dg v (m + 1)) (dg W (m + 2)) with h | h
  · have h2 : (dg v (m + 1) + 1) * pw (m + 2) ≤ dg W (m + 2) * pw (m + 2) := Nat.mul_le_mul_right _ h
    have h3 : dg v (m + 1) * pw (m + 2) = 4294967296 * (dg v (m + 1) * pw (m + 1)) := by rw [e3, Nat.mul_left_comm]
    rw [Nat.add_mul, Nat.one_mul] at h2
    omega
  · exact h
theorem est_q {v1 q r a b : Nat} (h : q * v1 + r = a * 4294967296 + b) (hb : b < 4294967296) (ha : a ≤ v1) (hr : 4294967296 ≤ r) : q < 4294967296 := by
  rcases Nat.lt_or_ge q 4294967296 with h1 | h1
  · exact h1
  · have h2 : 4294967296 * v1 ≤ q * v1 := Nat.mul_le_mul_right _ h1
    have h3 : a * 4294967296 ≤ v1 * 4294967296 := Nat.mul_le_mul_right _ ha
    omega
theorem est_q2 {v1 q r a b : Nat} (h : q * v1 + r = a * 4294967296 + b) (hb : b < 4294967296) (ha : a ≤ v1) (h0 : 0 < v1) : q < 8589934592 := by
  rcases Nat.lt_or_ge q 8589934592 with h1 | h1
  · exact h1
  · have h2 : 8589934592 * v1 ≤ q * v1 := Nat.mul_le_mul_right _ h1
    have h3 : a * 4294967296 ≤ v1 * 4294967296 := Nat.mul_le_mul_right _ ha
    omega

/-- a guess that is right or 1 too great -/
def GuessOk (W v : List Nat) (n : Nat) (w : World) (e : Ending) (w' : World) : Prop :=
  ∃ q : Nat, e = .returned (.int .u64 q) ∧ q < 4294967296 ∧ vs W (n + 1) < (q + 1) * vs v n ∧ q * vs v n < vs W (n + 1) + vs v n ∧ Same w w'

def RGuRel (W v : List Nat) (m : Nat) (w : World) (qv rv : Value) (wr : World) : Prop :=
  ∃ q r : Nat, qv = .int .u64 q ∧ rv = .int .u64 r ∧ q < 8589934592 ∧ r < 4294967296 ∧ q * dg v (m + 1) + r = dg W (m + 2) * 4294967296 + dg W (m + 1) ∧ vs W (m + 3) < (q + 1) * vs v (m + 2) ∧ Same w wr

set_option maxHeartbeats 4000000 in
set_option maxRecDepth 100000 in
theorem rguess_any (g p n m b' off' c c' : Nat) (P W R v : List Nat) (w : World) (hown : Own w 110 g (P ++ (W ++ R))) (hp : P.length = p) (hW : W.length = n + 1) (hv : v.length = n) (hnm : n = m + 2)
    (hvin : WordsIn w b' off' v) (dW : Ds W) (dv : Ds v) (hv0 : 0 < dg v (m + 1)) (hlt : vs W (n + 1) < 4294967296 * vs v n) (ln : n ≤ 1099511627776) :
    Calls Tryz.prog 142 #[.slice (some ⟨g, p, none⟩) (n + 1) c, .slice (some ⟨b', off', none⟩) n c'] w (GuessOk W v n w) := by
  have hc0 := hown.winCell (i := n) hp (by omega)
  have hc1 := hown.winCell (i := m + 1) hp (by omega)
  have hc2 := hown.winCell (i := m) hp (by omega)
  have hv1 := hvin.2 (m + 1) (by omega)
  have hv2 := hvin.2 m (by omega)
  have i1 : ((n : Int) - 1) = ((m + 1 : Nat) : Int) := by omega
  have i2 : ((n : Int) - 2) = (m : Int) := by omega
  have htl : dg W n ≤ dg v (m + 1) := by subst hnm; exact top_le dv hlt
  have HNM := Lib.hid hnm
  clear hp hW hv hnm
  have dw0 := dW n
  have dw1 := dW (m + 1)
  have dw2 := dW m
  have dv1 := dv (m + 1)
  have dv2 := dv m
  have hcast : ((dg W n * 4294967296 + dg W (m + 1) : Nat) : Int) = (dg W n : Int) * 4294967296 + (dg W (m + 1) : Int) := by omega
  obtain ⟨q0, hq0⟩ : ∃ q : Nat, q = (dg W n * 4294967296 + dg W (m + 1)) / dg v (m + 1) := ⟨_, rfl⟩
  obtain ⟨r0, hr0⟩ : ∃ q : Nat, q = (dg W n * 4294967296 + dg W (m + 1)) % dg v (m + 1) := ⟨_, rfl⟩
  have hq : ((dg W n : Int) * 4294967296 + (dg W (m + 1) : Int)) / (dg v (m + 1) : Int) = (q0 : Int) := by rw [hq0, Int.natCast_ediv, hcast]
  have hr : ((dg W n : Int) * 4294967296 + (dg W (m + 1) : Int)) % (dg v (m + 1) : Int) = (r0 : Int) := by rw [hr0, Int.natCast_emod, hcast]
  have hrn : r0 < dg v (m + 1) := by rw [hr0]; exact Nat.mod_lt _ hv0
  have hest : Hid (vs W (m + 3) < (q0 + 1) * vs v (m + 2)) := by
    refine est1 dW hv0 ?_
    rw [hq0, ← HNM.out]
  have hrel1 : q0 * dg v (m + 1) + r0 = dg W n * 4294967296 + dg W (m + 1) := by
    rw [hq0, hr0, Nat.mul_comm]; exact Nat.div_add_mod _ _
  have hq0b := est_q2 hrel1 dw1 htl hv0
  have hrel0 : Hid (q0 * dg v (m + 1) + r0 = dg W (m + 2) * 4294967296 + dg W (m + 1)) := by
    show q0 * dg v (m + 1) + r0 = dg W (m + 2) * 4294967296 + dg W (m + 1)
    rw [← HNM.out]; exact hrel1
  have HTL : Hid (dg W (m + 2) ≤ dg v (m + 1)) := by show dg W (m + 2) ≤ dg v (m + 1); rw [← HNM.out]; exact htl
  have HLT : Hid (vs W (m + 3) < 4294967296 * vs v (m + 2)) := by show vs W (m + 3) < 4294967296 * vs v (m + 2); rw [show m + 3 = n + 1 from by have := HNM.out; omega, ← HNM.out]; exact hlt
  have hd0 : ((dg v (m + 1) : Int) == 0) = false := by rw [beq_eq_false_iff_ne]; omega
  have hd1 : ((dg v (m + 1) : Int) != 0) = true := by rw [bne_iff_ne]; omega
  have w1 : IntKind.u64.wrap ((dg W n : Int) * 4294967296) = (dg W n : Int) * 4294967296 := by rw [IntKind.wrap_u64]; omega
  have w2 : IntKind.u64.wrap ((dg W n : Int) * 4294967296 + (dg W (m + 1) : Int)) = (dg W n : Int) * 4294967296 + (dg W (m + 1) : Int) := by rw [IntKind.wrap_u64]; omega
  have w3 : IntKind.i64.wrap ((n : Int) - 1) = ((m + 1 : Nat) : Int) := by rw [i1]; exact IntWalk.i64_in _ (by omega)
  clear hq0 hr0 hcast hrel1 htl hlt
  go_enter Tryz.func142, Tryz.ntmps142
  go_wp2_with fail
  go_quiet (fail)
  clear w1 w2 w3
  go_wp2_with fail
  go_loopw [7, 8] (fun qv rv wr => RGuRel W v m w qv rv wr) (fun q _ _ => (intOf q).toNat)
  case atStart => exact ⟨q0, r0, by first | rfl | rw [hq], by first | rfl | rw [hr], hq0b, by omega, hrel0.out, hest.out, ⟨_, rfl⟩⟩
  case round =>
    obtain ⟨q, r, rfl, rfl, hqb, hrb, hre, hX, hs⟩ := hrel
    clear hq hr hrn hest hrel0 hq0b
    have hc0r := hs.below.cell (p := ⟨g, p + m, none⟩) hown.lt
    have hv1r := hs.below.cell (p := ⟨b', off' + (m + 1), none⟩) hvin.1
    have hv2r := hs.below.cell (p := ⟨b', off' + m, none⟩) hvin.1
    rw [hc2] at hc0r
    rw [hv1] at hv1r
    rw [hv2] at hv2r
    clear hc0 hc1 hc2 hv1 hv2 hown hvin
    have HR := Lib.hid hre
    have HX := Lib.hid hX
    clear hre hX
    -- one step down: q - 1, r + v1
    have hstep : 1 ≤ q → Hid ((q - 1) * dg v (m + 1) + (r + dg v (m + 1)) = dg W (m + 2) * 4294967296 + dg W (m + 1)) := fun hd1 => by
      show (q - 1) * dg v (m + 1) + (r + dg v (m + 1)) = dg W (m + 2) * 4294967296 + dg W (m + 1)
      obtain ⟨d', rfl⟩ : ∃ d', q = d' + 1 := ⟨q - 1, by omega⟩
      have := HR.out
      rw [Nat.add_mul, Nat.one_mul] at this; rw [Nat.add_sub_cancel]; omega
    have hdown : ∀ (hd1 : 1 ≤ q) (hb : 4294967296 ≤ r + dg v (m + 1)) (hY : vs W (m + 3) < q * vs v (m + 2)), GuessOk W v n w (.returned (.int .u64 ((q - 1 : Nat) : Int))) wr := fun hd1 hb hY => by
      have h1 := (hstep hd1).out
      have h2 := est_q h1 dw1 HTL.out hb
      rw [GuessOk, HNM.out]
      exact ⟨q - 1, rfl, h2, by rw [show q - 1 + 1 = q from by omega]; exact hY, est3 dv hv0 h1 h2 (est4 dv h2 hb), hs⟩
    have HD := Lib.hid hdown
    clear hdown
    by_cases hqge : 4294967296 ≤ q
    · have hdec : decide (4294967296 ≤ (q : Int)) = true := by simp; omega
      have hY : Hid (vs W (m + 3) < q * vs v (m + 2)) := Nat.lt_of_lt_of_le HLT.out (Nat.mul_le_mul_right _ hqge)
      have hre' := hstep (by omega)
      clear hstep
      by_cases hbr : 4294967296 ≤ r + dg v (m + 1)
      · have hfin := Lib.hid (HD.out (by omega) hbr hY.out)
        have hdec2 : decide (4294967296 ≤ (r : Int) + (dg v (m + 1) : Int)) = true := by simp; omega
        go_wp2_with fail
        go_quiet (fail)
        go_wp2_with fail
        go_ret
        obtain ⟨q', h1, h2, h3, h4, h5⟩ := hfin.out
        injection h1 with h1
        injection h1 with _ h1
        exact ⟨q - 1, by go_num, by omega, by rw [show q - 1 = q' from by omega]; exact h3, by rw [show q - 1 = q' from by omega]; exact h4, h5.drewN _⟩
      · have hdec2 : decide (4294967296 ≤ (r : Int) + (dg v (m + 1) : Int)) = false := by simp; omega
        go_wp2_with fail
        go_quiet (fail)
        go_wp2_with fail
        go_roundw
        case rel => exact ⟨q - 1, r + dg v (m + 1), by go_num, by go_num, by omega, by omega, hre'.out, by rw [show q - 1 + 1 = q from by omega]; exact hY.out, hs.drewN _⟩
        case measure => simp [intOf]; omega
    · have hdec : decide (4294967296 ≤ (q : Int)) = false := by simp; omega
      obtain ⟨P2, hP2⟩ : ∃ s : Nat, s = q * dg v m := ⟨_, rfl⟩
      have hP2b : P2 ≤ 4294967295 * 4294967295 := by rw [hP2]; exact Nat.mul_le_mul (by omega) (by omega)
      have hPi : (q : Int) * (dg v m : Int) = (P2 : Int) := by rw [hP2]; exact (Int.natCast_mul _ _).symm
      have hP2b' : P2 ≤ 18446744065119617025 := by omega
      have HP2 := Lib.hid hP2
      clear hP2 hP2b
      have w1 : IntKind.u64.wrap (P2 : Int) = (P2 : Int) := by rw [IntKind.wrap_u64]; omega
      have w2 : IntKind.u64.wrap ((r : Int) * 4294967296) = (r : Int) * 4294967296 := by rw [IntKind.wrap_u64]; omega
      have w4 : IntKind.u64.wrap ((r : Int) * 4294967296 + (dg W m : Int)) = (r : Int) * 4294967296 + (dg W m : Int) := by rw [IntKind.wrap_u64]; omega
      have w3 : IntKind.i64.wrap ((n : Int) - 2) = (m : Int) := by rw [i2]; exact IntWalk.i64_in _ (by omega)
      by_cases htest : r * 4294967296 + dg W m < P2
      · have hti : decide (((r : Int) * 4294967296 + (dg W m : Int)) < (P2 : Int)) = true := by simp; omega
        have hX' := est2 (W := W) (v := v) (m := m) (d := q) (r := r) dW HR.out (by rw [← HP2.out]; exact htest)
        have hd1 : 1 ≤ q := by
          rcases Nat.eq_zero_or_pos q with h0 | h0
          · rw [h0, Nat.zero_mul] at hX'; omega
          · omega
        have hY := Lib.hid hX'
        have hre' := hstep hd1
        clear hstep hX'
        by_cases hbr : 4294967296 ≤ r + dg v (m + 1)
        · have hfin := Lib.hid (HD.out hd1 hbr hY.out)
          have hdec2 : decide (4294967296 ≤ (r : Int) + (dg v (m + 1) : Int)) = true := by simp; omega
          go_wp2_with fail
          go_quiet (fail)
          clear w1 w2 w3 w4
          go_wp2_with fail
          go_ret
          obtain ⟨q', h1, h2, h3, h4, h5⟩ := hfin.out
          injection h1 with h1
          injection h1 with _ h1
          exact ⟨q - 1, by go_num, by omega, by rw [show q - 1 = q' from by omega]; exact h3, by rw [show q - 1 = q' from by omega]; exact h4, h5.drewN _⟩
        · have hdec2 : decide (4294967296 ≤ (r : Int) + (dg v (m + 1) : Int)) = false := by simp; omega
          go_wp2_with fail
          go_quiet (fail)
          clear w1 w2 w3 w4
          go_wp2_with fail
          go_roundw
          case rel => exact ⟨q - 1, r + dg v (m + 1), by go_num, by go_num, by omega, by omega, hre'.out, by rw [show q - 1 + 1 = q from by omega]; exact hY.out, hs.drewN _⟩
          case measure => simp [intOf]; omega
      · have hti : decide (((r : Int) * 4294967296 + (dg W m : Int)) < (P2 : Int)) = false := by simp; omega
        have hfin : Hid (q * vs v (m + 2) < vs W (m + 3) + vs v (m + 2)) := est3 dv hv0 HR.out (by omega) (by rw [← HP2.out]; omega)
        clear hstep
        go_wp2_with fail
        go_quiet (fail)
        clear w1 w2 w3 w4
        go_wp2_with fail
        go_ret
        refine ⟨q, rfl, by omega, ?_, ?_, hs.drewN _⟩
        · rw [HNM.out]; exact HX.out
        · rw [HNM.out]; exact hfin.out

end Go.Proofs.YtmkhfgggleplfaaGreat
