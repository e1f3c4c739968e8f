/-
  The walk of cmp on words. Conditions: canonical words, lengths below 2^40.
  The walk of mul on words. Conditions: lengths below 2^40.
-/
import Derived.Test.YtmkhfgggleplfaaGreatNatB
namespace Go.Proofs.YtmkhfgggleplfaaGreat
set_option linter.unusedSimpArgs false
set_option linter.unusedVariables false
open Go.RowKit



theorem canon_lt_len {x y : List Nat} (cx : Canon x) (cy : Canon y) (h : x.length < y.length) : val x < val y := by
  have h1 := cx.1.val_lt
  have h2 := cy.pw_le (by omega)
  have h3 := pw_mono (show x.length ≤ y.length - 1 by omega)
  omega
/-- the digits above i agree, and at i the first is less -/
theorem vs_lt_of {x y : List Nat} {n i : Nat} (hx : Ds x) (hi : i < n) (he : ∀ j, i < j → j < n → dg x j = dg y j) (h : dg x i < dg y i) : vs x n < vs y n := by
  have base : vs x (i + 1) < vs y (i + 1) := by
    simp only [vs]
    have h1 : vs x i < pw i := vs_lt fun j _ => hx j
    have h2 : (dg x i + 1) * pw i ≤ dg y i * pw i := Nat.mul_le_mul_right _ h
    rw [Nat.add_mul] at h2
    omega
  have up : ∀ m, i + 1 + m ≤ n → vs x (i + 1 + m) < vs y (i + 1 + m) := by
    intro m
    induction m with
    | zero => intro _; exact base
    | succ m ih =>
      intro hm
      have := ih (by omega)
      rw [← Nat.add_assoc]
      simp only [vs]
      rw [he (i + 1 + m) (by omega) (by omega)]
      omega
  have := up (n - (i + 1)) (by omega)
  rwa [show i + 1 + (n - (i + 1)) = n from by omega] at this

set_option maxHeartbeats 1000000 in
set_option maxRecDepth 100000 in
theorem natcmp_any (A A' : Option Addr) (n m c c' : Nat) (x y : List Nat) (w : World) (hx : WordsAt w A x) (hy : WordsAt w A' y) (hn : x.length = n) (hm : y.length = m) (cx : Canon x) (cy : Canon y)
    (lx : n ≤ 1099511627776) (ly : m ≤ 1099511627776) :
    Calls Tryz.prog 117 #[.slice A n c, .slice A' m c'] w fun e w' => e = .returned (.int .i64 (cmpI (val x) (val y))) ∧ Same w w' := by
  have hN := Lib.hid hn
  have hM := Lib.hid hm
  clear hn hm
  by_cases hnm : n = m
  · subst hnm
    have hne : ((n : Int) != (n : Int)) = false := by simp
    go_enter Tryz.func117, Tryz.ntmps117
    go_wp2_with fail
    go_loopw [19] (fun i wr => ∃ k : Nat, k ≤ n ∧ i = .int .i64 k ∧ (∀ j, n - k ≤ j → j < n → dg x j = dg y j) ∧ Same w wr) (fun i _ => n - (intOf i).toNat)
    case atStart => exact ⟨0, Nat.zero_le _, rfl, fun j h1 h2 => by omega, Same.refl _⟩
    case round =>
      obtain ⟨k, hk, rfl, he, hs⟩ := hrel
      have hxr := hx.below hs.below
      have hyr := hy.below hs.below
      clear hx hy
      have HE := Lib.hid he
      clear he
      by_cases hlt : k < n
      · obtain ⟨j, hj⟩ : ∃ j, n = k + j + 1 := ⟨n - k - 1, by omega⟩
        have hidx : ((n : Int) - 1 - (k : Int)) = (j : Int) := by omega
        have hjn : j < n := by omega
        have HJ := Lib.hid hj
        clear hj
        obtain ⟨b, off, rfl, hbb, hcell⟩ := hxr (by rw [hN.out]; omega)
        have hcx := hcell j (by rw [hN.out]; omega)
        obtain ⟨b', off', rfl, hbb', hcell'⟩ := hyr (by rw [hM.out]; omega)
        have hcy := hcell' j (by rw [hM.out]; omega)
        clear hcell hcell'
        by_cases heq : dg x j = dg y j
        · have heq' : ((dg x j : Int) != (dg y j : Int)) = false := by rw [heq]; simp
          have hnext : Hid (∀ i, n - (k + 1) ≤ i → i < n → dg x i = dg y i) := fun i h1 h2 => by
            by_cases hij : i = j
            · rw [hij]; exact heq
            · exact HE.out i (by have := HJ.out; omega) h2
          clear heq
          go_wp2_with fail
          go_quiet (fail)
          go_wp2
          go_roundw
          case rel => exact ⟨k + 1, by omega, by go_num, hnext.out, hs.drewN _⟩
          case measure => simp [intOf]; omega
        · have heq' : ((dg x j : Int) != (dg y j : Int)) = true := by rw [bne_iff_ne]; omega
          have hfin : Hid (cmpI (dg x j) (dg y j) = cmpI (val x) (val y)) := by
            show cmpI (dg x j) (dg y j) = cmpI (val x) (val y)
            have ex : val x = vs x n := by rw [← hN.out]; rfl
            have ey : val y = vs y n := by rw [← hM.out]; rfl
            have hup : ∀ i, j < i → i < n → dg x i = dg y i := fun i h1 h2 => HE.out i (by have := HJ.out; omega) h2
            rcases Nat.lt_or_gt_of_ne heq with h | h
            · have := vs_lt_of cx.1 hjn hup h
              rw [cmpI_lt (by omega), cmpI_lt (by omega)]
            · have := vs_lt_of cy.1 hjn (fun i h1 h2 => (hup i h1 h2).symm) h
              rw [cmpI_gt (by omega), cmpI_gt (by omega)]
          clear heq
          go_wp2_with fail
          go_quiet (fail)
          go_wp2_with fail
          go_quiet ((go_at_call 131; exact quiet2 (cmp_u32 _ _ _)))
          go_wp2
          go_ret
          exact ⟨ret_i64 hfin.out, (hs.drewN _).drewN _⟩
      · have hk' : k = n := by omega
        subst hk'
        have hfin : Hid (cmpI (val x) (val y) = 0) := by
          have ex : val x = vs x k := by rw [← hN.out]; rfl
          have ey : val y = vs y k := by rw [← hM.out]; rfl
          exact cmpI_eq (by rw [ex, ey, vs_congr fun j hj => HE.out j (by omega) hj])
        go_wp2
        go_ret
        exact ⟨ret_i64 hfin.out.symm, hs⟩
  · have hne : ((n : Int) != (m : Int)) = true := by rw [bne_iff_ne]; omega
    have hfin : Hid (cmpI (n : Int) (m : Int) = cmpI (val x) (val y)) := by
      show cmpI (n : Int) (m : Int) = cmpI (val x) (val y)
      rcases Nat.lt_or_gt_of_ne hnm with h | h
      · have := canon_lt_len cx cy (by rw [hN.out, hM.out]; exact h)
        rw [cmpI_lt (by omega), cmpI_lt (by omega)]
      · have := canon_lt_len cy cx (by rw [hN.out, hM.out]; exact h)
        rw [cmpI_gt (by omega), cmpI_gt (by omega)]
    go_enter Tryz.func117, Tryz.ntmps117
    go_wp2_with ((go_at_call 66; refine (cmp_int _ _ _).mono ?_; rintro e w' ⟨rfl, rfl⟩))
    go_ret
    exact ⟨ret_i64 hfin.out, Same.refl _⟩

end Go.Proofs.YtmkhfgggleplfaaGreat
namespace Go.Proofs.YtmkhfgggleplfaaGreat
open Go.RowKit

theorem mul_step {y o o0 : List Nat} {i k c a s c' : Nat} (h : vs o (i + k) + c * pw (i + k) = vs o0 (i + k) + a * vs y k * pw i) (hk : i + k < o.length)
    (hd : dg o (i + k) = dg o0 (i + k)) (hs : s + 4294967296 * c' = c + (a * dg y k + dg o (i + k))) :
    vs (o.set (i + k) s) (i + (k + 1)) + c' * pw (i + (k + 1)) = vs o0 (i + (k + 1)) + a * vs y (k + 1) * pw i := by
  rw [← Nat.add_assoc]
  simp only [vs, pw]
  rw [vs_set_ge (Nat.le_refl _), dg_set_self hk, ← hd]
  have e : (s + 4294967296 * c') * pw (i + k) = (c + (a * dg y k + dg o (i + k))) * pw (i + k) := by rw [hs]
  have e2 : a * dg y k * pw (i + k) = a * (dg y k * pw k) * pw i := by
    rw [pw_add, Nat.mul_comm (pw i), ← Nat.mul_assoc, Nat.mul_assoc a]
  rw [Nat.add_mul, Nat.add_mul, Nat.add_mul, Nat.mul_assoc, e2] at e
  rw [Nat.mul_left_comm c', Nat.mul_add, Nat.add_mul (a * vs y k)]
  omega
theorem mul_top {x y o o0 : List Nat} {i c : Nat} (h0 : vs o0 (i + y.length) = vs x i * val y) (h : vs o (i + y.length) + c * pw (i + y.length) = vs o0 (i + y.length) + dg x i * vs y y.length * pw i) (hk : i + y.length < o.length) :
    vs (o.set (i + y.length) c) (i + 1 + y.length) = vs x (i + 1) * val y := by
  rw [show i + 1 + y.length = i + y.length + 1 from by omega]
  simp only [vs]
  rw [vs_set_ge (Nat.le_refl _), dg_set_self hk, h, h0, Nat.add_mul]
  have : dg x i * vs y y.length * pw i = dg x i * pw i * val y := by
    show dg x i * val y * pw i = _
    rw [Nat.mul_assoc, Nat.mul_comm (val y), ← Nat.mul_assoc]
  omega

def MulRel (x y : List Nat) (w : World) (i : Value) (wr : World) : Prop :=
  ∃ (k : Nat) (o : List Nat), k ≤ x.length ∧ i = .int .i64 k ∧ Own wr 110 w.heap.size o ∧ o.length = x.length + y.length ∧ Ds o ∧ vs o (k + y.length) = vs x k * val y ∧ Below w.heap.size w wr
def MulIn (y o0 : List Nat) (w : World) (i a : Nat) (kv cv : Value) (wr : World) : Prop :=
  ∃ (k c : Nat) (o : List Nat), k ≤ y.length ∧ kv = .int .i64 k ∧ cv = .int .u64 c ∧ c < 4294967296 ∧ Own wr 110 w.heap.size o ∧ o.length = o0.length ∧ Ds o ∧
    (∀ j, i + k ≤ j → dg o j = dg o0 j) ∧ vs o (i + k) + c * pw (i + k) = vs o0 (i + k) + a * vs y k * pw i ∧ Below w.heap.size w wr

set_option maxHeartbeats 2000000 in
set_option maxRecDepth 100000 in
theorem mul_any (A A' : Option Addr) (n m c c' : Nat) (x y : List Nat) (w : World) (hx : WordsAt w A x) (hy : WordsAt w A' y) (hn : x.length = n) (hm : y.length = m) (dx : Ds x) (dy : Ds y)
    (lx : n ≤ 1099511627776) (ly : m ≤ 1099511627776) :
    Calls Tryz.prog 113 #[.slice A n c, .slice A' m c'] w fun e w' => ∃ r, e = .returned r ∧ NatV w' r (val x * val y) ∧ Below w.heap.size w w' := by
  have hmk1 := make_nat (n + m) (by omega)
  rw [show ((n + m : Nat) : Int) = (n : Int) + (m : Int) from by omega] at hmk1
  have hN := Lib.hid hn
  have hM := Lib.hid hm
  clear hn hm
  go_enter Tryz.func113, Tryz.ntmps113
  go_wp2_with fail
  go_loopw [19] (fun i wr => MulRel x y w i wr) (fun i _ => n - (intOf i).toNat)
  case atStart =>
    refine ⟨0, List.replicate (n + m) 0, Nat.zero_le _, rfl, Own.made w 110 (n + m), by simp [hN.out, hM.out], Ds.zeros _, ?_, (Below.refl _ _).alloc (Nat.le_refl _) _⟩
    rw [vs_zero fun j _ => dg_replicate _ j]; simp [vs]
  case round =>
    obtain ⟨i, o0, hi, rfl, hown0, hlo0, hdo0, hv0, hb0⟩ := hrel
    obtain ⟨wo, hwo⟩ : ∃ wo : World, wo = wr := ⟨_, rfl⟩
    subst hwo
    rw [hN.out] at hi hlo0
    rw [hM.out] at hlo0 hv0
    have HL0 := Lib.hid hlo0
    have HV0 := Lib.hid hv0
    have hlo0' : o0.length ≤ n + m := by omega
    clear hmk1 hlo0 hv0
    by_cases hlt : i < n
    · obtain ⟨b, off, rfl, hbb, hcell⟩ := (hx.below hb0) (by rw [hN.out]; omega)
      have hcx := hcell i (by rw [hN.out]; omega)
      clear hcell
      have hdx := dx i
      go_wp2_with fail
      go_loopw [8, 26] (fun cv k wr => MulIn y o0 w i (dg x i) k cv wr) (fun _ k _ => m - (intOf k).toNat)
      case atStart =>
        exact ⟨0, 0, o0, Nat.zero_le _, rfl, rfl, by omega, hown0, rfl, hdo0, fun _ _ => rfl, by simp [vs], hb0⟩
      case round =>
        obtain ⟨k, cy, o, hk, rfl, rfl, hcy, hown, hlo, hdo, hsame, hv, hb⟩ := hrel
        rw [hM.out] at hk
        have HS := Lib.hid hsame
        clear hsame hown0 hcx
        by_cases hlt2 : k < m
        · obtain ⟨b', off', rfl, hbb', hcell'⟩ := (hy.below hb) (by rw [hM.out]; omega)
          have hcy' := hcell' k (by rw [hM.out]; omega)
          clear hcell'
          have hik : i + k < o.length := by rw [hlo, HL0.out]; omega
          have hc1 := hown.cell (i := i + k) hik
          have hf1 := hown.frozen (i + k)
          have dyk := dy k
          have dok := hdo (i + k)
          obtain ⟨p, hp⟩ : ∃ p : Nat, dg x i * dg y k = p := ⟨_, rfl⟩
          have hpb : p ≤ 4294967295 * 4294967295 := by rw [← hp]; exact Nat.mul_le_mul (by omega) (by omega)
          have hpi : (dg x i : Int) * (dg y k : Int) = (p : Int) := by rw [← hp]; exact (Int.natCast_mul _ _).symm
          have hpb' : p ≤ 18446744065119617025 := by omega
          obtain ⟨s, hs⟩ : ∃ s : Nat, ((cy : Int) + ((p : Int) + (dg o (i + k) : Int))) % 4294967296 = (s : Int) := ⟨(cy + (p + dg o (i + k))) % 4294967296, by omega⟩
          obtain ⟨c2, hc2⟩ : ∃ s : Nat, ((cy : Int) + ((p : Int) + (dg o (i + k) : Int))) / 4294967296 = (s : Int) := ⟨(cy + (p + dg o (i + k))) / 4294967296, by omega⟩
          have hsn : s < 4294967296 := by omega
          have hcn : c2 < 4294967296 := by omega
          have hst : Hid (s + 4294967296 * c2 = cy + (dg x i * dg y k + dg o (i + k))) := by show s + 4294967296 * c2 = cy + (dg x i * dg y k + dg o (i + k)); rw [hp]; omega
          have hstep := Lib.hid (mul_step hv hik (HS.out _ (Nat.le_refl _)) hst.out)
          have hown' := Lib.hid (hown.set (i + k) s)
          have hlo' : Hid (o.length = _) := hlo
          clear hp hpb hlo hv hst hown hik
          go_wp2_with fail
          go_roundw
          case rel =>
            refine ⟨k + 1, c2, o.set (i + k) s, by rw [hM.out]; omega, by go_num, rfl, hcn, hown'.out, by rw [List.length_set]; exact hlo'.out, hdo.set hsn, fun j hj => ?_, hstep.out, hb.setCell (Nat.le_refl _) _⟩
            rw [dg_set_ne (by omega)]; exact HS.out j (by omega)
          case measure => simp [intOf]; omega
        · have hk' : k = m := by omega
          subst hk'
          have hik : i + k < o.length := by rw [hlo, HL0.out]; omega
          have hc1 := hown.cell (i := i + k) hik
          have hf1 := hown.frozen (i + k)
          have hown' := Lib.hid (hown.set (i + k) cy)
          have htop : Hid (vs (o.set (i + k) cy) (i + 1 + k) = vs x (i + 1) * val y) := by
            have := mul_top (x := x) (y := y) (o := o) (o0 := o0) (i := i) (c := cy) (by rw [hM.out]; exact HV0.out) (by rw [hM.out]; exact hv) (by rw [hM.out]; exact hik)
            rwa [hM.out] at this
          have hlo' : Hid (o.length = _) := hlo
          clear hlo hv hown hik
          go_wp2_with fail
          go_roundw
          case rel =>
            exact ⟨i + 1, o.set (i + k) cy, by rw [hN.out]; omega, by go_num, hown'.out, by rw [List.length_set, hN.out, hM.out]; exact hlo'.out.trans HL0.out, hdo.set hcy, by rw [hM.out]; exact htop.out, hb.setCell (Nat.le_refl _) _⟩
          case measure => simp [intOf]; omega
    · have hi' : i = n := by omega
      subst hi'
      have hfin : Hid (val o0 = val x * val y) := by
        show vs o0 o0.length = _
        rw [HL0.out, HV0.out, ← hN.out]; rfl
      have hw := hown0.words
      go_wp2_with fail
      refine (norm_any _ _ _ _ _ hw HL0.out (Nat.le_refl _) (by omega)).mono ?_
      rintro e w' ⟨rfl, rfl⟩
      go_wp2
      go_ret
      exact ⟨_, rfl, by rw [← hfin.out]; exact NatV.of_trim hown0 hdo0 (by omega), hb0⟩

end Go.Proofs.YtmkhfgggleplfaaGreat
