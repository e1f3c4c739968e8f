/-
  Plain lemmas for one step of long division: the digit that is guessed, and taken back. No condition.
  The walk of reduce, one step of long division. Conditions: lengths below 2^40; the top word of the divisor is not 0; the window is below 2^32 times the divisor.
-/
import Derived.Test.YtmkhfgggleplfaaGreatWords
import Derived.Test.YtmkhfgggleplfaaGreatNatE
import Derived.Deep.DeepCutAuto
namespace Go.Proofs.YtmkhfgggleplfaaGreat
set_option linter.unusedSimpArgs false
set_option linter.unusedVariables false
open Go.RowKit

theorem vs_three (W : List Nat) (m : Nat) : vs W (m + 3) = vs W m + (dg W m + dg W (m + 1) * 4294967296 + dg W (m + 2) * 18446744073709551616) * pw m := by
  simp only [vs, pw]
  rw [Nat.add_mul, Nat.add_mul, Nat.mul_assoc (dg W (m + 1)), Nat.mul_assoc (dg W (m + 2))]
  have : 4294967296 * (4294967296 * pw m) = 18446744073709551616 * pw m := by omega
  rw [this]; omega
theorem vs_two (v : List Nat) (m : Nat) : vs v (m + 2) = vs v m + (dg v m + dg v (m + 1) * 4294967296) * pw m := by
  simp only [vs, pw]
  rw [Nat.add_mul, Nat.mul_assoc (dg v (m + 1))]; omega

/-- the top words bound the whole -/
theorem top_lt {a b c p q T : Nat} (hp : a < p) (hT : T * p ≤ q) (h : b + 1 ≤ T) (hc : c = a + b * p) : c < q := by
  have h1 : (b + 1) * p ≤ T * p := Nat.mul_le_mul_right _ h
  rw [Nat.add_mul] at h1; omega

theorem est1 {W v : List Nat} {m d : Nat} (hW : Ds W) (hv0 : 0 < dg v (m + 1)) (hd : d = (dg W (m + 2) * 4294967296 + dg W (m + 1)) / dg v (m + 1)) :
    vs W (m + 3) < (d + 1) * vs v (m + 2) := by
  have e : vs W (m + 3) = vs W (m + 1) + (dg W (m + 1) + dg W (m + 2) * 4294967296) * pw (m + 1) := vs_two W (m + 1)
  have h1 : vs W (m + 1) < pw (m + 1) := vs_lt fun j _ => hW j
  have h2 : dg W (m + 2) * 4294967296 + dg W (m + 1) < (d + 1) * dg v (m + 1) := by
    rw [hd, Nat.add_mul, Nat.one_mul]
    have := Nat.div_add_mod (dg W (m + 2) * 4294967296 + dg W (m + 1)) (dg v (m + 1))
    have h3 := Nat.mod_lt (dg W (m + 2) * 4294967296 + dg W (m + 1)) hv0
    rw [Nat.mul_comm (_ / _)]; omega
  refine top_lt (T := (d + 1) * dg v (m + 1)) h1 ?_ ?_ e
  · rw [Nat.mul_assoc]
    refine Nat.mul_le_mul_left _ ?_
    have : vs v (m + 2) = vs v (m + 1) + dg v (m + 1) * pw (m + 1) := rfl
    omega
  · omega
theorem est2 {W v : List Nat} {m d r : Nat} (hW : Ds W) (hr : d * dg v (m + 1) + r = dg W (m + 2) * 4294967296 + dg W (m + 1))
    (h : r * 4294967296 + dg W m < d * dg v m) : vs W (m + 3) < d * vs v (m + 2) := by
  have h1 : vs W m < pw m := vs_lt fun j _ => hW j
  refine top_lt (T := d * (dg v m + dg v (m + 1) * 4294967296)) h1 ?_ ?_ (vs_three W m)
  · rw [Nat.mul_assoc]
    refine Nat.mul_le_mul_left _ ?_
    rw [vs_two]; omega
  · rw [Nat.mul_add]
    have e : d * (dg v (m + 1) * 4294967296) = d * dg v (m + 1) * 4294967296 := by rw [Nat.mul_assoc]
    rw [e]
    omega

theorem red_step {W W' v : List Nat} {i d c bw s c' bw' lo : Nat} (h : vs W' i + d * vs v i = vs W i + (bw + c) * pw i) (hk : i < W'.length) (hd : dg W' i = dg W i)
    (hlo : lo + 4294967296 * c' = c + d * dg v i) (hs : s + lo + bw = dg W' i + 4294967296 * bw') :
    vs (W'.set i s) (i + 1) + d * vs v (i + 1) = vs W (i + 1) + (bw' + c') * pw (i + 1) := by
  simp only [vs, pw]
  rw [vs_set_ge (Nat.le_refl _), dg_set_self hk, ← hd, Nat.mul_add]
  have e : (s + lo + bw) * pw i = (dg W' i + 4294967296 * bw') * pw i := by rw [hs]
  have e2 : (lo + 4294967296 * c') * pw i = (c + d * dg v i) * pw i := by rw [hlo]
  rw [Nat.add_mul, Nat.add_mul, Nat.add_mul, Nat.mul_assoc] at e
  rw [Nat.add_mul, Nat.add_mul, Nat.mul_assoc, Nat.mul_assoc d] at e2
  have e3 : (bw' + c') * (4294967296 * pw i) = 4294967296 * (bw' * pw i) + 4294967296 * (c' * pw i) := by rw [Nat.add_mul, Nat.mul_left_comm, Nat.mul_left_comm c']
  rw [Nat.add_mul] at h
  rw [e3]; omega
theorem back_step {W W' v : List Nat} {i c s c' : Nat} (h : vs W' i + c * pw i = vs W i + vs v i) (hk : i < W'.length) (hd : dg W' i = dg W i)
    (hs : s + 4294967296 * c' = dg W' i + dg v i + c) : vs (W'.set i s) (i + 1) + c' * pw (i + 1) = vs W (i + 1) + vs v (i + 1) := by
  simp only [vs, pw]
  rw [vs_set_ge (Nat.le_refl _), dg_set_self hk, ← hd]
  have e : (s + 4294967296 * c') * pw i = (dg W' i + dg v i + c) * pw i := by rw [hs]
  rw [Nat.add_mul, Nat.add_mul, Nat.add_mul, Nat.mul_assoc] at e
  rw [Nat.mul_left_comm c']; omega
/-- one V is put back -/
theorem back_all {X V P d w1 w2 mo : Nat} (h1 : w1 + d * V = X + P) (h2 : w2 + mo * P = w1 + V) (hd : 0 < d) (hm : mo ≤ 1) : w2 + (d - 1) * V = X + (1 - mo) * P := by
  obtain ⟨e, rfl⟩ : ∃ e, d = e + 1 := ⟨d - 1, by omega⟩
  rw [Nat.add_mul, Nat.one_mul] at h1
  rw [Nat.add_sub_cancel]
  rcases Nat.lt_or_ge mo 1 with h | h
  · obtain rfl : mo = 0 := by omega
    simp only [Nat.zero_mul, Nat.sub_zero, Nat.one_mul] at *; omega
  · obtain rfl : mo = 1 := by omega
    simp only [Nat.sub_self, Nat.zero_mul, Nat.one_mul] at *; omega
theorem quot_of {X V d w : Nat} (h : w + d * V = X) (hX : X < (d + 1) * V) : d = X / V ∧ w = X % V := by
  have hV : 0 < V := by rcases Nat.eq_zero_or_pos V with h0 | h0
                        · rw [h0] at hX; simp at hX
                        · exact h0
  rw [Nat.add_mul, Nat.one_mul] at hX
  have hw : w < V := by omega
  constructor
  · rw [← h, Nat.add_mul_div_right _ _ hV, Nat.div_eq_of_lt hw, Nat.zero_add]
  · rw [← h, Nat.add_mul_mod_self_right, Nat.mod_eq_of_lt hw]

/-! ### a window of an owned block -/
theorem dg_win {P W R : List Nat} {i : Nat} (h : i < W.length) : dg (P ++ (W ++ R)) (P.length + i) = dg W i := by
  simp only [dg, List.getD_eq_getElem?_getD]
  rw [List.getElem?_append_right (by omega), Nat.add_sub_cancel_left, List.getElem?_append_left h]
theorem set_win {P W R : List Nat} {i s : Nat} (h : i < W.length) : (P ++ (W ++ R)).set (P.length + i) s = P ++ (W.set i s ++ R) := by
  rw [List.set_append_right _ _ (by omega), Nat.add_sub_cancel_left, List.set_append_left _ _ h]
theorem Own.winCell {w : World} {t : TypeId} {g : Nat} {P W R : List Nat} (h : Own w t g (P ++ (W ++ R))) {i p : Nat} (hp : P.length = p) (hi : i < W.length) : w.cell? ⟨g, p + i, none⟩ = some (.int .u32 (dg W i : Int)) := by
  subst hp
  rw [← dg_win (P := P) (R := R) hi]; exact h.cell (by simp; omega)
theorem Own.winSet {w : World} {t : TypeId} {g : Nat} {P W R : List Nat} (h : Own w t g (P ++ (W ++ R))) {i p s : Nat} (hp : P.length = p) (hi : i < W.length) :
    Own (w.setCell ⟨g, p + i, none⟩ (.int .u32 (s : Int))) t g (P ++ (W.set i s ++ R)) := by
  subst hp
  rw [← set_win hi]; exact h.set _ _

/-- the words l lie in block b, not in g -/
def WordsIn (w : World) (b off : Nat) (l : List Nat) : Prop := b < w.heap.size ∧ ∀ j, j < l.length → w.cell? ⟨b, off + j, none⟩ = some (.int .u32 (dg l j : Int))
theorem WordsIn.only {g : Nat} {w w' : World} {b off : Nat} {l : List Nat} (h : WordsIn w b off l) (ho : Only g w w') (hne : b ≠ g) : WordsIn w' b off l :=
  ⟨Nat.lt_of_lt_of_le h.1 ho.size, fun j hj => (ho.cell (p := ⟨b, off + j, none⟩) h.1 hne).trans (h.2 j hj)⟩
theorem WordsIn.at_ {w : World} {b off : Nat} {l : List Nat} (h : WordsIn w b off l) : WordsAt w (some ⟨b, off, none⟩) l := fun _ => ⟨b, off, rfl, h.1, h.2⟩

end Go.Proofs.YtmkhfgggleplfaaGreat
namespace Go.Proofs.YtmkhfgggleplfaaGreat
open Go.RowKit

/-- the digit is at most 2^32 - 1 and not too small -/
def DigOk (W v : List Nat) (n : Nat) (s6 : Value) : Prop := ∃ d : Nat, s6 = .int .u64 d ∧ d < 4294967296 ∧ vs W (n + 1) < (d + 1) * vs v n

def EstRel (W v : List Nat) (m : Nat) (w : World) (dv rv : Value) (wr : World) : Prop :=
  ∃ d r : Nat, dv = .int .u64 d ∧ rv = .int .u64 r ∧ d < 4294967296 ∧ r ≤ 8589934590 ∧ d * dg v (m + 1) + r = dg W (m + 2) * 4294967296 + dg W (m + 1) ∧ vs W (m + 3) < (d + 1) * vs v (m + 2) ∧ Same w wr

def MsRel (P W R v : List Nat) (g d n : Nat) (w : World) (cv bv iv : Value) (wr : World) : Prop :=
  ∃ (i c bw : Nat) (W' : List Nat), i ≤ n + 1 ∧ iv = .int .i64 i ∧ cv = .int .u64 c ∧ bv = .int .u32 bw ∧ c < 4294967296 ∧ bw ≤ 1 ∧ W'.length = n + 1 ∧ Ds W' ∧ Own wr 110 g (P ++ (W' ++ R)) ∧
    (∀ j, i ≤ j → dg W' j = dg W j) ∧ vs W' i + d * vs v i = vs W i + (bw + c) * pw i ∧ (n < i → c = 0) ∧ Only g w wr
def BkRel (P W R v : List Nat) (g n : Nat) (w : World) (dv bv : Value) (wr : World) : Prop :=
  ∃ (d bw : Nat) (W' : List Nat), dv = .int .u64 d ∧ bv = .int .u32 bw ∧ d < 4294967296 ∧ bw ≤ 1 ∧ W'.length = n + 1 ∧ Ds W' ∧ Own wr 110 g (P ++ (W' ++ R)) ∧
    vs W' (n + 1) + d * vs v n = vs W (n + 1) + bw * pw (n + 1) ∧ vs W (n + 1) < (d + 1) * vs v n ∧ Only g w wr
def AdRel (P W R v : List Nat) (g n : Nat) (w : World) (mv iv : Value) (wr : World) : Prop :=
  ∃ (i mo : Nat) (W' : List Nat), i ≤ n + 1 ∧ iv = .int .i64 i ∧ mv = .int .u32 mo ∧ mo ≤ 1 ∧ W'.length = n + 1 ∧ Ds W' ∧ Own wr 110 g (P ++ (W' ++ R)) ∧
    (∀ j, i ≤ j → dg W' j = dg W j) ∧ vs W' i + mo * pw i = vs W i + vs v i ∧ Only g w wr

set_option maxHeartbeats 4000000 in
set_option maxRecDepth 100000 in
theorem reduce_any (g p n m b' off' c c' : Nat) (P W R v : List Nat) (w : World) (hown : Own w 110 g (P ++ (W ++ R))) (hp : P.length = p) (hW : W.length = n + 1) (hv : v.length = n) (hnm : n = m + 2)
    (hvin : WordsIn w b' off' v) (hne : b' ≠ g) (dW : Ds W) (dv : Ds v) (hv0 : 0 < dg v (m + 1)) (hlt : vs W (n + 1) < 4294967296 * vs v n) (ln : n ≤ 1099511627776) :
    Calls Tryz.prog 126 #[.slice (some ⟨g, p, none⟩) (n + 1) c, .slice (some ⟨b', off', none⟩) n c'] w fun e w' =>
      e = .returned (.int .u32 ((vs W (n + 1) / vs v n : Nat) : Int)) ∧ ∃ W', W'.length = n + 1 ∧ Ds W' ∧ Own w' 110 g (P ++ (W' ++ R)) ∧ vs W' (n + 1) = vs W (n + 1) % vs v n ∧ Only g w w' := by
  have HP := Lib.hid hp
  have HW := Lib.hid hW
  have HV := Lib.hid hv
  have hc0 := hown.winCell (i := n) hp (by omega)
  have hc1 := hown.winCell (i := m + 1) hp (by omega)
  have hc2 := hown.winCell (i := m) hp (by omega)
  have hv1 := hvin.2 (m + 1) (by omega)
  have hv2 := hvin.2 m (by omega)
  have i1 : ((n : Int) - 1) = ((m + 1 : Nat) : Int) := by omega
  have i2 : ((n : Int) - 2) = (m : Int) := by omega
  have HNM := Lib.hid hnm
  clear hp hW hv hnm
  have dw0 := dW n
  have dw1 := dW (m + 1)
  have dw2 := dW m
  have dv1 := dv (m + 1)
  have dv2 := dv m
  go_enter Tryz.func126, Tryz.ntmps126
  go_wp2_with fail
  go_quiet (fail)
  go_upto_if 26 with (fail)
  go_cut [6] (fun s6 wx => DigOk W v n s6 ∧ Same w wx)
  case first =>
    by_cases hlt2 : dg W n < dg v (m + 1)
    · have hcast : ((dg W n * 4294967296 + dg W (m + 1) : Nat) : Int) = (dg W n : Int) * 4294967296 + (dg W (m + 1) : Int) := by omega
      obtain ⟨d0, hd0⟩ : ∃ q : Nat, q = (dg W n * 4294967296 + dg W (m + 1)) / dg v (m + 1) := ⟨_, rfl⟩
      obtain ⟨r0, hr0⟩ : ∃ q : Nat, q = (dg W n * 4294967296 + dg W (m + 1)) % dg v (m + 1) := ⟨_, rfl⟩
      have hq : ((dg W n : Int) * 4294967296 + (dg W (m + 1) : Int)) / (dg v (m + 1) : Int) = (d0 : Int) := by rw [hd0, Int.natCast_ediv, hcast]
      have hr : ((dg W n : Int) * 4294967296 + (dg W (m + 1) : Int)) % (dg v (m + 1) : Int) = (r0 : Int) := by rw [hr0, Int.natCast_emod, hcast]
      have hdn : d0 < 4294967296 := by have := div32_lt (dg W n : Int) (dg W (m + 1) : Int) (dg v (m + 1) : Int) (by omega) (by omega) (by omega) (by omega); omega
      have hrn : r0 < dg v (m + 1) := by rw [hr0]; exact Nat.mod_lt _ hv0
      have hest : Hid (vs W (m + 3) < (d0 + 1) * vs v (m + 2)) := by
        refine est1 dW hv0 ?_
        rw [hd0, ← HNM.out]
      have hrel0 : Hid (d0 * dg v (m + 1) + r0 = dg W (m + 2) * 4294967296 + dg W (m + 1)) := by
        show d0 * dg v (m + 1) + r0 = dg W (m + 2) * 4294967296 + dg W (m + 1)
        rw [hd0, hr0, ← HNM.out, Nat.mul_comm]; exact Nat.div_add_mod _ _
      clear hd0 hr0 hcast
      go_wp2_with fail
      go_quiet ((go_at_call 138; first | exact quiet2S (div32_any _ _ _ _ (by omega) (by omega) (by omega) (by omega) (by omega)) | exact quiet1S (div32_any _ _ _ _ (by omega) (by omega) (by omega) (by omega) (by omega))))
      go_wp2_with fail
      go_loopw [6, 9] (fun dv rv wr => EstRel W v m w dv rv wr) (fun d _ _ => (intOf d).toNat)
      case atStart => exact ⟨d0, r0, rfl, rfl, hdn, by omega, hrel0.out, hest.out, by first | exact ⟨_, rfl⟩ | exact ((Same.refl _).drewN _).drewN _⟩
      case round =>
        obtain ⟨d, r, rfl, rfl, hd, hrb, hre, hX, hs⟩ := hrel
        clear hq hr hdn hrn hest hrel0
        have hc0r := hs.below.cell (p := ⟨g, p + m, none⟩) hown.lt
        have hv1r := hs.below.cell (p := ⟨b', off' + (m + 1), none⟩) hvin.1
        have hv2r := hs.below.cell (p := ⟨b', off' + m, none⟩) hvin.1
        rw [hc2] at hc0r
        rw [hv1] at hv1r
        rw [hv2] at hv2r
        clear hc0 hc1 hc2 hv1 hv2 hown hvin
        have HR := Lib.hid hre
        clear hre hlt
        by_cases hr1 : r ≤ 4294967295
        · obtain ⟨P2, hP2⟩ : ∃ q : Nat, q = d * dg v m := ⟨_, rfl⟩
          have hP2b : P2 ≤ 4294967295 * 4294967295 := by rw [hP2]; exact Nat.mul_le_mul (by omega) (by omega)
          have hPi : (d : Int) * (dg v m : Int) = (P2 : Int) := by rw [hP2]; exact (Int.natCast_mul _ _).symm
          have hP2b' : P2 ≤ 18446744065119617025 := by omega
          have HP2 := Lib.hid hP2
          clear hP2 hP2b
          have w1 : IntKind.u64.wrap (P2 : Int) = (P2 : Int) := by rw [IntKind.wrap_u64]; omega
          have w2 : IntKind.u64.wrap ((r : Int) * 4294967296) = (r : Int) * 4294967296 := by rw [IntKind.wrap_u64]; omega
          have ho := or_u64 (r : Int) (dg W m : Int) (by omega) (by omega) (by omega) (by omega)
          have w3 : IntKind.i64.wrap ((n : Int) - 2) = (m : Int) := by rw [i2]; exact IntWalk.i64_in _ (by omega)
          have hdec : decide ((r : Int) ≤ 4294967295) = true := by simp; omega
          by_cases htest : r * 4294967296 + dg W m < P2
          · have hti : ((r : Int) * 4294967296 + (dg W m : Int)) < (P2 : Int) := by omega
            have hX' := est2 (W := W) (v := v) (m := m) (d := d) (r := r) dW HR.out (by rw [← HP2.out]; exact htest)
            have hd1 : 1 ≤ d := by
              rcases Nat.eq_zero_or_pos d with h0 | h0
              · rw [h0, Nat.zero_mul] at hX'; omega
              · omega
            have hre' : Hid ((d - 1) * dg v (m + 1) + (r + dg v (m + 1)) = dg W (m + 2) * 4294967296 + dg W (m + 1)) := by
              show (d - 1) * dg v (m + 1) + (r + dg v (m + 1)) = dg W (m + 2) * 4294967296 + dg W (m + 1)
              obtain ⟨d', rfl⟩ : ∃ d', d = d' + 1 := ⟨d - 1, by omega⟩
              have := HR.out
              rw [Nat.add_mul, Nat.one_mul] at this; rw [Nat.add_sub_cancel]; omega
            go_wp2_with fail
            go_quiet (fail)
            go_wp2_with fail
            go_roundw
            case rel => exact ⟨d - 1, r + dg v (m + 1), by go_num, by go_num, by omega, by omega, hre'.out, by rw [show d - 1 + 1 = d from by omega]; exact hX', hs.drewN _⟩
            case measure => simp [intOf]; omega
          · have hti0 : ¬ ((r : Int) * 4294967296 + (dg W m : Int)) < (P2 : Int) := by omega
            have hti : decide (((r : Int) * 4294967296 + (dg W m : Int)) < (P2 : Int)) = false := by simp; omega
            go_wp2_with fail
            go_quiet (fail)
            go_wp2_with fail
            go_meet
            exact ⟨⟨d, rfl, hd, by rw [HNM.out]; exact hX⟩, hs.drewN _⟩
        · have hdec : decide ((r : Int) ≤ 4294967295) = false := by simp; omega
          go_wp2_with fail
          go_quiet (fail)
          go_wp2_with fail
          go_meet
          exact ⟨⟨d, rfl, hd, by rw [HNM.out]; exact hX⟩, hs.drewN _⟩
    · go_wp2_with fail
      go_meet
      exact ⟨⟨4294967295, rfl, by omega, by simpa using hlt⟩, ⟨_, rfl⟩⟩
  case rest =>
    obtain ⟨⟨d, rfl, hd, hX⟩, hs⟩ := hcut
    have hown0 := hown
    clear hc0 hc1 hc2 hv1 hv2 i1 i2 hlt hown
    have honly0 : Only g w wc := Only.of_below hs.below
    have hownc : Own wc 110 g (P ++ (W ++ R)) := by obtain ⟨q, rfl⟩ := hs; exact hown0
    clear hs
    go_wp2_with fail
    go_loopw [10, 11, 83] (fun cv bv iv wr => MsRel P W R v g d n w cv bv iv wr) (fun _ _ i _ => n + 1 - (intOf i).toNat)
    case atStart => exact ⟨0, 0, 0, W, Nat.zero_le _, rfl, rfl, rfl, by omega, Nat.zero_le _, HW.out, dW, hownc, fun _ _ => rfl, by simp [vs], fun h => absurd h (by omega), honly0⟩
    case round =>
      obtain ⟨i, cy, bw, W', hi, rfl, rfl, rfl, hcy, hbw, hl, hd', hown, hsame, hv, hc0, honly⟩ := hrel
      have HS := Lib.hid hsame
      have HC0 := Lib.hid hc0
      have hvr := (hvin.only honly hne).at_
      clear hsame hc0 hownc honly0
      by_cases hlt : i < n + 1
      · have hcell := hown.winCell (i := i) HP.out (by omega)
        have hfr := hown.frozen (p + i)
        have dvi := dv i
        have dwi := hd' i
        obtain ⟨P2, hP2⟩ : ∃ q : Nat, q = d * dg v i := ⟨_, rfl⟩
        have hP2b : P2 ≤ 4294967295 * 4294967295 := by rw [hP2]; exact Nat.mul_le_mul (by omega) (by omega)
        have hPi : (d : Int) * (dg v i : Int) = (P2 : Int) := by rw [hP2]; exact (Int.natCast_mul _ _).symm
        have hP2b' : P2 ≤ 18446744065119617025 := by omega
        obtain ⟨lo, hlo⟩ : ∃ s : Nat, ((cy : Int) + (P2 : Int)) % 4294967296 = (s : Int) := ⟨(cy + P2) % 4294967296, by omega⟩
        obtain ⟨c2, hc2⟩ : ∃ s : Nat, ((cy : Int) + (P2 : Int)) / 4294967296 = (s : Int) := ⟨(cy + P2) / 4294967296, by omega⟩
        have hlob : lo < 4294967296 := by omega
        have hc2b : c2 < 4294967296 := by omega
        have hHlo : Hid (lo + 4294967296 * c2 = cy + d * dg v i) := by show lo + 4294967296 * c2 = cy + d * dg v i; rw [← hP2]; omega
        have hc2z : Hid (n < i + 1 → c2 = 0) := by
          intro h
          have hz : dg v i = 0 := dg_ge (by rw [HV.out]; omega)
          rw [hz, Nat.mul_zero] at hP2
          omega
        obtain ⟨s, hs⟩ : ∃ s : Nat, ((dg W' i : Int) - (lo : Int) - (bw : Int)) % 4294967296 = (s : Int) := ⟨(((dg W' i : Int) - (lo : Int) - (bw : Int)) % 4294967296).toNat, by omega⟩
        obtain ⟨bw', hbw'⟩ : ∃ s : Nat, bor32 (dg W' i : Int) (lo : Int) (bw : Int) = (s : Int) := ⟨(bor32 (dg W' i : Int) (lo : Int) (bw : Int)).toNat, by unfold bor32; split <;> rfl⟩
        have hsb : s < 4294967296 := by omega
        have hst : Hid (s + lo + bw = dg W' i + 4294967296 * bw') := by
          show s + lo + bw = dg W' i + 4294967296 * bw'
          unfold bor32 at hbw'
          split at hbw' <;> omega
        have hbw1 : bw' ≤ 1 := by unfold bor32 at hbw'; split at hbw' <;> omega
        have hstep := Lib.hid (red_step hv (by omega) (HS.out i (Nat.le_refl _)) hHlo.out hst.out)
        have HL := Lib.hid hl
        clear hl hv hP2 hP2b hst hHlo dv dW hX
        go_wp2_with (first | (go_at_call 129; refine (at_any _ _ _ _ _ _ (by assumption) HV.out (by omega) (by omega)).mono ?_; rintro e w' ⟨rfl, rfl⟩) | (go_at_call 130; refine (sub32_any _ _ _ _ (by omega) (by omega) (by omega) (by omega) (by omega) (by omega)).mono ?_; rintro e w' ⟨rfl, rfl⟩))
        go_roundw
        case rel =>
          refine ⟨i + 1, c2, bw', W'.set i s, by omega, by go_num, rfl, rfl, hc2b, hbw1, by rw [List.length_set]; exact HL.out, hd'.set hsb, hown.winSet HP.out (by rw [HL.out]; omega), fun j hj => ?_, hstep.out, hc2z.out, honly.setCell rfl _⟩
          rw [dg_set_ne (by omega)]; exact HS.out j (by omega)
        case measure => simp [intOf]; omega
      · have hi' : i = n + 1 := by omega
        subst hi'
        have hcz : cy = 0 := HC0.out (by omega)
        subst hcz
        have hvn : vs v (n + 1) = vs v n := vs_ge (fun j hj => dg_ge (by rw [HV.out]; exact hj)) (by omega)
        rw [hvn, Nat.add_zero] at hv
        have HVN := Lib.hid hvn
        have HV2 := Lib.hid hv
        have HL := Lib.hid hl
        clear hvn hv hl
        go_wp2_with fail
        go_loopw [6, 11] (fun dv bv wr => BkRel P W R v g n w dv bv wr) (fun d _ _ => (intOf d).toNat)
        case atStart => exact ⟨d, bw, W', rfl, rfl, hd, hbw, HL.out, hd', hown, HV2.out, hX, honly⟩
        case round =>
          obtain ⟨d1, bw1, W1, rfl, rfl, hd1, hbw1, hl1, hds1, hown1, hv1, hX1, honly1⟩ := hrel
          obtain ⟨wo, hwo⟩ : ∃ wo : World, wo = wr := ⟨_, rfl⟩
          subst hwo
          clear hd hX hown honly HV2 HL hd' hvr
          by_cases hb1 : bw1 = 0
          · subst hb1
            rw [Nat.zero_mul, Nat.add_zero] at hv1
            obtain ⟨hq, hr⟩ : d1 = vs W (n + 1) / vs v n ∧ vs W1 (n + 1) = vs W (n + 1) % vs v n := quot_of hv1 hX1
            have HQ := Lib.hid hq
            have HR2 := Lib.hid hr
            have HL1 := Lib.hid hl1
            clear hq hr hv1 hX1 hl1
            go_wp2
            go_ret
            exact ⟨by rw [← HQ.out]; rfl, W1, HL1.out, hds1, hown1, HR2.out, honly1⟩
          · have hbe : bw1 = 1 := by omega
            subst hbe
            rw [Nat.one_mul] at hv1
            have hdp : 1 ≤ d1 := by
              rcases Nat.eq_zero_or_pos d1 with h0 | h0
              · rw [h0, Nat.zero_mul] at hv1
                have := vs_lt (l := W1) (i := n + 1) (fun j _ => hds1 j)
                omega
              · exact h0
            have HX1 : Hid (vs W (n + 1) < d1 * vs v n) := by
              show vs W (n + 1) < d1 * vs v n
              have := vs_lt (l := W1) (i := n + 1) (fun j _ => hds1 j)
              omega
            have HV1 := Lib.hid hv1
            have HL1 := Lib.hid hl1
            have hl1' : W1.length ≤ n + 1 := by omega
            clear hv1 hl1 hX1
            go_wp2_with fail
            go_loopw [13, 117] (fun mv iv wr => AdRel P W1 R v g n w mv iv wr) (fun _ i _ => n + 1 - (intOf i).toNat)
            case atStart => exact ⟨0, 0, W1, Nat.zero_le _, rfl, rfl, Nat.zero_le _, HL1.out, hds1, hown1, fun _ _ => rfl, by simp [vs], honly1⟩
            case round =>
              obtain ⟨i, mo, W2, hi2, rfl, rfl, hmo, hl2, hds2, hown2, hsame2, hv2, honly2⟩ := hrel
              have HS2 := Lib.hid hsame2
              have hvr := (hvin.only honly2 hne).at_
              clear hsame2 hown1 honly1
              by_cases hlt2 : i < n + 1
              · have hcell := hown2.winCell (i := i) HP.out (by omega)
                have hfr := hown2.frozen (p + i)
                have dvi := dv i
                have dwi := hds2 i
                obtain ⟨s, hs⟩ : ∃ s : Nat, ((dg W2 i : Int) + (dg v i : Int) + (mo : Int)) % 4294967296 = (s : Int) := ⟨(dg W2 i + dg v i + mo) % 4294967296, by omega⟩
                obtain ⟨mo', hmo'⟩ : ∃ s : Nat, ((dg W2 i : Int) + (dg v i : Int) + (mo : Int)) / 4294967296 = (s : Int) := ⟨(dg W2 i + dg v i + mo) / 4294967296, by omega⟩
                have hsb : s < 4294967296 := by omega
                have hmb : mo' ≤ 1 := by omega
                have hst : Hid (s + 4294967296 * mo' = dg W2 i + dg v i + mo) := by show s + 4294967296 * mo' = dg W2 i + dg v i + mo; omega
                have hstep := Lib.hid (back_step hv2 (by omega) (HS2.out i (Nat.le_refl _)) hst.out)
                have HL2 := Lib.hid hl2
                clear hl2 hv2 hst dv dW
                go_wp2_with fail
                go_region_with (first | (go_at_call 129; refine (at_any _ _ _ _ _ _ (by assumption) HV.out (by omega) (by omega)).mono ?_; rintro e w' ⟨rfl, rfl⟩) | (go_at_call 128; refine (add32_any _ _ _ _ (by omega) (by omega) (by omega) (by omega) (by omega) (by omega)).mono ?_; rintro e w' ⟨rfl, rfl⟩))
                all_goals
                  go_wp2
                  go_roundw
                  case rel =>
                    (repeat apply Exists.intro)
                    refine ⟨?_, rfl⟩
                    refine ⟨i + 1, mo', W2.set i s, by omega, by go_num, rfl, hmb, by rw [List.length_set]; exact HL2.out, hds2.set hsb, hown2.winSet HP.out (by rw [HL2.out]; omega), fun j hj => ?_, hstep.out, (honly2.setCell (p := ⟨g, p + i, none⟩) rfl _).drewN 1⟩
                    rw [dg_set_ne (by omega)]; exact HS2.out j (by omega)
                  case measure => simp [intOf]; omega
              · have hi' : i = n + 1 := by omega
                subst hi'
                have hnext : Hid (vs W2 (n + 1) + (d1 - 1) * vs v n = vs W (n + 1) + (1 - mo) * pw (n + 1)) := by
                  refine back_all HV1.out ?_ hdp hmo
                  rw [hv2, HVN.out]
                have HL2 := Lib.hid hl2
                clear hl2 hv2
                go_wp2
                go_roundw
                case rel => exact ⟨d1 - 1, 1 - mo, W2, by go_num, by go_num, by omega, by omega, HL2.out, hds2, hown2, hnext.out, by rw [show d1 - 1 + 1 = d1 from by omega]; exact HX1.out, honly2⟩
                case measure => simp [intOf]; omega

end Go.Proofs.YtmkhfgggleplfaaGreat
