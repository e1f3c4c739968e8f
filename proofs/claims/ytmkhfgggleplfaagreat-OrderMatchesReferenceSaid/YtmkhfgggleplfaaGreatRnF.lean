/-
  The walks of the reference's steps of long division that write: lessen, restore. Conditions: lengths below 2^40; words below 2^32.
  The walk of the reference's division of words: divided. Conditions: canonical words, lengths below 2^39, the divisor not 0.
-/
import Derived.Test.YtmkhfgggleplfaaGreatRnD
import Derived.Test.YtmkhfgggleplfaaGreatDivW
import Derived.Laws.CopyOwn
namespace Go.Proofs.YtmkhfgggleplfaaGreat
set_option linter.unusedSimpArgs false
set_option linter.unusedVariables false
open Go.RowKit

def RLsRel (P W R v : List Nat) (g d n : Nat) (w : World) (cv bv iv : Value) (wr : World) : Prop :=
  ∃ (i c bw : Nat) (W' : List Nat), i ≤ n + 1 ∧ iv = .int .i64 i ∧ cv = .int .u64 c ∧ bv = .int .u64 bw ∧ c < 4294967296 ∧ bw ≤ 1 ∧ W'.length = n + 1 ∧ Ds W' ∧ Own wr 110 g (P ++ (W' ++ R)) ∧
    (∀ j, i ≤ j → dg W' j = dg W j) ∧ vs W' i + d * vs v i = vs W i + (bw + c) * pw i ∧ (n < i → c = 0) ∧ Only g w wr
/-- what lessen leaves -/
def LessOk (P W R v : List Nat) (g d n : Nat) (w : World) (e : Ending) (w' : World) : Prop :=
  ∃ bw : Nat, e = .returned (.bool ((bw : Int) == 1)) ∧ bw ≤ 1 ∧ ∃ W', W'.length = n + 1 ∧ Ds W' ∧ Own w' 110 g (P ++ (W' ++ R)) ∧ vs W' (n + 1) + d * vs v n = vs W (n + 1) + bw * pw (n + 1) ∧ Only g w w'

set_option maxHeartbeats 4000000 in
set_option maxRecDepth 100000 in
theorem rlessen_any (g p n b' off' c c' d : Nat) (P W R v : List Nat) (w : World) (hown : Own w 110 g (P ++ (W ++ R))) (hp : P.length = p) (hW : W.length = n + 1) (hv : v.length = n)
    (hvin : WordsIn w b' off' v) (hne : b' ≠ g) (dW : Ds W) (dv : Ds v) (hd : d < 4294967296) (ln : n ≤ 1099511627776) :
    Calls Tryz.prog 143 #[.slice (some ⟨g, p, none⟩) (n + 1) c, .slice (some ⟨b', off', none⟩) n c', .int .u64 (d : Int)] w (LessOk P W R v g d n w) := by
  have HP := Lib.hid hp
  have HW := Lib.hid hW
  have HV := Lib.hid hv
  clear hp hW hv
  go_enter Tryz.func143, Tryz.ntmps143
  go_wp2_with fail
  go_loopw [7, 8, 9] (fun cv bv iv wr => RLsRel P W R v g d n w cv bv iv wr) (fun _ _ i _ => n + 1 - (intOf i).toNat)
  case atStart => exact ⟨0, 0, 0, W, Nat.zero_le _, rfl, rfl, rfl, by omega, Nat.zero_le _, HW.out, dW, hown, fun _ _ => rfl, by simp [vs], fun h => absurd h (by omega), Only.refl _ _⟩
  case round =>
    obtain ⟨i, cy, bw, W', hi, rfl, rfl, rfl, hcy, hbw, hl, hd', hown1, hsame, hv, hc0, honly⟩ := hrel
    have HS := Lib.hid hsame
    have HC0 := Lib.hid hc0
    have hvr := (hvin.only honly hne).at_
    clear hsame hc0 hown
    by_cases hlt : i < n + 1
    · have hcell := hown1.winCell (i := i) HP.out (by omega)
      have hfr := hown1.frozen (p + i)
      have dvi := dv i
      have dwi := hd' i
      obtain ⟨P2, hP2⟩ : ∃ q : Nat, q = d * dg v i := ⟨_, rfl⟩
      have hP2b : P2 ≤ 4294967295 * 4294967295 := by rw [hP2]; exact Nat.mul_le_mul (by omega) (by omega)
      have hPi : (d : Int) * (dg v i : Int) = (P2 : Int) := by rw [hP2]; exact (Int.natCast_mul _ _).symm
      have hP2b' : P2 ≤ 18446744065119617025 := by omega
      obtain ⟨lo, hlo⟩ : ∃ s : Nat, ((P2 : Int) + (cy : Int)) % 4294967296 = (s : Int) := ⟨(P2 + cy) % 4294967296, by omega⟩
      obtain ⟨c2, hc2⟩ : ∃ s : Nat, ((P2 : Int) + (cy : Int)) / 4294967296 = (s : Int) := ⟨(P2 + cy) / 4294967296, by omega⟩
      have hlob : lo < 4294967296 := by omega
      have hc2b : c2 < 4294967296 := by omega
      have hHlo : Hid (lo + 4294967296 * c2 = cy + d * dg v i) := by show lo + 4294967296 * c2 = cy + d * dg v i; rw [← hP2]; omega
      have hc2z : Hid (n < i + 1 → c2 = 0) := by
        intro h
        have hz : dg v i = 0 := dg_ge (by rw [HV.out]; omega)
        rw [hz, Nat.mul_zero] at hP2
        omega
      obtain ⟨t, ht⟩ : ∃ t : Nat, t + lo + bw = dg W' i + 4294967296 := ⟨dg W' i + 4294967296 - lo - bw, by omega⟩
      have htb : t < 8589934592 := by omega
      have u3 : (4294967296 + (dg W' i : Int) - (lo : Int) - (bw : Int)) = (t : Int) := by omega
      obtain ⟨s, hs⟩ : ∃ s : Nat, (t : Int) % 4294967296 = (s : Int) := ⟨t % 4294967296, by omega⟩
      obtain ⟨q, hq⟩ : ∃ q : Nat, (t : Int) / 4294967296 = (q : Int) := ⟨t / 4294967296, by omega⟩
      have hq1 : q ≤ 1 := by omega
      have hsn : s < 4294967296 := by omega
      have hst : Hid (s + lo + bw = dg W' i + 4294967296 * (1 - q)) := by show s + lo + bw = dg W' i + 4294967296 * (1 - q); omega
      have hq2 : (1 : Int) - (q : Int) = ((1 - q : Nat) : Int) := by omega
      have hstep := Lib.hid (red_step hv (by omega) (HS.out i (Nat.le_refl _)) hHlo.out hst.out)
      have HL := Lib.hid hl
      have HT := Lib.hid ht
      have HOWN := Lib.hid hown1
      have DV := Lib.hid dv
      have DW := Lib.hid dW
      clear hl hv hP2 hP2b hst hHlo dv dW ht hown1
      go_wp2_with (go_at_call 140; refine (rword_any _ n _ v i _ hvr HV.out (by omega) DV.out).mono ?_; rintro e w' ⟨rfl, rfl⟩)
      go_roundw
      case rel =>
        refine ⟨i + 1, c2, 1 - q, W'.set i s, by omega, by go_num, by first | rfl | rw [hc2], by first | rfl | go_num, hc2b, by omega, by rw [List.length_set]; exact HL.out, hd'.set hsn, HOWN.out.winSet HP.out (by rw [HL.out]; omega), fun j hj => ?_, hstep.out, hc2z.out, honly.setCell rfl _⟩
        rw [dg_set_ne (by omega)]; exact HS.out j (by omega)
      case measure => simp [intOf]; omega
    · have hi' : i = n + 1 := by omega
      subst hi'
      have hcz : cy = 0 := HC0.out (by omega)
      subst hcz
      have hvn : vs v (n + 1) = vs v n := vs_ge (fun j hj => dg_ge (by rw [HV.out]; exact hj)) (by omega)
      rw [hvn, Nat.add_zero] at hv
      have HV2 := Lib.hid hv
      have HL := Lib.hid hl
      clear hvn hv hl
      go_wp2
      go_ret
      exact ⟨bw, rfl, hbw, W', HL.out, hd', hown1, HV2.out, honly⟩

theorem pw_step {n : Nat} {W : List Nat} (h : Ds W) : vs W n < pw n := vs_lt fun j _ => h j
/-- q is right -/
theorem rlessen_no {g p n b' off' c c' d : Nat} {P W R v : List Nat} {w : World} (hown : Own w 110 g (P ++ (W ++ R))) (hp : P.length = p) (hW : W.length = n + 1) (hv : v.length = n)
    (hvin : WordsIn w b' off' v) (hne : b' ≠ g) (dW : Ds W) (dv : Ds v) (hd : d < 4294967296) (ln : n ≤ 1099511627776) (hle : d * vs v n ≤ vs W (n + 1)) :
    Calls Tryz.prog 143 #[.slice (some ⟨g, p, none⟩) (n + 1) c, .slice (some ⟨b', off', none⟩) n c', .int .u64 (d : Int)] w fun e w' =>
      e = .returned (.bool false) ∧ ∃ W', W'.length = n + 1 ∧ Ds W' ∧ Own w' 110 g (P ++ (W' ++ R)) ∧ vs W' (n + 1) + d * vs v n = vs W (n + 1) ∧ Only g w w' :=
  (rlessen_any g p n b' off' c c' d P W R v w hown hp hW hv hvin hne dW dv hd ln).mono fun e w' ⟨bw, he, hb, W', h1, h2, h3, h4, h5⟩ => by
    have h6 := pw_step (n := n + 1) h2
    have hb0 : bw = 0 := by
      rcases Nat.lt_or_ge bw 1 with h | h
      · omega
      · have h7 : 1 * pw (n + 1) ≤ bw * pw (n + 1) := Nat.mul_le_mul_right _ h
        omega
    subst hb0
    exact ⟨he, W', h1, h2, h3, by omega, h5⟩
/-- q is 1 too great -/
theorem rlessen_yes {g p n b' off' c c' d : Nat} {P W R v : List Nat} {w : World} (hown : Own w 110 g (P ++ (W ++ R))) (hp : P.length = p) (hW : W.length = n + 1) (hv : v.length = n)
    (hvin : WordsIn w b' off' v) (hne : b' ≠ g) (dW : Ds W) (dv : Ds v) (hd : d < 4294967296) (ln : n ≤ 1099511627776) (hlt : vs W (n + 1) < d * vs v n) :
    Calls Tryz.prog 143 #[.slice (some ⟨g, p, none⟩) (n + 1) c, .slice (some ⟨b', off', none⟩) n c', .int .u64 (d : Int)] w fun e w' =>
      e = .returned (.bool true) ∧ ∃ W', W'.length = n + 1 ∧ Ds W' ∧ Own w' 110 g (P ++ (W' ++ R)) ∧ vs W' (n + 1) + d * vs v n = vs W (n + 1) + pw (n + 1) ∧ Only g w w' :=
  (rlessen_any g p n b' off' c c' d P W R v w hown hp hW hv hvin hne dW dv hd ln).mono fun e w' ⟨bw, he, hb, W', h1, h2, h3, h4, h5⟩ => by
    have hb0 : bw = 1 := by
      rcases Nat.lt_or_ge bw 1 with h | h
      · have : bw = 0 := by omega
        subst this
        omega
      · omega
    subst hb0
    exact ⟨he, W', h1, h2, h3, by omega, h5⟩

def RReRel (P W R v : List Nat) (g n : Nat) (w : World) (mv iv : Value) (wr : World) : Prop :=
  ∃ (i mo : Nat) (W' : List Nat), i ≤ n + 1 ∧ iv = .int .i64 i ∧ mv = .int .u64 mo ∧ mo ≤ 1 ∧ W'.length = n + 1 ∧ Ds W' ∧ Own wr 110 g (P ++ (W' ++ R)) ∧
    (∀ j, i ≤ j → dg W' j = dg W j) ∧ vs W' i + mo * pw i = vs W i + vs v i ∧ Only g w wr

set_option maxHeartbeats 4000000 in
set_option maxRecDepth 100000 in
theorem rrestore_any (g p n b' off' c c' : Nat) (P W R v : List Nat) (w : World) (hown : Own w 110 g (P ++ (W ++ R))) (hp : P.length = p) (hW : W.length = n + 1) (hv : v.length = n)
    (hvin : WordsIn w b' off' v) (hne : b' ≠ g) (dW : Ds W) (dv : Ds v) (ln : n ≤ 1099511627776) :
    Calls Tryz.prog 144 #[.slice (some ⟨g, p, none⟩) (n + 1) c, .slice (some ⟨b', off', none⟩) n c'] w fun e w' =>
      e = .returned (.tuple #[]) ∧ ∃ mo W', mo ≤ 1 ∧ W'.length = n + 1 ∧ Ds W' ∧ Own w' 110 g (P ++ (W' ++ R)) ∧ vs W' (n + 1) + mo * pw (n + 1) = vs W (n + 1) + vs v n ∧ Only g w w' := by
  have HP := Lib.hid hp
  have HW := Lib.hid hW
  have HV := Lib.hid hv
  clear hp hW hv
  go_enter Tryz.func144, Tryz.ntmps144
  go_wp2_with fail
  go_loopw [4, 5] (fun mv iv wr => RReRel P W R v g n w mv iv wr) (fun _ i _ => n + 1 - (intOf i).toNat)
  case atStart => exact ⟨0, 0, W, Nat.zero_le _, rfl, rfl, Nat.zero_le _, HW.out, dW, hown, fun _ _ => rfl, by simp [vs], Only.refl _ _⟩
  case round =>
    obtain ⟨i, mo, W', hi, rfl, rfl, hmo, hl, hd', hown1, hsame, hv, honly⟩ := hrel
    have HS := Lib.hid hsame
    have hvr := (hvin.only honly hne).at_
    clear hsame hown
    by_cases hlt : i < n + 1
    · have hcell := hown1.winCell (i := i) HP.out (by omega)
      have hfr := hown1.frozen (p + i)
      have dvi := dv i
      have dwi := hd' i
      obtain ⟨s, hs⟩ : ∃ s : Nat, ((dg W' i : Int) + (dg v i : Int) + (mo : Int)) % 4294967296 = (s : Int) := ⟨(dg W' i + dg v i + mo) % 4294967296, by omega⟩
      obtain ⟨m2, hm2⟩ : ∃ s : Nat, ((dg W' i : Int) + (dg v i : Int) + (mo : Int)) / 4294967296 = (s : Int) := ⟨(dg W' i + dg v i + mo) / 4294967296, by omega⟩
      have hsn : s < 4294967296 := by omega
      have hmn : m2 ≤ 1 := by omega
      have hst : Hid (s + 4294967296 * m2 = dg W' i + dg v i + mo) := by show s + 4294967296 * m2 = dg W' i + dg v i + mo; omega
      have hstep := Lib.hid (back_step hv (by omega) (HS.out i (Nat.le_refl _)) hst.out)
      have HL := Lib.hid hl
      have HOWN := Lib.hid hown1
      have DV := Lib.hid dv
      have u1 : IntKind.u64.wrap ((dg W' i : Int) + (dg v i : Int)) = (dg W' i : Int) + (dg v i : Int) := by rw [IntKind.wrap_u64]; omega
      have u2 : IntKind.u64.wrap ((dg W' i : Int) + (dg v i : Int) + (mo : Int)) = (dg W' i : Int) + (dg v i : Int) + (mo : Int) := by rw [IntKind.wrap_u64]; omega
      clear hl hv hst dv dW hown1
      go_wp2_with fail
      go_quiet ((go_at_call 140; exact quietW (rword_any _ n _ v i _ (hvr.drewN _) HV.out (by omega) DV.out)))
      go_wp2
      go_roundw
      case rel =>
        refine ⟨i + 1, m2, W'.set i s, by omega, by go_num, by first | rfl | rw [hm2], hmn, by rw [List.length_set]; exact HL.out, hd'.set hsn, (HOWN.out.drewN nq).winSet HP.out (by rw [HL.out]; omega), fun j hj => ?_, hstep.out, (honly.drewN nq).setCell rfl _⟩
        rw [dg_set_ne (by omega)]; exact HS.out j (by omega)
      case measure => simp [intOf]; omega
    · have hi' : i = n + 1 := by omega
      subst hi'
      have hvn : vs v (n + 1) = vs v n := vs_ge (fun j hj => dg_ge (by rw [HV.out]; exact hj)) (by omega)
      rw [hvn] at hv
      have HV2 := Lib.hid hv
      have HL := Lib.hid hl
      clear hvn hv hl
      go_wp2
      go_end0
      exact ⟨rfl, mo, W', hmo, HL.out, hd', hown1, HV2.out, honly⟩

end Go.Proofs.YtmkhfgggleplfaaGreat
namespace Go.Proofs.YtmkhfgggleplfaaGreat
open Go.RowKit

theorem sl_val (l : List Nat) (k : Nat) : val (l ++ List.replicate k 0) = val l := by
  have h : vs (l ++ List.replicate k 0) (l.length + k) = vs (l ++ List.replicate k 0) l.length := vs_ge (fun j hj => by
    simp only [dg, List.getD_eq_getElem?_getD]
    rw [List.getElem?_append_right hj, List.getElem?_replicate]; split <;> rfl) (by omega)
  unfold val
  rw [List.length_append, List.length_replicate, h]
  exact vs_congr fun j hj => dg_append_left hj
theorem sl_ds {l : List Nat} (h : Ds l) (k : Nat) : Ds (l ++ List.replicate k 0) := fun j => by
  rcases Nat.lt_or_ge j l.length with h1 | h1
  · rw [dg_append_left h1]; exact h j
  · simp only [dg, List.getD_eq_getElem?_getD]
    rw [List.getElem?_append_right h1, List.getElem?_replicate]; split <;> simp

/-- what the loop of divided keeps -/
def RDivRel (gu gv ov gq N m n : Nat) (v : List Nat) (U : Nat) (w : World) (iv : Value) (wr : World) : Prop :=
  ∃ (i k : Nat) (oq ou : List Nat), N = i + k ∧ iv = .int .i64 ((k : Int) - 1) ∧ Own wr 110 gq oq ∧ oq.length = N ∧ Ds oq ∧ Own wr 110 gu ou ∧ ou.length = n + 1 ∧ Ds ou ∧ (∀ j, k + m ≤ j → dg ou j = 0) ∧
    hi oq N i * pw k * val v + vs ou (n + 1) = U ∧ vs ou (n + 1) < pw k * val v ∧ WordsIn wr gv ov v ∧ Below w.heap.size w wr

/-- one step: the digit, and what is left of the window -/
theorem rdiv_close {gu gv ov gq N m n i k U qd : Nat} {v oq ou W' : List Nat} {w wr w3 : World} (hN : N = i + (k + 1)) (hm : 0 < m) (hoq : Own wr 110 gq oq) (hlq : oq.length = N) (hdq : Ds oq) (_hou : Own wr 110 gu ou) (hlu : ou.length = n + 1) (hdu : Ds ou)
    (hz : ∀ j, k + 1 + m ≤ j → dg ou j = 0) (hsum : hi oq N i * pw (k + 1) * val v + vs ou (n + 1) = U) (hlow : vs ou (n + 1) < pw (k + 1) * val v) (hvin : WordsIn wr gv ov v) (hb : Below w.heap.size w wr)
    (hNn : n + 1 = N + m) (hvl : v.length = m) (cv : Canon v) (hne : gv ≠ gu) (hne2 : gq ≠ gu) (hne3 : gv ≠ gq) (hgu : w.heap.size ≤ gu) (hgq : w.heap.size ≤ gq)
    (hW' : W'.length = m + 1) (dW' : Ds W') (hq : qd = vs ((ou.drop k).take (m + 1)) (m + 1) / vs v m) (hr : vs W' (m + 1) = vs ((ou.drop k).take (m + 1)) (m + 1) % vs v m)
    (h3 : Own w3 110 gu (ou.take k ++ (W' ++ (ou.drop k).drop (m + 1)))) (ho : Only gu wr w3) :
    RDivRel gu gv ov gq N m n v U w (.int .i64 ((k : Int) - 1)) (w3.setCell ⟨gq, k, none⟩ (.int .u32 (qd : Int))) := by
  have hPl : (ou.take k).length = k := by rw [List.length_take]; omega
  have hWl : ((ou.drop k).take (m + 1)).length = m + 1 := by rw [List.length_take, List.length_drop]; omega
  have hwsp := win_split ou k (m + 1)
  have hvv : vs v m = val v := by rw [← hvl]; rfl
  have hvlt : val v < pw m := by rw [← hvl]; exact cv.1.val_lt
  have hv0 : 0 < val v := by
    have := cv.zero_iff
    omega
  have hltw : vs ((ou.drop k).take (m + 1)) (m + 1) < 4294967296 * val v := win_lt hlu (by omega) (fun j hj => hz j (by omega)) hlow
  have hqb : qd < 4294967296 := by rw [hq, hvv]; exact Nat.div_lt_of_lt_mul (by rw [Nat.mul_comm]; exact hltw)
  have hstep := div_step (P := ou.take k) (W := (ou.drop k).take (m + 1)) (W' := W') (R := (ou.drop k).drop (m + 1)) (oq := oq) (N := N) (i := i) (k := k) (m := m) (n := n) (V := val v) (U := U) (q := qd)
    (by omega) hPl hWl hW' (by rw [← hwsp]; exact hlu) (by rw [← hwsp]; exact fun j hj => hz j (by omega)) (by rw [← hwsp]; exact hsum) hlq (by rw [← hwsp]; exact hdu) dW' hvlt (by rw [← hvv]; exact hq) (by rw [← hvv]; exact hr) hv0
  have hl3 : (ou.take k ++ (W' ++ (ou.drop k).drop (m + 1))).length = n + 1 := by
    have e1 := congrArg List.length hwsp
    rw [hlu] at e1
    simp only [List.length_append, hPl, hWl, hW'] at e1 ⊢
    omega
  have hdP3 : Ds (ou.take k ++ (W' ++ (ou.drop k).drop (m + 1))) := by
    refine Ds.of_all fun j hj => ?_
    by_cases hj1 : j < k
    · rw [dg_append_left (by rw [hPl]; exact hj1), dg_take, if_pos hj1]; exact hdu j
    · by_cases hj2 : j < k + (m + 1)
      · have := dg_win (P := ou.take k) (W := W') (R := (ou.drop k).drop (m + 1)) (i := j - k) (by omega)
        rw [hPl, show k + (j - k) = j from by omega] at this
        rw [this]; exact dW' _
      · rw [hstep.2.2 j (by omega)]; omega
  refine ⟨i + 1, k, oq.set k qd, _, by omega, rfl, (hoq.only ho hne2).set k qd, by rw [List.length_set]; exact hlq, hdq.set hqb, h3.far (by show gu ≠ gq; omega) _, hl3, hdP3, hstep.2.2, hstep.1, hstep.2.1,
    (hvin.only ho hne).only (g := gq) ((Only.refl gq w3).setCell (p := ⟨gq, k, none⟩) rfl _) hne3, (hb.trans (ho.below hgu hb.size)).setCell (p := ⟨gq, k, none⟩) hgq _⟩

end Go.Proofs.YtmkhfgggleplfaaGreat
