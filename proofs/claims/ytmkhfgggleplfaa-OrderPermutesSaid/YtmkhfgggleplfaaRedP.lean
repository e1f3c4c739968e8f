/-
  Plain lemmas for one step of long division: the digit that is guessed, and taken back. No condition.
-/
import Derived.Test.YtmkhfgggleplfaaWords
namespace Go.Proofs.Ytmkhfgggleplfaa
set_option linter.unusedSimpArgs false
set_option linter.unusedVariables false
open Go.RowKit

theorem vs_three (W : List Nat) (m : Nat) : vs W (m + 3) = vs W m + (dg W m + dg W (m + 1) * 4294967296 + dg W (m + 2) * 18446744073709551616) * pw m := by
  simp only [vs, pw]
  rw [Nat.add_mul, Nat.add_mul, Nat.mul_assoc (dg W (m + 1)), Nat.mul_assoc (dg W (m + 2))]
  have : 4294967296 * (4294967296 * pw m) = 18446744073709551616 * pw m := by omega
  rw [this]; omega
theorem vs_two (v : List Nat) (m : Nat) : vs v (m + 2) = vs v m + (dg v m + dg v (m + 1) * 4294967296) * pw m := by
  simp only [vs, pw]
  rw [Nat.add_mul, Nat.mul_assoc (dg v (m + 1))]; omega

/-- the top words bound the whole -/
theorem top_lt {a b c p q T : Nat} (hp : a < p) (hT : T * p ≤ q) (h : b + 1 ≤ T) (hc : c = a + b * p) : c < q := by
  have h1 : (b + 1) * p ≤ T * p := Nat.mul_le_mul_right _ h
  rw [Nat.add_mul] at h1; omega

theorem est1 {W v : List Nat} {m d : Nat} (hW : Ds W) (hv0 : 0 < dg v (m + 1)) (hd : d = (dg W (m + 2) * 4294967296 + dg W (m + 1)) / dg v (m + 1)) :
    vs W (m + 3) < (d + 1) * vs v (m + 2) := by
  have e : vs W (m + 3) = vs W (m + 1) + (dg W (m + 1) + dg W (m + 2) * 4294967296) * pw (m + 1) := vs_two W (m + 1)
  have h1 : vs W (m + 1) < pw (m + 1) := vs_lt fun j _ => hW j
  have h2 : dg W (m + 2) * 4294967296 + dg W (m + 1) < (d + 1) * dg v (m + 1) := by
    rw [hd, Nat.add_mul, Nat.one_mul]
    have := Nat.div_add_mod (dg W (m + 2) * 4294967296 + dg W (m + 1)) (dg v (m + 1))
    have h3 := Nat.mod_lt (dg W (m + 2) * 4294967296 + dg W (m + 1)) hv0
    rw [Nat.mul_comm (_ / _)]; omega
  refine top_lt (T := (d + 1) * dg v (m + 1)) h1 ?_ ?_ e
  · rw [Nat.mul_assoc]
    refine Nat.mul_le_mul_left _ ?_
    have : vs v (m + 2) = vs v (m + 1) + dg v (m + 1) * pw (m + 1) := rfl
    omega
  · omega
theorem est2 {W v : List Nat} {m d r : Nat} (hW : Ds W) (hr : d * dg v (m + 1) + r = dg W (m + 2) * 4294967296 + dg W (m + 1))
    (h : r * 4294967296 + dg W m < d * dg v m) : vs W (m + 3) < d * vs v (m + 2) := by
  have h1 : vs W m < pw m := vs_lt fun j _ => hW j
  refine top_lt (T := d * (dg v m + dg v (m + 1) * 4294967296)) h1 ?_ ?_ (vs_three W m)
  · rw [Nat.mul_assoc]
    refine Nat.mul_le_mul_left _ ?_
    rw [vs_two]; omega
  · rw [Nat.mul_add]
    have e : d * (dg v (m + 1) * 4294967296) = d * dg v (m + 1) * 4294967296 := by rw [Nat.mul_assoc]
    rw [e]
    omega

theorem red_step {W W' v : List Nat} {i d c bw s c' bw' lo : Nat} (h : vs W' i + d * vs v i = vs W i + (bw + c) * pw i) (hk : i < W'.length) (hd : dg W' i = dg W i)
    (hlo : lo + 4294967296 * c' = c + d * dg v i) (hs : s + lo + bw = dg W' i + 4294967296 * bw') :
    vs (W'.set i s) (i + 1) + d * vs v (i + 1) = vs W (i + 1) + (bw' + c') * pw (i + 1) := by
  simp only [vs, pw]
  rw [vs_set_ge (Nat.le_refl _), dg_set_self hk, ← hd, Nat.mul_add]
  have e : (s + lo + bw) * pw i = (dg W' i + 4294967296 * bw') * pw i := by rw [hs]
  have e2 : (lo + 4294967296 * c') * pw i = (c + d * dg v i) * pw i := by rw [hlo]
  rw [Nat.add_mul, Nat.add_mul, Nat.add_mul, Nat.mul_assoc] at e
  rw [Nat.add_mul, Nat.add_mul, Nat.mul_assoc, Nat.mul_assoc d] at e2
  have e3 : (bw' + c') * (4294967296 * pw i) = 4294967296 * (bw' * pw i) + 4294967296 * (c' * pw i) := by rw [Nat.add_mul, Nat.mul_left_comm, Nat.mul_left_comm c']
  rw [Nat.add_mul] at h
  rw [e3]; omega
theorem back_step {W W' v : List Nat} {i c s c' : Nat} (h : vs W' i + c * pw i = vs W i + vs v i) (hk : i < W'.length) (hd : dg W' i = dg W i)
    (hs : s + 4294967296 * c' = dg W' i + dg v i + c) : vs (W'.set i s) (i + 1) + c' * pw (i + 1) = vs W (i + 1) + vs v (i + 1) := by
  simp only [vs, pw]
  rw [vs_set_ge (Nat.le_refl _), dg_set_self hk, ← hd]
  have e : (s + 4294967296 * c') * pw i = (dg W' i + dg v i + c) * pw i := by rw [hs]
  rw [Nat.add_mul, Nat.add_mul, Nat.add_mul, Nat.mul_assoc] at e
  rw [Nat.mul_left_comm c']; omega
/-- one V is put back -/
theorem back_all {X V P d w1 w2 mo : Nat} (h1 : w1 + d * V = X + P) (h2 : w2 + mo * P = w1 + V) (hd : 0 < d) (hm : mo ≤ 1) : w2 + (d - 1) * V = X + (1 - mo) * P := by
  obtain ⟨e, rfl⟩ : ∃ e, d = e + 1 := ⟨d - 1, by omega⟩
  rw [Nat.add_mul, Nat.one_mul] at h1
  rw [Nat.add_sub_cancel]
  rcases Nat.lt_or_ge mo 1 with h | h
  · obtain rfl : mo = 0 := by omega
    simp only [Nat.zero_mul, Nat.sub_zero, Nat.one_mul] at *; omega
  · obtain rfl : mo = 1 := by omega
    simp only [Nat.sub_self, Nat.zero_mul, Nat.one_mul] at *; omega
theorem quot_of {X V d w : Nat} (h : w + d * V = X) (hX : X < (d + 1) * V) : d = X / V ∧ w = X % V := by
  have hV : 0 < V := by rcases Nat.eq_zero_or_pos V with h0 | h0
                        · rw [h0] at hX; simp at hX
                        · exact h0
  rw [Nat.add_mul, Nat.one_mul] at hX
  have hw : w < V := by omega
  constructor
  · rw [← h, Nat.add_mul_div_right _ _ hV, Nat.div_eq_of_lt hw, Nat.zero_add]
  · rw [← h, Nat.add_mul_mod_self_right, Nat.mod_eq_of_lt hw]

/-! ### a window of an owned block -/
theorem dg_win {P W R : List Nat} {i : Nat} (h : i < W.length) : dg (P ++ (W ++ R)) (P.length + i) = dg W i := by
  simp only [dg, List.getD_eq_getElem?_getD]
  rw [List.getElem?_append_right (by omega), Nat.add_sub_cancel_left, List.getElem?_append_left h]
theorem set_win {P W R : List Nat} {i s : Nat} (h : i < W.length) : (P ++ (W ++ R)).set (P.length + i) s = P ++ (W.set i s ++ R) := by
  rw [List.set_append_right _ _ (by omega), Nat.add_sub_cancel_left, List.set_append_left _ _ h]
theorem Own.winCell {w : World} {t : TypeId} {g : Nat} {P W R : List Nat} (h : Own w t g (P ++ (W ++ R))) {i p : Nat} (hp : P.length = p) (hi : i < W.length) : w.cell? ⟨g, p + i, none⟩ = some (.int .u32 (dg W i : Int)) := by
  subst hp
  rw [← dg_win (P := P) (R := R) hi]; exact h.cell (by simp; omega)
theorem Own.winSet {w : World} {t : TypeId} {g : Nat} {P W R : List Nat} (h : Own w t g (P ++ (W ++ R))) {i p s : Nat} (hp : P.length = p) (hi : i < W.length) :
    Own (w.setCell ⟨g, p + i, none⟩ (.int .u32 (s : Int))) t g (P ++ (W.set i s ++ R)) := by
  subst hp
  rw [← set_win hi]; exact h.set _ _

/-- the words l lie in block b, not in g -/
def WordsIn (w : World) (b off : Nat) (l : List Nat) : Prop := b < w.heap.size ∧ ∀ j, j < l.length → w.cell? ⟨b, off + j, none⟩ = some (.int .u32 (dg l j : Int))
theorem WordsIn.only {g : Nat} {w w' : World} {b off : Nat} {l : List Nat} (h : WordsIn w b off l) (ho : Only g w w') (hne : b ≠ g) : WordsIn w' b off l :=
  ⟨Nat.lt_of_lt_of_le h.1 ho.size, fun j hj => (ho.cell (p := ⟨b, off + j, none⟩) h.1 hne).trans (h.2 j hj)⟩
theorem WordsIn.at_ {w : World} {b off : Nat} {l : List Nat} (h : WordsIn w b off l) : WordsAt w (some ⟨b, off, none⟩) l := fun _ => ⟨b, off, rfl, h.1, h.2⟩

end Go.Proofs.Ytmkhfgggleplfaa
