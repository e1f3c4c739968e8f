/-
  The walk of div: quotient and remainder of words. Conditions: canonical words, lengths below 2^39, the divisor not 0.
-/
import Derived.Test.YtmkhfgggleplfaaRed
import Derived.Test.YtmkhfgggleplfaaNatC
import Derived.Test.YtmkhfgggleplfaaShelf
namespace Go.Proofs.Ytmkhfgggleplfaa
set_option linter.unusedSimpArgs false
set_option linter.unusedVariables false
open Go.RowKit

theorem lt_bitLenAux : ∀ (f x : Nat), x < 2 ^ f → x < 2 ^ Lib.bitLenAux f x
  | 0, x, h => by simp [Lib.bitLenAux] at *; omega
  | f + 1, x, h => by
    by_cases hx : x = 0
    · subst hx; exact Nat.two_pow_pos _
    · have ih := lt_bitLenAux f (x / 2) (by rw [Nat.pow_succ] at h; omega)
      simp only [Lib.bitLenAux, hx, if_false]
      rw [Nat.add_comm, Nat.pow_succ]; omega
theorem lz_any (x : Nat) (w : World) (h0 : 0 < x) (h1 : x < 4294967296) :
    Calls Try.prog 99 #[.int .u32 (x : Int)] w fun e w' => ∃ s : Nat, e = .returned (.int .i64 (s : Int)) ∧ s < 32 ∧ x * 2 ^ s < 4294967296 ∧ w = w' := by
  refine (Try.bits_LeadingZeros32 (x : Int) w (by omega) (by omega)).mono ?_
  rintro e w' ⟨rfl, rfl⟩
  have hle : Lib.bitLen x ≤ 32 := Lib.bitLen_le x 32 (by omega) (by omega)
  have hlt : x < 2 ^ Lib.bitLen x := lt_bitLenAux 64 x (by omega)
  have hpos : Lib.bitLen x ≠ 0 := by
    intro h
    rw [h] at hlt; simp at hlt; omega
  refine ⟨32 - Lib.bitLen x, ?_, by omega, ?_, rfl⟩
  · rw [Int.toNat_natCast]
    congr 2; omega
  · have : 2 ^ Lib.bitLen x * 2 ^ (32 - Lib.bitLen x) = 4294967296 := by rw [← Nat.pow_add, show Lib.bitLen x + (32 - Lib.bitLen x) = 32 from by omega]
    rw [← this]
    exact Nat.mul_lt_mul_of_pos_right hlt (Nat.two_pow_pos _)

/-- the window's sum -/
theorem win_vs {P W R : List Nat} {m : Nat} (hW : W.length = m + 1) : vs (P ++ (W ++ R)) (P.length + (m + 1)) = vs P P.length + pw P.length * vs W (m + 1) := by
  rw [vs_split, List.drop_left, vs_congr (l := P ++ (W ++ R)) (m := P) (fun j hj => dg_append_left hj), vs_congr (l := W ++ R) (m := W) (fun j hj => dg_append_left (by omega))]
theorem div_step {P W W' R oq : List Nat} {N i k m n V U q : Nat} (hk : N = i + k + 1) (hP : P.length = k) (hW : W.length = m + 1) (hW' : W'.length = m + 1) (hlen : (P ++ (W ++ R)).length = n + 1)
    (hz : ∀ j, k + 1 + m ≤ j → dg (P ++ (W ++ R)) j = 0) (hU : hi oq N i * pw (k + 1) * V + vs (P ++ (W ++ R)) (n + 1) = U) (hoq : oq.length = N)
    (dP : Ds (P ++ (W ++ R))) (dW' : Ds W') (hV : V < pw m) (hq : q = vs W (m + 1) / V) (hr : vs W' (m + 1) = vs W (m + 1) % V) (hV0 : 0 < V) :
    hi (oq.set k q) N (i + 1) * pw k * V + vs (P ++ (W' ++ R)) (n + 1) = U ∧ vs (P ++ (W' ++ R)) (n + 1) < pw k * V ∧ (∀ j, k + m ≤ j → dg (P ++ (W' ++ R)) j = 0) := by
  subst hP
  have hl : P.length + (m + 1) ≤ n + 1 := by simp only [List.length_append] at hlen; omega
  have hl2 : (P ++ (W' ++ R)).length = n + 1 := by simp only [List.length_append] at hlen ⊢; omega
  have hX : vs W' (m + 1) < V := by rw [hr]; exact Nat.mod_lt _ hV0
  have hR : ∀ j, P.length + 1 + m ≤ j → dg (P ++ (W' ++ R)) j = 0 := by
    intro j hj
    have := hz j hj
    simp only [dg, List.getD_eq_getElem?_getD] at this ⊢
    rw [List.getElem?_append_right (by omega), List.getElem?_append_right (by omega)] at this ⊢
    rw [hW] at this; rw [hW']; exact this
  have htop : dg W' m = 0 := by
    rcases Nat.eq_zero_or_pos (dg W' m) with h | h
    · exact h
    · have h1 : vs W' (m + 1) = vs W' m + dg W' m * pw m := rfl
      have h2 : 1 * pw m ≤ dg W' m * pw m := Nat.mul_le_mul_right _ h
      omega
  have e1 : vs (P ++ (W ++ R)) (n + 1) = vs P P.length + pw P.length * vs W (m + 1) := by
    rw [← win_vs (R := R) hW]; exact vs_ge (fun j hj => hz j (by omega)) (by omega)
  have e2 : vs (P ++ (W' ++ R)) (n + 1) = vs P P.length + pw P.length * vs W' (m + 1) := by
    rw [← win_vs (R := R) hW']; exact vs_ge (fun j hj => hR j (by omega)) (by omega)
  have hPlt : vs P P.length < pw P.length := vs_lt fun j hj => by have := dP j; rwa [dg_append_left hj] at this
  refine ⟨?_, ?_, ?_⟩
  · rw [e2, ← hU, e1]
    simp only [hi, pw]
    rw [show N - 1 - i = P.length from by omega, dg_set_self (by omega), hi_congr (l := oq.set P.length q) (m := oq) (fun j h1 h2 => dg_set_ne (by omega)) (by omega)]
    have e3 : vs W (m + 1) = V * q + vs W' (m + 1) := by rw [hq, hr]; exact (Nat.div_add_mod _ _).symm
    rw [e3, Nat.add_mul, Nat.add_mul, Nat.mul_add]
    have e4 : q * pw P.length * V = pw P.length * (V * q) := by rw [Nat.mul_comm q, Nat.mul_assoc, Nat.mul_comm q]
    have e5 : 4294967296 * hi oq N i * pw P.length * V = hi oq N i * (4294967296 * pw P.length) * V := by rw [Nat.mul_comm 4294967296, Nat.mul_assoc (hi oq N i)]
    omega
  · rw [e2]
    have : pw P.length * (vs W' (m + 1) + 1) ≤ pw P.length * V := Nat.mul_le_mul_left _ hX
    rw [Nat.mul_add] at this; omega
  · intro j hj
    by_cases hj2 : j = P.length + m
    · rw [hj2, dg_win (by omega)]; exact htop
    · exact hR j (by omega)
theorem win_split (l : List Nat) (k m : Nat) : l = l.take k ++ ((l.drop k).take m ++ (l.drop k).drop m) := by rw [List.take_append_drop, List.take_append_drop]
theorem win_lt {l : List Nat} {k m n V : Nat} (hl : l.length = n + 1) (hk : k + (m + 1) ≤ n + 1) (hz : ∀ j, k + 1 + m ≤ j → dg l j = 0) (h : vs l (n + 1) < pw (k + 1) * V) :
    vs ((l.drop k).take (m + 1)) (m + 1) < 4294967296 * V := by
  have e1 : vs l (n + 1) = vs l (k + (m + 1)) := vs_ge (fun j hj => hz j (by omega)) hk
  rw [e1, vs_split] at h
  have e2 : vs ((l.drop k).take (m + 1)) (m + 1) = vs (l.drop k) (m + 1) := vs_congr fun j hj => by rw [dg_take, if_pos hj]
  rw [e2]
  simp only [pw] at h
  have e3 : 4294967296 * pw k * V = pw k * (4294967296 * V) := by rw [Nat.mul_comm 4294967296, Nat.mul_assoc]
  rw [e3] at h
  exact Nat.lt_of_mul_lt_mul_left (a := pw k) (by omega)
theorem div_scale {X Y t q r : Nat} (ht : 0 < t) (hY : 0 < Y) (h : q * (Y * t) + r = X * t) (hr : r < Y * t) : q = X / Y ∧ r / t = X % Y := by
  have h1 : q = X * t / (Y * t) := by
    rw [← h, Nat.mul_comm q, Nat.mul_add_div (Nat.mul_pos hY ht), Nat.div_eq_of_lt hr, Nat.add_zero]
  have h2 : r = X * t % (Y * t) := by rw [← h, Nat.mul_comm q, Nat.mul_add_mod, Nat.mod_eq_of_lt hr]
  rw [Nat.mul_div_mul_right _ _ ht] at h1
  rw [Nat.mul_mod_mul_right] at h2
  exact ⟨h1, by rw [h2, Nat.mul_div_cancel _ ht]⟩
theorem Own.only {w w' : World} {t : TypeId} {g g' : Nat} {l : List Nat} (h : Own w t g l) (ho : Only g' w w') (hne : g ≠ g') : Own w' t g l := (ho.block g h.lt hne).trans h
theorem Own.far {w : World} {t : TypeId} {g : Nat} {l : List Nat} (h : Own w t g l) {p : Addr} (hne : g ≠ p.block) (u : Value) : Own (w.setCell p u) t g l := (Below.heap_setCell w p u g hne).trans h
theorem Own.alloc {w : World} {t : TypeId} {g : Nat} {l : List Nat} (h : Own w t g l) (o : Obj) : Own (w.alloc o) t g l := (Below.heap_alloc w o g h.lt).trans h

end Go.Proofs.Ytmkhfgggleplfaa
