/-
  The walk of div: quotient and remainder of words. Conditions: canonical words, lengths below 2^39, the divisor not 0.
  The walk of div: quotient and remainder of words. Conditions: canonical words, lengths below 2^39, the divisor not 0.
-/
import Derived.Test.YtmkhfgggleplfaaGreatRed
import Derived.Test.YtmkhfgggleplfaaGreatNatD
import Derived.Test.YtmkhfgggleplfaaGreatShelf
namespace Go.Proofs.YtmkhfgggleplfaaGreat
set_option linter.unusedSimpArgs false
set_option linter.unusedVariables false
open Go.RowKit

theorem lt_bitLenAux : ∀ (f x : Nat), x < 2 ^ f → x < 2 ^ Lib.bitLenAux f x
  | 0, x, h => by simp [Lib.bitLenAux] at *; omega
  | f + 1, x, h => by
    by_cases hx : x = 0
    · subst hx; exact Nat.two_pow_pos _
    · have ih := lt_bitLenAux f (x / 2) (by rw [Nat.pow_succ] at h; omega)
      simp only [Lib.bitLenAux, hx, if_false]
      rw [Nat.add_comm, Nat.pow_succ]; omega
theorem lz_any (x : Nat) (w : World) (h0 : 0 < x) (h1 : x < 4294967296) :
    Calls Tryz.prog 124 #[.int .u32 (x : Int)] w fun e w' => ∃ s : Nat, e = .returned (.int .i64 (s : Int)) ∧ s < 32 ∧ x * 2 ^ s < 4294967296 ∧ w = w' := by
  refine (Tryz.bits_LeadingZeros32 (x : Int) w (by omega) (by omega)).mono ?_
  rintro e w' ⟨rfl, rfl⟩
  have hle : Lib.bitLen x ≤ 32 := Lib.bitLen_le x 32 (by omega) (by omega)
  have hlt : x < 2 ^ Lib.bitLen x := lt_bitLenAux 64 x (by omega)
  have hpos : Lib.bitLen x ≠ 0 := by
    intro h
    rw [h] at hlt; simp at hlt; omega
  refine ⟨32 - Lib.bitLen x, ?_, by omega, ?_, rfl⟩
  · rw [Int.toNat_natCast]
    congr 2; omega
  · have : 2 ^ Lib.bitLen x * 2 ^ (32 - Lib.bitLen x) = 4294967296 := by rw [← Nat.pow_add, show Lib.bitLen x + (32 - Lib.bitLen x) = 32 from by omega]
    rw [← this]
    exact Nat.mul_lt_mul_of_pos_right hlt (Nat.two_pow_pos _)

/-- the window's sum -/
theorem win_vs {P W R : List Nat} {m : Nat} (hW : W.length = m + 1) : vs (P ++ (W ++ R)) (P.length + (m + 1)) = vs P P.length + pw P.length * vs W (m + 1) := by
  rw [vs_split, List.drop_left, vs_congr (l := P ++ (W ++ R)) (m := P) (fun j hj => dg_append_left hj), vs_congr (l := W ++ R) (m := W) (fun j hj => dg_append_left (by omega))]
theorem div_step {P W W' R oq : List Nat} {N i k m n V U q : Nat} (hk : N = i + k + 1) (hP : P.length = k) (hW : W.length = m + 1) (hW' : W'.length = m + 1) (hlen : (P ++ (W ++ R)).length = n + 1)
    (hz : ∀ j, k + 1 + m ≤ j → dg (P ++ (W ++ R)) j = 0) (hU : hi oq N i * pw (k + 1) * V + vs (P ++ (W ++ R)) (n + 1) = U) (hoq : oq.length = N)
    (dP : Ds (P ++ (W ++ R))) (dW' : Ds W') (hV : V < pw m) (hq : q = vs W (m + 1) / V) (hr : vs W' (m + 1) = vs W (m + 1) % V) (hV0 : 0 < V) :
    hi (oq.set k q) N (i + 1) * pw k * V + vs (P ++ (W' ++ R)) (n + 1) = U ∧ vs (P ++ (W' ++ R)) (n + 1) < pw k * V ∧ (∀ j, k + m ≤ j → dg (P ++ (W' ++ R)) j = 0) := by
  subst hP
  have hl : P.length + (m + 1) ≤ n + 1 := by simp only [List.length_append] at hlen; omega
  have hl2 : (P ++ (W' ++ R)).length = n + 1 := by simp only [List.length_append] at hlen ⊢; omega
  have hX : vs W' (m + 1) < V := by rw [hr]; exact Nat.mod_lt _ hV0
  have hR : ∀ j, P.length + 1 + m ≤ j → dg (P ++ (W' ++ R)) j = 0 := by
    intro j hj
    have := hz j hj
    simp only [dg, List.getD_eq_getElem?_getD] at this ⊢
    rw [List.getElem?_append_right (by omega), List.getElem?_append_right (by omega)] at this ⊢
    rw [hW] at this; rw [hW']; exact this
  have htop : dg W' m = 0 := by
    rcases Nat.eq_zero_or_pos (dg W' m) with h | h
    · exact h
    · have h1 : vs W' (m + 1) = vs W' m + dg W' m * pw m := rfl
      have h2 : 1 * pw m ≤ dg W' m * pw m := Nat.mul_le_mul_right _ h
      omega
  have e1 : vs (P ++ (W ++ R)) (n + 1) = vs P P.length + pw P.length * vs W (m + 1) := by
    rw [← win_vs (R := R) hW]; exact vs_ge (fun j hj => hz j (by omega)) (by omega)
  have e2 : vs (P ++ (W' ++ R)) (n + 1) = vs P P.length + pw P.length * vs W' (m + 1) := by
    rw [← win_vs (R := R) hW']; exact vs_ge (fun j hj => hR j (by omega)) (by omega)
  have hPlt : vs P P.length < pw P.length := vs_lt fun j hj => by have := dP j; rwa [dg_append_left hj] at this
  refine ⟨?_, ?_, ?_⟩
  · rw [e2, ← hU, e1]
    simp only [hi, pw]
    rw [show N - 1 - i = P.length from by omega, dg_set_self (by omega), hi_congr (l := oq.set P.length q) (m := oq) (fun j h1 h2 => dg_set_ne (by omega)) (by omega)]
    have e3 : vs W (m + 1) = V * q + vs W' (m + 1) := by rw [hq, hr]; exact (Nat.div_add_mod _ _).symm
    rw [e3, Nat.add_mul, Nat.add_mul, Nat.mul_add]
    have e4 : q * pw P.length * V = pw P.length * (V * q) := by rw [Nat.mul_comm q, Nat.mul_assoc, Nat.mul_comm q]
    have e5 : 4294967296 * hi oq N i * pw P.length * V = hi oq N i * (4294967296 * pw P.length) * V := by rw [Nat.mul_comm 4294967296, Nat.mul_assoc (hi oq N i)]
    omega
  · rw [e2]
    have : pw P.length * (vs W' (m + 1) + 1) ≤ pw P.length * V := Nat.mul_le_mul_left _ hX
    rw [Nat.mul_add] at this; omega
  · intro j hj
    by_cases hj2 : j = P.length + m
    · rw [hj2, dg_win (by omega)]; exact htop
    · exact hR j (by omega)
theorem win_split (l : List Nat) (k m : Nat) : l = l.take k ++ ((l.drop k).take m ++ (l.drop k).drop m) := by rw [List.take_append_drop, List.take_append_drop]
theorem win_lt {l : List Nat} {k m n V : Nat} (hl : l.length = n + 1) (hk : k + (m + 1) ≤ n + 1) (hz : ∀ j, k + 1 + m ≤ j → dg l j = 0) (h : vs l (n + 1) < pw (k + 1) * V) :
    vs ((l.drop k).take (m + 1)) (m + 1) < 4294967296 * V := by
  have e1 : vs l (n + 1) = vs l (k + (m + 1)) := vs_ge (fun j hj => hz j (by omega)) hk
  rw [e1, vs_split] at h
  have e2 : vs ((l.drop k).take (m + 1)) (m + 1) = vs (l.drop k) (m + 1) := vs_congr fun j hj => by rw [dg_take, if_pos hj]
  rw [e2]
  simp only [pw] at h
  have e3 : 4294967296 * pw k * V = pw k * (4294967296 * V) := by rw [Nat.mul_comm 4294967296, Nat.mul_assoc]
  rw [e3] at h
  exact Nat.lt_of_mul_lt_mul_left (a := pw k) (by omega)
theorem div_scale {X Y t q r : Nat} (ht : 0 < t) (hY : 0 < Y) (h : q * (Y * t) + r = X * t) (hr : r < Y * t) : q = X / Y ∧ r / t = X % Y := by
  have h1 : q = X * t / (Y * t) := by
    rw [← h, Nat.mul_comm q, Nat.mul_add_div (Nat.mul_pos hY ht), Nat.div_eq_of_lt hr, Nat.add_zero]
  have h2 : r = X * t % (Y * t) := by rw [← h, Nat.mul_comm q, Nat.mul_add_mod, Nat.mod_eq_of_lt hr]
  rw [Nat.mul_div_mul_right _ _ ht] at h1
  rw [Nat.mul_mod_mul_right] at h2
  exact ⟨h1, by rw [h2, Nat.mul_div_cancel _ ht]⟩
theorem Own.only {w w' : World} {t : TypeId} {g g' : Nat} {l : List Nat} (h : Own w t g l) (ho : Only g' w w') (hne : g ≠ g') : Own w' t g l := (ho.block g h.lt hne).trans h
theorem Own.far {w : World} {t : TypeId} {g : Nat} {l : List Nat} (h : Own w t g l) {p : Addr} (hne : g ≠ p.block) (u : Value) : Own (w.setCell p u) t g l := (Below.heap_setCell w p u g hne).trans h
theorem Own.alloc {w : World} {t : TypeId} {g : Nat} {l : List Nat} (h : Own w t g l) (o : Obj) : Own (w.alloc o) t g l := (Below.heap_alloc w o g h.lt).trans h

end Go.Proofs.YtmkhfgggleplfaaGreat
namespace Go.Proofs.YtmkhfgggleplfaaGreat
open Go.RowKit

def DivRel (gu gv gq N m n : Nat) (v : List Nat) (U : Nat) (w : World) (iv : Value) (wr : World) : Prop :=
  ∃ (i : Nat) (oq ou : List Nat), i ≤ N ∧ iv = .int .i64 i ∧ Own wr 110 gq oq ∧ oq.length = N ∧ Ds oq ∧ Own wr 110 gu ou ∧ ou.length = n + 1 ∧ Ds ou ∧ (∀ j, N - i + m ≤ j → dg ou j = 0) ∧
    hi oq N i * pw (N - i) * val v + vs ou (n + 1) = U ∧ vs ou (n + 1) < pw (N - i) * val v ∧ WordsIn wr gv 0 v ∧ Below w.heap.size w wr

set_option maxHeartbeats 4000000 in
set_option maxRecDepth 100000 in
theorem div_any (A A' : Option Addr) (n m c c' : Nat) (x y : List Nat) (w : World) (hx : WordsAt w A x) (hy : WordsAt w A' y) (hn : x.length = n) (hm : y.length = m) (cx : Canon x) (cy : Canon y)
    (hcap : n ≤ c) (hcap' : c ≤ 9223372036854775807) (lx : n ≤ 549755813888) (ly : m ≤ 549755813888) (hm0 : m ≠ 0) :
    Calls Tryz.prog 114 #[.slice A n c, .slice A' m c'] w fun e w' => ∃ vq vr, e = .returned (.tuple #[vq, vr]) ∧ NatV w' vq (val x / val y) ∧ NatV w' vr (val x % val y) ∧ Below w.heap.size w w' := by
  have hy0 : val y ≠ 0 := by rw [Ne, cy.zero_iff, hm]; exact hm0
  have hcmp := natcmp_any A A' n m c c' x y w hx hy hn hm cx cy (by omega) (by omega)
  have HC := Lib.hid hcmp
  clear hcmp
  by_cases hlt : val x < val y
  · have hk := cmpI_lt (a := (val x : Int)) (b := (val y : Int)) (by omega)
    have HN := Lib.hid hn
    have hq : Hid (val x / val y = 0) := Nat.div_eq_of_lt hlt
    have hr : Hid (val x % val y = val x) := Nat.mod_eq_of_lt hlt
    have h1 : ((-1 : Int) < 0) := by omega
    clear hn hm
    go_enter Tryz.func114, Tryz.ntmps114
    go_wp2_with (go_at_call 117; refine HC.out.mono ?_; rintro e w' ⟨rfl, q, rfl⟩)
    go_ret2
    refine ⟨_, _, rfl, ?_, ?_, ⟨rfl, rfl, rfl, Nat.le_refl _, fun _ _ => rfl⟩⟩
    · rw [hq.out]; exact ⟨none, 0, [], rfl, Nat.le_refl _, by omega, WordsAt.nil, canon_nil, rfl⟩
    · rw [hr.out]; exact ⟨A, c, x, by rw [HN.out]; rfl, by rw [HN.out]; exact hcap, hcap', hx, cx, rfl⟩
  · have hge : val y ≤ val x := by omega
    have hcmp0 : ¬ cmpI (val x) (val y) < 0 := by
      unfold cmpI; rw [if_neg (by omega)]; split <;> omega
    by_cases hm1 : m = 1
    · subst hm1
      obtain ⟨b', off', rfl, hbb', hcell'⟩ := hy (by omega)
      have hc0 := hcell' 0 (by omega)
      rw [Nat.add_zero] at hc0
      have hyv : val y = dg y 0 := by
        unfold val; rw [hm]; simp [vs, pw]
      have hd := cy.1 0
      have hd0 : 0 < dg y 0 := by omega
      have HY : Hid (val y = dg y 0) := hyv
      have hw := word_any A n c (dg y 0) x (w.drewN 0) (hx.drewN 0) hn cx.1 hd0 hd (by omega)
      have HW : Hid (∀ q, Calls Tryz.prog 123 #[.slice A n c, .int .u32 (dg y 0 : Int)] (w.drewN q) fun e w' => ∃ v, e = .returned (.tuple #[v, .int .u32 ((val x % dg y 0 : Nat) : Int)]) ∧ NatV w' v (val x / dg y 0) ∧ Below (w.drewN q).heap.size (w.drewN q) w') :=
        fun q => word_any A n c (dg y 0) x (w.drewN q) (hx.drewN q) hn cx.1 hd0 hd (by omega)
      obtain ⟨r, hr⟩ : ∃ r, val x % dg y 0 = r := ⟨_, rfl⟩
      rw [hr] at HW
      have hrb : r < 4294967296 := by rw [← hr]; exact Nat.lt_trans (Nat.mod_lt _ hd0) hd
      have HR : Hid (val x % dg y 0 = r) := hr
      clear hw hyv hr hcell' hn hm
      go_enter Tryz.func114, Tryz.ntmps114
      go_wp2_with fail
      refine HC.out.mono ?_
      rintro e w' ⟨rfl, q, rfl⟩
      go_wp2_with fail
      refine (HW.out q).mono ?_
      rintro e w1 ⟨vq, rfl, hvq, hb1⟩
      go_wp2_with fail
      have hown1 : Own (w1.alloc (.cells #[Value.int .u32 (r : Int)] 110)) 110 w1.heap.size [r] := heap_alloc_new w1 _
      have hd1 : Ds [r] := Ds.of_all fun k hk => by
        have : k = 0 := by simp at hk; exact hk
        subst this; exact hrb
      have hbelow : Below w.heap.size w (w1.alloc (.cells #[Value.int .u32 (r : Int)] 110)) := (((Below.refl w.heap.size w).drewN q).trans hb1).alloc hb1.size _
      refine (norm_any _ 1 1 [r] _ hown1.words rfl (Nat.le_refl _) (by omega)).mono ?_
      rintro e w2 ⟨rfl, rfl⟩
      go_wp2_with fail
      go_ret2
      refine ⟨_, _, rfl, ?_, ?_, hbelow⟩
      · rw [HY.out]; exact hvq.below ((Below.refl _ _).alloc (Nat.le_refl _) _)
      · rw [HY.out, HR.out]
        have := NatV.of_trim hown1 hd1 (by simp only [List.length_cons, List.length_nil]; omega)
        rwa [show val [r] = r from by simp [val, vs, pw, dg]] at this
    · -- the general case
      have hn' : m ≤ n := by
        rcases Nat.lt_or_ge n m with h | h
        · have := canon_lt_len cx cy (by omega); omega
        · exact h
      have hm2 : 2 ≤ m := by omega
      obtain ⟨b', off', rfl, hbb', hcell'⟩ := hy (by omega)
      obtain ⟨m1, hm1'⟩ : ∃ m1, m = m1 + 1 := ⟨m - 1, by omega⟩
      have hidx : ((m : Int) - 1) = (m1 : Int) := by omega
      have htopc := hcell' m1 (by omega)
      have htop0 : 0 < dg y m1 := by
        have := cy.2 (by omega)
        rw [hm, show m - 1 = m1 from by omega] at this; omega
      have htopb := cy.1 m1
      have hne1 : ((m : Int) == 1) = false := by rw [beq_eq_false_iff_ne]; omega
      have HN := Lib.hid hn
      have HM := Lib.hid hm
      have HM1 := Lib.hid hm1'
      clear hn hm hm1' hcell'
      go_enter Tryz.func114, Tryz.ntmps114
      go_wp2_with fail
      refine HC.out.mono ?_
      rintro e w' ⟨rfl, q, rfl⟩
      go_wp2_with fail
      refine (lz_any (dg y m1) _ htop0 htopb).mono ?_
      rintro e w' ⟨s, rfl, hs, hsb, rfl⟩
      go_wp2_with fail
      refine (shl_any A n c s x _ (hx.drewN q) HN.out cx.1 hs (by omega)).mono ?_
      rintro e w1 ⟨gu, ou, rfl, hou, hlu, hdu, hvu, hgu, hb1⟩
      have hgu' : w.heap.size ≤ gu := hgu
      have hb1' : Below w.heap.size w w1 := ((Below.refl w.heap.size w).drewN q).trans hb1
      have HLU := Lib.hid hlu
      have HVU := Lib.hid hvu
      clear hlu hvu hgu hb1
      go_wp2_with fail
      refine (shl_any (some ⟨b', off', none⟩) m c' s y w1 (hy.below hb1') HM.out cy.1 hs (by omega)).mono ?_
      rintro e w2 ⟨gv, ov, rfl, hov, hlv, hdv, hvv, hgv, hb2⟩
      have hb2' : Below w.heap.size w w2 := hb1'.trans (hb2.mono hb1'.size)
      have hou2 := hou.below hb2 hou.lt
      have hvlt : val ov < pw m := by
        rw [hvv]
        have e1 : val y = vs y m1 + dg y m1 * pw m1 := by unfold val; rw [HM.out, HM1.out]; rfl
        have e2 : vs y m1 < pw m1 := vs_lt fun j _ => cy.1 j
        have e3 : (dg y m1 * 2 ^ s + 2 ^ s) * pw m1 ≤ 4294967296 * pw m1 := by
          refine Nat.mul_le_mul_right _ ?_
          have := pow32 hs
          have h4 : (dg y m1 + 1) * 2 ^ s ≤ 4294967296 := by
            rw [← this] at hsb ⊢
            have h5 : dg y m1 < 2 ^ (32 - s) := by
              refine Nat.lt_of_mul_lt_mul_right (a := 2 ^ s) ?_
              rw [Nat.mul_comm (2 ^ (32 - s))]; exact hsb
            rw [Nat.mul_comm (2 ^ s)]; exact Nat.mul_le_mul_right _ h5
          rw [Nat.add_mul, Nat.one_mul] at h4; exact h4
        rw [e1, HM1.out]
        simp only [pw]
        have e4 : (vs y m1 + dg y m1 * pw m1) * 2 ^ s < (dg y m1 * 2 ^ s + 2 ^ s) * pw m1 := by
          have h1 : (vs y m1 + dg y m1 * pw m1) * 2 ^ s < (pw m1 + dg y m1 * pw m1) * 2 ^ s := Nat.mul_lt_mul_of_pos_right (by omega) (Nat.two_pow_pos s)
          have h2 : (pw m1 + dg y m1 * pw m1) * 2 ^ s = (dg y m1 * 2 ^ s + 2 ^ s) * pw m1 := by
            rw [Nat.add_mul, Nat.add_mul, Nat.mul_comm (pw m1), Nat.mul_right_comm, Nat.add_comm]
          omega
        omega
      have htl : trimLen ov = m := by
        refine trimLen_eq (fun j hj => ?_) (fun _ => ?_)
        · rcases Nat.eq_zero_or_pos (dg ov j) with h | h
          · exact h
          · have h1 : vs ov (j + 1) = vs ov j + dg ov j * pw j := rfl
            have h2 : 1 * pw j ≤ dg ov j * pw j := Nat.mul_le_mul_right _ h
            have h3 : vs ov (j + 1) ≤ val ov := by
              rcases Nat.lt_or_ge ov.length (j + 1) with h4 | h4
              · rw [vs_len (by omega)]; exact Nat.le_refl _
              · exact vs_mono h4
            have := pw_mono hj
            omega
        · intro h
          have h1 : vs ov m < pw m1 := by
            have e : vs ov m = vs ov m1 + dg ov (m - 1) * pw m1 := by
              rw [show m - 1 = m1 from by have := HM1.out; omega]
              conv => lhs; rw [HM1.out]
              rfl
            rw [e, h, Nat.zero_mul, Nat.add_zero]
            exact vs_lt fun j _ => hdv j
          have h2 : val ov = vs ov m := by
            have hz : dg ov m = 0 := by
              rcases Nat.eq_zero_or_pos (dg ov m) with h3 | h3
              · exact h3
              · have h4 : val ov = vs ov m + dg ov m * pw m := by unfold val; rw [hlv]; rfl
                have h5 : 1 * pw m ≤ dg ov m * pw m := Nat.mul_le_mul_right _ h3
                omega
            unfold val; rw [hlv]; simp only [vs]; rw [hz]; omega
          have h3 : pw m1 ≤ val y := by
            have := cy.pw_le (by rw [HM.out]; omega)
            rwa [HM.out, show m - 1 = m1 from by have := HM1.out; omega] at this
          have h4 : val y * 1 ≤ val y * 2 ^ s := Nat.mul_le_mul_left _ (Nat.two_pow_pos s)
          omega
      have HTL := Lib.hid htl
      have HVV := Lib.hid hvv
      have HLV := Lib.hid hlv
      clear hlv hvv htl
      go_wp2_with fail
      refine (norm_any _ _ _ ov _ hov.words HLV.out (Nat.le_refl _) (by omega)).mono ?_
      rw [HTL.out]
      rintro e w' ⟨rfl, rfl⟩
      obtain ⟨N, hN⟩ : ∃ N, n + 1 = N + m := ⟨n + 1 - m, by omega⟩
      have hNi : ((n : Int) + 1 - (m : Int)) = (N : Int) := by omega
      have hNb : N ≤ 549755813889 := by omega
      have hmk := make_nat N (by omega)
      have HNN := Lib.hid hN
      obtain ⟨v, hv⟩ : ∃ v, v = ov.take m := ⟨_, rfl⟩
      have hvl : v.length = m := by rw [hv, List.length_take, HLV.out]; omega
      have hvtrim : v = trim ov := by rw [hv, trim, HTL.out]
      have hvv : val v = val y * 2 ^ s := by rw [hvtrim, val_trim]; exact HVV.out
      have hcv : Canon v := by rw [hvtrim]; exact canon_trim hdv
      have hvin : WordsIn w2 gv 0 v := ⟨hov.lt, fun j hj => by
        rw [Nat.zero_add, hv, dg_take, if_pos (by omega)]; exact hov.cell (by have := HLV.out; omega)⟩
      have hvltm : val v < pw m := by rw [← hvl]; exact hcv.1.val_lt
      have hv0 : 0 < val v := by rw [hvv]; exact Nat.mul_pos (by omega) (Nat.two_pow_pos s)
      have hguv : gu < gv := Nat.lt_of_lt_of_le hou.lt hgv
      have hgv2 : gv < w2.heap.size := hov.lt
      have HVL := Lib.hid hvl
      have HVV2 := Lib.hid hvv
      clear hN hv hvl hvtrim hvv
      have hU0 : val x * 2 ^ s < pw N * val v := by
        rw [HVV2.out]
        have h1 : val x < pw n := by rw [← HN.out]; exact cx.1.val_lt
        have h2 : pw m1 ≤ val y := by
          have := cy.pw_le (by rw [HM.out]; omega)
          rwa [HM.out, show m - 1 = m1 from by have := HM1.out; omega] at this
        have h3 : pw n = pw N * pw m1 := by rw [← pw_add]; congr 1; have := HNN.out; have := HM1.out; omega
        have h4 : pw N * pw m1 ≤ pw N * val y := Nat.mul_le_mul_left _ h2
        rw [← Nat.mul_assoc]
        exact Nat.mul_lt_mul_of_pos_right (by omega) (Nat.two_pow_pos s)
      have HU0 := Lib.hid hU0
      clear hU0
      go_wp2_with fail
      go_loopw [56] (fun iv wr => DivRel gu gv w2.heap.size N m n v (val x * 2 ^ s) w iv wr) (fun i _ => N - (intOf i).toNat)
      case atStart =>
        refine ⟨0, List.replicate N 0, ou, Nat.zero_le _, rfl, Own.made w2 110 N, by simp, Ds.zeros _, hou2.alloc _, HLU.out, hdu, fun j hj => dg_ge (by have := HLU.out; have := HNN.out; omega), ?_, ?_, ?_, hb2'.alloc hb2'.size _⟩
        · rw [show vs ou (n + 1) = val ou from by rw [← HLU.out]; rfl, HVU.out]; simp [hi]
        · rw [show vs ou (n + 1) = val ou from by rw [← HLU.out]; rfl, HVU.out]; exact HU0.out
        · exact hvin.only (g := w2.heap.size) (Only.of_below ((Below.refl _ _).alloc (Nat.le_refl _) _)) (by omega)
      case round =>
        obtain ⟨i, oq, ou, hi', rfl, hoq, hlq, hdq, hou, hlu, hdu, hz, hsum, hlow, hvin, hb⟩ := hrel
        clear hmk hov hou2 hx hy htopc HU0
        by_cases hlt3 : i < N
        · obtain ⟨k, hk⟩ : ∃ k, N = i + k + 1 := ⟨N - i - 1, by omega⟩
          have hidx : ((N : Int) - 1 - (i : Int)) = (k : Int) := by omega
          have hNi2 : N - i = k + 1 := by omega
          rw [hNi2] at hz hsum hlow
          have hkn : k + (m + 1) ≤ n + 1 := by have := HNN.out; omega
          have hkN : k < N := by omega
          have hwsp := win_split ou k (m + 1)
          have hPl : (ou.take k).length = k := by rw [List.length_take]; omega
          have hWl : ((ou.drop k).take (m + 1)).length = m + 1 := by rw [List.length_take, List.length_drop]; omega
          obtain ⟨m2, hm2'⟩ : ∃ m2, m = m2 + 2 := ⟨m - 2, by omega⟩
          have hdW : Ds ((ou.drop k).take (m + 1)) := by
            refine Ds.take (fun j => ?_) _
            have := hdu (k + j)
            simpa [dg, List.getElem?_drop] using this
          have hv0' : 0 < dg v (m2 + 1) := by
            have := hcv.2 (by rw [HVL.out]; omega)
            rw [HVL.out, show m - 1 = m2 + 1 from by omega] at this; omega
          have hvval : vs v m = val v := by rw [← HVL.out]; rfl
          have hltw : vs ((ou.drop k).take (m + 1)) (m + 1) < 4294967296 * vs v m := by
            rw [hvval]; exact win_lt hlu hkn (fun j hj => hz j (by omega)) hlow
          have hred := reduce_any gu k m m2 gv 0 (n + 1 - k) m _ _ ((ou.drop k).drop (m + 1)) v wr (by rw [← hwsp]; exact hou) hPl hWl HVL.out hm2' hvin (by omega) hdW hcv.1 hv0' hltw (by omega)
          have HRED := Lib.hid hred
          have hcq := hoq.cell (i := k) (by omega)
          have hfq := hoq.frozen k
          have H1 := Lib.hid hk
          have H2 := Lib.hid hm2'
          have H3 := Lib.hid hwsp
          have H4 := Lib.hid hPl
          have H5 := Lib.hid hWl
          have H6 := Lib.hid hvval
          have H7 := Lib.hid hsum
          have H8 := Lib.hid hlq
          have H9 := Lib.hid hlu
          have H10 := Lib.hid hNi2
          have HZ := Lib.hid hz
          clear hred hk hm2' hwsp hPl hWl hvval hsum hlq hlu hNi2 hz hlow
          go_wp2_with fail
          rw [show k + m + 1 - k = m + 1 from by omega]
          refine HRED.out.mono ?_
          rintro e w3 ⟨rfl, W', hlW', hdW', hown3, hvs3, honly3⟩
          have hgq : Own w3 110 w2.heap.size oq := hoq.only honly3 (by omega)
          have hcq3 := hgq.cell (i := k) (by rw [H8.out]; omega)
          have hfq3 := hgq.frozen k
          obtain ⟨qd, hqd⟩ : ∃ qd, vs ((ou.drop k).take (m + 1)) (m + 1) / vs v m = qd := ⟨_, rfl⟩
          rw [hqd]
          have hstep := div_step (P := ou.take k) (W := (ou.drop k).take (m + 1)) (W' := W') (R := (ou.drop k).drop (m + 1)) (oq := oq) (N := N) (i := i) (k := k) (m := m) (n := n) (V := val v) (U := val x * 2 ^ s) (q := qd)
            H1.out H4.out H5.out hlW' (by rw [← H3.out]; exact H9.out) (by rw [← H3.out]; exact fun j hj => HZ.out j (by omega)) (by rw [← H3.out]; exact H7.out) H8.out (by rw [← H3.out]; exact hdu) hdW' hvltm
            (by rw [← H6.out]; exact hqd.symm) (by rw [← H6.out]; exact hvs3) hv0
          have hqb : qd < 4294967296 := by
            rw [← hqd]
            exact Nat.div_lt_of_lt_mul (by rw [Nat.mul_comm]; exact hltw)
          have hdP3 : Ds (ou.take k ++ (W' ++ (ou.drop k).drop (m + 1))) := by
            refine Ds.of_all fun j hj => ?_
            by_cases hj1 : j < k
            · rw [dg_append_left (by rw [H4.out]; exact hj1), dg_take, if_pos hj1]; exact hdu j
            · by_cases hj2 : j < k + (m + 1)
              · have := dg_win (P := ou.take k) (W := W') (R := (ou.drop k).drop (m + 1)) (i := j - k) (by omega)
                rw [H4.out, show k + (j - k) = j from by omega] at this
                rw [this]; exact hdW' _
              · rw [hstep.2.2 j (by omega)]; omega
          have hl3 : (ou.take k ++ (W' ++ (ou.drop k).drop (m + 1))).length = n + 1 := by
            have e1 := congrArg List.length H3.out
            rw [H9.out] at e1
            simp only [List.length_append, H4.out, H5.out, hlW'] at e1 ⊢
            omega
          have HST := Lib.hid hstep
          have HL3 := Lib.hid hl3
          clear hstep hqd hl3 hvs3 hltw hlW' HRED
          go_wp2_with fail
          go_roundw
          case rel =>
            have e : N - (i + 1) = k := by have := H1.out; omega
            refine ⟨i + 1, oq.set k qd, _, by omega, by go_num, hgq.set k qd, by rw [List.length_set]; exact H8.out, hdq.set hqb, hown3.far (by show gu ≠ w2.heap.size; omega) _, HL3.out, hdP3, ?_, ?_, ?_, ?_, ?_⟩
            · rw [e]; exact HST.out.2.2
            · rw [e]; exact HST.out.1
            · rw [e]; exact HST.out.2.1
            · exact (hvin.only honly3 (by omega)).only (g := w2.heap.size) ((Only.refl w2.heap.size w3).setCell (p := ⟨w2.heap.size, k, none⟩) rfl _) (by omega)
            · exact (hb.trans (honly3.below hgu' hb.size)).setCell (p := ⟨w2.heap.size, k, none⟩) (by have := hb2'.size; exact this) _
          case measure => simp [intOf]; omega
        · have hiN : i = N := by omega
          subst hiN
          rw [Nat.sub_self] at hz hsum hlow
          have hlow' : vs ou (n + 1) < val y * 2 ^ s := by rw [← HVV2.out]; simpa [pw] using hlow
          have hsum' : hi oq i i * (val y * 2 ^ s) + vs ou (n + 1) = val x * 2 ^ s := by rw [← HVV2.out]; simpa [pw] using hsum
          obtain ⟨hq, hr⟩ := div_scale (Nat.two_pow_pos s) (by omega) hsum' hlow'
          have HQ : Hid (val oq = val x / val y) := by
            show val oq = val x / val y
            rw [← hq, hi_all, ← hlq]; rfl
          have HR : Hid (val ou / 2 ^ s = val x % val y) := by
            show val ou / 2 ^ s = val x % val y
            rw [← hr, ← hlu]; rfl
          have HLQ := Lib.hid hlq
          have HLU2 := Lib.hid hlu
          clear hz hsum hlow hsum' hlow' hq hr hlq hlu
          go_wp2_with fail
          refine (norm_any _ _ _ oq _ hoq.words HLQ.out (Nat.le_refl _) (by omega)).mono ?_
          rintro e w' ⟨rfl, rfl⟩
          go_wp2_with fail
          refine (norm_any _ _ _ ou _ hou.words HLU2.out (Nat.le_refl _) (by omega)).mono ?_
          rintro e w' ⟨rfl, rfl⟩
          go_wp2_with fail
          refine (shr_any _ _ _ s (trim ou) _ (hou.words.take _) (trim_length ou) (canon_trim hdu).1 hs (by have := trimLen_le ou; have := HLU2.out; omega)).mono ?_
          rintro e w4 ⟨vr, rfl, hvr, hb4⟩
          go_wp2_with fail
          go_ret2
          refine ⟨_, _, rfl, ?_, ?_, hb.trans (hb4.mono hb.size)⟩
          · rw [← HQ.out]; exact (NatV.of_trim hoq hdq (by rw [HLQ.out]; omega)).below hb4
          · rw [← HR.out, ← val_trim ou]; exact hvr

end Go.Proofs.YtmkhfgggleplfaaGreat
