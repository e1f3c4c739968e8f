/-
  The walk of cmp on words. Conditions: canonical words, lengths below 2^40.
-/
import Derived.Test.YtmkhfgggleplfaaNatB
namespace Go.Proofs.Ytmkhfgggleplfaa
set_option linter.unusedSimpArgs false
set_option linter.unusedVariables false
open Go.RowKit



theorem canon_lt_len {x y : List Nat} (cx : Canon x) (cy : Canon y) (h : x.length < y.length) : val x < val y := by
  have h1 := cx.1.val_lt
  have h2 := cy.pw_le (by omega)
  have h3 := pw_mono (show x.length ≤ y.length - 1 by omega)
  omega
/-- the digits above i agree, and at i the first is less -/
theorem vs_lt_of {x y : List Nat} {n i : Nat} (hx : Ds x) (hi : i < n) (he : ∀ j, i < j → j < n → dg x j = dg y j) (h : dg x i < dg y i) : vs x n < vs y n := by
  have base : vs x (i + 1) < vs y (i + 1) := by
    simp only [vs]
    have h1 : vs x i < pw i := vs_lt fun j _ => hx j
    have h2 : (dg x i + 1) * pw i ≤ dg y i * pw i := Nat.mul_le_mul_right _ h
    rw [Nat.add_mul] at h2
    omega
  have up : ∀ m, i + 1 + m ≤ n → vs x (i + 1 + m) < vs y (i + 1 + m) := by
    intro m
    induction m with
    | zero => intro _; exact base
    | succ m ih =>
      intro hm
      have := ih (by omega)
      rw [← Nat.add_assoc]
      simp only [vs]
      rw [he (i + 1 + m) (by omega) (by omega)]
      omega
  have := up (n - (i + 1)) (by omega)
  rwa [show i + 1 + (n - (i + 1)) = n from by omega] at this

set_option maxHeartbeats 1000000 in
set_option maxRecDepth 100000 in
theorem natcmp_any (A A' : Option Addr) (n m c c' : Nat) (x y : List Nat) (w : World) (hx : WordsAt w A x) (hy : WordsAt w A' y) (hn : x.length = n) (hm : y.length = m) (cx : Canon x) (cy : Canon y)
    (lx : n ≤ 1099511627776) (ly : m ≤ 1099511627776) :
    Calls Try.prog 97 #[.slice A n c, .slice A' m c'] w fun e w' => e = .returned (.int .i64 (cmpI (val x) (val y))) ∧ Same w w' := by
  have hN := Lib.hid hn
  have hM := Lib.hid hm
  clear hn hm
  by_cases hnm : n = m
  · subst hnm
    have hne : ((n : Int) != (n : Int)) = false := by simp
    go_enter Try.func97, Try.ntmps97
    go_wp2_with fail
    go_loopw [19] (fun i wr => ∃ k : Nat, k ≤ n ∧ i = .int .i64 k ∧ (∀ j, n - k ≤ j → j < n → dg x j = dg y j) ∧ Same w wr) (fun i _ => n - (intOf i).toNat)
    case atStart => exact ⟨0, Nat.zero_le _, rfl, fun j h1 h2 => by omega, Same.refl _⟩
    case round =>
      obtain ⟨k, hk, rfl, he, hs⟩ := hrel
      have hxr := hx.below hs.below
      have hyr := hy.below hs.below
      clear hx hy
      have HE := Lib.hid he
      clear he
      by_cases hlt : k < n
      · obtain ⟨j, hj⟩ : ∃ j, n = k + j + 1 := ⟨n - k - 1, by omega⟩
        have hidx : ((n : Int) - 1 - (k : Int)) = (j : Int) := by omega
        have hjn : j < n := by omega
        have HJ := Lib.hid hj
        clear hj
        obtain ⟨b, off, rfl, hbb, hcell⟩ := hxr (by rw [hN.out]; omega)
        have hcx := hcell j (by rw [hN.out]; omega)
        obtain ⟨b', off', rfl, hbb', hcell'⟩ := hyr (by rw [hM.out]; omega)
        have hcy := hcell' j (by rw [hM.out]; omega)
        clear hcell hcell'
        by_cases heq : dg x j = dg y j
        · have heq' : ((dg x j : Int) != (dg y j : Int)) = false := by rw [heq]; simp
          have hnext : Hid (∀ i, n - (k + 1) ≤ i → i < n → dg x i = dg y i) := fun i h1 h2 => by
            by_cases hij : i = j
            · rw [hij]; exact heq
            · exact HE.out i (by have := HJ.out; omega) h2
          clear heq
          go_wp2_with fail
          go_quiet (fail)
          go_wp2
          go_roundw
          case rel => exact ⟨k + 1, by omega, by go_num, hnext.out, hs.drewN _⟩
          case measure => simp [intOf]; omega
        · have heq' : ((dg x j : Int) != (dg y j : Int)) = true := by rw [bne_iff_ne]; omega
          have hfin : Hid (cmpI (dg x j) (dg y j) = cmpI (val x) (val y)) := by
            show cmpI (dg x j) (dg y j) = cmpI (val x) (val y)
            have ex : val x = vs x n := by rw [← hN.out]; rfl
            have ey : val y = vs y n := by rw [← hM.out]; rfl
            have hup : ∀ i, j < i → i < n → dg x i = dg y i := fun i h1 h2 => HE.out i (by have := HJ.out; omega) h2
            rcases Nat.lt_or_gt_of_ne heq with h | h
            · have := vs_lt_of cx.1 hjn hup h
              rw [cmpI_lt (by omega), cmpI_lt (by omega)]
            · have := vs_lt_of cy.1 hjn (fun i h1 h2 => (hup i h1 h2).symm) h
              rw [cmpI_gt (by omega), cmpI_gt (by omega)]
          clear heq
          go_wp2_with fail
          go_quiet (fail)
          go_wp2_with fail
          go_quiet ((go_at_call 106; exact quiet2 (cmp_u32 _ _ _)))
          go_wp2
          go_ret
          exact ⟨ret_i64 hfin.out, (hs.drewN _).drewN _⟩
      · have hk' : k = n := by omega
        subst hk'
        have hfin : Hid (cmpI (val x) (val y) = 0) := by
          have ex : val x = vs x k := by rw [← hN.out]; rfl
          have ey : val y = vs y k := by rw [← hM.out]; rfl
          exact cmpI_eq (by rw [ex, ey, vs_congr fun j hj => HE.out j (by omega) hj])
        go_wp2
        go_ret
        exact ⟨ret_i64 hfin.out.symm, hs⟩
  · have hne : ((n : Int) != (m : Int)) = true := by rw [bne_iff_ne]; omega
    have hfin : Hid (cmpI (n : Int) (m : Int) = cmpI (val x) (val y)) := by
      show cmpI (n : Int) (m : Int) = cmpI (val x) (val y)
      rcases Nat.lt_or_gt_of_ne hnm with h | h
      · have := canon_lt_len cx cy (by rw [hN.out, hM.out]; exact h)
        rw [cmpI_lt (by omega), cmpI_lt (by omega)]
      · have := canon_lt_len cy cx (by rw [hN.out, hM.out]; exact h)
        rw [cmpI_gt (by omega), cmpI_gt (by omega)]
    go_enter Try.func97, Try.ntmps97
    go_wp2_with ((go_at_call 51; refine (cmp_int _ _ _).mono ?_; rintro e w' ⟨rfl, rfl⟩))
    go_ret
    exact ⟨ret_i64 hfin.out, Same.refl _⟩

end Go.Proofs.Ytmkhfgggleplfaa
