/-
  The walk of the reference's division of words: divided. Conditions: canonical words, lengths below 2^39, the divisor not 0.
-/
import Derived.Test.YtmkhfgggleplfaaGreatRnF
namespace Go.Proofs.YtmkhfgggleplfaaGreat
set_option linter.unusedSimpArgs false
set_option linter.unusedVariables false
open Go.RowKit

set_option maxHeartbeats 4000000 in
set_option maxRecDepth 100000 in
theorem rdivided_any (A A' : Option Addr) (n m c c' : Nat) (x y : List Nat) (w : World) (hx : WordsAt w A x) (hy : WordsAt w A' y) (hn : x.length = n) (hm : y.length = m) (cx : Canon x) (cy : Canon y)
    (hcap : n ≤ c) (hcap' : c ≤ 9223372036854775807) (lx : n ≤ 549755813888) (ly : m ≤ 549755813888) (hm0 : m ≠ 0) :
    Calls Tryz.prog 137 #[.slice A n c, .slice A' m c'] w fun e w' => ∃ vq vr, e = .returned (.tuple #[vq, vr]) ∧ NatV w' vq (val x / val y) ∧ NatV w' vr (val x % val y) ∧ Below w.heap.size w w' := by
  have hy0 : val y ≠ 0 := by rw [Ne, cy.zero_iff, hm]; exact hm0
  have hcmp := rcompared_any A A' n m c c' x y w hx hy hn hm cx cy (by omega) (by omega)
  have HC := Lib.hid hcmp
  clear hcmp
  by_cases hlt : val x < val y
  · have hk := cmpI_lt (a := (val x : Int)) (b := (val y : Int)) (by omega)
    have HN := Lib.hid hn
    have hq : Hid (val x / val y = 0) := Nat.div_eq_of_lt hlt
    have hr : Hid (val x % val y = val x) := Nat.mod_eq_of_lt hlt
    have h1 : ((-1 : Int) < 0) := by omega
    clear hn hm
    go_enter Tryz.func137, Tryz.ntmps137
    go_wp2_with (go_at_call 133; refine HC.out.mono ?_; rintro e w' ⟨rfl, q, rfl⟩)
    go_ret2
    refine ⟨_, _, rfl, ?_, ?_, ⟨rfl, rfl, rfl, Nat.le_refl _, fun _ _ => rfl⟩⟩
    · rw [hq.out]; exact ⟨none, 0, [], rfl, Nat.le_refl _, by omega, WordsAt.nil, canon_nil, rfl⟩
    · rw [hr.out]; exact ⟨A, c, x, by rw [HN.out]; rfl, by rw [HN.out]; exact hcap, hcap', hx, cx, rfl⟩
  · have hge : val y ≤ val x := by omega
    have hcmp0 : ¬ cmpI (val x) (val y) < 0 := by
      unfold cmpI; rw [if_neg (by omega)]; split <;> omega
    by_cases hm1 : m = 1
    · subst hm1
      obtain ⟨b', off', rfl, hbb', hcell'⟩ := hy (by omega)
      have hc0 := hcell' 0 (by omega)
      rw [Nat.add_zero] at hc0
      have hyv : val y = dg y 0 := by
        unfold val; rw [hm]; simp [vs, pw]
      have hd := cy.1 0
      have hd0 : 0 < dg y 0 := by omega
      have HY : Hid (val y = dg y 0) := hyv
      have HW : Hid (∀ q, Calls Tryz.prog 141 #[.slice A n c, .int .u64 (dg y 0 : Int)] (w.drewN q) fun e w' => ∃ v, e = .returned (.tuple #[v, .int .u64 ((val x % dg y 0 : Nat) : Int)]) ∧ NatV w' v (val x / dg y 0) ∧ Below (w.drewN q).heap.size (w.drewN q) w') :=
        fun q => rshortly_any A n c (dg y 0) x (w.drewN q) (hx.drewN q) hn cx.1 hd0 hd (by omega)
      obtain ⟨r, hr⟩ : ∃ r, val x % dg y 0 = r := ⟨_, rfl⟩
      rw [hr] at HW
      have hrb : r < 4294967296 := by rw [← hr]; exact Nat.lt_trans (Nat.mod_lt _ hd0) hd
      have HR : Hid (val x % dg y 0 = r) := hr
      clear hyv hr hcell' hn hm
      go_enter Tryz.func137, Tryz.ntmps137
      go_wp2_with fail
      refine HC.out.mono ?_
      rintro e w' ⟨rfl, q, rfl⟩
      go_wp2_with fail
      refine (HW.out q).mono ?_
      rintro e w1 ⟨vq, rfl, hvq, hb1⟩
      go_wp2_with fail
      refine (rwords_any r _ (by omega)).mono ?_
      rintro e w2 ⟨vr, rfl, hvr, hb2⟩
      go_wp2_with fail
      go_ret2
      have hbelow : Below w.heap.size w w2 := (((Below.refl w.heap.size w).drewN q).trans hb1).trans (hb2.mono hb1.size)
      refine ⟨_, _, rfl, ?_, ?_, hbelow⟩
      · rw [HY.out]; exact hvq.below hb2
      · rw [HY.out, HR.out]; exact hvr
    · -- the general case
      have hn' : m ≤ n := by
        rcases Nat.lt_or_ge n m with h | h
        · have := canon_lt_len cx cy (by omega); omega
        · exact h
      have hm2 : 2 ≤ m := by omega
      obtain ⟨b', off', rfl, hbb', hcell'⟩ := hy (by omega)
      obtain ⟨m1, hm1'⟩ : ∃ m1, m = m1 + 1 := ⟨m - 1, by omega⟩
      have hidx : ((m : Int) - 1) = (m1 : Int) := by omega
      have htopc := hcell' m1 (by omega)
      have htop0 : 0 < dg y m1 := by
        have := cy.2 (by omega)
        rw [hm, show m - 1 = m1 from by omega] at this; omega
      have htopb := cy.1 m1
      have hne1 : ((m : Int) == 1) = false := by rw [beq_eq_false_iff_ne]; omega
      obtain ⟨D, hD⟩ : ∃ D, D = 4294967296 / (dg y m1 + 1) := ⟨_, rfl⟩
      have hDi : (4294967296 : Int) / ((dg y m1 : Int) + 1) = (D : Int) := by
        rw [hD, Int.natCast_ediv]; rfl
      have hD1 : (dg y m1 + 1) * D ≤ 4294967296 := by rw [hD]; exact Nat.mul_div_le _ _
      have hD0 : 0 < D := by rw [hD]; exact Nat.div_pos (by omega) (by omega)
      have hDb : D < 4294967296 := by
        have : 2 * D ≤ (dg y m1 + 1) * D := Nat.mul_le_mul_right _ (by omega)
        omega
      have hvb : Hid (val y * D < pw m) := by
        show val y * D < pw m
        have e1 : val y = vs y m1 + dg y m1 * pw m1 := by unfold val; rw [hm, hm1']; rfl
        have e2 : vs y m1 < pw m1 := vs_lt fun j _ => cy.1 j
        have e3 : val y < (dg y m1 + 1) * pw m1 := by rw [Nat.add_mul]; omega
        have e4 : val y * D < (dg y m1 + 1) * pw m1 * D := Nat.mul_lt_mul_of_pos_right e3 hD0
        have e5 : (dg y m1 + 1) * pw m1 * D = (dg y m1 + 1) * D * pw m1 := Nat.mul_right_comm _ _ _
        have e6 : (dg y m1 + 1) * D * pw m1 ≤ 4294967296 * pw m1 := Nat.mul_le_mul_right _ hD1
        rw [hm1']; simp only [pw]; omega
      have HDD := Lib.hid hD1
      have HN := Lib.hid hn
      have HM := Lib.hid hm
      have HM1 := Lib.hid hm1'
      have hxy : Hid (val y ≤ val x) := hge
      have hy0' : Hid (val y ≠ 0) := hy0
      have hpwm1 : Hid (pw m1 ≤ val y) := by
        have := cy.pw_le (by omega)
        show pw m1 ≤ val y
        rwa [hm, show m - 1 = m1 from by omega] at this
      clear hn hm hm1' hcell' hD hD1 hge hy0 hlt
      go_enter Tryz.func137, Tryz.ntmps137
      go_wp2_with fail
      refine HC.out.mono ?_
      rintro e w' ⟨rfl, q, rfl⟩
      have hbq : Below w.heap.size w (w.drewN q) := (Below.refl w.heap.size w).drewN q
      go_wp2_with fail
      refine (rwords_any D _ (by omega)).mono ?_
      rintro e w1 ⟨vd, rfl, hvd, hb1⟩
      obtain ⟨Ad, cd, ld, rfl, hld, hcd, hwd, cdn, hvald⟩ := hvd
      have hld2 : ld.length ≤ 2 := cdn.len_le (by rw [hvald]; simp only [pw]; omega)
      have hb1' : Below w.heap.size w w1 := hbq.trans hb1
      have HVD := Lib.hid hvald
      clear hvald hb1
      obtain ⟨kd, hkd⟩ : ∃ k, ld.length = k := ⟨_, rfl⟩
      rw [hkd]
      rw [hkd] at hld hld2
      have HKD := Lib.hid hkd
      clear hkd
      go_wp2_with fail
      refine (rtimes_any (some ⟨b', off', none⟩) Ad m kd c' cd y ld w1 (hy.below hb1') hwd HM.out HKD.out cy.1 cdn.1 (by omega) (by omega)).mono ?_
      rintro e w2 ⟨vv, rfl, hvv, hb2⟩
      rw [HVD.out] at hvv
      obtain ⟨Av, cv, v, rfl, hlv, hcv, hwv, cvn, hvalv⟩ := hvv
      have hb2' : Below w.heap.size w w2 := hb1'.trans (hb2.mono hb1'.size)
      have hvl : v.length = m := by
        have h1 : v.length ≤ m := cvn.len_le (by rw [hvalv]; exact hvb.out)
        have h2 : pw m1 ≤ val v := by
          rw [hvalv]
          have := Nat.mul_le_mul_left (val y) hD0
          have := hpwm1.out
          omega
        have h3 : pw m1 < pw v.length := Nat.lt_of_le_of_lt h2 cvn.1.val_lt
        have := pw_lt h3
        have := HM1.out
        omega
      rw [hvl] at hlv
      rw [hvl]
      obtain ⟨gv, offv, rfl, hgv, hcellv⟩ := hwv (by omega)
      have hvin : WordsIn w2 gv offv v := ⟨hgv, hcellv⟩
      have HVL := Lib.hid hvl
      have HVV := Lib.hid hvalv
      have hb2s := hb2'.size
      clear hcellv hvl hvalv hwv hwd hb2 hb1' hld hcd HKD HVD
      have hmk1 := make_u32s1 n (by omega)
      go_wp2_with fail
      obtain ⟨w3, hw3⟩ : ∃ w3, w3 = w2.alloc (.cells (madeCells #[Value.int .u32 0] (n + 1)) 110) := ⟨_, rfl⟩
      have hou : Own w3 110 w2.heap.size (List.replicate (n + 1) 0) := by rw [hw3]; exact Own.made w2 _ (n + 1)
      have hb3 : Below w2.heap.size w2 w3 := by rw [hw3]; exact (Below.refl _ _).alloc (Nat.le_refl _) _
      have hs3 : w3.heap.size = w2.heap.size + 1 := by rw [hw3]; simp
      have HS3 := Lib.hid hs3
      have hs3' : w2.heap.size < w3.heap.size := by omega
      rw [← hw3]
      clear hw3 hs3
      refine (rwords_any D _ (by omega)).mono ?_
      rintro e w4 ⟨vd, rfl, hvd, hb4⟩
      obtain ⟨Ad2, cd2, ld2, rfl, hld2', hcd2, hwd2, cdn2, hvald2⟩ := hvd
      have hld3 : ld2.length ≤ 2 := cdn2.len_le (by rw [hvald2]; simp only [pw]; omega)
      have HVD2 := Lib.hid hvald2
      clear hvald2
      obtain ⟨kd2, hkd⟩ : ∃ k, ld2.length = k := ⟨_, rfl⟩
      rw [hkd]
      rw [hkd] at hld2' hld3
      have HKD2 := Lib.hid hkd
      clear hkd
      have hb4' : Below w.heap.size w w4 := (hb2'.trans (hb3.mono hb2s)).trans (hb4.mono (by omega))
      go_wp2_with fail
      refine (rtimes_any A Ad2 n kd2 c cd2 x ld2 w4 (hx.below hb4') hwd2 HN.out HKD2.out cx.1 cdn2.1 (by omega) (by omega)).mono ?_
      rintro e w5 ⟨vx, rfl, hvx, hb5⟩
      rw [HVD2.out] at hvx
      obtain ⟨Ax, cxx, lx', rfl, hlx, hcx, hwx, cxn, hvalx⟩ := hvx
      have hb5' : Below w.heap.size w w5 := hb4'.trans (hb5.mono hb4'.size)
      have hlx1 : lx'.length ≤ n + 1 := cxn.len_le (by
        rw [hvalx]
        have h1 : val x < pw n := by rw [← HN.out]; exact cx.1.val_lt
        have h2 : val x * D < pw n * D := Nat.mul_lt_mul_of_pos_right h1 hD0
        have h3 : pw n * D ≤ pw n * 4294967296 := Nat.mul_le_mul_left _ (by omega)
        simp only [pw]; omega)
      have hs45 : w4.heap.size ≤ w5.heap.size := hb5.size
      have hs34 : w3.heap.size ≤ w4.heap.size := hb4.size
      have hou5 : Own w5 110 w2.heap.size (List.replicate (n + 1) 0) := (hou.below hb4 (by omega)).below hb5 (by omega)
      have hvin5 : WordsIn w5 gv offv v := by
        refine ⟨by omega, fun j hj => ?_⟩
        exact (hb5.cell (p := ⟨gv, offv + j, none⟩) (show gv < w4.heap.size by omega)).trans ((hb4.cell (p := ⟨gv, offv + j, none⟩) (show gv < w3.heap.size by omega)).trans ((hb3.cell (p := ⟨gv, offv + j, none⟩) hgv).trans (hvin.2 j hj)))
      have HVX := Lib.hid hvalx
      clear hvalx hvin hou hwd2 hld2' hcd2 hb4 hb5 HKD2 HVD2 hb4'
      have hou6 : w5.heap[w2.heap.size]? = some (.cells (wcells (List.replicate (n + 1) 0)).toArray 110 (0, 0)) := hou5
      obtain ⟨kx, hkx⟩ : ∃ k, lx'.length = k := ⟨_, rfl⟩
      rw [hkx]
      rw [hkx] at hlx hlx1
      have HKX := Lib.hid hkx
      clear hkx
      obtain ⟨N, hN⟩ : ∃ N, n + 1 = N + m := ⟨n + 1 - m, by omega⟩
      have hNi : ((n : Int) - (m : Int) + 1) = (N : Int) := by omega
      have hNb : N ≤ 549755813889 := by omega
      have hmk2 := make_u32s N (by omega)
      have hx0 : 0 < val x := by have := hxy.out; have := hy0'.out; omega
      have hlx0 : 0 < lx'.length := by
        have h1 : 0 < val x * D := Nat.mul_pos hx0 hD0
        have h2 := cxn.zero_iff
        rw [HVX.out] at h2
        omega
      obtain ⟨bx, ox, rfl, hbx, hcx'⟩ := hwx hlx0
      have hcs : (wcells lx').length = Nat.min kx (n + 1) := by rw [wcells_len, HKX.out]; exact (Nat.min_eq_left hlx1).symm
      have hrun := run_copy_row (P := Tryz.prog) w5 73 73 3 110 w2.heap.size 0 (n + 1) (n + 1) ⟨bx, ox, none⟩ kx cxx (wcells (List.replicate (n + 1) 0)).toArray 110 (wcells lx') Tryz.underlying73 (by kernel_rfl) hou6 hcs
        (fun j v hv => by obtain ⟨h1, rfl⟩ := (wcells_get lx' j v).1 hv; rw [add_none]; exact hcx' j h1)
        (by rw [List.size_toArray, wcells_len, wcells_len, List.length_replicate, HKX.out]; omega) (wcells_one lx')
      rw [show ((wcells (List.replicate (n + 1) 0)).toArray.toList.take 0 ++ wcells lx' ++ (wcells (List.replicate (n + 1) 0)).toArray.toList.drop (0 + (wcells lx').length)).toArray = (wcells (lx' ++ List.replicate (n + 1 - kx) 0)).toArray from by
        simp [wcells, HKX.out]] at hrun
      obtain ⟨w6, hw6⟩ : ∃ w6, w6 = w5.setRow w2.heap.size (wcells (lx' ++ List.replicate (n + 1 - kx) 0)).toArray := ⟨_, rfl⟩
      have hou6' : Own w6 110 w2.heap.size (lx' ++ List.replicate (n + 1 - kx) 0) := by rw [hw6]; exact setRow_heap w5 _ _ _ 110 _ hou6
      have hb6 : Only w2.heap.size w5 w6 := by rw [hw6]; exact ⟨rfl, rfl, rfl, by simp [World.setRow], fun k hk hne => setRow_other w5 _ k _ hne⟩
      rw [← hw6] at hrun
      clear hw6 hcs hou6 hou5
      have HNN := Lib.hid hN
      clear hN hcx' hbx hwx
      go_wp2_with fail
      have hlu0 : (lx' ++ List.replicate (n + 1 - kx) 0).length = n + 1 := by rw [List.length_append, List.length_replicate, HKX.out]; omega
      have hvu0 : val (lx' ++ List.replicate (n + 1 - kx) 0) = val x * D := by rw [sl_val]; exact HVX.out
      have hdu0 : Ds (lx' ++ List.replicate (n + 1 - kx) 0) := sl_ds cxn.1 _
      obtain ⟨ou0, hou0⟩ : ∃ l, l = lx' ++ List.replicate (n + 1 - kx) 0 := ⟨_, rfl⟩
      rw [← hou0] at hou6' hlu0 hvu0 hdu0
      have hvin6 : WordsIn w6 gv offv v := hvin5.only hb6 (by omega)
      have hs56 : w5.heap.size ≤ w6.heap.size := hb6.size
      have hb6' : Below w.heap.size w w6 := hb5'.trans (hb6.below hb2s hb5'.size)
      have hU0 : val x * D < pw N * val v := by
        rw [HVV.out]
        have h1 : val x < pw n := by rw [← HN.out]; exact cx.1.val_lt
        have h3 : pw n = pw N * pw m1 := by rw [← pw_add]; congr 1; have := HNN.out; have := HM1.out; omega
        have h4 : pw N * pw m1 ≤ pw N * val y := Nat.mul_le_mul_left _ hpwm1.out
        rw [← Nat.mul_assoc]
        exact Nat.mul_lt_mul_of_pos_right (by omega) hD0
      have HU0 := Lib.hid hU0
      have HLU0 := Lib.hid hlu0
      have HVU0 := Lib.hid hvu0
      have HVLT : Hid (val v < pw m) := by have := cvn.1.val_lt; rwa [HVL.out] at this
      clear hrun hlu0 hvu0 hU0 hou0 hvin5 hb6 hb5'
      go_loopw [13] (fun iv wr => RDivRel w2.heap.size gv offv w6.heap.size N m n v (val x * D) w iv wr) (fun i _ => (intOf i + 1).toNat)
      case atStart =>
        refine ⟨0, N, List.replicate N 0, ou0, (Nat.zero_add N).symm, congrArg (Value.int .i64) (by omega), Own.made w6 110 N, by simp, Ds.zeros _, hou6'.alloc _, HLU0.out, hdu0, fun j hj => dg_ge (by have := HLU0.out; have := HNN.out; omega), ?_, ?_, ?_, hb6'.alloc hb6'.size _⟩
        · rw [show vs ou0 (n + 1) = val ou0 from by rw [← HLU0.out]; rfl, HVU0.out]; simp [hi]
        · rw [show vs ou0 (n + 1) = val ou0 from by rw [← HLU0.out]; rfl, HVU0.out]; exact HU0.out
        · exact hvin6.only (g := w6.heap.size) (Only.of_below ((Below.refl _ _).alloc (Nat.le_refl _) _)) (by omega)
      case round =>
        obtain ⟨i, k, oq, ou, hik, rfl, hoq, hlq, hdq, hou, hlu, hdu, hz, hsum, hlow, hvin, hb⟩ := hrel
        clear hmk2 hmk1 hou6' hvin6 hb6' hx hy htopc HU0 hdu0 HC hDi HLU0 HVU0
        have hgq : w.heap.size ≤ w6.heap.size := by omega
        by_cases hlt3 : 0 < k
        · obtain ⟨k, rfl⟩ : ∃ k', k = k' + 1 := ⟨k - 1, by omega⟩
          have hidx2 : ((k + 1 : Nat) : Int) - 1 = (k : Int) := by omega
          rw [hidx2]
          have hkn : k + (m + 1) ≤ n + 1 := by have := HNN.out; omega
          have hkN : k < N := by omega
          have hPl : (ou.take k).length = k := by rw [List.length_take]; omega
          have hWl : ((ou.drop k).take (m + 1)).length = m + 1 := by rw [List.length_take, List.length_drop]; omega
          obtain ⟨m2, hm2'⟩ : ∃ m2, m = m2 + 2 := ⟨m - 2, by omega⟩
          have hdW : Ds ((ou.drop k).take (m + 1)) := by
            refine Ds.take (fun j => ?_) _
            have := hdu (k + j)
            simpa [dg, List.getElem?_drop] using this
          have hv0' : 0 < dg v (m2 + 1) := by
            have := cvn.2 (by rw [HVL.out]; omega)
            rw [HVL.out, show m - 1 = m2 + 1 from by omega] at this; omega
          have hvval : vs v m = val v := by rw [← HVL.out]; rfl
          have hltw : vs ((ou.drop k).take (m + 1)) (m + 1) < 4294967296 * vs v m := by
            rw [hvval]; exact win_lt hlu hkn (fun j hj => hz j (by omega)) hlow
          have hwsp := win_split ou k (m + 1)
          have hou' : Own wr 110 w2.heap.size (ou.take k ++ ((ou.drop k).take (m + 1) ++ (ou.drop k).drop (m + 1))) := by rw [← hwsp]; exact hou
          have hge := rguess_any w2.heap.size k m m2 gv offv (n + 1 - k) cv _ _ ((ou.drop k).drop (m + 1)) v wr hou' hPl hWl HVL.out hm2' hvin hdW cvn.1 hv0' hltw (by omega)
          have HG := Lib.hid hge
          have hclose := fun (qd : Nat) (W' : List Nat) (w3 : World) (a1 : W'.length = m + 1) (a2 : Ds W') (a3 : qd = vs ((ou.drop k).take (m + 1)) (m + 1) / vs v m) (a4 : vs W' (m + 1) = vs ((ou.drop k).take (m + 1)) (m + 1) % vs v m) (a5 : Own w3 110 w2.heap.size (ou.take k ++ (W' ++ (ou.drop k).drop (m + 1)))) (a6 : Only w2.heap.size wr w3) =>
            rdiv_close (w3 := w3) hik (by omega) hoq hlq hdq hou hlu hdu hz hsum hlow hvin hb HNN.out HVL.out cvn (by omega) (by omega) (by omega) hb2s hgq a1 a2 a3 a4 a5 a6
          have HCL := Lib.hid hclose
          have hcq := hoq.cell (i := k) (by omega)
          have hfq := hoq.frozen k
          have hoqr : Hid (Own wr 110 w6.heap.size oq ∧ k < oq.length) := ⟨hoq, by omega⟩
          have H2 := Lib.hid hm2'
          have H4 := Lib.hid hPl
          have H5 := Lib.hid hWl
          have HOU := Lib.hid hou'
          have hqP : Hid (val v < pw m) := HVLT
          have HIK := Lib.hid hik
          obtain ⟨W, hW⟩ : ∃ W, W = (ou.drop k).take (m + 1) := ⟨_, rfl⟩
          obtain ⟨R, hR⟩ : ∃ R, R = (ou.drop k).drop (m + 1) := ⟨_, rfl⟩
          obtain ⟨P, hP⟩ : ∃ P, P = ou.take k := ⟨_, rfl⟩
          rw [← hW] at HG
          rw [← hW, ← hR, ← hP] at HOU
          rw [← hW, ← hR, ← hP] at HCL
          rw [← hW] at H5 hdW
          rw [← hP] at H4
          have hb0 := hb
          clear hge hclose hm2' hPl hWl hvval hsum hlq hlu hz hlow hltw hwsp hou' hW hR hP hoq hou hik HVLT
          go_wp2_with fail
          try rw [show k + m + 1 - k = m + 1 from by omega]
          refine HG.out.mono ?_
          rintro e w7 ⟨q, rfl, hqb, hq1, hq2, hs7⟩
          have ho7 : Only w2.heap.size wr w7 := Only.of_below hs7.below
          have hou7 : Own w7 110 w2.heap.size (P ++ (W ++ R)) := by obtain ⟨qq, rfl⟩ := hs7; exact HOU.out
          have hvin7 : WordsIn w7 gv offv v := hvin.only ho7 (by omega)
          clear hs7 HG
          by_cases hle : q * vs v m ≤ vs W (m + 1)
          · have hless := rlessen_no (c := n + 1 - k) (c' := cv) hou7 H4.out H5.out HVL.out hvin7 (by omega) hdW cvn.1 hqb (by omega) hle
            have HLS := Lib.hid hless
            clear hless
            go_wp2_with fail
            try rw [show k + m + 1 - k = m + 1 from by omega]
            refine HLS.out.mono ?_
            rintro e w8 ⟨rfl, W', h1, h2, h3, h4, h5⟩
            have hqr := quot_of h4 hq1
            have ho8 := ho7.trans h5
            have hq8 : Own w8 110 w6.heap.size oq := hoqr.out.1.only ho8 (by omega)
            have hcq8 := hq8.cell (i := k) hoqr.out.2
            have hfq8 := hq8.frozen k
            have hfin := Lib.hid (HCL.out q W' w8 h1 h2 hqr.1 hqr.2 h3 ho8)
            clear hqr h1 h4 hle
            go_wp2_with fail
            go_roundw
            case rel => exact hfin.out
            case measure => simp [intOf]
          · have hless := rlessen_yes (c := n + 1 - k) (c' := cv) hou7 H4.out H5.out HVL.out hvin7 (by omega) hdW cvn.1 hqb (by omega) (Nat.lt_of_not_le hle)
            have HLS := Lib.hid hless
            have hq0 : 0 < q := by
              rcases Nat.eq_zero_or_pos q with h0 | h0
              · rw [h0, Nat.zero_mul] at hle; exact absurd (Nat.zero_le _) hle
              · exact h0
            clear hless
            go_wp2_with fail
            try rw [show k + m + 1 - k = m + 1 from by omega]
            refine HLS.out.mono ?_
            rintro e w8 ⟨rfl, W', h1, h2, h3, h4, h5⟩
            have ho8 := ho7.trans h5
            have hre := rrestore_any w2.heap.size k m gv offv (n + 1 - k) cv P W' R v w8 h3 H4.out h1 HVL.out (hvin7.only h5 (by omega)) (by omega) h2 cvn.1 (by omega)
            have HRE := Lib.hid hre
            have h41 := Lib.hid h4
            clear hre h1 h4
            go_wp2_with fail
            try rw [show k + m + 1 - k = m + 1 from by omega]
            refine HRE.out.mono ?_
            rintro e w9 ⟨rfl, mo, W2, hmo, g1, g2, g3, g4, g5⟩
            have ho9 := ho8.trans g5
            have hmo1 : mo = 1 := by
              rcases Nat.lt_or_ge mo 1 with h | h
              · have : mo = 0 := by omega
                subst this
                have := back_all h41.out g4 hq0 (Nat.zero_le _)
                have h6 := pw_step (n := m + 1) g2
                obtain ⟨q', rfl⟩ : ∃ q', q = q' + 1 := ⟨q - 1, by omega⟩
                rw [Nat.add_mul, Nat.one_mul] at hq2
                simp only [Nat.add_sub_cancel, Nat.sub_zero, Nat.one_mul] at this
                omega
              · omega
            subst hmo1
            have hba := back_all h41.out g4 hq0 (Nat.le_refl _)
            simp only [Nat.sub_self, Nat.zero_mul, Nat.add_zero] at hba
            have hqr := quot_of hba (by rw [show q - 1 + 1 = q from by omega]; exact Nat.lt_of_not_le hle)
            have hq9 : Own w9 110 w6.heap.size oq := hoqr.out.1.only ho9 (by omega)
            have hcq9 := hq9.cell (i := k) hoqr.out.2
            have hfq9 := hq9.frozen k
            have hq1i : (q : Int) - 1 = ((q - 1 : Nat) : Int) := by omega
            have hfin := Lib.hid (HCL.out (q - 1) W2 w9 g1 g2 hqr.1 hqr.2 g3 ho9)
            clear hqr g1 g4 hle hba
            go_wp2_with fail
            go_roundw
            case rel => exact hfin.out
            case measure => simp [intOf]
        · have hk0 : k = 0 := by omega
          subst hk0
          have hiN : i = N := by omega
          subst hiN
          have hlow' : vs ou (n + 1) < val y * D := by rw [← HVV.out]; simpa [pw] using hlow
          have hsum' : hi oq i i * (val y * D) + vs ou (n + 1) = val x * D := by rw [← HVV.out]; simpa [pw] using hsum
          obtain ⟨hq, hr⟩ := div_scale hD0 (Nat.pos_of_ne_zero hy0'.out) hsum' hlow'
          have HQ : Hid (val oq = val x / val y) := by
            show val oq = val x / val y
            rw [← hq, hi_all, ← hlq]; rfl
          have HR : Hid (val ou / D = val x % val y) := by
            show val ou / D = val x % val y
            rw [← hr, ← hlu]; rfl
          have HLQ := Lib.hid hlq
          have HLU2 := Lib.hid hlu
          clear hz hsum hlow hsum' hlow' hq hr hlq hlu hik
          go_wp2_with fail
          refine (rtrim_any _ _ _ ou _ hou.words HLU2.out (Nat.le_refl _) (by omega)).mono ?_
          rintro e w' ⟨rfl, rfl⟩
          go_wp2_with fail
          refine (rshortly_any _ _ _ D (trim ou) _ (hou.words.take _) (trim_length ou) (canon_trim hdu).1 hD0 hDb (by have := trimLen_le ou; have := HLU2.out; omega)).mono ?_
          rintro e w8 ⟨vr, rfl, hvr, hb8⟩
          go_wp2_with fail
          have hoq8 := hoq.below hb8 hoq.lt
          refine (rtrim_any _ _ _ oq _ hoq8.words HLQ.out (Nat.le_refl _) (by omega)).mono ?_
          rintro e w' ⟨rfl, rfl⟩
          go_wp2_with fail
          go_ret2
          refine ⟨_, _, rfl, ?_, ?_, hb.trans (hb8.mono hb.size)⟩
          · rw [← HQ.out]; exact NatV.of_rtrim hoq8.words hdq (by rw [HLQ.out]; omega) (by omega)
          · rw [← HR.out, ← val_trim ou]; exact hvr

end Go.Proofs.YtmkhfgggleplfaaGreat
