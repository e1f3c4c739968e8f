/-
  The walks of the rationals' product and lowest. Conditions: fewer than 2^38 words.
-/
import Derived.Test.YtmkhfgggleplfaaGreatIntD
namespace Go.Proofs.YtmkhfgggleplfaaGreat
set_option linter.unusedSimpArgs false
set_option linter.unusedVariables false
open Go.RowKit

/-- behind a store of an integer into a box -/
theorem Blk.put2 {w : World} {g : Nat} {t : TypeId} {a b : Value} (h : Blk w g t #[a, b]) (x y : Value) : Blk ((w.setCell ⟨g, 0, none⟩ x).setCell ⟨g, 1, none⟩ y) g t #[x, y] := by
  have := (h.set_ 0 x).set_ 1 y
  simpa using this
theorem only2 (g : Nat) (w : World) (x y : Value) : Only g w ((w.setCell ⟨g, 0, none⟩ x).setCell ⟨g, 1, none⟩ y) := ((Only.refl g w).setCell (p := ⟨g, 0, none⟩) rfl x).setCell (p := ⟨g, 1, none⟩) rfl y
theorem Blk.only {w w' : World} {g g' : Nat} {t : TypeId} {cs : Array Value} (h : Blk w g t cs) (ho : Only g' w w') (hne : g ≠ g') : Blk w' g t cs := (ho.block g h.lt hne).trans h

set_option maxHeartbeats 2000000 in
theorem product2 {g n c n' c' j k : Nat} {A A' : Option Addr} {x y : Int} {w : World} (hB : Blk w g 75 #[.bool (ngb x), .slice A n c, .bool (ngb y), .slice A' n' c'])
    (hx : NatV w (.slice A n c) x.natAbs) (hy : NatV w (.slice A' n' c') y.natAbs) (bx : Bd j x) (bY : Bd k y) (hjk : j + k ≤ 274877906944) :
    Calls Tryz.prog 71 #[.slice (some ⟨g, 0, none⟩) 2 2] w fun e w' => ∃ r, e = .returned r ∧ IntV w' r (x * y) ∧ Below w.heap.size w w' := by
  have hg := hB.lt
  go_enter Tryz.func71, Tryz.ntmps71
  go_wp2_with fail
  obtain ⟨W0, hW0, hbl, hR, hsz⟩ := boxes1 w 75 #[.bool false, .slice none 0 0]
  rw [← hW0]
  clear hW0
  replace hB := hB.below hbl hg
  replace hx := hx.below hbl
  replace hy := hy.below hbl
  refine (int_of 1 _ (by omega) (by omega)).mono ?_
  rintro e w1 ⟨r, rfl, ⟨A1, n1, c1, rfl, hp⟩, hb1⟩
  replace hR := hR.below hb1 hR.lt
  replace hB := hB.below hb1 hB.lt
  replace hx := hx.below hb1
  replace hy := hy.below hb1
  replace hbl := hbl.trans (hb1.mono hbl.size)
  go_wp2_with fail
  obtain ⟨W2, hW2, hb2, hP, hsz2⟩ := boxes1 w1 75 #[.bool (ngb 1), .slice A1 n1 c1]
  rw [← hW2]
  clear hW2 hsz hsz2
  have hgR : w.heap.size < w1.heap.size := hR.lt
  obtain ⟨gp, hgpe⟩ : ∃ gp, gp = w1.heap.size := ⟨_, rfl⟩
  rw [← hgpe] at hP hgR ⊢
  have hgp : w.heap.size ≤ gp := Nat.le_of_lt hgR
  have hggp : g < gp := by have := hB.lt; omega
  replace hR := hR.below hb2 hR.lt
  replace hB := hB.below hb2 hB.lt
  replace hx := hx.below hb2
  replace hy := hy.below hb2
  replace hp := hp.below hb2
  replace hbl := hbl.trans (hb2.mono hbl.size)
  clear hb1 hb2 hgpe
  refine wp_loop_rounds 3 ?_
  rw [rounds_succ]
  have t0 : W2.cell? ⟨g, 0, none⟩ = some (.bool (ngb x)) := hB.cell 0
  have t1 : W2.cell? ⟨g, 1, none⟩ = some (.slice A n c) := hB.cell 1
  obtain ⟨p0, p1, u0, u1, hzp⟩ := hP.two
  go_wp2_with fail
  obtain ⟨V0, hV0, hbv0, he0, hsv0⟩ := boxes1 W2 75 #[.bool (ngb x), .slice A n c]
  rw [← hV0]
  clear hV0 t0 t1 p0 p1 u0 u1
  replace hB := hB.below hbv0 hB.lt
  replace hP := hP.below hbv0 hP.lt
  replace hR := hR.below hbv0 hR.lt
  replace hx := hx.below hbv0
  replace hy := hy.below hbv0
  replace hp := hp.below hbv0
  replace hbl := hbl.trans (hbv0.mono hbl.size)
  refine (int_mul (⟨_, _, _, rfl, hp⟩ : IntV V0 (.agg #[.bool (ngb 1), _]) 1) (⟨_, _, _, rfl, hx⟩ : IntV V0 (.agg #[.bool (ngb x), _]) x) (j := 1) (by unfold Bd; simp [pw]) bx (by omega)).mono ?_
  rw [Int.one_mul]
  rintro e w3 ⟨r, rfl, ⟨A2, n2, c2, rfl, hp0⟩, hbw0⟩
  replace hB := hB.below hbw0 hB.lt
  replace hP := hP.below hbw0 hP.lt
  replace hR := hR.below hbw0 hR.lt
  replace hx := hx.below hbw0
  replace hy := hy.below hbw0
  replace hbl := hbl.trans (hbw0.mono hbl.size)
  clear hp
  have hgp0 := hP.lt
  have hpg0 : w.heap.size ≤ gp := hgp
  obtain ⟨p0, p1, u0, u1, hzp⟩ := hP.two
  go_wp2_with fail
  generalize hW0 : (w3.setCell ⟨gp, 0, none⟩ (.bool (ngb (x)))).setCell ⟨gp, 1, none⟩ (.slice A2 n2 c2) = W4
  have hO : Only gp w3 W4 := by rw [← hW0]; exact only2 _ _ _ _
  have hp := hp0.only hP rfl hO
  replace hx := hx.only hP rfl hO
  replace hy := hy.only hP rfl hO
  replace hB := hB.only hO (by omega)
  replace hR := hR.only hO (by omega)
  replace hP : Blk W4 gp 75 #[.bool (ngb (x)), .slice A2 n2 c2] := by rw [← hW0]; exact hP.put2 _ _
  replace hbl : Below w.heap.size w W4 := by rw [← hW0]; exact (hbl.setCell (p := ⟨gp, 0, none⟩) hgp _).setCell (p := ⟨gp, 1, none⟩) hgp _
  clear hW0 hO p0 p1 u0 u1 hzp
  rw [rounds_succ]
  have t0 : W4.cell? ⟨g, 2, none⟩ = some (.bool (ngb y)) := hB.cell 2
  have t1 : W4.cell? ⟨g, 3, none⟩ = some (.slice A' n' c') := hB.cell 3
  obtain ⟨p0, p1, u0, u1, hzp⟩ := hP.two
  go_wp2_with fail
  obtain ⟨V1, hV1, hbv1, he1, hsv1⟩ := boxes1 W4 75 #[.bool (ngb y), .slice A' n' c']
  rw [← hV1]
  clear hV1 t0 t1 p0 p1 u0 u1
  replace hB := hB.below hbv1 hB.lt
  replace hP := hP.below hbv1 hP.lt
  replace hR := hR.below hbv1 hR.lt
  replace hx := hx.below hbv1
  replace hy := hy.below hbv1
  replace hp := hp.below hbv1
  replace hbl := hbl.trans (hbv1.mono hbl.size)
  refine (int_mul (⟨_, _, _, rfl, hp⟩ : IntV V1 (.agg #[.bool (ngb x), _]) x) (⟨_, _, _, rfl, hy⟩ : IntV V1 (.agg #[.bool (ngb y), _]) y) bx bY (by omega)).mono ?_
  skip
  rintro e w5 ⟨r, rfl, ⟨A3, n3, c3, rfl, hp1⟩, hbw1⟩
  replace hB := hB.below hbw1 hB.lt
  replace hP := hP.below hbw1 hP.lt
  replace hR := hR.below hbw1 hR.lt
  replace hx := hx.below hbw1
  replace hy := hy.below hbw1
  replace hbl := hbl.trans (hbw1.mono hbl.size)
  clear hp
  have hgp1 := hP.lt
  have hpg1 : w.heap.size ≤ gp := hgp
  obtain ⟨p0, p1, u0, u1, hzp⟩ := hP.two
  go_wp2_with fail
  generalize hW1 : (w5.setCell ⟨gp, 0, none⟩ (.bool (ngb (x * y)))).setCell ⟨gp, 1, none⟩ (.slice A3 n3 c3) = W6
  have hO : Only gp w5 W6 := by rw [← hW1]; exact only2 _ _ _ _
  have hp := hp1.only hP rfl hO
  replace hx := hx.only hP rfl hO
  replace hy := hy.only hP rfl hO
  replace hB := hB.only hO (by omega)
  replace hR := hR.only hO (by omega)
  replace hP : Blk W6 gp 75 #[.bool (ngb (x * y)), .slice A3 n3 c3] := by rw [← hW1]; exact hP.put2 _ _
  replace hbl : Below w.heap.size w W6 := by rw [← hW1]; exact (hbl.setCell (p := ⟨gp, 0, none⟩) hgp _).setCell (p := ⟨gp, 1, none⟩) hgp _
  clear hW1 hO p0 p1 u0 u1 hzp
  rw [rounds_succ]
  obtain ⟨p0, p1, u0, u1, hzp⟩ := hP.two
  obtain ⟨q0, q1, v0, v1, hzr⟩ := hR.two
  go_wp2_with fail
  have hfinal := int_box hp hR rfl hbl (Nat.le_refl _)
  exact bodyPost_ret (v := .agg #[.bool (ngb (x * y)), .slice A3 n3 c3]) (by simp [results, Tryz.results71, go_sem, q0, q1]) rfl ⟨_, rfl, hfinal.1, hfinal.2⟩

theorem low_num {n d : Int} (hd : d ≠ 0) : n / (if d < 0 then -(Int.gcd n d : Int) else (Int.gcd n d : Int)) = (Rat.divInt n d).num ∧ d / (if d < 0 then -(Int.gcd n d : Int) else (Int.gcd n d : Int)) = ((Rat.divInt n d).den : Int) := by
  rw [Rat.num_divInt, Rat.den_divInt, if_neg hd, Int.gcd_comm d n]
  have hgn : (Int.gcd n d : Int) ∣ n := Int.gcd_dvd_left ..
  have hgd : (Int.gcd n d : Int) ∣ d := Int.gcd_dvd_right ..
  by_cases h : d < 0
  · rw [if_pos h, Int.sign_eq_neg_one_of_neg h, Int.ediv_neg, Int.ediv_neg, Int.neg_one_mul, Int.neg_ediv_of_dvd hgn]
    refine ⟨rfl, ?_⟩
    rw [Int.natCast_ediv, Int.ofNat_natAbs_of_nonpos (by omega), Int.neg_ediv_of_dvd hgd]
  · rw [if_neg h, Int.sign_eq_one_of_pos (by omega), Int.one_mul]
    refine ⟨rfl, ?_⟩
    rw [Int.natCast_ediv, Int.natAbs_of_nonneg (by omega)]

/-- v is the rational number q -/
def RatV (w : World) (v : Value) (q : Rat) : Prop := ∃ A n c A' n' c', v = .agg #[.bool (ngb q.num), .slice A n c, .bool (ngb (q.den : Int)), .slice A' n' c'] ∧ NatV w (.slice A n c) q.num.natAbs ∧ NatV w (.slice A' n' c') (q.den : Int).natAbs
theorem RatV.below {w w' : World} {v : Value} {q : Rat} (h : RatV w v q) (hb : Below w.heap.size w w') : RatV w' v q := by
  obtain ⟨A, n, c, A', n', c', e, h1, h2⟩ := h
  exact ⟨A, n, c, A', n', c', e, h1.below hb, h2.below hb⟩
theorem RatV.only {w w' : World} {v : Value} {q : Rat} {g : Nat} {t : TypeId} {cs : Array Value} (h : RatV w v q) (hb : Blk w g t cs) (hn : noU32 cs = true) (ho : Only g w w') : RatV w' v q := by
  obtain ⟨A, n, c, A', n', c', e, h1, h2⟩ := h
  exact ⟨A, n, c, A', n', c', e, h1.only hb hn ho, h2.only hb hn ho⟩
/-- a rational number stored into a result's box -/
theorem rat_box {w w2 : World} {g n c n' c' : Nat} {t : TypeId} {q : Rat} {A A' : Option Addr} {a b a' b' : Value} (hn : NatV w2 (.slice A n c) q.num.natAbs) (hd : NatV w2 (.slice A' n' c') (q.den : Int).natAbs) (hB : Blk w2 g t #[a, b, a', b'])
    (hab : noU32 #[a, b, a', b'] = true) (hbl : Below w.heap.size w w2) (hg : w.heap.size ≤ g) :
    RatV ((((w2.setCell ⟨g, 0, none⟩ (.bool (ngb q.num))).setCell ⟨g, 1, none⟩ (.slice A n c)).setCell ⟨g, 2, none⟩ (.bool (ngb (q.den : Int)))).setCell ⟨g, 3, none⟩ (.slice A' n' c'))
      (.agg #[.bool (ngb q.num), .slice A n c, .bool (ngb (q.den : Int)), .slice A' n' c']) q ∧
    Below w.heap.size w ((((w2.setCell ⟨g, 0, none⟩ (.bool (ngb q.num))).setCell ⟨g, 1, none⟩ (.slice A n c)).setCell ⟨g, 2, none⟩ (.bool (ngb (q.den : Int)))).setCell ⟨g, 3, none⟩ (.slice A' n' c')) := by
  have ho : Only g w2 ((((w2.setCell ⟨g, 0, none⟩ (.bool (ngb q.num))).setCell ⟨g, 1, none⟩ (.slice A n c)).setCell ⟨g, 2, none⟩ (.bool (ngb (q.den : Int)))).setCell ⟨g, 3, none⟩ (.slice A' n' c')) :=
    ((((Only.refl g w2).setCell (p := ⟨g, 0, none⟩) rfl _).setCell (p := ⟨g, 1, none⟩) rfl _).setCell (p := ⟨g, 2, none⟩) rfl _).setCell (p := ⟨g, 3, none⟩) rfl _
  exact ⟨⟨A, n, c, A', n', c', rfl, hn.only hB hab ho, hd.only hB hab ho⟩,
    (((hbl.setCell (p := ⟨g, 0, none⟩) hg _).setCell (p := ⟨g, 1, none⟩) hg _).setCell (p := ⟨g, 2, none⟩) hg _).setCell (p := ⟨g, 3, none⟩) hg _⟩
def RBd (k : Nat) (q : Rat) : Prop := Bd k q.num ∧ Bd k (q.den : Int)
theorem RBd.mono {j k : Nat} {q : Rat} (h : RBd j q) (hjk : j ≤ k) : RBd k q := ⟨h.1.mono hjk, h.2.mono hjk⟩
theorem RBd.divInt {k : Nat} {n d : Int} (hn : Bd k n) (hd : Bd k d) (h0 : d ≠ 0) : RBd k (Rat.divInt n d) := by
  have := low_num (n := n) h0
  have hdv : ∀ z : Int, (Int.gcd n d : Int) ∣ z → (if d < 0 then -(Int.gcd n d : Int) else (Int.gcd n d : Int)) ∣ z := fun z h => by
    split
    · exact Int.neg_dvd.2 h
    · exact h
  constructor
  · rw [← this.1]
    refine hn.of_abs ?_
    rw [Int.natAbs_ediv_of_dvd (hdv _ (Int.gcd_dvd_left ..))]
    exact Nat.div_le_self _ _
  · rw [← this.2]
    refine hd.of_abs ?_
    rw [Int.natAbs_ediv_of_dvd (hdv _ (Int.gcd_dvd_right ..))]
    exact Nat.div_le_self _ _

set_option maxHeartbeats 2000000 in
theorem rat_lowest {a b : Value} {x y : Int} {k : Nat} {w : World} (ha : IntV w a x) (hb : IntV w b y) (bx : Bd k x) (bY : Bd k y) (hk : k ≤ 549755813880) (hy0 : y ≠ 0) :
    Calls Tryz.prog 72 #[a, b] w fun e w' => ∃ r, e = .returned r ∧ RatV w' r (Rat.divInt x y) ∧ Below w.heap.size w w' := by
  obtain ⟨A, n, c, rfl, hx⟩ := ha
  obtain ⟨A', n', c', rfl, hy⟩ := hb
  have hlow := low_num (n := x) hy0
  have hgb : Bd k (Int.gcd x y : Int) := by
    refine bY.of_abs ?_
    rw [Int.natAbs_natCast]
    exact Nat.le_of_dvd (by omega) (Nat.gcd_dvd_right _ _)
  have hg0 : Int.gcd x y ≠ 0 := fun h => hy0 (Int.gcd_eq_zero_iff.1 h).2
  have HLOW := Lib.hid hlow
  clear hlow
  go_enter Tryz.func72, Tryz.ntmps72
  go_wp2_with fail
  obtain ⟨W0, hW0, hbl, hB2, hB3, hR, hsz⟩ := boxes3 w 75 75 77 #[.bool (ngb x), .slice A n c] #[.bool (ngb y), .slice A' n' c'] #[.bool false, .slice none 0 0, .bool false, .slice none 0 0]
  rw [← hW0]
  clear hW0
  replace hx := hx.below hbl
  replace hy := hy.below hbl
  refine (int_gcd (⟨_, _, _, rfl, hx⟩ : IntV W0 (.agg #[.bool (ngb x), _]) x) (⟨_, _, _, rfl, hy⟩ : IntV W0 (.agg #[.bool (ngb y), _]) y) bx bY hk).mono ?_
  rintro e w1 ⟨r, rfl, ⟨A1, n1, c1, rfl, hg⟩, hb1⟩
  replace hB2 := hB2.below hb1 hB2.lt
  replace hB3 := hB3.below hb1 hB3.lt
  replace hR := hR.below hb1 hR.lt
  replace hx := hx.below hb1
  replace hy := hy.below hb1
  replace hbl := hbl.trans (hb1.mono hbl.size)
  obtain ⟨hB2a, hB2b, hB2c, hB2d, hB2e⟩ := hB2.two
  obtain ⟨hB3a, hB3b, hB3c, hB3d, hB3e⟩ := hB3.two
  obtain ⟨⟨hRa, hRb, hRc, hRd⟩, ⟨hRf, hRg, hRh, hRi⟩, hRe⟩ := hR.four
  go_wp2_with fail
  obtain ⟨W2, hW2, hb2, hG, hsz2⟩ := boxes1 w1 75 #[.bool (ngb (Int.gcd x y : Int)), .slice A1 n1 c1]
  rw [← hW2]
  clear hW2 hsz hsz2 hb1
  obtain ⟨gp, hgpe⟩ : ∃ gp, gp = w1.heap.size := ⟨_, rfl⟩
  rw [← hgpe] at hG ⊢
  have hgR : w.heap.size + 1 + 1 < gp := by rw [hgpe]; exact hRe
  clear hgpe
  clear hB2a hB2b hB2c hB2d hB2e hB3a hB3b hB3c hB3d hB3e hRa hRb hRc hRd hRe hRf hRg hRh hRi
  replace hB2 := hB2.below hb2 hB2.lt
  replace hB3 := hB3.below hb2 hB3.lt
  replace hR := hR.below hb2 hR.lt
  replace hx := hx.below hb2
  replace hy := hy.below hb2
  replace hg := hg.below hb2
  replace hbl := hbl.trans (hb2.mono hbl.size)
  obtain ⟨hB2a, hB2b, hB2c, hB2d, hB2e⟩ := hB2.two
  obtain ⟨hB3a, hB3b, hB3c, hB3d, hB3e⟩ := hB3.two
  obtain ⟨⟨hRa, hRb, hRc, hRd⟩, ⟨hRf, hRg, hRh, hRi⟩, hRe⟩ := hR.four
  obtain ⟨hGa, hGb, hGc, hGd, hGe⟩ := hG.two
  refine (int_sign (⟨_, _, _, rfl, hy⟩ : IntV W2 (.agg #[.bool (ngb y), .slice A' n' c']) y)).mono ?_
  rintro e w3 ⟨rfl, hb3⟩
  clear hB2a hB2b hB2c hB2d hB2e hB3a hB3b hB3c hB3d hB3e hRa hRb hRc hRd hRe hRf hRg hRh hRi hGa hGb hGc hGd hGe
  replace hB2 := hB2.below hb3 hB2.lt
  replace hB3 := hB3.below hb3 hB3.lt
  replace hR := hR.below hb3 hR.lt
  replace hG := hG.below hb3 hG.lt
  replace hx := hx.below hb3
  replace hy := hy.below hb3
  replace hg := hg.below hb3
  replace hbl := hbl.trans (hb3.mono hbl.size)
  obtain ⟨hB2a, hB2b, hB2c, hB2d, hB2e⟩ := hB2.two
  obtain ⟨hB3a, hB3b, hB3c, hB3d, hB3e⟩ := hB3.two
  obtain ⟨⟨hRa, hRb, hRc, hRd⟩, ⟨hRf, hRg, hRh, hRi⟩, hRe⟩ := hR.four
  obtain ⟨hGa, hGb, hGc, hGd, hGe⟩ := hG.two
  by_cases hneg : y < 0
  · have hsg : cmpI y 0 < 0 := by rw [cmpI_lt hneg]; omega
    go_wp2_with fail
    refine (int_neg (⟨_, _, _, rfl, hg⟩ : IntV w3 (.agg #[.bool (ngb (Int.gcd x y : Int)), _]) (Int.gcd x y : Int)) hgb (by omega)).mono ?_
    rintro e w4 ⟨r, rfl, ⟨A2, n2, c2, rfl, hg2⟩, hb4⟩
    clear hB2a hB2b hB2c hB2d hB2e hB3a hB3b hB3c hB3d hB3e hRa hRb hRc hRd hRe hRf hRg hRh hRi hGa hGb hGc hGd hGe
    replace hB2 := hB2.below hb4 hB2.lt
    replace hB3 := hB3.below hb4 hB3.lt
    replace hR := hR.below hb4 hR.lt
    replace hG := hG.below hb4 hG.lt
    replace hx := hx.below hb4
    replace hy := hy.below hb4
    replace hbl := hbl.trans (hb4.mono hbl.size)
    obtain ⟨hB2a, hB2b, hB2c, hB2d, hB2e⟩ := hB2.two
    obtain ⟨hB3a, hB3b, hB3c, hB3d, hB3e⟩ := hB3.two
    obtain ⟨⟨hRa, hRb, hRc, hRd⟩, ⟨hRf, hRg, hRh, hRi⟩, hRe⟩ := hR.four
    obtain ⟨hGa, hGb, hGc, hGd, hGe⟩ := hG.two
    go_wp2_with fail
    clear hB2a hB2b hB2c hB2d hB2e hB3a hB3b hB3c hB3d hB3e hRa hRb hRc hRd hRe hRf hRg hRh hRi hGa hGb hGc hGd hGe
    generalize hWe : (w4.setCell ⟨gp, 0, none⟩ (.bool (ngb (-(Int.gcd x y : Int))))).setCell ⟨gp, 1, none⟩ (.slice A2 n2 c2) = W5
    have hO : Only (gp) w4 W5 := by rw [← hWe]; exact only2 _ _ _ _
    replace hx := hx.only hG rfl hO
    replace hy := hy.only hG rfl hO
    replace hg2 := hg2.only hG rfl hO
    replace hB2 := hB2.only hO (by omega)
    replace hB3 := hB3.only hO (by omega)
    replace hR := hR.only hO (by omega)
    replace hG : Blk W5 (gp) 75 #[.bool (ngb (-(Int.gcd x y : Int))), .slice A2 n2 c2] := by rw [← hWe]; exact hG.put2 _ _
    replace hbl : Below w.heap.size w W5 := by rw [← hWe]; exact (hbl.setCell (p := ⟨gp, 0, none⟩) (show w.heap.size ≤ gp from by omega) _).setCell (p := ⟨gp, 1, none⟩) (show w.heap.size ≤ gp from by omega) _
    clear hWe hO
    obtain ⟨hB2a, hB2b, hB2c, hB2d, hB2e⟩ := hB2.two
    obtain ⟨hB3a, hB3b, hB3c, hB3d, hB3e⟩ := hB3.two
    obtain ⟨⟨hRa, hRb, hRc, hRd⟩, ⟨hRf, hRg, hRh, hRi⟩, hRe⟩ := hR.four
    obtain ⟨hGa, hGb, hGc, hGd, hGe⟩ := hG.two
    have hgb' : Bd k (-(Int.gcd x y : Int)) := hgb.neg
    have hG0 : -(Int.gcd x y : Int) ≠ 0 := by omega
    have HQ : Hid (x / -(Int.gcd x y : Int) = (Rat.divInt x y).num ∧ y / -(Int.gcd x y : Int) = ((Rat.divInt x y).den : Int)) := by
      have := HLOW.out
      rwa [if_pos hneg] at this
    refine (int_divmod (⟨_, _, _, rfl, hx⟩ : IntV W5 (.agg #[.bool (ngb x), _]) x) (⟨_, _, _, rfl, hg2⟩ : IntV W5 (.agg #[.bool (ngb (-(Int.gcd x y : Int))), _]) (-(Int.gcd x y : Int))) bx hgb' hk hG0).mono ?_
    rw [HQ.out.1]
    rintro e v1 ⟨qv, rv, rfl, ⟨A5, n5, c5, rfl, hq1⟩, -, hb5⟩
    clear hB2a hB2b hB2c hB2d hB2e hB3a hB3b hB3c hB3d hB3e hRa hRb hRc hRd hRe hRf hRg hRh hRi hGa hGb hGc hGd hGe
    replace hB2 := hB2.below hb5 hB2.lt
    replace hB3 := hB3.below hb5 hB3.lt
    replace hR := hR.below hb5 hR.lt
    replace hG := hG.below hb5 hG.lt
    replace hx := hx.below hb5
    replace hy := hy.below hb5
    replace hg2 := hg2.below hb5
    replace hbl := hbl.trans (hb5.mono hbl.size)
    obtain ⟨hB2a, hB2b, hB2c, hB2d, hB2e⟩ := hB2.two
    obtain ⟨hB3a, hB3b, hB3c, hB3d, hB3e⟩ := hB3.two
    obtain ⟨⟨hRa, hRb, hRc, hRd⟩, ⟨hRf, hRg, hRh, hRi⟩, hRe⟩ := hR.four
    obtain ⟨hGa, hGb, hGc, hGd, hGe⟩ := hG.two
    go_wp2_with fail
    clear hB2a hB2b hB2c hB2d hB2e hB3a hB3b hB3c hB3d hB3e hRa hRb hRc hRd hRe hRf hRg hRh hRi hGa hGb hGc hGd hGe
    generalize hWe : (v1.setCell ⟨w.heap.size, 0, none⟩ (.bool (ngb (Rat.divInt x y).num))).setCell ⟨w.heap.size, 1, none⟩ (.slice A5 n5 c5) = v2
    have hO : Only (w.heap.size) v1 v2 := by rw [← hWe]; exact only2 _ _ _ _
    replace hx := hx.only hB2 rfl hO
    replace hy := hy.only hB2 rfl hO
    replace hg2 := hg2.only hB2 rfl hO
    replace hq1 := hq1.only hB2 rfl hO
    replace hB3 := hB3.only hO (by omega)
    replace hR := hR.only hO (by omega)
    replace hG := hG.only hO (by omega)
    replace hB2 : Blk v2 (w.heap.size) 75 #[.bool (ngb (Rat.divInt x y).num), .slice A5 n5 c5] := by rw [← hWe]; exact hB2.put2 _ _
    replace hbl : Below w.heap.size w v2 := by rw [← hWe]; exact (hbl.setCell (p := ⟨w.heap.size, 0, none⟩) (show w.heap.size ≤ w.heap.size from Nat.le_refl _) _).setCell (p := ⟨w.heap.size, 1, none⟩) (show w.heap.size ≤ w.heap.size from Nat.le_refl _) _
    clear hWe hO
    obtain ⟨hB2a, hB2b, hB2c, hB2d, hB2e⟩ := hB2.two
    obtain ⟨hB3a, hB3b, hB3c, hB3d, hB3e⟩ := hB3.two
    obtain ⟨⟨hRa, hRb, hRc, hRd⟩, ⟨hRf, hRg, hRh, hRi⟩, hRe⟩ := hR.four
    obtain ⟨hGa, hGb, hGc, hGd, hGe⟩ := hG.two
    refine (int_divmod (⟨_, _, _, rfl, hy⟩ : IntV v2 (.agg #[.bool (ngb y), _]) y) (⟨_, _, _, rfl, hg2⟩ : IntV v2 (.agg #[.bool (ngb (-(Int.gcd x y : Int))), _]) (-(Int.gcd x y : Int))) bY hgb' hk hG0).mono ?_
    rw [HQ.out.2]
    rintro e v3 ⟨qv2, rv2, rfl, ⟨A6, n6, c6, rfl, hq2⟩, -, hb6⟩
    clear hB2a hB2b hB2c hB2d hB2e hB3a hB3b hB3c hB3d hB3e hRa hRb hRc hRd hRe hRf hRg hRh hRi hGa hGb hGc hGd hGe
    replace hB2 := hB2.below hb6 hB2.lt
    replace hB3 := hB3.below hb6 hB3.lt
    replace hR := hR.below hb6 hR.lt
    replace hG := hG.below hb6 hG.lt
    replace hx := hx.below hb6
    replace hy := hy.below hb6
    replace hg2 := hg2.below hb6
    replace hq1 := hq1.below hb6
    replace hbl := hbl.trans (hb6.mono hbl.size)
    obtain ⟨hB2a, hB2b, hB2c, hB2d, hB2e⟩ := hB2.two
    obtain ⟨hB3a, hB3b, hB3c, hB3d, hB3e⟩ := hB3.two
    obtain ⟨⟨hRa, hRb, hRc, hRd⟩, ⟨hRf, hRg, hRh, hRi⟩, hRe⟩ := hR.four
    obtain ⟨hGa, hGb, hGc, hGd, hGe⟩ := hG.two
    go_wp2_with fail
    clear hB2a hB2b hB2c hB2d hB2e hB3a hB3b hB3c hB3d hB3e hRa hRb hRc hRd hRe hRf hRg hRh hRi hGa hGb hGc hGd hGe
    generalize hWe : (v3.setCell ⟨w.heap.size + 1, 0, none⟩ (.bool (ngb ((Rat.divInt x y).den : Int)))).setCell ⟨w.heap.size + 1, 1, none⟩ (.slice A6 n6 c6) = v4
    have hO : Only (w.heap.size + 1) v3 v4 := by rw [← hWe]; exact only2 _ _ _ _
    replace hq1 := hq1.only hB3 rfl hO
    replace hq2 := hq2.only hB3 rfl hO
    replace hB2 := hB2.only hO (by omega)
    replace hR := hR.only hO (by omega)
    replace hG := hG.only hO (by omega)
    replace hB3 : Blk v4 (w.heap.size + 1) 75 #[.bool (ngb ((Rat.divInt x y).den : Int)), .slice A6 n6 c6] := by rw [← hWe]; exact hB3.put2 _ _
    replace hbl : Below w.heap.size w v4 := by rw [← hWe]; exact (hbl.setCell (p := ⟨w.heap.size + 1, 0, none⟩) (show w.heap.size ≤ w.heap.size + 1 from by omega) _).setCell (p := ⟨w.heap.size + 1, 1, none⟩) (show w.heap.size ≤ w.heap.size + 1 from by omega) _
    clear hWe hO
    obtain ⟨⟨hRa, hRb, hRc, hRd⟩, ⟨hRf, hRg, hRh, hRi⟩, hRe⟩ := hR.four
    have hfinal := rat_box (q := Rat.divInt x y) hq1 hq2 hR rfl hbl (by omega)
    exact bodyPost_ret (v := .agg #[.bool (ngb (Rat.divInt x y).num), .slice A5 n5 c5, .bool (ngb ((Rat.divInt x y).den : Int)), .slice A6 n6 c6]) (by simp [results, Tryz.results72, go_sem, hRa, hRb, hRc, hRd]) rfl ⟨_, rfl, hfinal.1, hfinal.2⟩
  · have hsg : ¬ cmpI y 0 < 0 := by unfold cmpI; rw [if_neg hneg]; split <;> omega
    have hgb' : Bd k (Int.gcd x y : Int) := hgb
    have hG0 : (Int.gcd x y : Int) ≠ 0 := by omega
    have HQ : Hid (x / (Int.gcd x y : Int) = (Rat.divInt x y).num ∧ y / (Int.gcd x y : Int) = ((Rat.divInt x y).den : Int)) := by
      have := HLOW.out
      rwa [if_neg hneg] at this
    go_wp2_with fail
    refine (int_divmod (⟨_, _, _, rfl, hx⟩ : IntV w3 (.agg #[.bool (ngb x), _]) x) (⟨_, _, _, rfl, hg⟩ : IntV w3 (.agg #[.bool (ngb ((Int.gcd x y : Int))), _]) ((Int.gcd x y : Int))) bx hgb' hk hG0).mono ?_
    rw [HQ.out.1]
    rintro e v1 ⟨qv, rv, rfl, ⟨A5, n5, c5, rfl, hq1⟩, -, hb5⟩
    clear hB2a hB2b hB2c hB2d hB2e hB3a hB3b hB3c hB3d hB3e hRa hRb hRc hRd hRe hRf hRg hRh hRi hGa hGb hGc hGd hGe
    replace hB2 := hB2.below hb5 hB2.lt
    replace hB3 := hB3.below hb5 hB3.lt
    replace hR := hR.below hb5 hR.lt
    replace hG := hG.below hb5 hG.lt
    replace hx := hx.below hb5
    replace hy := hy.below hb5
    replace hg := hg.below hb5
    replace hbl := hbl.trans (hb5.mono hbl.size)
    obtain ⟨hB2a, hB2b, hB2c, hB2d, hB2e⟩ := hB2.two
    obtain ⟨hB3a, hB3b, hB3c, hB3d, hB3e⟩ := hB3.two
    obtain ⟨⟨hRa, hRb, hRc, hRd⟩, ⟨hRf, hRg, hRh, hRi⟩, hRe⟩ := hR.four
    obtain ⟨hGa, hGb, hGc, hGd, hGe⟩ := hG.two
    go_wp2_with fail
    clear hB2a hB2b hB2c hB2d hB2e hB3a hB3b hB3c hB3d hB3e hRa hRb hRc hRd hRe hRf hRg hRh hRi hGa hGb hGc hGd hGe
    generalize hWe : (v1.setCell ⟨w.heap.size, 0, none⟩ (.bool (ngb (Rat.divInt x y).num))).setCell ⟨w.heap.size, 1, none⟩ (.slice A5 n5 c5) = v2
    have hO : Only (w.heap.size) v1 v2 := by rw [← hWe]; exact only2 _ _ _ _
    replace hx := hx.only hB2 rfl hO
    replace hy := hy.only hB2 rfl hO
    replace hg := hg.only hB2 rfl hO
    replace hq1 := hq1.only hB2 rfl hO
    replace hB3 := hB3.only hO (by omega)
    replace hR := hR.only hO (by omega)
    replace hG := hG.only hO (by omega)
    replace hB2 : Blk v2 (w.heap.size) 75 #[.bool (ngb (Rat.divInt x y).num), .slice A5 n5 c5] := by rw [← hWe]; exact hB2.put2 _ _
    replace hbl : Below w.heap.size w v2 := by rw [← hWe]; exact (hbl.setCell (p := ⟨w.heap.size, 0, none⟩) (show w.heap.size ≤ w.heap.size from Nat.le_refl _) _).setCell (p := ⟨w.heap.size, 1, none⟩) (show w.heap.size ≤ w.heap.size from Nat.le_refl _) _
    clear hWe hO
    obtain ⟨hB2a, hB2b, hB2c, hB2d, hB2e⟩ := hB2.two
    obtain ⟨hB3a, hB3b, hB3c, hB3d, hB3e⟩ := hB3.two
    obtain ⟨⟨hRa, hRb, hRc, hRd⟩, ⟨hRf, hRg, hRh, hRi⟩, hRe⟩ := hR.four
    obtain ⟨hGa, hGb, hGc, hGd, hGe⟩ := hG.two
    refine (int_divmod (⟨_, _, _, rfl, hy⟩ : IntV v2 (.agg #[.bool (ngb y), _]) y) (⟨_, _, _, rfl, hg⟩ : IntV v2 (.agg #[.bool (ngb ((Int.gcd x y : Int))), _]) ((Int.gcd x y : Int))) bY hgb' hk hG0).mono ?_
    rw [HQ.out.2]
    rintro e v3 ⟨qv2, rv2, rfl, ⟨A6, n6, c6, rfl, hq2⟩, -, hb6⟩
    clear hB2a hB2b hB2c hB2d hB2e hB3a hB3b hB3c hB3d hB3e hRa hRb hRc hRd hRe hRf hRg hRh hRi hGa hGb hGc hGd hGe
    replace hB2 := hB2.below hb6 hB2.lt
    replace hB3 := hB3.below hb6 hB3.lt
    replace hR := hR.below hb6 hR.lt
    replace hG := hG.below hb6 hG.lt
    replace hx := hx.below hb6
    replace hy := hy.below hb6
    replace hg := hg.below hb6
    replace hq1 := hq1.below hb6
    replace hbl := hbl.trans (hb6.mono hbl.size)
    obtain ⟨hB2a, hB2b, hB2c, hB2d, hB2e⟩ := hB2.two
    obtain ⟨hB3a, hB3b, hB3c, hB3d, hB3e⟩ := hB3.two
    obtain ⟨⟨hRa, hRb, hRc, hRd⟩, ⟨hRf, hRg, hRh, hRi⟩, hRe⟩ := hR.four
    obtain ⟨hGa, hGb, hGc, hGd, hGe⟩ := hG.two
    go_wp2_with fail
    clear hB2a hB2b hB2c hB2d hB2e hB3a hB3b hB3c hB3d hB3e hRa hRb hRc hRd hRe hRf hRg hRh hRi hGa hGb hGc hGd hGe
    generalize hWe : (v3.setCell ⟨w.heap.size + 1, 0, none⟩ (.bool (ngb ((Rat.divInt x y).den : Int)))).setCell ⟨w.heap.size + 1, 1, none⟩ (.slice A6 n6 c6) = v4
    have hO : Only (w.heap.size + 1) v3 v4 := by rw [← hWe]; exact only2 _ _ _ _
    replace hq1 := hq1.only hB3 rfl hO
    replace hq2 := hq2.only hB3 rfl hO
    replace hB2 := hB2.only hO (by omega)
    replace hR := hR.only hO (by omega)
    replace hG := hG.only hO (by omega)
    replace hB3 : Blk v4 (w.heap.size + 1) 75 #[.bool (ngb ((Rat.divInt x y).den : Int)), .slice A6 n6 c6] := by rw [← hWe]; exact hB3.put2 _ _
    replace hbl : Below w.heap.size w v4 := by rw [← hWe]; exact (hbl.setCell (p := ⟨w.heap.size + 1, 0, none⟩) (show w.heap.size ≤ w.heap.size + 1 from by omega) _).setCell (p := ⟨w.heap.size + 1, 1, none⟩) (show w.heap.size ≤ w.heap.size + 1 from by omega) _
    clear hWe hO
    obtain ⟨⟨hRa, hRb, hRc, hRd⟩, ⟨hRf, hRg, hRh, hRi⟩, hRe⟩ := hR.four
    have hfinal := rat_box (q := Rat.divInt x y) hq1 hq2 hR rfl hbl (by omega)
    exact bodyPost_ret (v := .agg #[.bool (ngb (Rat.divInt x y).num), .slice A5 n5 c5, .bool (ngb ((Rat.divInt x y).den : Int)), .slice A6 n6 c6]) (by simp [results, Tryz.results72, go_sem, hRa, hRb, hRc, hRd]) rfl ⟨_, rfl, hfinal.1, hfinal.2⟩

end Go.Proofs.YtmkhfgggleplfaaGreat

