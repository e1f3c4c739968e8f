/-
  The walks of the integers' Gcd and DivMod. Conditions: lengths below 2^39; for DivMod: the divisor is not 0.
-/
import Derived.Test.YtmkhfgggleplfaaGreatIntC
import Derived.Deep.LoopGhost
namespace Go.Proofs.YtmkhfgggleplfaaGreat
set_option linter.unusedSimpArgs false
set_option linter.unusedVariables false
open Go.RowKit

theorem NatV.zero_len {w : World} {A : Option Addr} {n c x : Nat} (h : NatV w (.slice A n c) x) : x = 0 ↔ n = 0 := by
  obtain ⟨A', c', l, he, h1, h2, h3, h4, h5⟩ := h
  injection he with e1 e2 e3
  rw [e2, ← h4.zero_iff, h5]
theorem NatV.sl {w : World} {v : Value} {x : Nat} (h : NatV w v x) : ∃ A n c, v = .slice A n c := by
  obtain ⟨A', c', l, he, _⟩ := h
  exact ⟨_, _, _, he⟩

def GcdRel (w : World) (t : TypeId) (G k : Nat) (m : Nat) (vx vy : Value) (wr : World) : Prop :=
  ∃ a b A n c A' n' c', m = b ∧ vx = .slice A n c ∧ vy = .slice A' n' c' ∧ NatV wr (.slice A n c) a ∧ NatV wr (.slice A' n' c') b ∧ Nat.gcd a b = G ∧ a < pw k ∧ b < pw k ∧ Blk wr (w.heap.size + 1 + 1) t #[.bool false, .slice none 0 0] ∧ Below w.heap.size w wr

set_option maxHeartbeats 2000000 in
theorem int_gcd {a b : Value} {x y : Int} {k : Nat} {w : World} (ha : IntV w a x) (hb : IntV w b y) (bx : Bd k x) (bY : Bd k y) (hk : k ≤ 549755813880) :
    Calls Tryz.prog 94 #[a, b] w fun e w' => ∃ r, e = .returned r ∧ IntV w' r (Int.gcd x y : Int) ∧ Below w.heap.size w w' := by
  obtain ⟨A, n, c, rfl, hnx⟩ := ha
  obtain ⟨A', n', c', rfl, hny⟩ := hb
  go_enter Tryz.func94, Tryz.ntmps94
  go_wp2_with fail
  obtain ⟨W0, hW0, hbl0, hb2, hb3, hb4, hsz⟩ := boxes3 w 75 75 75 #[.bool (ngb x), .slice A n c] #[.bool (ngb y), .slice A' n' c'] #[.bool false, .slice none 0 0]
  rw [← hW0]
  clear hW0
  obtain ⟨f20, f21, -, -, -⟩ := hb2.two
  obtain ⟨f30, f31, -, -, -⟩ := hb3.two
  go_quiet (fail)
  go_wp2_with fail
  go_loopg [5, 6] y.natAbs (fun m vx vy wr => GcdRel w 75 (Int.gcd x y) k m vx vy wr)
  case atStart =>
    exact ⟨x.natAbs, y.natAbs, A, n, c, A', n', c', rfl, rfl, rfl, (hnx.below (hbl0.drewN _)), (hny.below (hbl0.drewN _)), rfl, bx, bY, hb4, hbl0.drewN _⟩
  case round =>
    obtain ⟨p, q, A2, n2, c2, A3, n3, c3, rfl, rfl, rfl, hp, hq, hg, hpb, hqb, hbb, hbl⟩ := hrel
    clear hb2 hb3 hb4 f20 f21 f30 f31 hbl0 hsz
    have hz := hq.zero_len
    by_cases h0 : n3 = 0
    · have hq0 := hz.2 h0
      have hpg : Hid ((p : Int) = (Int.gcd x y : Int)) := by show (p : Int) = (Int.gcd x y : Int); rw [← hg, hq0, Nat.gcd_zero_right]
      subst h0
      clear hg hz hq0
      go_wp2_with fail
      refine (nat_signedZ false hp hpb (by omega) (z := (Int.gcd x y : Int)) (by simpa using hpg.out)).mono ?_
      rintro e w2 ⟨r2, rfl, ⟨A4, n4, c4, rfl, hn4⟩, hb2'⟩
      have hB4 := hbb.below hb2' hbb.lt
      obtain ⟨r0, r1, q0, q1, hs2⟩ := hB4.two
      go_wp2
      have hfinal := int_box hn4 hB4 rfl (hbl.trans (hb2'.mono hbl.size)) (by omega)
      exact bodyPost_ret (v := .agg #[.bool (ngb (Int.gcd x y : Int)), .slice A4 n4 c4]) (by simp [results, Tryz.results94, go_sem, r0, r1]) rfl ⟨_, rfl, hfinal.1, hfinal.2⟩
    · have hq0 : gk ≠ 0 := fun h => h0 (hz.1 h)
      have hmod : p % gk < gk := Nat.mod_lt _ (by omega)
      have hgg : Hid (Nat.gcd gk (p % gk) = Int.gcd x y) := by
        show Nat.gcd gk (p % gk) = Int.gcd x y
        rw [← hg, Nat.gcd_comm gk, ← Nat.gcd_rec, Nat.gcd_comm]
      clear hg hz
      go_wp2_with fail
      refine (nat_div hp hq hpb hqb (by omega) (by omega) hq0).mono ?_
      rintro e w2 ⟨vq, vr, rfl, hvq, hvr, hb2'⟩
      go_wp2_with fail
      go_roundg (p % gk)
      case measure => exact hmod
      case rel =>
        obtain ⟨A5, n5, c5, rfl⟩ := hvr.sl
        exact ⟨gk, p % gk, A3, n3, c3, A5, n5, c5, rfl, rfl, rfl, hq.below hb2', hvr, hgg.out, hqb, by omega, hbb.below hb2' hbb.lt, hbl.trans (hb2'.mono hbl.size)⟩

theorem ediv_of {x y q r : Int} (h : x = y * q + r) (h0 : 0 ≤ r) (h1 : r < y.natAbs) : x / y = q ∧ x % y = r := by
  have hy : y ≠ 0 := by omega
  have hr0 : r / y = 0 := by
    rcases Int.lt_or_le y 0 with h2 | h2
    · have : r / (-y) = 0 := Int.ediv_eq_zero_of_lt h0 (by omega)
      rw [Int.ediv_neg] at this; omega
    · exact Int.ediv_eq_zero_of_lt h0 (by omega)
  have e : x / y = q := by rw [h, Int.add_comm, Int.add_mul_ediv_left _ _ hy, hr0, Int.zero_add]
  refine ⟨e, ?_⟩
  have := Int.mul_ediv_add_emod x y
  rw [e] at this; omega
/-- what q and r come to -/
theorem dm_exact {x y : Int} (hy : y ≠ 0) (h : ¬ (x < 0 ∧ x.natAbs % y.natAbs ≠ 0)) :
    (if (ngb x != ngb y) = true then -((x.natAbs / y.natAbs : Nat) : Int) else ((x.natAbs / y.natAbs : Nat) : Int)) = x / y ∧ ((x.natAbs % y.natAbs : Nat) : Int) = x % y := by
  have hd := Nat.div_add_mod x.natAbs y.natAbs
  have hm := Nat.mod_lt x.natAbs (show 0 < y.natAbs by omega)
  have hdi : (y.natAbs : Int) * ((x.natAbs / y.natAbs : Nat) : Int) + ((x.natAbs % y.natAbs : Nat) : Int) = (x.natAbs : Int) := by rw [← Int.natCast_mul, ← Int.natCast_add, hd]
  generalize hQ : x.natAbs / y.natAbs = Q at *
  generalize hR : x.natAbs % y.natAbs = R at *
  have key : x = y * (if (ngb x != ngb y) = true then -(Q : Int) else (Q : Int)) + (R : Int) := by
    unfold ngb
    rcases Int.lt_or_le x 0 with hx | hx <;> rcases Int.lt_or_le y 0 with hy' | hy'
    · have hR0 : R = 0 := by
        rcases Nat.eq_zero_or_pos R with h1 | h1
        · exact h1
        · exact absurd ⟨hx, by omega⟩ h
      simp only [hx, hy', decide_true, bne_self_eq_false, Bool.false_eq_true, if_false]
      have e1 : (x.natAbs : Int) = -x := by omega
      have e2 : (y.natAbs : Int) = -y := by omega
      rw [e1, e2, Int.neg_mul] at hdi; omega
    · have hR0 : R = 0 := by
        rcases Nat.eq_zero_or_pos R with h1 | h1
        · exact h1
        · exact absurd ⟨hx, by omega⟩ h
      have hny : ¬ y < 0 := by omega
      simp only [hx, hny, decide_true, decide_false, Bool.bne_false, if_true]
      have e1 : (x.natAbs : Int) = -x := by omega
      have e2 : (y.natAbs : Int) = y := by omega
      rw [e1, e2] at hdi; rw [Int.mul_neg]; omega
    · have hnx : ¬ x < 0 := by omega
      simp only [hnx, hy', decide_true, decide_false, Bool.bne_true, Bool.not_false, if_true]
      have e1 : (x.natAbs : Int) = x := by omega
      have e2 : (y.natAbs : Int) = -y := by omega
      rw [e1, e2, Int.neg_mul] at hdi; rw [Int.mul_neg]; omega
    · have hnx : ¬ x < 0 := by omega
      have hny : ¬ y < 0 := by omega
      simp only [hnx, hny, decide_false, bne_self_eq_false, Bool.false_eq_true, if_false]
      have e1 : (x.natAbs : Int) = x := by omega
      have e2 : (y.natAbs : Int) = y := by omega
      rw [e1, e2] at hdi; omega
  have := ediv_of key (by omega) (by omega)
  exact ⟨this.1.symm, this.2.symm⟩
theorem dm_up {x y : Int} (hy : y ≠ 0) (hx : x < 0) (hr : x.natAbs % y.natAbs ≠ 0) :
    (if (ngb x != ngb y) = true then -((x.natAbs / y.natAbs + 1 : Nat) : Int) else ((x.natAbs / y.natAbs + 1 : Nat) : Int)) = x / y ∧ ((y.natAbs - x.natAbs % y.natAbs : Nat) : Int) = x % y := by
  have hd := Nat.div_add_mod x.natAbs y.natAbs
  have hm := Nat.mod_lt x.natAbs (show 0 < y.natAbs by omega)
  have hdi : (y.natAbs : Int) * ((x.natAbs / y.natAbs : Nat) : Int) + ((x.natAbs % y.natAbs : Nat) : Int) = (x.natAbs : Int) := by rw [← Int.natCast_mul, ← Int.natCast_add, hd]
  generalize hQ : x.natAbs / y.natAbs = Q at *
  generalize hR : x.natAbs % y.natAbs = R at *
  have key : x = y * (if (ngb x != ngb y) = true then -((Q + 1 : Nat) : Int) else ((Q + 1 : Nat) : Int)) + ((y.natAbs - R : Nat) : Int) := by
    unfold ngb
    have e0 : ((Q + 1 : Nat) : Int) = (Q : Int) + 1 := by omega
    have e1 : (x.natAbs : Int) = -x := by omega
    rw [e0]
    rcases Int.lt_or_le y 0 with hy' | hy'
    · simp only [hx, hy', decide_true, bne_self_eq_false, Bool.false_eq_true, if_false]
      have e2 : (y.natAbs : Int) = -y := by omega
      rw [e1, e2, Int.neg_mul] at hdi; rw [Int.mul_add, Int.mul_one]; omega
    · have hny : ¬ y < 0 := by omega
      simp only [hx, hny, decide_true, decide_false, Bool.bne_false, if_true]
      have e2 : (y.natAbs : Int) = y := by omega
      rw [e1, e2] at hdi; rw [Int.mul_neg, Int.mul_add, Int.mul_one]; omega
  have := ediv_of key (by omega) (by omega)
  exact ⟨this.1.symm, this.2.symm⟩

set_option maxHeartbeats 2000000 in
theorem int_divmod {a b : Value} {x y : Int} {k : Nat} {w : World} (ha : IntV w a x) (hb : IntV w b y) (bx : Bd k x) (bY : Bd k y) (hk : k ≤ 549755813880) (hy : y ≠ 0) :
    Calls Tryz.prog 96 #[a, b] w fun e w' => ∃ q r, e = .returned (.tuple #[q, r, .int .i64 0]) ∧ IntV w' q (x / y) ∧ IntV w' r (x % y) ∧ Below w.heap.size w w' := by
  obtain ⟨A, n, c, rfl, hnx⟩ := ha
  obtain ⟨A', n', c', rfl, hny⟩ := hb
  have hn0 : ((n' : Int) == 0) = false := by
    rw [beq_eq_false_iff_ne]
    intro h
    have := hny.zero_len.2 (by omega); omega
  go_enter Tryz.func96, Tryz.ntmps96
  go_wp2_with fail
  obtain ⟨W0, hW0, hbl0, hb2, hb3, hb4, hb5, hsz⟩ := boxes4 w 75 75 75 75 #[.bool (ngb x), .slice A n c] #[.bool (ngb y), .slice A' n' c'] #[.bool false, .slice none 0 0] #[.bool false, .slice none 0 0]
  rw [← hW0]
  clear hW0
  obtain ⟨f20, f21, -, -, -⟩ := hb2.two
  obtain ⟨f30, f31, -, -, -⟩ := hb3.two
  have hwx := hnx.below hbl0
  have hwy := hny.below hbl0
  refine (nat_div hwx hwy bx bY (by omega) (by omega) (by omega)).mono ?_
  rintro e w1 ⟨vq, vr, rfl, hq, hr, hb1⟩
  obtain ⟨A2, n2, c2, rfl⟩ := hq.sl
  obtain ⟨A3, n3, c3, rfl⟩ := hr.sl
  have hs1 := hb1.size
  replace hb2 := hb2.below hb1 (by omega)
  replace hb3 := hb3.below hb1 (by omega)
  replace hb4 := hb4.below hb1 (by omega)
  replace hb5 := hb5.below hb1 (by omega)
  replace hwy := hwy.below hb1
  replace hbl0 := hbl0.trans (hb1.mono hbl0.size)
  have hz := hr.zero_len
  have hqb : x.natAbs / y.natAbs < pw k := Nat.lt_of_le_of_lt (Nat.div_le_self _ _) bx
  have hrb : x.natAbs % y.natAbs < pw k := Nat.lt_of_lt_of_le (Nat.mod_lt _ (by omega)) (Nat.le_of_lt bY)
  clear f20 f21 f30 f31 hwx
  obtain ⟨f20, f21, -, -, -⟩ := hb2.two
  obtain ⟨f30, f31, -, -, -⟩ := hb3.two
  by_cases hup : x < 0 ∧ x.natAbs % y.natAbs ≠ 0
  · obtain ⟨hx0, hr0⟩ := hup
    have hup2 := dm_up hy hx0 hr0
    have hng : ngb x = true := by simpa [ngb] using hx0
    have hn3 : ¬ n3 = 0 := fun h => hr0 (hz.2 h)
    have hn3' : decide ((0 : Int) < (n3 : Int)) = true := by simp; omega
    have hn3'' : (0 : Int) < (n3 : Int) := by omega
    have HU := Lib.hid hup2
    have HNG := Lib.hid hng
    rw [hng] at f20 hb2
    clear hup2 hz hr0 hng
    go_wp2_with fail
    refine (natural_any 1 w1 (by omega)).mono ?_
    rintro e w2 ⟨v1, rfl, hv1, hb6⟩
    have hs2 := hb6.size
    go_wp2_with fail
    refine (nat_add (k := k) (hq.below hb6) hv1 hqb (by unfold Bd at bY; omega) (by omega)).mono ?_
    rintro e w3 ⟨v2, rfl, hv2, hb7⟩
    have hs3 := hb7.size
    have hb67 := hb6.trans (hb7.mono hs2)
    go_wp2_with fail
    refine (nat_sub (hwy.below hb67) (hr.below hb67) bY (by omega) (Nat.le_of_lt (Nat.mod_lt _ (by omega)))).mono ?_
    rintro e w4 ⟨v3, rfl, hv3, hb8⟩
    have hs4 := hb8.size
    have hb68 := hb67.trans (hb8.mono (by omega))
    replace hv2 := hv2.below hb8
    replace hb2 := hb2.below hb68 (by omega)
    replace hb3 := hb3.below hb68 (by omega)
    replace hb4 := hb4.below hb68 (by omega)
    replace hb5 := hb5.below hb68 (by omega)
    replace hbl0 := hbl0.trans (hb68.mono hbl0.size)
    clear f20 f21 f30 f31
    rw [← HNG.out] at hb2
    obtain ⟨f20, f21, -, -, -⟩ := hb2.two
    obtain ⟨f30, f31, -, -, -⟩ := hb3.two
    have hvb2 : x.natAbs / y.natAbs + 1 < pw (k + 1) := by simp only [pw]; omega
    have hvb3 : y.natAbs - x.natAbs % y.natAbs < pw k := by unfold Bd at bY; omega
    clear hn3' hn3''
    go_wp2_with fail
    refine (nat_signedZ (ngb x != ngb y) hv2 hvb2 (by omega) (z := x / y) HU.out.1).mono ?_
    rintro e w5 ⟨r5, rfl, ⟨A5, n5, c5, rfl, hn5⟩, hb9⟩
    have hs5 := hb9.size
    replace hb4 := hb4.below hb9 (by omega)
    replace hb5 := hb5.below hb9 (by omega)
    replace hbl0 := hbl0.trans (hb9.mono hbl0.size)
    go_wp2_with fail
    refine (nat_signedZ false (hv3.below hb9) hvb3 (by omega) (z := x % y) (by simpa using HU.out.2)).mono ?_
    rintro e w6 ⟨r6, rfl, ⟨A6, n6, c6, rfl, hn6⟩, hb10⟩
    have hs6 := hb10.size
    replace hb4 := hb4.below hb10 (by omega)
    replace hb5 := hb5.below hb10 (by omega)
    replace hbl0 := hbl0.trans (hb10.mono hbl0.size)
    replace hn5 := hn5.below hb10
    obtain ⟨r0, r1, q0, q1, hz1⟩ := hb4.two
    obtain ⟨r2, r3, q2, q3, hz2⟩ := hb5.two
    go_wp2
    have hf1 := int_box (z := x / y) hn5 hb4 rfl hbl0 (by omega)
    have hO : Only (w.heap.size + 1 + 1) w6 ((w6.setCell ⟨w.heap.size + 1 + 1, 0, none⟩ (.bool (ngb (x / y)))).setCell ⟨w.heap.size + 1 + 1, 1, none⟩ (.slice A5 n5 c5)) :=
      ((Only.refl _ _).setCell (p := ⟨w.heap.size + 1 + 1, 0, none⟩) rfl _).setCell (p := ⟨w.heap.size + 1 + 1, 1, none⟩) rfl _
    have hn6' := hn6.only hb4 rfl hO
    have hb5' : Blk ((w6.setCell ⟨w.heap.size + 1 + 1, 0, none⟩ (.bool (ngb (x / y)))).setCell ⟨w.heap.size + 1 + 1, 1, none⟩ (.slice A5 n5 c5)) (w.heap.size + 1 + 1 + 1) 75 #[.bool false, .slice none 0 0] :=
      (hO.block _ hz2 (by omega)).trans hb5
    have hf2 := int_box (z := x % y) hn6' hb5' rfl hf1.2 (by omega)
    have hf3 := hf1.1.only hb5' rfl (((Only.refl (w.heap.size + 1 + 1 + 1) _).setCell (p := ⟨w.heap.size + 1 + 1 + 1, 0, none⟩) rfl (.bool (ngb (x % y)))).setCell (p := ⟨w.heap.size + 1 + 1 + 1, 1, none⟩) rfl (.slice A6 n6 c6))
    exact bodyPost_ret (v := .tuple #[.agg #[.bool (ngb (x / y)), .slice A5 n5 c5], .agg #[.bool (ngb (x % y)), .slice A6 n6 c6], .int .i64 0]) (by simp [results, Tryz.results96, go_sem, r0, r1, r2, r3]) rfl ⟨_, _, rfl, hf3, hf2.1, hf2.2⟩
  · have hup2 := dm_exact hy hup
    have HU := Lib.hid hup2
    by_cases hx0 : x < 0
    · have hr0 : x.natAbs % y.natAbs = 0 := by
        rcases Nat.eq_zero_or_pos (x.natAbs % y.natAbs) with h | h
        · exact h
        · exact absurd ⟨hx0, by omega⟩ hup
      have hn3 : n3 = 0 := hz.1 hr0
      subst hn3
      have hng : ngb x = true := by simpa [ngb] using hx0
      have HNG := Lib.hid hng
      rw [hng] at f20
      clear hup2 hz hr0 hup hng
      go_wp2_with fail
      refine (nat_signedZ (!ngb y) hq hqb (by omega) (z := x / y) (by have := HU.out.1; rw [HNG.out] at this; simpa using this)).mono ?_
      rintro e w5 ⟨r5, rfl, ⟨A5, n5, c5, rfl, hn5⟩, hb9⟩
      have hs5 := hb9.size
      replace hb4 := hb4.below hb9 (by omega)
      replace hb5 := hb5.below hb9 (by omega)
      replace hbl0 := hbl0.trans (hb9.mono hbl0.size)
      go_wp2_with fail
      refine (nat_signedZ false (hr.below hb9) hrb (by omega) (z := x % y) (by simpa using HU.out.2)).mono ?_
      rintro e w6 ⟨r6, rfl, ⟨A6, n6, c6, rfl, hn6⟩, hb10⟩
      have hs6 := hb10.size
      replace hb4 := hb4.below hb10 (by omega)
      replace hb5 := hb5.below hb10 (by omega)
      replace hbl0 := hbl0.trans (hb10.mono hbl0.size)
      replace hn5 := hn5.below hb10
      obtain ⟨r0, r1, q0, q1, hz1⟩ := hb4.two
      obtain ⟨r2, r3, q2, q3, hz2⟩ := hb5.two
      go_wp2
      have hf1 := int_box (z := x / y) hn5 hb4 rfl hbl0 (by omega)
      have hO : Only (w.heap.size + 1 + 1) w6 ((w6.setCell ⟨w.heap.size + 1 + 1, 0, none⟩ (.bool (ngb (x / y)))).setCell ⟨w.heap.size + 1 + 1, 1, none⟩ (.slice A5 n5 c5)) :=
        ((Only.refl _ _).setCell (p := ⟨w.heap.size + 1 + 1, 0, none⟩) rfl _).setCell (p := ⟨w.heap.size + 1 + 1, 1, none⟩) rfl _
      have hn6' := hn6.only hb4 rfl hO
      have hb5' : Blk ((w6.setCell ⟨w.heap.size + 1 + 1, 0, none⟩ (.bool (ngb (x / y)))).setCell ⟨w.heap.size + 1 + 1, 1, none⟩ (.slice A5 n5 c5)) (w.heap.size + 1 + 1 + 1) 75 #[.bool false, .slice none 0 0] :=
        (hO.block _ hz2 (by omega)).trans hb5
      have hf2 := int_box (z := x % y) hn6' hb5' rfl hf1.2 (by omega)
      have hf3 := hf1.1.only hb5' rfl (((Only.refl (w.heap.size + 1 + 1 + 1) _).setCell (p := ⟨w.heap.size + 1 + 1 + 1, 0, none⟩) rfl (.bool (ngb (x % y)))).setCell (p := ⟨w.heap.size + 1 + 1 + 1, 1, none⟩) rfl (.slice A6 n6 c6))
      exact bodyPost_ret (v := .tuple #[.agg #[.bool (ngb (x / y)), .slice A5 n5 c5], .agg #[.bool (ngb (x % y)), .slice A6 n6 c6], .int .i64 0]) (by simp [results, Tryz.results96, go_sem, r0, r1, r2, r3]) rfl ⟨_, _, rfl, hf3, hf2.1, hf2.2⟩
    · have hng : ngb x = false := by simpa [ngb] using hx0
      have HNG := Lib.hid hng
      rw [hng] at f20
      clear hup2 hz hup hng
      go_wp2_with fail
      refine (nat_signedZ (ngb y) hq hqb (by omega) (z := x / y) (by have := HU.out.1; rw [HNG.out] at this; simpa using this)).mono ?_
      rintro e w5 ⟨r5, rfl, ⟨A5, n5, c5, rfl, hn5⟩, hb9⟩
      have hs5 := hb9.size
      replace hb4 := hb4.below hb9 (by omega)
      replace hb5 := hb5.below hb9 (by omega)
      replace hbl0 := hbl0.trans (hb9.mono hbl0.size)
      go_wp2_with fail
      refine (nat_signedZ false (hr.below hb9) hrb (by omega) (z := x % y) (by simpa using HU.out.2)).mono ?_
      rintro e w6 ⟨r6, rfl, ⟨A6, n6, c6, rfl, hn6⟩, hb10⟩
      have hs6 := hb10.size
      replace hb4 := hb4.below hb10 (by omega)
      replace hb5 := hb5.below hb10 (by omega)
      replace hbl0 := hbl0.trans (hb10.mono hbl0.size)
      replace hn5 := hn5.below hb10
      obtain ⟨r0, r1, q0, q1, hz1⟩ := hb4.two
      obtain ⟨r2, r3, q2, q3, hz2⟩ := hb5.two
      go_wp2
      have hf1 := int_box (z := x / y) hn5 hb4 rfl hbl0 (by omega)
      have hO : Only (w.heap.size + 1 + 1) w6 ((w6.setCell ⟨w.heap.size + 1 + 1, 0, none⟩ (.bool (ngb (x / y)))).setCell ⟨w.heap.size + 1 + 1, 1, none⟩ (.slice A5 n5 c5)) :=
        ((Only.refl _ _).setCell (p := ⟨w.heap.size + 1 + 1, 0, none⟩) rfl _).setCell (p := ⟨w.heap.size + 1 + 1, 1, none⟩) rfl _
      have hn6' := hn6.only hb4 rfl hO
      have hb5' : Blk ((w6.setCell ⟨w.heap.size + 1 + 1, 0, none⟩ (.bool (ngb (x / y)))).setCell ⟨w.heap.size + 1 + 1, 1, none⟩ (.slice A5 n5 c5)) (w.heap.size + 1 + 1 + 1) 75 #[.bool false, .slice none 0 0] :=
        (hO.block _ hz2 (by omega)).trans hb5
      have hf2 := int_box (z := x % y) hn6' hb5' rfl hf1.2 (by omega)
      have hf3 := hf1.1.only hb5' rfl (((Only.refl (w.heap.size + 1 + 1 + 1) _).setCell (p := ⟨w.heap.size + 1 + 1 + 1, 0, none⟩) rfl (.bool (ngb (x % y)))).setCell (p := ⟨w.heap.size + 1 + 1 + 1, 1, none⟩) rfl (.slice A6 n6 c6))
      exact bodyPost_ret (v := .tuple #[.agg #[.bool (ngb (x / y)), .slice A5 n5 c5], .agg #[.bool (ngb (x % y)), .slice A6 n6 c6], .int .i64 0]) (by simp [results, Tryz.results96, go_sem, r0, r1, r2, r3]) rfl ⟨_, _, rfl, hf3, hf2.1, hf2.2⟩

end Go.Proofs.YtmkhfgggleplfaaGreat
