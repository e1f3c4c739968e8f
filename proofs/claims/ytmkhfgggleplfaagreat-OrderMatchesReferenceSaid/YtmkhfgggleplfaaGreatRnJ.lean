/-
  The walks of the reference's integers: DivMod, Gcd. Conditions: lengths below 2^39; for DivMod: the divisor is not 0.
-/
import Derived.Test.YtmkhfgggleplfaaGreatRnI
import Derived.Test.YtmkhfgggleplfaaGreatIntD
namespace Go.Proofs.YtmkhfgggleplfaaGreat
set_option linter.unusedSimpArgs false
set_option linter.unusedVariables false
open Go.RowKit

theorem one_lit (w : World) : NatV (w.alloc (.cells #[Value.int .u32 1] 110)) (.slice (some ⟨w.heap.size, 0, none⟩) 1 1) 1 := by
  have hown : Own (w.alloc (.cells #[Value.int .u32 1] 110)) 110 w.heap.size [1] := heap_alloc_new w _
  refine ⟨_, 1, [1], rfl, Nat.le_refl _, by omega, hown.words, ⟨Ds.of_all fun k hk => ?_, fun _ => ?_⟩, by simp [val, vs, pw, dg]⟩
  · have : k = 0 := by simp at hk; exact hk
    subst this; simp [dg]
  · simp [dg]

set_option maxHeartbeats 2000000 in
theorem rint_divmod {a b : Value} {x y : Int} {k : Nat} {w : World} (ha : IntV w a x) (hb : IntV w b y) (bx : Bd k x) (bY : Bd k y) (hk : k ≤ 549755813880) (hy : y ≠ 0) :
    Calls Tryz.prog 121 #[a, b] w fun e w' => ∃ q r, e = .returned (.tuple #[q, r, .int .i64 0]) ∧ IntV w' q (x / y) ∧ IntV w' r (x % y) ∧ Below w.heap.size w w' := by
  obtain ⟨A, n, c, rfl, hnx⟩ := ha
  obtain ⟨A', n', c', rfl, hny⟩ := hb
  have hn0 : ((n' : Int) == 0) = false := by
    rw [beq_eq_false_iff_ne]
    intro h
    have := hny.zero_len.2 (by omega); omega
  go_enter Tryz.func121, Tryz.ntmps121
  go_wp2_with fail
  obtain ⟨W0, hW0, hbl0, hb2, hb3, hb4, hb5, hsz⟩ := boxes4 w 75 75 75 75 #[.bool (ngb x), .slice A n c] #[.bool (ngb y), .slice A' n' c'] #[.bool false, .slice none 0 0] #[.bool false, .slice none 0 0]
  rw [← hW0]
  clear hW0
  obtain ⟨f20, f21, -, -, -⟩ := hb2.two
  obtain ⟨f30, f31, -, -, -⟩ := hb3.two
  have hwx := hnx.below hbl0
  have hwy := hny.below hbl0
  refine (rnat_divided hwx hwy bx bY (by omega) (by omega) (by omega)).mono ?_
  rintro e w1 ⟨vq, vr, rfl, hq, hr, hb1⟩
  obtain ⟨A2, n2, c2, rfl⟩ := hq.sl
  obtain ⟨A3, n3, c3, rfl⟩ := hr.sl
  have hs1 := hb1.size
  replace hb2 := hb2.below hb1 (by omega)
  replace hb3 := hb3.below hb1 (by omega)
  replace hb4 := hb4.below hb1 (by omega)
  replace hb5 := hb5.below hb1 (by omega)
  replace hwy := hwy.below hb1
  replace hbl0 := hbl0.trans (hb1.mono hbl0.size)
  have hz := hr.zero_len
  have hqb : x.natAbs / y.natAbs < pw k := Nat.lt_of_le_of_lt (Nat.div_le_self _ _) bx
  have hrb : x.natAbs % y.natAbs < pw k := Nat.lt_of_lt_of_le (Nat.mod_lt _ (by omega)) (Nat.le_of_lt bY)
  clear f20 f21 f30 f31 hwx
  obtain ⟨f20, f21, -, -, -⟩ := hb2.two
  obtain ⟨f30, f31, -, -, -⟩ := hb3.two
  by_cases hup : x < 0 ∧ x.natAbs % y.natAbs ≠ 0
  · obtain ⟨hx0, hr0⟩ := hup
    have hup2 := dm_up hy hx0 hr0
    have hng : ngb x = true := by simpa [ngb] using hx0
    have hn3 : ¬ n3 = 0 := fun h => hr0 (hz.2 h)
    have hn3' : decide ((0 : Int) < (n3 : Int)) = true := by simp; omega
    have hn3'' : (0 : Int) < (n3 : Int) := by omega
    have HU := Lib.hid hup2
    have HNG := Lib.hid hng
    rw [hng] at f20 hb2
    clear hup2 hz hr0 hng
    go_wp2_with fail
    obtain ⟨w2, hw2⟩ : ∃ w2, w2 = w1.alloc (.cells #[Value.int .u32 1] 110) := ⟨_, rfl⟩
    have hv1 : NatV w2 (.slice (some ⟨w1.heap.size, 0, none⟩) 1 1) 1 := by rw [hw2]; exact one_lit w1
    have hb6 : Below w1.heap.size w1 w2 := by rw [hw2]; exact (Below.refl _ _).alloc (Nat.le_refl _) _
    rw [← hw2]
    clear hw2
    have hs2 := hb6.size
    refine (rnat_add (j := k) (k := k) (hq.below hb6) hv1 hqb (by unfold Bd at bY; omega) (by omega) (by omega)).mono ?_
    rintro e w3 ⟨v2, rfl, hv2, hb7⟩
    have hs3 := hb7.size
    have hb67 := hb6.trans (hb7.mono hs2)
    obtain ⟨-, f31', -, -, -⟩ := (hb3.below hb67 (by omega)).two
    go_wp2_with fail
    refine (rnat_taken (hwy.below hb67) (hr.below hb67) bY (by omega) (Nat.le_of_lt (Nat.mod_lt _ (by omega)))).mono ?_
    rintro e w4 ⟨v3, rfl, hv3, hb8⟩
    have hs4 := hb8.size
    have hb68 := hb67.trans (hb8.mono (by omega))
    replace hv2 := hv2.below hb8
    replace hb2 := hb2.below hb68 (by omega)
    replace hb3 := hb3.below hb68 (by omega)
    replace hb4 := hb4.below hb68 (by omega)
    replace hb5 := hb5.below hb68 (by omega)
    replace hbl0 := hbl0.trans (hb68.mono hbl0.size)
    clear f20 f21 f30 f31 f31'
    rw [← HNG.out] at hb2
    obtain ⟨f20, f21, -, -, -⟩ := hb2.two
    obtain ⟨f30, f31, -, -, -⟩ := hb3.two
    have hvb2 : x.natAbs / y.natAbs + 1 < pw (k + 1) := by simp only [pw]; omega
    have hvb3 : y.natAbs - x.natAbs % y.natAbs < pw k := by unfold Bd at bY; omega
    clear hn3' hn3''
    go_wp2_with fail
    refine (rnat_madeZ (ngb x != ngb y) hv2 hvb2 (by omega) (z := x / y) HU.out.1).mono ?_
    rintro e w5 ⟨r5, rfl, ⟨A5, n5, c5, rfl, hn5⟩, hb9⟩
    have hs5 := hb9.size
    replace hb4 := hb4.below hb9 (by omega)
    replace hb5 := hb5.below hb9 (by omega)
    replace hbl0 := hbl0.trans (hb9.mono hbl0.size)
    go_wp2_with fail
    refine (rnat_madeZ false (hv3.below hb9) hvb3 (by omega) (z := x % y) (by simpa using HU.out.2)).mono ?_
    rintro e w6 ⟨r6, rfl, ⟨A6, n6, c6, rfl, hn6⟩, hb10⟩
    have hs6 := hb10.size
    replace hb4 := hb4.below hb10 (by omega)
    replace hb5 := hb5.below hb10 (by omega)
    replace hbl0 := hbl0.trans (hb10.mono hbl0.size)
    replace hn5 := hn5.below hb10
    obtain ⟨r0, r1, q0, q1, hz1⟩ := hb4.two
    obtain ⟨r2, r3, q2, q3, hz2⟩ := hb5.two
    go_wp2
    have hf1 := int_box (z := x / y) hn5 hb4 rfl hbl0 (by omega)
    have hO : Only (w.heap.size + 1 + 1) w6 ((w6.setCell ⟨w.heap.size + 1 + 1, 0, none⟩ (.bool (ngb (x / y)))).setCell ⟨w.heap.size + 1 + 1, 1, none⟩ (.slice A5 n5 c5)) :=
      ((Only.refl _ _).setCell (p := ⟨w.heap.size + 1 + 1, 0, none⟩) rfl _).setCell (p := ⟨w.heap.size + 1 + 1, 1, none⟩) rfl _
    have hn6' := hn6.only hb4 rfl hO
    have hb5' : Blk ((w6.setCell ⟨w.heap.size + 1 + 1, 0, none⟩ (.bool (ngb (x / y)))).setCell ⟨w.heap.size + 1 + 1, 1, none⟩ (.slice A5 n5 c5)) (w.heap.size + 1 + 1 + 1) 75 #[.bool false, .slice none 0 0] :=
      (hO.block _ hz2 (by omega)).trans hb5
    have hf2 := int_box (z := x % y) hn6' hb5' rfl hf1.2 (by omega)
    have hf3 := hf1.1.only hb5' rfl (((Only.refl (w.heap.size + 1 + 1 + 1) _).setCell (p := ⟨w.heap.size + 1 + 1 + 1, 0, none⟩) rfl (.bool (ngb (x % y)))).setCell (p := ⟨w.heap.size + 1 + 1 + 1, 1, none⟩) rfl (.slice A6 n6 c6))
    exact bodyPost_ret (v := .tuple #[.agg #[.bool (ngb (x / y)), .slice A5 n5 c5], .agg #[.bool (ngb (x % y)), .slice A6 n6 c6], .int .i64 0]) (by simp [results, Tryz.results121, go_sem, r0, r1, r2, r3]) rfl ⟨_, _, rfl, hf3, hf2.1, hf2.2⟩
  · have hup2 := dm_exact hy hup
    have HU := Lib.hid hup2
    by_cases hx0 : x < 0
    · have hr0 : x.natAbs % y.natAbs = 0 := by
        rcases Nat.eq_zero_or_pos (x.natAbs % y.natAbs) with h | h
        · exact h
        · exact absurd ⟨hx0, by omega⟩ hup
      have hn3 : n3 = 0 := hz.1 hr0
      subst hn3
      have hng : ngb x = true := by simpa [ngb] using hx0
      have HNG := Lib.hid hng
      rw [hng] at f20
      clear hup2 hz hr0 hup hng
      go_wp2_with fail
      refine (rnat_madeZ (!ngb y) hq hqb (by omega) (z := x / y) (by have := HU.out.1; rw [HNG.out] at this; simpa using this)).mono ?_
      rintro e w5 ⟨r5, rfl, ⟨A5, n5, c5, rfl, hn5⟩, hb9⟩
      have hs5 := hb9.size
      replace hb4 := hb4.below hb9 (by omega)
      replace hb5 := hb5.below hb9 (by omega)
      replace hbl0 := hbl0.trans (hb9.mono hbl0.size)
      go_wp2_with fail
      refine (rnat_madeZ false (hr.below hb9) hrb (by omega) (z := x % y) (by simpa using HU.out.2)).mono ?_
      rintro e w6 ⟨r6, rfl, ⟨A6, n6, c6, rfl, hn6⟩, hb10⟩
      have hs6 := hb10.size
      replace hb4 := hb4.below hb10 (by omega)
      replace hb5 := hb5.below hb10 (by omega)
      replace hbl0 := hbl0.trans (hb10.mono hbl0.size)
      replace hn5 := hn5.below hb10
      obtain ⟨r0, r1, q0, q1, hz1⟩ := hb4.two
      obtain ⟨r2, r3, q2, q3, hz2⟩ := hb5.two
      go_wp2
      have hf1 := int_box (z := x / y) hn5 hb4 rfl hbl0 (by omega)
      have hO : Only (w.heap.size + 1 + 1) w6 ((w6.setCell ⟨w.heap.size + 1 + 1, 0, none⟩ (.bool (ngb (x / y)))).setCell ⟨w.heap.size + 1 + 1, 1, none⟩ (.slice A5 n5 c5)) :=
        ((Only.refl _ _).setCell (p := ⟨w.heap.size + 1 + 1, 0, none⟩) rfl _).setCell (p := ⟨w.heap.size + 1 + 1, 1, none⟩) rfl _
      have hn6' := hn6.only hb4 rfl hO
      have hb5' : Blk ((w6.setCell ⟨w.heap.size + 1 + 1, 0, none⟩ (.bool (ngb (x / y)))).setCell ⟨w.heap.size + 1 + 1, 1, none⟩ (.slice A5 n5 c5)) (w.heap.size + 1 + 1 + 1) 75 #[.bool false, .slice none 0 0] :=
        (hO.block _ hz2 (by omega)).trans hb5
      have hf2 := int_box (z := x % y) hn6' hb5' rfl hf1.2 (by omega)
      have hf3 := hf1.1.only hb5' rfl (((Only.refl (w.heap.size + 1 + 1 + 1) _).setCell (p := ⟨w.heap.size + 1 + 1 + 1, 0, none⟩) rfl (.bool (ngb (x % y)))).setCell (p := ⟨w.heap.size + 1 + 1 + 1, 1, none⟩) rfl (.slice A6 n6 c6))
      exact bodyPost_ret (v := .tuple #[.agg #[.bool (ngb (x / y)), .slice A5 n5 c5], .agg #[.bool (ngb (x % y)), .slice A6 n6 c6], .int .i64 0]) (by simp [results, Tryz.results121, go_sem, r0, r1, r2, r3]) rfl ⟨_, _, rfl, hf3, hf2.1, hf2.2⟩
    · have hng : ngb x = false := by simpa [ngb] using hx0
      have HNG := Lib.hid hng
      rw [hng] at f20
      clear hup2 hz hup hng
      go_wp2_with fail
      refine (rnat_madeZ (ngb y) hq hqb (by omega) (z := x / y) (by have := HU.out.1; rw [HNG.out] at this; simpa using this)).mono ?_
      rintro e w5 ⟨r5, rfl, ⟨A5, n5, c5, rfl, hn5⟩, hb9⟩
      have hs5 := hb9.size
      replace hb4 := hb4.below hb9 (by omega)
      replace hb5 := hb5.below hb9 (by omega)
      replace hbl0 := hbl0.trans (hb9.mono hbl0.size)
      go_wp2_with fail
      refine (rnat_madeZ false (hr.below hb9) hrb (by omega) (z := x % y) (by simpa using HU.out.2)).mono ?_
      rintro e w6 ⟨r6, rfl, ⟨A6, n6, c6, rfl, hn6⟩, hb10⟩
      have hs6 := hb10.size
      replace hb4 := hb4.below hb10 (by omega)
      replace hb5 := hb5.below hb10 (by omega)
      replace hbl0 := hbl0.trans (hb10.mono hbl0.size)
      replace hn5 := hn5.below hb10
      obtain ⟨r0, r1, q0, q1, hz1⟩ := hb4.two
      obtain ⟨r2, r3, q2, q3, hz2⟩ := hb5.two
      go_wp2
      have hf1 := int_box (z := x / y) hn5 hb4 rfl hbl0 (by omega)
      have hO : Only (w.heap.size + 1 + 1) w6 ((w6.setCell ⟨w.heap.size + 1 + 1, 0, none⟩ (.bool (ngb (x / y)))).setCell ⟨w.heap.size + 1 + 1, 1, none⟩ (.slice A5 n5 c5)) :=
        ((Only.refl _ _).setCell (p := ⟨w.heap.size + 1 + 1, 0, none⟩) rfl _).setCell (p := ⟨w.heap.size + 1 + 1, 1, none⟩) rfl _
      have hn6' := hn6.only hb4 rfl hO
      have hb5' : Blk ((w6.setCell ⟨w.heap.size + 1 + 1, 0, none⟩ (.bool (ngb (x / y)))).setCell ⟨w.heap.size + 1 + 1, 1, none⟩ (.slice A5 n5 c5)) (w.heap.size + 1 + 1 + 1) 75 #[.bool false, .slice none 0 0] :=
        (hO.block _ hz2 (by omega)).trans hb5
      have hf2 := int_box (z := x % y) hn6' hb5' rfl hf1.2 (by omega)
      have hf3 := hf1.1.only hb5' rfl (((Only.refl (w.heap.size + 1 + 1 + 1) _).setCell (p := ⟨w.heap.size + 1 + 1 + 1, 0, none⟩) rfl (.bool (ngb (x % y)))).setCell (p := ⟨w.heap.size + 1 + 1 + 1, 1, none⟩) rfl (.slice A6 n6 c6))
      exact bodyPost_ret (v := .tuple #[.agg #[.bool (ngb (x / y)), .slice A5 n5 c5], .agg #[.bool (ngb (x % y)), .slice A6 n6 c6], .int .i64 0]) (by simp [results, Tryz.results121, go_sem, r0, r1, r2, r3]) rfl ⟨_, _, rfl, hf3, hf2.1, hf2.2⟩

set_option maxHeartbeats 1000000 in
theorem rint_gcd {a b : Value} {x y : Int} {k : Nat} {w : World} (ha : IntV w a x) (hb : IntV w b y) (bx : Bd k x) (bY : Bd k y) (hk : k ≤ 549755813880) :
    Calls Tryz.prog 102 #[a, b] w fun e w' => ∃ r, e = .returned r ∧ IntV w' r (Int.gcd x y : Int) ∧ Below w.heap.size w w' := by
  obtain ⟨A, n, c, rfl, hnx⟩ := ha
  obtain ⟨A', n', c', rfl, hny⟩ := hb
  have hfin : Hid ((if false = true then -((Nat.gcd x.natAbs y.natAbs : Nat) : Int) else ((Nat.gcd x.natAbs y.natAbs : Nat) : Int)) = (Int.gcd x y : Int)) := rfl
  have hbd : Nat.gcd x.natAbs y.natAbs < pw k := by
    rcases Nat.eq_zero_or_pos y.natAbs with h | h
    · rw [h, Nat.gcd_zero_right]; exact bx
    · exact Nat.lt_of_le_of_lt (Nat.gcd_le_right _ h) bY
  go_enter Tryz.func102, Tryz.ntmps102
  go_wp2_with fail
  obtain ⟨W0, hW0, hbl0, hb2, hb3, hb4, hsz⟩ := boxes3 w 75 75 75 #[.bool (ngb x), .slice A n c] #[.bool (ngb y), .slice A' n' c'] #[.bool false, .slice none 0 0]
  rw [← hW0]
  clear hW0
  obtain ⟨f20, f21, -, -, -⟩ := hb2.two
  obtain ⟨f30, f31, -, -, -⟩ := hb3.two
  have hwx := hnx.below hbl0
  have hwy := hny.below hbl0
  refine (rnat_common hwx hwy bx bY (by omega)).mono ?_
  rintro e w1 ⟨r, rfl, hr1, hb1⟩
  have hs1 := hb1.size
  go_wp2_with fail
  refine (rnat_madeZ false hr1 hbd (by omega) hfin.out).mono ?_
  rintro e w2 ⟨r2, rfl, ⟨A2, n2, c2, rfl, hn2⟩, hb2'⟩
  have hB4 := (hb4.below hb1 (by omega)).below hb2' (by omega)
  obtain ⟨r0, r1, q0, q1, hs2⟩ := hB4.two
  go_wp2
  have hfinal := int_box hn2 hB4 rfl (hbl0.trans ((hb1.trans (hb2'.mono hs1)).mono hbl0.size)) (by omega)
  exact bodyPost_ret (v := .agg #[.bool (ngb (Int.gcd x y : Int)), .slice A2 n2 c2]) (by simp [results, Tryz.results102, go_sem, r0, r1]) rfl ⟨_, rfl, hfinal.1, hfinal.2⟩

end Go.Proofs.YtmkhfgggleplfaaGreat
