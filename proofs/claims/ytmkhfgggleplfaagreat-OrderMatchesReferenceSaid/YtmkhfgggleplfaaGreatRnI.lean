/-
  The contracts of the reference's functions on words, told of the numbers; the walks of euclid and common. Conditions: fewer than 2^39 words.
  The walks of the reference's integers: made, Of, Sign, Neg, Mul, Add. Conditions: lengths below 2^39.
-/
import Derived.Test.YtmkhfgggleplfaaGreatRnG
import Derived.Test.YtmkhfgggleplfaaGreatNatV
import Derived.Deep.LoopGhost
import Derived.Test.YtmkhfgggleplfaaGreatIntB
namespace Go.Proofs.YtmkhfgggleplfaaGreat
set_option linter.unusedSimpArgs false
set_option linter.unusedVariables false
open Go.RowKit

theorem rnat_add {w : World} {a b : Value} {x y j k : Nat} (ha : NatV w a x) (hb : NatV w b y) (hx : x < pw j) (hy : y < pw k) (hj : j ≤ 549755813888) (hk : k ≤ 549755813888) :
    Calls Tryz.prog 132 #[a, b] w fun e w' => ∃ r, e = .returned r ∧ NatV w' r (x + y) ∧ Below w.heap.size w w' := by
  obtain ⟨A, m, c, l, rfl, rfl, h1, h2, h3, h4, h5, rfl⟩ := ha.len hx
  obtain ⟨A', m', c', l', rfl, rfl, g1, g2, g3, g4, g5, rfl⟩ := hb.len hy
  exact radded_any A A' _ _ c c' l l' w h4 g4 rfl rfl h5.1 g5.1 (by omega) (by omega)
theorem rnat_taken {w : World} {a b : Value} {x y k : Nat} (ha : NatV w a x) (hb : NatV w b y) (hx : x < pw k) (hk : k ≤ 549755813888) (hle : y ≤ x) :
    Calls Tryz.prog 134 #[a, b] w fun e w' => ∃ r, e = .returned r ∧ NatV w' r (x - y) ∧ Below w.heap.size w w' := by
  obtain ⟨A, m, c, l, rfl, rfl, h1, h2, h3, h4, h5, rfl⟩ := ha.len hx
  obtain ⟨A', m', c', l', rfl, rfl, g1, g2, g3, g4, g5, rfl⟩ := hb.len (k := l.length) (Nat.lt_of_le_of_lt hle h5.1.val_lt)
  exact rtaken_any A A' _ _ c c' l l' w h4 g4 rfl rfl h5.1 g5.1 (by omega) g1 hle
theorem rnat_times {w : World} {a b : Value} {x y j k : Nat} (ha : NatV w a x) (hb : NatV w b y) (hx : x < pw j) (hy : y < pw k) (hj : j ≤ 549755813888) (hk : k ≤ 549755813888) :
    Calls Tryz.prog 105 #[a, b] w fun e w' => ∃ r, e = .returned r ∧ NatV w' r (x * y) ∧ Below w.heap.size w w' := by
  obtain ⟨A, m, c, l, rfl, rfl, h1, h2, h3, h4, h5, rfl⟩ := ha.len hx
  obtain ⟨A', m', c', l', rfl, rfl, g1, g2, g3, g4, g5, rfl⟩ := hb.len hy
  exact rtimes_any A A' _ _ c c' l l' w h4 g4 rfl rfl h5.1 g5.1 (by omega) (by omega)
theorem rnat_divided {w : World} {a b : Value} {x y j k : Nat} (ha : NatV w a x) (hb : NatV w b y) (hx : x < pw j) (hy : y < pw k) (hj : j ≤ 549755813888) (hk : k ≤ 549755813888) (hy0 : y ≠ 0) :
    Calls Tryz.prog 137 #[a, b] w fun e w' => ∃ q r, e = .returned (.tuple #[q, r]) ∧ NatV w' q (x / y) ∧ NatV w' r (x % y) ∧ Below w.heap.size w w' := by
  obtain ⟨A, m, c, l, rfl, rfl, h1, h2, h3, h4, h5, rfl⟩ := ha.len hx
  obtain ⟨A', m', c', l', rfl, rfl, g1, g2, g3, g4, g5, rfl⟩ := hb.len hy
  exact rdivided_any A A' _ _ c c' l l' w h4 g4 rfl rfl h5 g5 h2 h3 (by omega) (by omega) (by rw [Ne, ← g5.zero_iff]; exact hy0)
theorem rnat_compared {w : World} {a b : Value} {x y j k : Nat} (ha : NatV w a x) (hb : NatV w b y) (hx : x < pw j) (hy : y < pw k) (hj : j ≤ 549755813888) (hk : k ≤ 549755813888) :
    Calls Tryz.prog 133 #[a, b] w fun e w' => e = .returned (.int .i64 (cmpI x y)) ∧ Same w w' := by
  obtain ⟨A, m, c, l, rfl, rfl, h1, h2, h3, h4, h5, rfl⟩ := ha.len hx
  obtain ⟨A', m', c', l', rfl, rfl, g1, g2, g3, g4, g5, rfl⟩ := hb.len hy
  exact rcompared_any A A' _ _ c c' l l' w h4 g4 rfl rfl h5 g5 (by omega) (by omega)

set_option maxHeartbeats 400000 in
theorem reuclid_any (x y : Nat) (w : World) (hx : x < 18446744073709551616) (hy : y < 18446744073709551616) :
    Calls Tryz.prog 135 #[.int .u64 (x : Int), .int .u64 (y : Int)] w fun e w' => e = .returned (.int .u64 ((Nat.gcd x y : Nat) : Int)) ∧ w = w' := by
  go_enter Tryz.func135, Tryz.ntmps135
  go_wp2_with fail
  go_loop [0, 1] (fun a b => ∃ p q : Nat, a = .int .u64 p ∧ b = .int .u64 q ∧ p < 18446744073709551616 ∧ q < 18446744073709551616 ∧ Nat.gcd p q = Nat.gcd x y) (fun _ b => (intOf b).toNat)
  case atStart => exact ⟨x, y, rfl, rfl, hx, hy, rfl⟩
  case round =>
    obtain ⟨p, q, rfl, rfl, hp, hq, hg⟩ := hrel
    by_cases h0 : 0 < q
    · have hd1 : ((q : Int) != 0) = true := by rw [bne_iff_ne]; omega
      obtain ⟨r, hr⟩ : ∃ r : Nat, r = p % q := ⟨_, rfl⟩
      have hri : (p : Int) % (q : Int) = (r : Int) := by rw [hr, Int.natCast_emod]
      have hrq : r < q := by rw [hr]; exact Nat.mod_lt _ h0
      have hgg : Hid (Nat.gcd q r = Nat.gcd x y) := by
        show Nat.gcd q r = Nat.gcd x y
        rw [← hg, hr, Nat.gcd_comm q, ← Nat.gcd_rec, Nat.gcd_comm]
      clear hr hg
      go_wp2
      go_round
      case rel => exact ⟨q, r, rfl, by first | rfl | rw [hri], hq, by omega, hgg.out⟩
      case measure => simp [intOf]; omega
    · have hq0 : q = 0 := by omega
      subst hq0
      have hgg : Hid (p = Nat.gcd x y) := by
        show p = Nat.gcd x y
        rw [← hg, Nat.gcd_zero_right]
      clear hg
      go_wp2
      go_ret
      exact ⟨by rw [← hgg.out]; rfl, rfl⟩

theorem NatV.zero_len {w : World} {A : Option Addr} {n c x : Nat} (h : NatV w (.slice A n c) x) : x = 0 ↔ n = 0 := by
  obtain ⟨A', c', l, he, h1, h2, h3, h4, h5⟩ := h
  injection he with e1 e2 e3
  rw [e2, ← h4.zero_iff, h5]
theorem NatV.sl {w : World} {v : Value} {x : Nat} (h : NatV w v x) : ∃ A n c, v = .slice A n c := by
  obtain ⟨A', c', l, he, _⟩ := h
  exact ⟨_, _, _, he⟩

def RComRel (w : World) (G k : Nat) (m : Nat) (vx vy : Value) (wr : World) : Prop :=
  ∃ a b A n c A' n' c', m = b ∧ vx = .slice A n c ∧ vy = .slice A' n' c' ∧ NatV wr (.slice A n c) a ∧ NatV wr (.slice A' n' c') b ∧ Nat.gcd a b = G ∧ a < pw k ∧ b < pw k ∧ Below w.heap.size w wr

theorem NatV.num {w : World} {A : Option Addr} {n c x : Nat} (h : NatV w (.slice A n c) x) (hn : n ≤ 2) :
    Calls Tryz.prog 136 #[.slice A n c] w fun e w' => e = .returned (.int .u64 (x : Int)) ∧ w = w' := by
  obtain ⟨A', c', l, he, h1, h2, h3, h4, rfl⟩ := h
  injection he with e1 e2 e3
  subst e1 e2 e3
  exact rnumber_any A _ c l _ h3 rfl hn h4.1
theorem NatV.lt64 {w : World} {A : Option Addr} {n c x : Nat} (h : NatV w (.slice A n c) x) (hn : n ≤ 2) : x < 18446744073709551616 := by
  obtain ⟨A', c', l, he, h1, h2, h3, h4, rfl⟩ := h
  injection he with e1 e2 e3
  subst e1 e2 e3
  have h5 := h4.1.val_lt
  have h6 := pw_mono hn
  simp only [pw] at h6
  omega

set_option maxHeartbeats 1000000 in
set_option maxRecDepth 100000 in
theorem rnat_common {a b : Value} {x y k : Nat} {w : World} (ha : NatV w a x) (hb : NatV w b y) (bx : x < pw k) (bY : y < pw k) (hk : k ≤ 549755813888) :
    Calls Tryz.prog 120 #[a, b] w fun e w' => ∃ r, e = .returned r ∧ NatV w' r (Nat.gcd x y) ∧ Below w.heap.size w w' := by
  obtain ⟨A, n, c, rfl⟩ := ha.sl
  obtain ⟨A', n', c', rfl⟩ := hb.sl
  go_enter Tryz.func120, Tryz.ntmps120
  go_wp2_with fail
  go_loopg [0, 1] y (fun m vx vy wr => RComRel w (Nat.gcd x y) k m vx vy wr)
  case atStart => exact ⟨x, y, A, n, c, A', n', c', rfl, rfl, rfl, ha, hb, rfl, bx, bY, Below.refl _ _⟩
  case round =>
    obtain ⟨p, q, A2, n2, c2, A3, n3, c3, rfl, rfl, rfl, hp, hq, hg, hpb, hqb, hbl⟩ := hrel
    clear ha hb
    have hz := hq.zero_len
    by_cases h0 : n3 = 0
    · have hq0 := hz.2 h0
      have hpg : Hid (p = Nat.gcd x y) := by show p = Nat.gcd x y; rw [← hg, hq0, Nat.gcd_zero_right]
      subst h0
      clear hg hz hq0
      go_wp2
      go_ret
      exact ⟨_, rfl, by rw [← hpg.out]; exact hp, hbl⟩
    · have hq0 : gk ≠ 0 := fun h => h0 (hz.1 h)
      have hn30 : 0 < n3 := by omega
      have HG := Lib.hid hg
      clear hg hz
      by_cases hs : n2 ≤ 2 ∧ n3 ≤ 2
      · obtain ⟨hs1, hs2⟩ := hs
        have hp64 := hp.lt64 hs1
        have hq64 := hq.lt64 hs2
        have H1 := Lib.hid (hp.num hs1)
        have H2 := Lib.hid (hq.num hs2)
        have H3 : Hid (Calls Tryz.prog 135 #[.int .u64 (p : Int), .int .u64 (gk : Int)] wr fun e w' => e = .returned (.int .u64 ((Nat.gcd x y : Nat) : Int)) ∧ wr = w') := by
          have := reuclid_any p gk wr hp64 hq64
          rw [HG.out] at this
          exact this
        have hgb : Nat.gcd x y < 18446744073709551616 := by rw [← HG.out]; exact Nat.lt_of_le_of_lt (Nat.gcd_le_right p (by omega)) hq64
        obtain ⟨G, hGe⟩ : ∃ G, G = Nat.gcd x y := ⟨_, rfl⟩
        rw [← hGe] at HG H3 hgb
        have HGE := Lib.hid hGe
        clear hGe
        go_wp2_with fail
        refine H1.out.mono ?_
        rintro e w' ⟨rfl, rfl⟩
        go_wp2_with fail
        refine H2.out.mono ?_
        rintro e w' ⟨rfl, rfl⟩
        go_wp2_with fail
        refine H3.out.mono ?_
        rintro e w' ⟨rfl, rfl⟩
        go_wp2_with fail
        refine (rwords_any G _ hgb).mono ?_
        rintro e w2 ⟨r, rfl, hr, hb2⟩
        go_wp2
        go_ret
        exact ⟨_, rfl, by rw [← HGE.out]; exact hr, hbl.trans (hb2.mono hbl.size)⟩
      · have hmod : p % gk < gk := Nat.mod_lt _ (by omega)
        have hgg : Hid (Nat.gcd gk (p % gk) = Nat.gcd x y) := by
          show Nat.gcd gk (p % gk) = Nat.gcd x y
          rw [← HG.out, Nat.gcd_comm gk, ← Nat.gcd_rec, Nat.gcd_comm]
        have hss : (n2 ≤ 2 ∧ 2 < n3) ∨ 2 < n2 := by omega
        clear hs
        rcases hss with ⟨hs1, hs2⟩ | hs1
        all_goals
          go_wp2_with fail
          refine (rnat_divided hp hq hpb hqb (by omega) (by omega) hq0).mono ?_
          rintro e w2 ⟨vq, vr, rfl, hvq, hvr, hb2'⟩
          go_wp2_with fail
          go_roundg (p % gk)
          case measure => exact hmod
          case rel =>
            obtain ⟨A5, n5, c5, rfl⟩ := hvr.sl
            exact ⟨gk, p % gk, A3, n3, c3, A5, n5, c5, rfl, rfl, rfl, hq.below hb2', hvr, hgg.out, hqb, by omega, hbl.trans (hb2'.mono hbl.size)⟩

end Go.Proofs.YtmkhfgggleplfaaGreat
namespace Go.Proofs.YtmkhfgggleplfaaGreat
open Go.RowKit

set_option maxHeartbeats 400000 in
theorem rnat_made {w : World} {a : Value} {x k : Nat} (neg : Bool) (ha : NatV w a x) (hx : x < pw k) (_hk : k ≤ 1099511627776) :
    Calls Tryz.prog 98 #[.bool neg, a] w fun e w' => ∃ r, e = .returned r ∧ IntV w' r (if neg = true then -(x : Int) else (x : Int)) ∧ Below w.heap.size w w' := by
  obtain ⟨A, n, c, l, rfl, HN, h1, h2, h3, h4, h5, h6⟩ := ha.len hx
  have htl : trimLen l = n := by rw [← HN, ← trim_length, h5.trim_eq]
  have hpos : ((0 : Int) < (n : Int)) ↔ x ≠ 0 := by
    rw [← h6, Ne, h5.zero_iff, HN]; omega
  have hbl : Below w.heap.size w (w.alloc (.cells #[Value.bool false, Value.slice none 0 0] 75)) := (Below.refl _ _).alloc (Nat.le_refl _) _
  have htr := rtrim_any A n c l _ (h4.below hbl) HN h2 h3
  rw [htl] at htr
  have HTR := Lib.hid htr
  have hblk : Blk (w.alloc (.cells #[Value.bool false, Value.slice none 0 0] 75)) w.heap.size 75 #[Value.bool false, Value.slice none 0 0] := Blk.new _ _ _
  have HN' := Lib.hid HN
  have H6 := Lib.hid h6
  clear htr htl HN h6
  cases neg
  · go_enter Tryz.func98, Tryz.ntmps98
    go_wp2_with fail
    refine HTR.out.mono ?_
    rintro e w1 ⟨rfl, rfl⟩
    obtain ⟨w1, hw1⟩ : ∃ w1, w1 = w.alloc (.cells #[Value.bool false, Value.slice none 0 0] 75) := ⟨_, rfl⟩
    rw [← hw1] at hbl hblk ⊢
    clear hw1 HTR
    have hf0 := hblk.cell 0
    have hf1 := hblk.cell 1
    have hg0 := hblk.frozen 0
    have hg1 := hblk.frozen 1
    have hz : w.heap.size < w1.heap.size := hblk.lt
    simp at hf0 hf1
    go_wp2
    refine bodyPost_ret (v := .agg #[.bool false, .slice A n c]) (by simp [results, Tryz.results98, go_sem, hf0, hf1]) rfl ⟨_, rfl, ⟨A, n, c, ?_, ?_⟩, ?_⟩
    · show _ = Value.agg #[.bool (ngb (x : Int)), _]
      rw [show ngb (x : Int) = false from by unfold ngb; simp]
    · have hw2 := (h4.below hbl).only hblk rfl (((Only.refl w.heap.size w1).setCell (p := ⟨w.heap.size, 0, none⟩) rfl (.bool false)).setCell (p := ⟨w.heap.size, 1, none⟩) rfl (.slice A n c))
      exact ⟨A, c, l, by rw [HN'.out], by rw [HN'.out]; exact h2, h3, hw2, h5, by rw [H6.out]; simp⟩
    · exact (hbl.setCell (p := ⟨w.heap.size, 0, none⟩) (Nat.le_refl _) _).setCell (p := ⟨w.heap.size, 1, none⟩) (Nat.le_refl _) _
  · go_enter Tryz.func98, Tryz.ntmps98
    go_wp2_with fail
    refine HTR.out.mono ?_
    rintro e w1 ⟨rfl, rfl⟩
    obtain ⟨w1, hw1⟩ : ∃ w1, w1 = w.alloc (.cells #[Value.bool false, Value.slice none 0 0] 75) := ⟨_, rfl⟩
    rw [← hw1] at hbl hblk ⊢
    clear hw1 HTR
    have hf0 := hblk.cell 0
    have hf1 := hblk.cell 1
    have hg0 := hblk.frozen 0
    have hg1 := hblk.frozen 1
    have hz : w.heap.size < w1.heap.size := hblk.lt
    simp at hf0 hf1
    go_wp2
    refine bodyPost_ret (v := .agg #[.bool (decide (0 < n)), .slice A n c]) (by simp [results, Tryz.results98, go_sem, hf0, hf1]) rfl ⟨_, rfl, ⟨A, n, c, ?_, ?_⟩, ?_⟩
    · have : decide (0 < n) = ngb (-(x : Int)) := by
        unfold ngb; rw [decide_eq_decide]; omega
      rw [this]
    · have hw2 := (h4.below hbl).only hblk rfl (((Only.refl w.heap.size w1).setCell (p := ⟨w.heap.size, 0, none⟩) rfl (.bool (decide (0 < n)))).setCell (p := ⟨w.heap.size, 1, none⟩) rfl (.slice A n c))
      exact ⟨A, c, l, by rw [HN'.out], by rw [HN'.out]; exact h2, h3, hw2, h5, by rw [H6.out]; simp⟩
    · exact (hbl.setCell (p := ⟨w.heap.size, 0, none⟩) (Nat.le_refl _) _).setCell (p := ⟨w.heap.size, 1, none⟩) (Nat.le_refl _) _
theorem rnat_madeZ {w : World} {a : Value} {x k : Nat} {z : Int} (neg : Bool) (ha : NatV w a x) (hx : x < pw k) (hk : k ≤ 1099511627776) (hz : (if neg = true then -(x : Int) else (x : Int)) = z) :
    Calls Tryz.prog 98 #[.bool neg, a] w fun e w' => ∃ r, e = .returned r ∧ IntV w' r z ∧ Below w.heap.size w w' := by
  rw [← hz]; exact rnat_made neg ha hx hk

set_option maxHeartbeats 1000000 in
theorem rint_mul {a b : Value} {x y : Int} {j k : Nat} {w : World} (ha : IntV w a x) (hb : IntV w b y) (bx : Bd j x) (bY : Bd k y) (hjk : j + k ≤ 549755813888) :
    Calls Tryz.prog 79 #[a, b] w fun e w' => ∃ r, e = .returned r ∧ IntV w' r (x * y) ∧ Below w.heap.size w w' := by
  obtain ⟨A, n, c, rfl, hnx⟩ := ha
  obtain ⟨A', n', c', rfl, hny⟩ := hb
  have hfin := Lib.hid (neg_mul_sign x y _ rfl)
  have hbd : x.natAbs * y.natAbs < pw (j + k) := by have := bx.mul bY; unfold Bd at this; rwa [Int.natAbs_mul] at this
  go_enter Tryz.func79, Tryz.ntmps79
  go_wp2_with fail
  obtain ⟨W0, hW0, hbl0, hb2, hb3, hb4, hsz⟩ := boxes3 w 75 75 75 #[.bool (ngb x), .slice A n c] #[.bool (ngb y), .slice A' n' c'] #[.bool false, .slice none 0 0]
  rw [← hW0]
  clear hW0
  obtain ⟨f20, f21, -, -, -⟩ := hb2.two
  obtain ⟨f30, f31, -, -, -⟩ := hb3.two
  have hwx := hnx.below hbl0
  have hwy := hny.below hbl0
  go_region_held3 (fun w' => w'.cell? ⟨w.heap.size, 0, none⟩ = some (.bool (ngb x)) ∧ w'.cell? ⟨w.heap.size, 1, none⟩ = some (.slice A n c) ∧ w'.cell? ⟨w.heap.size + 1, 0, none⟩ = some (.bool (ngb y)) ∧ w'.cell? ⟨w.heap.size + 1, 1, none⟩ = some (.slice A' n' c'))
    (first | (go_keep; done) | ((try dsimp only); (repeat' apply And.intro); all_goals first | (go_keep; done) | (rw [hk1 _ _ (by omega)]; assumption) | (rw [hk3 _ _ (by omega), hk1 _ _ (by omega)]; assumption) | (rw [cell_set2 (by omega), hk3 _ _ (by omega), hk1 _ _ (by omega)]; assumption)))
    (first
      | (go_at_call 105; refine (rnat_times (by exact hwx) (by exact hwy) bx bY (by omega) (by omega)).mono ?_; rintro e w1 ⟨r, rfl, hr1, hb1⟩; have hb1 := hb1.undrew; obtain ⟨hk1, hk2⟩ := bcell hb1; have hs1 := hb1.size)
      | (go_at_call 98; refine (rnat_made (ngb x != ngb y) (by exact hr1) hbd (by omega)).mono ?_; rw [hfin.out]; rintro e w2 ⟨r2, rfl, ⟨A2, n2, c2, rfl, hn2⟩, hb2'⟩; obtain ⟨hk3, hk4⟩ := bcell hb2'; have hB4 := (hb4.below hb1 (by omega)).below hb2' (by omega); obtain ⟨r0, r1, q0, q1, hs2⟩ := hB4.two))
  go_wp2
  have hfinal := int_box hn2 hB4 rfl (hbl0.trans ((hb1.trans (hb2'.mono hs1)).mono hbl0.size)) (by omega)
  exact bodyPost_ret (v := .agg #[.bool (ngb (x * y)), .slice A2 n2 c2]) (by simp [results, Tryz.results79, go_sem, r0, r1]) rfl ⟨_, rfl, hfinal.1, hfinal.2⟩

set_option maxHeartbeats 1000000 in
theorem rint_neg {a : Value} {x : Int} {k : Nat} {w : World} (ha : IntV w a x) (bx : Bd k x) (hk : k ≤ 549755813888) :
    Calls Tryz.prog 103 #[a] w fun e w' => ∃ r, e = .returned r ∧ IntV w' r (-x) ∧ Below w.heap.size w w' := by
  obtain ⟨A, n, c, rfl, hnx⟩ := ha
  have hfin : Hid ((if (!ngb x) = true then -(x.natAbs : Int) else (x.natAbs : Int)) = -x) := by
    show (if (!ngb x) = true then -(x.natAbs : Int) else (x.natAbs : Int)) = -x
    by_cases h : x < 0
    · simp [ngb, h]; omega
    · simp [ngb, h]; omega
  go_enter Tryz.func103, Tryz.ntmps103
  go_wp2_with fail
  obtain ⟨W0, hW0, hbl0, hb2, hb3, hsz⟩ := boxes2 w 75 75 #[.bool (ngb x), .slice A n c] #[.bool false, .slice none 0 0]
  rw [← hW0]
  clear hW0
  obtain ⟨f20, f21, -, -, -⟩ := hb2.two
  have hwx := hnx.below hbl0
  refine (rnat_made (!ngb x) hwx bx (by omega)).mono ?_
  rw [hfin.out]
  rintro e w2 ⟨r2, rfl, ⟨A2, n2, c2, rfl, hn2⟩, hb2'⟩
  have hB4 := hb3.below hb2' (by omega)
  obtain ⟨r0, r1, q0, q1, hs2⟩ := hB4.two
  go_wp2
  have hfinal := int_box hn2 hB4 rfl (hbl0.trans (hb2'.mono hbl0.size)) (by omega)
  refine bodyPost_ret (v := .agg #[.bool (ngb (-x)), .slice A2 n2 c2]) (by simp [results, Tryz.results103, go_sem, r0, r1]) rfl ⟨_, rfl, hfinal.1, hfinal.2⟩

theorem rint_sign {a : Value} {x : Int} {w : World} (ha : IntV w a x) :
    Calls Tryz.prog 76 #[a] w fun e w' => e = .returned (.int .i64 (cmpI x 0)) ∧ Below w.heap.size w w' := by
  obtain ⟨A, n, c, rfl, A', c', l, he, h1, h2, h3, h4, h5⟩ := ha
  injection he with e1 e2 e3
  subst e1 e2 e3
  have hz := h4.zero_iff
  rw [h5] at hz
  by_cases hx : x < 0
  · have hr := Lib.hid (cmpI_lt hx)
    have hx' : ngb x = true := by simpa [ngb] using hx
    go_enter Tryz.func76, Tryz.ntmps76
    go_wp2
    go_ret
    exact ⟨ret_i64 hr.out.symm, (Below.refl _ _).alloc (Nat.le_refl _) _⟩
  · have hr : Hid (cmpI x 0 = ((min l.length 1 : Nat) : Int)) := by
      show cmpI x 0 = ((min l.length 1 : Nat) : Int)
      by_cases h0 : x = 0
      · rw [cmpI_eq h0, (hz.1 (by omega) : l.length = 0)]; rfl
      · rw [cmpI_gt (by omega), Nat.min_eq_right (by have : ¬ l.length = 0 := fun h => h0 (by have := hz.2 h; omega); omega)]; rfl
    have hx' : ngb x = false := by simpa [ngb] using hx
    rcases Nat.lt_or_ge l.length 1 with hl | hl
    · obtain ⟨n, hn⟩ : ∃ n, l.length = n := ⟨_, rfl⟩
      rw [hn] at hl hr h1 ⊢
      have hl0 : n = 0 := by omega
      subst hl0
      clear hn
      go_enter Tryz.func76, Tryz.ntmps76
      go_wp2
      go_ret
      exact ⟨ret_i64 (by rw [hr.out]; rfl), (Below.refl _ _).alloc (Nat.le_refl _) _⟩
    · go_enter Tryz.func76, Tryz.ntmps76
      go_wp2
      go_ret
      exact ⟨ret_i64 (by rw [hr.out]; omega), (Below.refl _ _).alloc (Nat.le_refl _) _⟩

theorem rint_of (x : Int) (w : World) (h1 : -9223372036854775808 ≤ x) (h2 : x ≤ 9223372036854775807) :
    Calls Tryz.prog 74 #[.int .i64 x] w fun e w' => ∃ r, e = .returned r ∧ IntV w' r x ∧ Below w.heap.size w w' := by
  have hbd : x.natAbs < pw 2 := by simp only [pw]; omega
  by_cases hx : x < 0
  · have hu : IntKind.u64.wrap (IntKind.u64.wrap (-(x + 1)) + 1) = (x.natAbs : Int) := by simp only [IntKind.wrap_u64]; omega
    go_enter Tryz.func74, Tryz.ntmps74
    go_wp2_with fail
    obtain ⟨W0, hW0, hbl0, hb2, hsz⟩ := boxes1 w 75 #[.bool false, .slice none 0 0]
    rw [← hW0]
    clear hW0
    try rw [hu]
    try rw [show (-(x + 1) + 1) = (x.natAbs : Int) from by omega]
    refine (rwords_any x.natAbs _ (by omega)).mono ?_
    rintro e w1 ⟨r, rfl, hr, hb1⟩
    have hs1 := hb1.size
    go_wp2_with fail
    refine (rnat_madeZ true hr hbd (by omega) (z := x) (by simp; omega)).mono ?_
    rintro e w2 ⟨r2, rfl, ⟨A2, n2, c2, rfl, hn2⟩, hb2'⟩
    have hB4 := (hb2.below hb1 (by omega)).below hb2' (by omega)
    obtain ⟨r0, r1, q0, q1, hs2⟩ := hB4.two
    go_wp2
    have hfinal := int_box hn2 hB4 rfl (hbl0.trans ((hb1.trans (hb2'.mono hs1)).mono hbl0.size)) (by omega)
    exact bodyPost_ret (v := .agg #[.bool (ngb x), .slice A2 n2 c2]) (by simp [results, Tryz.results74, go_sem, r0, r1]) rfl ⟨_, rfl, hfinal.1, hfinal.2⟩
  · have hu : IntKind.u64.wrap x = (x.natAbs : Int) := by simp only [IntKind.wrap_u64]; omega
    go_enter Tryz.func74, Tryz.ntmps74
    go_wp2_with fail
    obtain ⟨W0, hW0, hbl0, hb2, hsz⟩ := boxes1 w 75 #[.bool false, .slice none 0 0]
    rw [← hW0]
    clear hW0
    try rw [hu]
    refine (rwords_any x.natAbs _ (by omega)).mono ?_
    rintro e w1 ⟨r, rfl, hr, hb1⟩
    have hs1 := hb1.size
    go_wp2_with fail
    refine (rnat_madeZ false hr hbd (by omega) (z := x) (by simp; omega)).mono ?_
    rintro e w2 ⟨r2, rfl, ⟨A2, n2, c2, rfl, hn2⟩, hb2'⟩
    have hB4 := (hb2.below hb1 (by omega)).below hb2' (by omega)
    obtain ⟨r0, r1, q0, q1, hs2⟩ := hB4.two
    go_wp2
    have hfinal := int_box hn2 hB4 rfl (hbl0.trans ((hb1.trans (hb2'.mono hs1)).mono hbl0.size)) (by omega)
    exact bodyPost_ret (v := .agg #[.bool (ngb x), .slice A2 n2 c2]) (by simp [results, Tryz.results74, go_sem, r0, r1]) rfl ⟨_, rfl, hfinal.1, hfinal.2⟩

set_option maxHeartbeats 2000000 in
theorem rint_add {a b : Value} {x y : Int} {k : Nat} {w : World} (ha : IntV w a x) (hb : IntV w b y) (bx : Bd k x) (bY : Bd k y) (hk : k ≤ 549755813880) :
    Calls Tryz.prog 119 #[a, b] w fun e w' => ∃ r, e = .returned r ∧ IntV w' r (x + y) ∧ Below w.heap.size w w' := by
  obtain ⟨A, n, c, rfl, hnx⟩ := ha
  obtain ⟨A', n', c', rfl, hny⟩ := hb
  have hbd : x.natAbs + y.natAbs < pw (k + 1) := by unfold Bd at bx bY; simp only [pw]; omega
  by_cases hs : ngb x = ngb y
  · have hsb : (ngb x == ngb y) = true := by rw [hs]; simp
    have hfin : Hid ((if ngb x = true then -((x.natAbs + y.natAbs : Nat) : Int) else ((x.natAbs + y.natAbs : Nat) : Int)) = x + y) := by
      show (if ngb x = true then -((x.natAbs + y.natAbs : Nat) : Int) else ((x.natAbs + y.natAbs : Nat) : Int)) = x + y
      unfold ngb at hs ⊢
      by_cases h : x < 0
      · have : y < 0 := by simpa [h] using hs
        simp [h]; omega
      · have : ¬ y < 0 := by simpa [h] using hs
        simp [h]; omega
    have HS := Lib.hid hs
    clear hs
    go_enter Tryz.func119, Tryz.ntmps119
    go_wp2_with fail
    obtain ⟨W1, hW0, hbl0, hb2, hb3, hb4, hsz⟩ := boxes3 w 75 75 75 #[.bool (ngb x), .slice A n c] #[.bool (ngb y), .slice A' n' c'] #[.bool false, .slice none 0 0]
    rw [← hW0]
    clear hW0
    obtain ⟨f20, f21, -, -, -⟩ := hb2.two
    obtain ⟨f30, f31, -, -, -⟩ := hb3.two
    have hwx := hnx.below hbl0
    have hwy := hny.below hbl0
    go_region_held3 (fun w' => w'.cell? ⟨w.heap.size, 0, none⟩ = some (.bool (ngb x)) ∧ w'.cell? ⟨w.heap.size, 1, none⟩ = some (.slice A n c) ∧ w'.cell? ⟨w.heap.size + 1, 0, none⟩ = some (.bool (ngb y)) ∧ w'.cell? ⟨w.heap.size + 1, 1, none⟩ = some (.slice A' n' c'))
      (first | (go_keep; done) | ((try dsimp only); (repeat' apply And.intro); all_goals first | (go_keep; done) | (rw [hk1 _ _ (by omega)]; assumption) | (rw [hk3 _ _ (by omega), hk1 _ _ (by omega)]; assumption) | (rw [cell_set2 (by omega), hk3 _ _ (by omega), hk1 _ _ (by omega)]; assumption)))
      (first
        | (go_at_call 132; refine (rnat_add (by exact hwx) (by exact hwy) bx bY (by omega) (by omega)).mono ?_; rintro e w1 ⟨r, rfl, hr1, hb1⟩; have hb1 := hb1.undrew; obtain ⟨hk1, hk2⟩ := bcell hb1; have hs1 := hb1.size)
        | (go_at_call 98; refine (rnat_made (ngb x) (by exact hr1) hbd (by omega)).mono ?_; rw [hfin.out]; rintro e w2 ⟨r2, rfl, ⟨A2, n2, c2, rfl, hn2⟩, hb2'⟩; obtain ⟨hk3, hk4⟩ := bcell hb2'; have hB4 := (hb4.below hb1 (by omega)).below hb2' (by omega); obtain ⟨r0, r1, q0, q1, hs2⟩ := hB4.two))
    go_wp2
    have hfinal := int_box hn2 hB4 rfl (hbl0.trans ((hb1.trans (hb2'.mono hs1)).mono hbl0.size)) (by omega)
    exact bodyPost_ret (v := .agg #[.bool (ngb (x + y)), .slice A2 n2 c2]) (by simp [results, Tryz.results119, go_sem, r0, r1]) rfl ⟨_, rfl, hfinal.1, hfinal.2⟩
  · have hsb : (ngb x == ngb y) = false := by rw [beq_eq_false_iff_ne]; exact hs
    have HS := Lib.hid hs
    clear hs
    by_cases hlt : x.natAbs < y.natAbs
    · have hcm := cmpI_lt (a := (x.natAbs : Int)) (b := (y.natAbs : Int)) (by omega)
      have hm1 : ((-1 : Int) < 0) := by omega
      have hfin : Hid ((if ngb y = true then -((y.natAbs - x.natAbs : Nat) : Int) else ((y.natAbs - x.natAbs : Nat) : Int)) = x + y) := by
        show (if ngb y = true then -((y.natAbs - x.natAbs : Nat) : Int) else ((y.natAbs - x.natAbs : Nat) : Int)) = x + y
        have hs := HS.out
        unfold ngb at hs ⊢
        by_cases h : x < 0
        · have : ¬ y < 0 := by simpa [h] using hs
          simp [this]; omega
        · have : y < 0 := by simpa [h] using hs
          simp [this]; omega
      have hbd2 : y.natAbs - x.natAbs < pw (k + 1) := by omega
      go_enter Tryz.func119, Tryz.ntmps119
      go_wp2_with fail
      obtain ⟨W1, hW0, hbl0, hb2, hb3, hb4, hsz⟩ := boxes3 w 75 75 75 #[.bool (ngb x), .slice A n c] #[.bool (ngb y), .slice A' n' c'] #[.bool false, .slice none 0 0]
      rw [← hW0]
      clear hW0
      obtain ⟨f20, f21, -, -, -⟩ := hb2.two
      obtain ⟨f30, f31, -, -, -⟩ := hb3.two
      have hwx := hnx.below hbl0
      have hwy := hny.below hbl0
      refine (rnat_compared hwx hwy bx bY (by omega) (by omega)).mono ?_
      rintro e w3 ⟨rfl, q, rfl⟩
      go_wp2_with fail
      generalize hWe : W1.drewN q = W2
      replace hbl0 : Below w.heap.size w W2 := by rw [← hWe]; exact hbl0.drewN _
      replace hb2 : Blk W2 w.heap.size 75 #[.bool (ngb x), .slice A n c] := by rw [← hWe]; exact hb2
      replace hb3 : Blk W2 (w.heap.size + 1) 75 #[.bool (ngb y), .slice A' n' c'] := by rw [← hWe]; exact hb3
      replace hb4 : Blk W2 (w.heap.size + 1 + 1) 75 #[.bool false, .slice none 0 0] := by rw [← hWe]; exact hb4
      replace hsz : W2.heap.size = w.heap.size + 3 := by rw [← hWe]; exact hsz
      clear hWe f20 f21 f30 f31
      obtain ⟨f20, f21, -, -, -⟩ := hb2.two
      obtain ⟨f30, f31, -, -, -⟩ := hb3.two
      replace hwx := hnx.below hbl0
      replace hwy := hny.below hbl0
      go_region_held3 (fun w' => w'.cell? ⟨w.heap.size, 0, none⟩ = some (.bool (ngb x)) ∧ w'.cell? ⟨w.heap.size, 1, none⟩ = some (.slice A n c) ∧ w'.cell? ⟨w.heap.size + 1, 0, none⟩ = some (.bool (ngb y)) ∧ w'.cell? ⟨w.heap.size + 1, 1, none⟩ = some (.slice A' n' c'))
        (first | (go_keep; done) | ((try dsimp only); (repeat' apply And.intro); all_goals first | (go_keep; done) | (rw [hk1 _ _ (by omega)]; assumption) | (rw [hk3 _ _ (by omega), hk1 _ _ (by omega)]; assumption) | (rw [cell_set2 (by omega), hk3 _ _ (by omega), hk1 _ _ (by omega)]; assumption)))
        (first
          | (go_at_call 134; refine (rnat_taken (by exact hwy) (by exact hwx) bY (by omega) (by omega)).mono ?_; rintro e w1 ⟨r, rfl, hr1, hb1⟩; have hb1 := hb1.undrew; obtain ⟨hk1, hk2⟩ := bcell hb1; have hs1 := hb1.size)
          | (go_at_call 98; refine (rnat_made (ngb y) (by exact hr1) hbd2 (by omega)).mono ?_; rw [hfin.out]; rintro e w2 ⟨r2, rfl, ⟨A2, n2, c2, rfl, hn2⟩, hb2'⟩; obtain ⟨hk3, hk4⟩ := bcell hb2'; have hB4 := (hb4.below hb1 (by omega)).below hb2' (by omega); obtain ⟨r0, r1, q0, q1, hs2⟩ := hB4.two))
      go_wp2
      have hfinal := int_box hn2 hB4 rfl (hbl0.trans ((hb1.trans (hb2'.mono hs1)).mono hbl0.size)) (by omega)
      exact bodyPost_ret (v := .agg #[.bool (ngb (x + y)), .slice A2 n2 c2]) (by simp [results, Tryz.results119, go_sem, r0, r1]) rfl ⟨_, rfl, hfinal.1, hfinal.2⟩
    · have hcm : ¬ cmpI (x.natAbs : Int) (y.natAbs : Int) < 0 := by unfold cmpI; rw [if_neg (by omega)]; split <;> omega
      have hfin : Hid ((if ngb x = true then -((x.natAbs - y.natAbs : Nat) : Int) else ((x.natAbs - y.natAbs : Nat) : Int)) = x + y) := by
        show (if ngb x = true then -((x.natAbs - y.natAbs : Nat) : Int) else ((x.natAbs - y.natAbs : Nat) : Int)) = x + y
        have hs := HS.out
        unfold ngb at hs ⊢
        by_cases h : x < 0
        · have : ¬ y < 0 := by simpa [h] using hs
          simp [h]; omega
        · have : y < 0 := by simpa [h] using hs
          simp [h]; omega
      have hbd2 : x.natAbs - y.natAbs < pw (k + 1) := by omega
      go_enter Tryz.func119, Tryz.ntmps119
      go_wp2_with fail
      obtain ⟨W1, hW0, hbl0, hb2, hb3, hb4, hsz⟩ := boxes3 w 75 75 75 #[.bool (ngb x), .slice A n c] #[.bool (ngb y), .slice A' n' c'] #[.bool false, .slice none 0 0]
      rw [← hW0]
      clear hW0
      obtain ⟨f20, f21, -, -, -⟩ := hb2.two
      obtain ⟨f30, f31, -, -, -⟩ := hb3.two
      have hwx := hnx.below hbl0
      have hwy := hny.below hbl0
      refine (rnat_compared hwx hwy bx bY (by omega) (by omega)).mono ?_
      rintro e w3 ⟨rfl, q, rfl⟩
      go_wp2_with fail
      generalize hWe : W1.drewN q = W2
      replace hbl0 : Below w.heap.size w W2 := by rw [← hWe]; exact hbl0.drewN _
      replace hb2 : Blk W2 w.heap.size 75 #[.bool (ngb x), .slice A n c] := by rw [← hWe]; exact hb2
      replace hb3 : Blk W2 (w.heap.size + 1) 75 #[.bool (ngb y), .slice A' n' c'] := by rw [← hWe]; exact hb3
      replace hb4 : Blk W2 (w.heap.size + 1 + 1) 75 #[.bool false, .slice none 0 0] := by rw [← hWe]; exact hb4
      replace hsz : W2.heap.size = w.heap.size + 3 := by rw [← hWe]; exact hsz
      clear hWe f20 f21 f30 f31
      obtain ⟨f20, f21, -, -, -⟩ := hb2.two
      obtain ⟨f30, f31, -, -, -⟩ := hb3.two
      replace hwx := hnx.below hbl0
      replace hwy := hny.below hbl0
      go_region_held3 (fun w' => w'.cell? ⟨w.heap.size, 0, none⟩ = some (.bool (ngb x)) ∧ w'.cell? ⟨w.heap.size, 1, none⟩ = some (.slice A n c) ∧ w'.cell? ⟨w.heap.size + 1, 0, none⟩ = some (.bool (ngb y)) ∧ w'.cell? ⟨w.heap.size + 1, 1, none⟩ = some (.slice A' n' c'))
        (first | (go_keep; done) | ((try dsimp only); (repeat' apply And.intro); all_goals first | (go_keep; done) | (rw [hk1 _ _ (by omega)]; assumption) | (rw [hk3 _ _ (by omega), hk1 _ _ (by omega)]; assumption) | (rw [cell_set2 (by omega), hk3 _ _ (by omega), hk1 _ _ (by omega)]; assumption)))
        (first
          | (go_at_call 134; refine (rnat_taken (by exact hwx) (by exact hwy) bx (by omega) (by omega)).mono ?_; rintro e w1 ⟨r, rfl, hr1, hb1⟩; have hb1 := hb1.undrew; obtain ⟨hk1, hk2⟩ := bcell hb1; have hs1 := hb1.size)
          | (go_at_call 98; refine (rnat_made (ngb x) (by exact hr1) hbd2 (by omega)).mono ?_; rw [hfin.out]; rintro e w2 ⟨r2, rfl, ⟨A2, n2, c2, rfl, hn2⟩, hb2'⟩; obtain ⟨hk3, hk4⟩ := bcell hb2'; have hB4 := (hb4.below hb1 (by omega)).below hb2' (by omega); obtain ⟨r0, r1, q0, q1, hs2⟩ := hB4.two))
      go_wp2
      have hfinal := int_box hn2 hB4 rfl (hbl0.trans ((hb1.trans (hb2'.mono hs1)).mono hbl0.size)) (by omega)
      exact bodyPost_ret (v := .agg #[.bool (ngb (x + y)), .slice A2 n2 c2]) (by simp [results, Tryz.results119, go_sem, r0, r1]) rfl ⟨_, rfl, hfinal.1, hfinal.2⟩

end Go.Proofs.YtmkhfgggleplfaaGreat
