/-
  The walks of Div32, word, shl, shr on words. Conditions: lengths below 2^40.
-/
import Derived.Test.YtmkhfgggleplfaaGreatNatB
namespace Go.Proofs.YtmkhfgggleplfaaGreat
set_option linter.unusedSimpArgs false
set_option linter.unusedVariables false
open Go.RowKit

theorem or_u64 (x y : Int) (hx : 0 ≤ x) (hx' : x < 4294967296) (hy : 0 ≤ y) (hy' : y < 4294967296) : bits BinOp.or IntKind.u64 (x * 4294967296) y = x * 4294967296 + y := by
  obtain ⟨x, rfl⟩ := Int.eq_ofNat_of_zero_le hx
  obtain ⟨y, rfl⟩ := Int.eq_ofNat_of_zero_le hy
  have h := u64_or_nat (x * 4294967296) y (by omega) (by omega)
  rw [show ((x * 4294967296 : Nat) : Int) = (x : Int) * 4294967296 from by omega] at h
  rw [h]
  have := Nat.shiftLeft_add_eq_or_of_lt (i := 32) (b := y) (by omega) x
  rw [Nat.shiftLeft_eq] at this
  simp only [Nat.reducePow] at this
  omega

theorem ret_u32two {a a' b b' : Int} (h : a = a') (h' : b = b') : Ending.returned (.tuple #[.int .u32 a, .int .u32 b]) = .returned (.tuple #[.int .u32 a', .int .u32 b']) := by rw [h, h']
theorem div32_lt (x l y : Int) (hx : 0 ≤ x) (hxy : x < y) (hl : 0 ≤ l) (hl' : l < 4294967296) : (x * 4294967296 + l) / y < 4294967296 := by
  refine Int.ediv_lt_of_lt_mul (by omega) ?_
  have : 4294967296 * (x + 1) ≤ 4294967296 * y := by omega
  omega
set_option maxHeartbeats 400000 in
theorem div32_any (x l y : Int) (w : World) (hx : 0 ≤ x) (hxy : x < y) (hl : 0 ≤ l) (hl' : l < 4294967296) (hy' : y < 4294967296) :
    Calls Tryz.prog 138 #[.int .u32 x, .int .u32 l, .int .u32 y] w fun e w' =>
      e = .returned (.tuple #[.int .u32 ((x * 4294967296 + l) / y), .int .u32 ((x * 4294967296 + l) % y)]) ∧ Same w w' := by
  have ho := or_u64 x l hx (by omega) hl hl'
  have hy0 : (y != 0) = true := by rw [bne_iff_ne]; omega
  go_enter Tryz.func138, Tryz.ntmps138
  go_wp2_with fail
  go_quiet (fail)
  go_wp2_with fail
  go_ret2
  have h0 : 0 ≤ (x * 4294967296 + l) / y := Int.ediv_nonneg (by omega) (by omega)
  have h1 := div32_lt x l y hx hxy hl hl'
  have h2 : 0 ≤ (x * 4294967296 + l) % y := Int.emod_nonneg _ (by omega)
  have h3 : (x * 4294967296 + l) % y < y := Int.emod_lt_of_pos _ (by omega)
  exact ⟨ret_u32two (Int.emod_eq_of_lt h0 h1) (Int.emod_eq_of_lt h2 (by omega)), ⟨_, rfl⟩⟩

/-- the value of the i topmost of n words -/
def hi (l : List Nat) (n : Nat) : Nat → Nat
  | 0 => 0
  | i + 1 => dg l (n - 1 - i) + 4294967296 * hi l n i
theorem hi_vs (l : List Nat) (n : Nat) : ∀ i, i ≤ n → vs l n = vs l (n - i) + pw (n - i) * hi l n i
  | 0, _ => by simp [hi]
  | i + 1, h => by
    rw [hi_vs l n i (by omega)]
    obtain ⟨k, hk⟩ : ∃ k, n = k + i + 1 := ⟨n - i - 1, by omega⟩
    subst hk
    simp only [hi]
    rw [show k + i + 1 - i = k + 1 from by omega, show k + i + 1 - (i + 1) = k from by omega, show k + i + 1 - 1 - i = k from by omega]
    simp only [vs, pw]
    rw [Nat.mul_add, Nat.mul_comm (dg l k), ← Nat.mul_assoc (pw k), Nat.mul_comm (pw k) 4294967296]
    omega
theorem hi_all (l : List Nat) (n : Nat) : hi l n n = vs l n := by
  have := hi_vs l n n (Nat.le_refl _)
  rw [this, Nat.sub_self]; simp [vs, pw]
theorem hi_congr {l m : List Nat} {n : Nat} : ∀ {i : Nat}, (∀ j, n - i ≤ j → j < n → dg l j = dg m j) → i ≤ n → hi l n i = hi m n i
  | 0, _, _ => rfl
  | i + 1, h, hi' => by
    simp only [hi]
    rw [hi_congr (i := i) (fun j h1 h2 => h j (by omega) h2) (by omega), h (n - 1 - i) (by omega) (by omega)]
theorem word_step {x o : List Nat} {n i j d r q r' : Nat} (hn : n = i + j + 1) (hl : o.length = n) (h : hi x n i = d * hi o n i + r) (hq : d * q + r' = r * 4294967296 + dg x j) :
    hi x n (i + 1) = d * hi (o.set j q) n (i + 1) + r' := by
  simp only [hi]
  rw [show n - 1 - i = j from by omega, dg_set_self (by omega), hi_congr (l := o.set j q) (m := o) (fun k h1 h2 => dg_set_ne (by omega)) (by omega), h, Nat.mul_add, Nat.mul_add,
    Nat.mul_left_comm d]
  omega

def WordRel (x : List Nat) (d n : Nat) (w : World) (rv iv : Value) (wr : World) : Prop :=
  ∃ (i r : Nat) (o : List Nat), i ≤ n ∧ iv = .int .i64 i ∧ rv = .int .u32 r ∧ r < d ∧ Own wr 110 w.heap.size o ∧ o.length = n ∧ Ds o ∧ hi x n i = d * hi o n i + r ∧ Below w.heap.size w wr

set_option maxHeartbeats 1000000 in
set_option maxRecDepth 100000 in
theorem word_any (A : Option Addr) (n c d : Nat) (x : List Nat) (w : World) (hx : WordsAt w A x) (hn : x.length = n) (dx : Ds x) (hd : 0 < d) (hd' : d < 4294967296)
    (lx : n ≤ 1099511627776) :
    Calls Tryz.prog 123 #[.slice A n c, .int .u32 (d : Int)] w fun e w' => ∃ v, e = .returned (.tuple #[v, .int .u32 ((val x % d : Nat) : Int)]) ∧ NatV w' v (val x / d) ∧ Below w.heap.size w w' := by
  have hmk1 := make_nat n (by omega)
  have hN := Lib.hid hn
  clear hn
  go_enter Tryz.func123, Tryz.ntmps123
  go_wp2_with fail
  go_loopw [7, 15] (fun rv i wr => WordRel x d n w rv i wr) (fun _ i _ => n - (intOf i).toNat)
  case atStart =>
    exact ⟨0, 0, List.replicate n 0, Nat.zero_le _, rfl, rfl, hd, Own.made w 110 n, by simp, Ds.zeros _, by simp [hi], (Below.refl _ _).alloc (Nat.le_refl _) _⟩
  case round =>
    obtain ⟨i, r, o, hi', rfl, rfl, hr, hown, hlo, hdo, hv, hb⟩ := hrel
    clear hmk1
    by_cases hlt : i < n
    · obtain ⟨j, hj⟩ : ∃ j, n = i + j + 1 := ⟨n - i - 1, by omega⟩
      have hidx : ((n : Int) - 1 - (i : Int)) = (j : Int) := by omega
      have hjn : j < n := by omega
      have HJ := Lib.hid hj
      obtain ⟨b, off, rfl, hbb, hcell⟩ := (hx.below hb) (by rw [hN.out]; omega)
      have hcx := hcell j (by rw [hN.out]; omega)
      have hc1 := hown.cell (i := j) (by omega)
      have hf1 := hown.frozen j
      have dxj := dx j
      have hcast : ((r * 4294967296 + dg x j : Nat) : Int) = (r : Int) * 4294967296 + (dg x j : Int) := by omega
      obtain ⟨q, hq⟩ : ∃ q : Nat, ((r : Int) * 4294967296 + (dg x j : Int)) / (d : Int) = (q : Int) := ⟨(r * 4294967296 + dg x j) / d, by rw [Int.natCast_ediv, hcast]⟩
      obtain ⟨r', hr'⟩ : ∃ q : Nat, ((r : Int) * 4294967296 + (dg x j : Int)) % (d : Int) = (q : Int) := ⟨(r * 4294967296 + dg x j) % d, by rw [Int.natCast_emod, hcast]⟩
      have hqn : q < 4294967296 := by have := div32_lt (r : Int) (dg x j : Int) (d : Int) (by omega) (by omega) (by omega) (by omega); omega
      have hrn : r' < d := by have := Int.emod_lt_of_pos ((r : Int) * 4294967296 + (dg x j : Int)) (show (0 : Int) < d by omega); omega
      have hst : Hid (d * q + r' = r * 4294967296 + dg x j) := by
        show d * q + r' = r * 4294967296 + dg x j
        have h1 := Int.mul_ediv_add_emod ((r : Int) * 4294967296 + (dg x j : Int)) (d : Int)
        rw [hq, hr'] at h1
        have h2 : ((d * q : Nat) : Int) = (d : Int) * (q : Int) := Int.natCast_mul _ _
        omega
      have hstep := Lib.hid (word_step hj hlo hv hst.out)
      have hlo' : Hid (o.length = _) := hlo
      clear hlo hv hst dx hcell hj hcast
      go_wp2_with (go_at_call 138; refine (div32_any _ _ _ _ (by omega) (by omega) (by omega) (by omega) (by omega)).mono ?_; rintro e w' ⟨rfl, qq, rfl⟩)
      go_roundw
      case rel => exact ⟨i + 1, r', o.set j q, by omega, by go_num, rfl, hrn, (hown.drewN qq).set j q, by rw [List.length_set]; exact hlo'.out, hdo.set hqn, hstep.out, (hb.drewN qq).setCell (Nat.le_refl _) _⟩
      case measure => simp [intOf]; omega
    · have hk' : i = n := by omega
      subst hk'
      have hv' : val x = d * val o + r := by
        have h1 : val x = hi x i i := by rw [hi_all, ← hN.out]; rfl
        have h2 : val o = hi o i i := by rw [hi_all, ← hlo]; rfl
        rw [h1, h2]; exact hv
      have hq : Hid (val o = val x / d) := by
        show val o = val x / d
        rw [hv', Nat.mul_add_div hd, Nat.div_eq_of_lt hr, Nat.add_zero]
      have hr' : Hid (r = val x % d) := by
        show r = val x % d
        rw [hv', Nat.mul_add_mod, Nat.mod_eq_of_lt hr]
      have hw := hown.words
      have hlo' : Hid (o.length = _) := hlo
      clear hlo hv hv' dx
      go_wp2_with fail
      refine (norm_any _ _ _ _ _ hw hlo'.out (Nat.le_refl _) (by omega)).mono ?_
      rintro e w' ⟨rfl, rfl⟩
      go_wp2
      go_ret2
      exact ⟨_, by rw [← hr'.out]; rfl, by rw [← hq.out]; exact NatV.of_trim hown hdo (by rw [hlo'.out]; omega), hb⟩

theorem shl_parts {t u d b : Nat} (htu : t * u = 4294967296) (ht : 0 < t) (hb : b < t) :
    ∃ a, d * t % 4294967296 = t * a ∧ b + t * a < 4294967296 := by
  refine ⟨d % u, ?_, ?_⟩
  · rw [← htu, Nat.mul_comm d t, Nat.mul_mod_mul_left]
  · have hu : 0 < u := by rcases Nat.eq_zero_or_pos u with h | h; · rw [h] at htu; omega
                          · exact h
    have h1 : d % u < u := Nat.mod_lt _ hu
    have h2 : t * (d % u + 1) ≤ t * u := Nat.mul_le_mul_left _ h1
    rw [htu, Nat.mul_add] at h2
    omega
theorem pow32 {s : Nat} (hs : s < 32) : 2 ^ s * 2 ^ (32 - s) = 4294967296 := by rw [← Nat.pow_add, show s + (32 - s) = 32 from by omega]
theorem pow31 {s : Nat} (hs : s < 32) : 2 ^ s ≤ 2147483648 := Nat.pow_le_pow_right (n := 2) (by omega) (show s ≤ 31 by omega)
theorem shl_step {x o : List Nat} {i t v h lo : Nat} (hv : vs o (i + 1) = vs x i * t) (hi' : i + 1 < o.length) (hlo : v = dg o i + lo) (hw : lo + 4294967296 * h = dg x i * t) :
    vs ((o.set i v).set (i + 1) h) (i + 1 + 1) = vs x (i + 1) * t := by
  simp only [vs, pw] at hv ⊢
  rw [vs_set_ge (by omega), vs_set_ge (Nat.le_refl _), dg_set_ne (by omega), dg_set_self (by omega), dg_set_self (by rw [List.length_set]; omega), hlo, Nat.add_mul (vs x i), Nat.add_mul (dg o i)]
  have e : (lo + 4294967296 * h) * pw i = dg x i * t * pw i := by rw [hw]
  rw [Nat.add_mul, Nat.mul_assoc] at e
  rw [Nat.mul_left_comm h, Nat.mul_right_comm (dg x i)]
  omega

def ShlRel (x : List Nat) (s n : Nat) (w : World) (iv : Value) (wr : World) : Prop :=
  ∃ (i : Nat) (o : List Nat), i ≤ n ∧ iv = .int .i64 i ∧ Own wr 110 w.heap.size o ∧ o.length = n + 1 ∧ Ds o ∧ vs o (i + 1) = vs x i * 2 ^ s ∧ dg o i < 2 ^ s ∧ Below w.heap.size w wr

set_option maxHeartbeats 1000000 in
set_option maxRecDepth 100000 in
theorem shl_any (A : Option Addr) (n c s : Nat) (x : List Nat) (w : World) (hx : WordsAt w A x) (hn : x.length = n) (dx : Ds x) (hs : s < 32)
    (lx : n ≤ 1099511627776) :
    Calls Tryz.prog 125 #[.slice A n c, .int .i64 (s : Int)] w fun e w' => ∃ g o, e = .returned (.slice (some ⟨g, 0, none⟩) (n + 1) (n + 1)) ∧ Own w' 110 g o ∧ o.length = n + 1 ∧ Ds o ∧
      val o = val x * 2 ^ s ∧ w.heap.size ≤ g ∧ Below w.heap.size w w' := by
  have hmk1 := make_nat1 n (by omega)
  have hN := Lib.hid hn
  clear hn
  go_enter Tryz.func125, Tryz.ntmps125
  go_wp2_with fail
  go_loopw [15] (fun i wr => ShlRel x s n w i wr) (fun i _ => n - (intOf i).toNat)
  case atStart =>
    refine ⟨0, List.replicate (n + 1) 0, Nat.zero_le _, rfl, Own.made w 110 (n + 1), by simp, Ds.zeros _, ?_, ?_, (Below.refl _ _).alloc (Nat.le_refl _) _⟩
    · rw [vs_zero fun j _ => dg_replicate _ j]; simp [vs]
    · rw [dg_replicate]; exact Nat.two_pow_pos _
  case round =>
    obtain ⟨i, o, hi', rfl, hown, hlo, hdo, hv, htop, hb⟩ := hrel
    clear hmk1
    by_cases hlt : i < n
    · obtain ⟨b, off, rfl, hbb, hcell⟩ := (hx.below hb) (by rw [hN.out]; omega)
      have hcx := hcell i (by rw [hN.out]; omega)
      have hc1 := hown.cell (i := i) (by omega)
      have hf1 := hown.frozen i
      have dxi := dx i
      have doi := hdo i
      have hc2 := hown.cell (i := i + 1) (by omega)
      have hf2 := hown.frozen (i + 1)
      have ht := pow31 hs
      have ht0 := Nat.two_pow_pos s
      obtain ⟨W, hW⟩ : ∃ W, dg x i * 2 ^ s = W := ⟨_, rfl⟩
      have hWi : (dg x i : Int) * 2 ^ s = (W : Int) := by rw [← hW]; simp
      have hWb : W ≤ 4294967295 * 2147483648 := by rw [← hW]; exact Nat.mul_le_mul (by omega) ht
      obtain ⟨a, ha, hab⟩ := shl_parts (d := dg x i) (pow32 hs) ht0 htop
      rw [hW] at ha
      obtain ⟨lo, hlo'⟩ : ∃ lo, 2 ^ s * a = lo := ⟨_, rfl⟩
      rw [hlo'] at ha hab
      have hloi : (W : Int) % 4294967296 = (lo : Int) := by omega
      obtain ⟨h, hh⟩ : ∃ h : Nat, (W : Int) / 4294967296 = (h : Int) := ⟨W / 4294967296, by omega⟩
      have hhb : h < 2 ^ s := by
        have h1 : W < 4294967296 * 2 ^ s := by rw [← hW]; exact Nat.mul_lt_mul_of_pos_right dxi ht0
        have : W = lo + 4294967296 * h := by omega
        exact Nat.lt_of_mul_lt_mul_left (a := 4294967296) (by omega)
      have hhb' : h < 4294967296 := by omega
      have hor : bits BinOp.or IntKind.u32 (dg o i : Int) (lo : Int) = ((dg o i + lo : Nat) : Int) := by
        rw [u32_or_nat _ _ (by omega) (by omega), Nat.or_comm, ← hlo', ← Nat.two_pow_add_eq_or_of_lt htop, Nat.add_comm]
      obtain ⟨v, hv'⟩ : ∃ v, dg o i + lo = v := ⟨_, rfl⟩
      rw [hv'] at hor
      have hvb : v < 4294967296 := by omega
      have hstep := Lib.hid (shl_step (x := x) (t := 2 ^ s) (h := h) hv (by omega) hv'.symm (by rw [hW]; omega))
      have HL := Lib.hid hlo
      have HB := Lib.hid hhb
      clear hv hlo dx hcell ha hab hlo' hW hWb hv' ht ht0 htop hhb
      go_wp2_with fail
      go_roundw
      case rel =>
        refine ⟨i + 1, (o.set i v).set (i + 1) h, by omega, by go_num, (hown.set i v).set (i + 1) h, by rw [List.length_set, List.length_set]; exact HL.out, (hdo.set hvb).set hhb', hstep.out, ?_,
          (hb.setCell (p := ⟨w.heap.size, i, none⟩) (Nat.le_refl _) _).setCell (Nat.le_refl _) _⟩
        rw [dg_set_self (by rw [List.length_set, HL.out]; omega)]; exact HB.out
      case measure => simp [intOf]; omega
    · have hk' : i = n := by omega
      subst hk'
      have hfin : Hid (val o = val x * 2 ^ s) := by
        show vs o o.length = val x * 2 ^ s
        rw [hlo, hv, ← hN.out]; rfl
      have HL := Lib.hid hlo
      clear hv hlo dx
      go_wp2
      go_ret
      exact ⟨w.heap.size, o, rfl, hown, HL.out, hdo, hfin.out, Nat.le_refl _, hb⟩

theorem shr_digit {t u a b : Nat} (htu : t * u = 4294967296) (ht : 0 < t) (hb : b < 4294967296) :
    t * ((a * 4294967296 + b) / t % 4294967296) + b % t = b + a % t * 4294967296 := by
  have hu : 0 < u := by rcases Nat.eq_zero_or_pos u with h | h; · rw [h] at htu; omega
                        · exact h
  have e1 : (a * 4294967296 + b) / t = a * u + b / t := by
    rw [← htu, ← Nat.mul_assoc, Nat.mul_right_comm, Nat.mul_comm (a * u) t, Nat.mul_add_div ht]
  have hbu : b / t < u := Nat.div_lt_of_lt_mul (by rw [htu]; exact hb)
  have e2 : (a * u + b / t) % (t * u) = a % t * u + b / t := by
    have e3 : a * u + b / t = (t * u) * (a / t) + (a % t * u + b / t) := by
      have h1 : (t * (a / t) + a % t) * u = a * u := by rw [Nat.div_add_mod]
      rw [Nat.add_mul] at h1
      rw [Nat.mul_right_comm t u]; omega
    rw [e3, Nat.mul_add_mod, Nat.mod_eq_of_lt]
    have h1 : a % t < t := Nat.mod_lt _ ht
    have h2 : (a % t + 1) * u ≤ t * u := Nat.mul_le_mul_right _ h1
    rw [Nat.add_mul] at h2
    omega
  rw [e1]
  conv => lhs; rw [← htu]
  rw [e2, Nat.mul_add]
  have h3 := Nat.div_add_mod b t
  have h4 : t * (a % t * u) = a % t * 4294967296 := by rw [← htu, Nat.mul_left_comm]
  omega
theorem shr_step {x o : List Nat} {i t q : Nat} (hv : t * vs o i + dg x 0 % t = vs x i + dg x i % t * pw i) (hi' : i < o.length)
    (hq : t * q + dg x i % t = dg x i + dg x (i + 1) % t * 4294967296) :
    t * vs (o.set i q) (i + 1) + dg x 0 % t = vs x (i + 1) + dg x (i + 1) % t * pw (i + 1) := by
  simp only [vs, pw]
  rw [vs_set_ge (Nat.le_refl _), dg_set_self hi', Nat.mul_add]
  have e : (t * q + dg x i % t) * pw i = (dg x i + dg x (i + 1) % t * 4294967296) * pw i := by rw [hq]
  rw [Nat.add_mul, Nat.add_mul, Nat.mul_assoc, Nat.mul_assoc] at e
  omega

def ShrRel (x : List Nat) (s n : Nat) (w : World) (iv : Value) (wr : World) : Prop :=
  ∃ (i : Nat) (o : List Nat), i ≤ n ∧ iv = .int .i64 i ∧ Own wr 110 w.heap.size o ∧ o.length = n ∧ Ds o ∧ 2 ^ s * vs o i + dg x 0 % 2 ^ s = vs x i + dg x i % 2 ^ s * pw i ∧ Below w.heap.size w wr

set_option maxHeartbeats 2000000 in
set_option maxRecDepth 100000 in
theorem shr_any (A : Option Addr) (n c s : Nat) (x : List Nat) (w : World) (hx : WordsAt w A x) (hn : x.length = n) (dx : Ds x) (hs : s < 32)
    (lx : n ≤ 1099511627776) :
    Calls Tryz.prog 127 #[.slice A n c, .int .i64 (s : Int)] w fun e w' => ∃ v, e = .returned v ∧ NatV w' v (val x / 2 ^ s) ∧ Below w.heap.size w w' := by
  have hmk1 := make_nat n (by omega)
  have hN := Lib.hid hn
  clear hn
  go_enter Tryz.func127, Tryz.ntmps127
  go_wp2_with fail
  go_loopw [12] (fun i wr => ShrRel x s n w i wr) (fun i _ => n - (intOf i).toNat)
  case atStart =>
    exact ⟨0, List.replicate n 0, Nat.zero_le _, rfl, Own.made w 110 n, by simp, Ds.zeros _, by simp [vs, pw], (Below.refl _ _).alloc (Nat.le_refl _) _⟩
  case round =>
    obtain ⟨i, o, hi', rfl, hown, hlo, hdo, hv, hb⟩ := hrel
    clear hmk1
    by_cases hlt : i < n
    · have hxr := hx.below hb
      obtain ⟨b, off, rfl, hbb, hcell⟩ := hxr (by rw [hN.out]; omega)
      have hcx := hcell i (by rw [hN.out]; omega)
      have hc1 := hown.cell (i := i) (by omega)
      have hf1 := hown.frozen i
      have dxi := dx i
      have dxi1 := dx (i + 1)
      have ho := or_u64 (dg x (i + 1) : Int) (dg x i : Int) (by omega) (by omega) (by omega) (by omega)
      obtain ⟨W, hW⟩ : ∃ W : Nat, dg x (i + 1) * 4294967296 + dg x i = W := ⟨_, rfl⟩
      have hWi : (dg x (i + 1) : Int) * 4294967296 + (dg x i : Int) = (W : Int) := by omega
      have hWb : W < 18446744073709551616 := by omega
      obtain ⟨q, hq⟩ : ∃ q : Nat, (W : Int) / 2 ^ s % 4294967296 = (q : Int) := ⟨W / 2 ^ s % 4294967296, by simp⟩
      have hqn : q = W / 2 ^ s % 4294967296 := by
        have : (W : Int) / 2 ^ s % 4294967296 = ((W / 2 ^ s % 4294967296 : Nat) : Int) := by simp
        omega
      have hqb : q < 4294967296 := by omega
      have hstep := Lib.hid (shr_step (q := q) hv (by omega) (by rw [hqn, ← hW]; exact shr_digit (pow32 hs) (Nat.two_pow_pos s) dxi))
      have HL := Lib.hid hlo
      clear hv hlo dx hcell hqn hW
      go_wp2_with fail
      refine wp_region_still_tail 18 (by kernel_rfl) (by kernel_rfl) ?_
      simp only [List.take_succ_cons, List.take_zero, List.drop_succ_cons, List.drop_zero]
      have hat : Calls Tryz.prog 129 #[.slice (some ⟨b, off, none⟩) n c, .int .i64 ((i : Int) + 1)] wr.drew fun e w'' => e = .returned (.int .u32 (dg x (i + 1) : Int)) ∧ w'' = wr.drew :=
        (at_any _ _ _ _ _ _ (hxr.drewN 1) hN.out (by omega) (by omega)).mono fun _ _ h => ⟨h.1, h.2.symm⟩
      have HAT := Lib.hid hat
      clear hat
      have w1 : IntKind.i64.wrap ((i : Int) + 1) = (i : Int) + 1 := IntWalk.i64_in _ (by omega)
      have w2 : IntKind.u64.wrap ((dg x (i + 1) : Int) * 4294967296) = (dg x (i + 1) : Int) * 4294967296 := by rw [IntKind.wrap_u64]; omega
      repeat (first | still_step | (refine wpStill_step (fun K hK => ?_); go_simp; refine ⟨_, HAT.out, hK _ ?_⟩; clear hK K))
      refine wpStill_nil ?_
      change wpList _ _ _ _ _ wr.drew
      go_wp2
      go_roundw
      case rel => exact ⟨i + 1, o.set i q, by omega, by go_num, (hown.drewN 1).set i q, by rw [List.length_set]; exact HL.out, hdo.set hqb, hstep.out, (hb.drewN 1).setCell (Nat.le_refl _) _⟩
      case measure => simp [intOf]; omega
    · have hk' : i = n := by omega
      subst hk'
      have hfin : Hid (val o = val x / 2 ^ s) := by
        show val o = val x / 2 ^ s
        have h1 : vs o i = val o := by rw [← hlo]; rfl
        have h2 : vs x i = val x := by rw [← hN.out]; rfl
        rw [h1, h2, dg_ge (l := x) (k := i) (by rw [hN.out]; exact Nat.le_refl _), Nat.zero_mod, Nat.zero_mul, Nat.add_zero] at hv
        rw [← hv, Nat.mul_add_div (Nat.two_pow_pos s), Nat.div_eq_of_lt (Nat.mod_lt _ (Nat.two_pow_pos s)), Nat.add_zero]
      have hw := hown.words
      have HL := Lib.hid hlo
      clear hlo hv dx
      go_wp2_with fail
      refine (norm_any _ _ _ _ _ hw HL.out (Nat.le_refl _) (by omega)).mono ?_
      rintro e w' ⟨rfl, rfl⟩
      go_wp2
      go_ret
      exact ⟨_, rfl, by rw [← hfin.out]; exact NatV.of_trim hown hdo (by rw [HL.out]; omega), hb⟩

end Go.Proofs.YtmkhfgggleplfaaGreat
