/-
  The walks of the reference's small functions on words: trim, word, number, words, compared. Conditions: lengths of type int; words below 2^32.
  The walks of the reference's sum and difference of words: added, taken. Conditions: lengths below 2^40; words below 2^32.
-/
import Derived.Test.YtmkhfgggleplfaaGreatIntA
import Derived.Test.YtmkhfgggleplfaaGreatNatD
namespace Go.Proofs.YtmkhfgggleplfaaGreat
set_option linter.unusedSimpArgs false
set_option linter.unusedVariables false
open Go.RowKit

theorem NatV.of_rtrim {w : World} {A : Option Addr} {c : Nat} {o : List Nat} (h : WordsAt w A o) (d : Ds o) (hl : o.length ≤ c) (hc : c ≤ 9223372036854775807) :
    NatV w (.slice A (trimLen o) c) (val o) :=
  ⟨_, _, trim o, by rw [trim_length], by rw [trim_length]; have := trimLen_le o; omega, hc, h.take _, canon_trim d, val_trim o⟩

set_option maxHeartbeats 400000 in
theorem rtrim_any (A : Option Addr) (n c : Nat) (l : List Nat) (w : World) (h : WordsAt w A l) (hn : l.length = n) (hl : n ≤ c) (hc : c ≤ 9223372036854775807) :
    Calls Tryz.prog 118 #[.slice A n c] w fun e w' => e = .returned (.slice A (trimLen l) c) ∧ w = w' := by
  subst hn
  go_enter Tryz.func118, Tryz.ntmps118
  go_wp2_with fail
  go_loop [3] (fun n => ∃ k : Nat, k ≤ l.length ∧ trimLen l ≤ k ∧ n = .int .i64 k) (fun n => (intOf n).toNat)
  case atStart => exact ⟨l.length, Nat.le_refl _, trimLen_le l, rfl⟩
  case round =>
    obtain ⟨k, hk, ht, rfl⟩ := hrel
    by_cases hk0 : 0 < k
    · obtain ⟨b, off, rfl, hb, hcell⟩ := h (by omega)
      obtain ⟨k, rfl⟩ : ∃ j, k = j + 1 := ⟨k - 1, by omega⟩
      have hc1 := hcell k (by omega)
      clear hcell
      by_cases hz : dg l k = 0
      · have hz' : ((dg l k : Int) == 0) = true := by rw [beq_iff_eq]; omega
        have htk : trimLen l ≤ k := by
          rcases Nat.lt_or_ge k (trimLen l) with h1 | h1
          · have := trimLen_last l (by omega)
            rw [show trimLen l - 1 = k from by omega] at this
            exact absurd hz this
          · exact h1
        clear hz
        go_wp2
        go_round
        case rel => exact ⟨k, by omega, htk, rfl⟩
        case measure => simp [intOf]
      · have hz' : ((dg l k : Int) == 0) = false := by rw [beq_eq_false_iff_ne]; omega
        have htk : Hid (trimLen l = k + 1) := by
          rcases Nat.lt_or_ge k (trimLen l) with h1 | h1
          · show trimLen l = k + 1; omega
          · exact absurd (trimLen_zero l k h1) hz
        clear hz
        go_wp2
        go_ret
        exact ⟨by rw [htk.out]; rfl, rfl⟩
    · have hk1 : k = 0 := by omega
      subst hk1
      have ht0 : Hid (trimLen l = 0) := by show trimLen l = 0; omega
      go_wp2
      go_ret
      exact ⟨by rw [ht0.out]; rfl, rfl⟩

set_option maxHeartbeats 400000 in
theorem rword_any (A : Option Addr) (n c : Nat) (l : List Nat) (i : Nat) (w : World) (h : WordsAt w A l) (hn : l.length = n) (hl : n ≤ 9223372036854775807) (dl : Ds l) :
    Calls Tryz.prog 140 #[.slice A n c, .int .i64 i] w fun e w' => e = .returned (.int .u64 (dg l i : Int)) ∧ w = w' := by
  subst hn
  by_cases hi : i < l.length
  · obtain ⟨b, off, rfl, hb, hcell⟩ := h (by omega)
    have hc1 := hcell i hi
    have dl1 := dl i
    have hu : IntKind.u64.wrap (dg l i : Int) = (dg l i : Int) := by rw [IntKind.wrap_u64]; omega
    clear hcell dl
    go_enter Tryz.func140, Tryz.ntmps140
    go_wp2
    go_ret
    exact ⟨by first | rfl | rw [hu], rfl⟩
  · have hz : Hid (dg l i = 0) := dg_ge (by omega)
    go_enter Tryz.func140, Tryz.ntmps140
    go_wp2
    go_ret
    exact ⟨by rw [hz.out]; rfl, rfl⟩

theorem rword_0 (A : Option Addr) (n c : Nat) (l : List Nat) (w : World) (h : WordsAt w A l) (hn : l.length = n) (hl : n ≤ 9223372036854775807) (dl : Ds l) :
    Calls Tryz.prog 140 #[.slice A n c, .int .i64 0] w fun e w' => e = .returned (.int .u64 (dg l 0 : Int)) ∧ w = w' := rword_any A n c l 0 w h hn hl dl
theorem rword_1 (A : Option Addr) (n c : Nat) (l : List Nat) (w : World) (h : WordsAt w A l) (hn : l.length = n) (hl : n ≤ 9223372036854775807) (dl : Ds l) :
    Calls Tryz.prog 140 #[.slice A n c, .int .i64 1] w fun e w' => e = .returned (.int .u64 (dg l 1 : Int)) ∧ w = w' := rword_any A n c l 1 w h hn hl dl

set_option maxRecDepth 100000 in
set_option maxHeartbeats 400000 in
theorem rnumber_any (A : Option Addr) (n c : Nat) (l : List Nat) (w : World) (h : WordsAt w A l) (hn : l.length = n) (hl : n ≤ 2) (dl : Ds l) :
    Calls Tryz.prog 136 #[.slice A n c] w fun e w' => e = .returned (.int .u64 (val l : Int)) ∧ w = w' := by
  have hv : Hid ((dg l 1 : Int) * 4294967296 + (dg l 0 : Int) = (val l : Int)) := by
    show _ = _
    have : val l = dg l 0 + dg l 1 * 4294967296 := by
      rw [← vs_len (l := l) (i := 2) (by omega)]
      simp [vs, pw]
    omega
  have d0 := dl 0
  have d1 := dl 1
  have w1 : IntKind.u64.wrap ((dg l 1 : Int) * 4294967296) = (dg l 1 : Int) * 4294967296 := by rw [IntKind.wrap_u64]; omega
  have w2 : IntKind.u64.wrap ((dg l 1 : Int) * 4294967296 + (dg l 0 : Int)) = (val l : Int) := by rw [IntKind.wrap_u64, ← hv.out]; omega
  have hv0 : (dg l 1 : Int) * 4294967296 + (dg l 0 : Int) = (val l : Int) := hv.out
  have HN := Lib.hid hn
  clear hn
  go_enter Tryz.func136, Tryz.ntmps136
  go_wp2_with (go_at_call 140; with_reducible first | (refine (rword_0 A n c l _ h HN.out (by omega) dl).mono ?_; rintro e w' ⟨rfl, rfl⟩) | (refine (rword_1 A n c l _ h HN.out (by omega) dl).mono ?_; rintro e w' ⟨rfl, rfl⟩))
  go_ret
  exact ⟨rfl, rfl⟩

set_option maxHeartbeats 400000 in
theorem rwords_any (x : Nat) (w : World) (hx : x < 18446744073709551616) :
    Calls Tryz.prog 99 #[.int .u64 (x : Int)] w fun e w' => ∃ r, e = .returned r ∧ NatV w' r x ∧ Below w.heap.size w w' := by
  obtain ⟨lo, hlo⟩ : ∃ s : Nat, (x : Int) % 4294967296 = (s : Int) := ⟨x % 4294967296, by omega⟩
  obtain ⟨h, hh⟩ : ∃ s : Nat, (x : Int) / 4294967296 = (s : Int) := ⟨x / 4294967296, by omega⟩
  have hlb : lo < 4294967296 := by omega
  have hhb : h < 4294967296 := by omega
  have hv : Hid (val [lo, h] = x) := by
    show val [lo, h] = x
    simp [val, vs, pw, dg]; omega
  have hown : Own (w.alloc (.cells #[Value.int .u32 (lo : Int), Value.int .u32 (h : Int)] 110)) 110 w.heap.size [lo, h] := heap_alloc_new w _
  have hd : Ds [lo, h] := Ds.of_all fun k hk => by
    simp only [List.length_cons, List.length_nil] at hk
    rcases Nat.lt_or_ge k 1 with h1 | h1
    · rw [show k = 0 from by omega]; exact hlb
    · rw [show k = 1 from by omega]; exact hhb
  go_enter Tryz.func99, Tryz.ntmps99
  go_wp2_with fail
  refine (rtrim_any _ 2 2 [lo, h] _ hown.words rfl (Nat.le_refl _) (by omega)).mono ?_
  rintro e w' ⟨rfl, rfl⟩
  go_wp2
  go_ret
  refine ⟨_, rfl, ?_, (Below.refl _ _).alloc (Nat.le_refl _) _⟩
  have := NatV.of_rtrim hown.words (c := 2) hd (by simp) (by omega)
  rwa [hv.out] at this

set_option maxRecDepth 100000 in
set_option maxHeartbeats 1000000 in
theorem rcompared_any (A A' : Option Addr) (n m c c' : Nat) (x y : List Nat) (w : World) (hx : WordsAt w A x) (hy : WordsAt w A' y) (hn : x.length = n) (hm : y.length = m) (cx : Canon x) (cy : Canon y)
    (lx : n ≤ 1099511627776) (ly : m ≤ 1099511627776) :
    Calls Tryz.prog 133 #[.slice A n c, .slice A' m c'] w fun e w' => e = .returned (.int .i64 (cmpI (val x) (val y))) ∧ Same w w' := by
  have hlen : n < m → cmpI (val x) (val y) = -1 := fun h => by
    have h1 := cx.1.val_lt
    have h2 := cy.pw_le (by omega)
    have h3 := pw_mono (show x.length ≤ y.length - 1 by omega)
    exact cmpI_lt (by omega)
  have hlen2 : m < n → cmpI (val x) (val y) = 1 := fun h => by
    have h1 := cy.1.val_lt
    have h2 := cx.pw_le (by omega)
    have h3 := pw_mono (show y.length ≤ x.length - 1 by omega)
    exact cmpI_gt (by omega)
  have hN := Lib.hid hn
  have hM := Lib.hid hm
  clear hn hm
  rcases Nat.lt_trichotomy n m with h | h | h
  · have hfin := Lib.hid (hlen h)
    clear hlen hlen2
    go_enter Tryz.func133, Tryz.ntmps133
    go_wp2
    go_ret
    exact ⟨ret_i64 hfin.out.symm, Same.refl _⟩
  · subst h
    clear hlen hlen2
    go_enter Tryz.func133, Tryz.ntmps133
    go_wp2_with fail
    go_loopw [5] (fun i wr => ∃ k : Nat, k ≤ n ∧ i = .int .i64 ((k : Int) - 1) ∧ (∀ j, k ≤ j → j < n → dg x j = dg y j) ∧ Same w wr) (fun i _ => (intOf i + 1).toNat)
    case atStart => exact ⟨n, Nat.le_refl _, rfl, fun j h1 h2 => by omega, Same.refl _⟩
    case round =>
      obtain ⟨k, hk, rfl, he, hs⟩ := hrel
      have hxr := hx.below hs.below
      have hyr := hy.below hs.below
      clear hx hy
      have HE := Lib.hid he
      clear he
      by_cases hlt : 0 < k
      · obtain ⟨j, rfl⟩ : ∃ j, k = j + 1 := ⟨k - 1, by omega⟩
        have hidx : ((j + 1 : Nat) : Int) - 1 = (j : Int) := by omega
        rw [hidx]
        obtain ⟨b, off, rfl, hbb, hcell⟩ := hxr (by rw [hN.out]; omega)
        have hcx := hcell j (by rw [hN.out]; omega)
        obtain ⟨b', off', rfl, hbb', hcell'⟩ := hyr (by rw [hM.out]; omega)
        have hcy := hcell' j (by rw [hM.out]; omega)
        clear hcell hcell'
        rcases Nat.lt_trichotomy (dg x j) (dg y j) with h | h | h
        · have hfin : Hid (cmpI (val x) (val y) = -1) := by
            have ex : val x = vs x n := by rw [← hN.out]; rfl
            have ey : val y = vs y n := by rw [← hM.out]; rfl
            have hup : ∀ i, j < i → i < n → dg x i = dg y i := fun i h1 h2 => HE.out i (by omega) h2
            have := vs_lt_of cx.1 (by omega) hup h
            exact cmpI_lt (by omega)
          go_wp2_with fail
          go_quiet (fail)
          go_wp2
          go_ret
          exact ⟨ret_i64 hfin.out.symm, hs.drewN _⟩
        · have hnext : Hid (∀ i, j ≤ i → i < n → dg x i = dg y i) := fun i h1 h2 => by
            by_cases hij : i = j
            · rw [hij]; exact h
            · exact HE.out i (by omega) h2
          have h1 : ¬ ((dg x j : Int) < (dg y j : Int)) := by omega
          have h2 : ¬ ((dg y j : Int) < (dg x j : Int)) := by omega
          clear h
          go_wp2_with fail
          go_quiet (fail)
          go_wp2_with fail
          go_quiet (fail)
          go_wp2
          go_roundw
          case rel => exact ⟨j, by omega, rfl, hnext.out, hs.drewN _⟩
          case measure => simp [intOf]
        · have hfin : Hid (cmpI (val x) (val y) = 1) := by
            have ex : val x = vs x n := by rw [← hN.out]; rfl
            have ey : val y = vs y n := by rw [← hM.out]; rfl
            have hup : ∀ i, j < i → i < n → dg x i = dg y i := fun i h1 h2 => HE.out i (by omega) h2
            have := vs_lt_of cy.1 (by omega) (fun i h1 h2 => (hup i h1 h2).symm) h
            exact cmpI_gt (by omega)
          have h1 : ¬ ((dg x j : Int) < (dg y j : Int)) := by omega
          go_wp2_with fail
          go_quiet (fail)
          go_wp2_with fail
          go_quiet (fail)
          go_wp2
          go_ret
          exact ⟨ret_i64 hfin.out.symm, (hs.drewN _).drewN _⟩
      · have hk' : k = 0 := by omega
        subst hk'
        have hfin : Hid (cmpI (val x) (val y) = 0) := by
          have ex : val x = vs x n := by rw [← hN.out]; rfl
          have ey : val y = vs y n := by rw [← hM.out]; rfl
          exact cmpI_eq (by rw [ex, ey, vs_congr fun j hj => HE.out j (by omega) hj])
        go_wp2
        go_ret
        exact ⟨ret_i64 hfin.out.symm, hs⟩
  · have hfin := Lib.hid (hlen2 h)
    clear hlen hlen2
    go_enter Tryz.func133, Tryz.ntmps133
    go_wp2
    go_ret
    exact ⟨ret_i64 hfin.out.symm, Same.refl _⟩

end Go.Proofs.YtmkhfgggleplfaaGreat
namespace Go.Proofs.YtmkhfgggleplfaaGreat
open Go.RowKit

/-- make([]uint32, n) -/
theorem make_u32s (n : Nat) (hn : n ≤ 35184372088832) (W : World) : (Instr.makeSlice 73 (.int .i64 (n : Int)) (.int .i64 (n : Int))).run Tryz.prog W =
    .ok (.slice (some ⟨W.heap.size, 0, none⟩) n n) (W.alloc (.cells (madeCells (Value.int .u32 0).cells n) 110)) := by
  obtain ⟨i0, hi, hz0, hz1, hz2⟩ := info_parts info_u32
  have := run_make (P := Tryz.prog) W 73 110 i0 _ Tryz.underlying73 hi hz0 .i64 .i64 (n : Int) (n : Int) (by omega) (by omega) (by rw [hz2]; omega) (by omega)
  rw [hz1, Nat.mul_one, Int.toNat_natCast] at this
  exact this
theorem make_u32s1 (n : Nat) (hn : n ≤ 17592186044416) (W : World) : (Instr.makeSlice 73 (.int .i64 ((n : Int) + 1)) (.int .i64 ((n : Int) + 1))).run Tryz.prog W =
    .ok (.slice (some ⟨W.heap.size, 0, none⟩) (n + 1) (n + 1)) (W.alloc (.cells (madeCells (Value.int .u32 0).cells (n + 1)) 110)) := by
  have := make_u32s (n + 1) (by omega) W
  rwa [show ((n + 1 : Nat) : Int) = (n : Int) + 1 from by omega] at this

/-- a call that only looks, in a region that draws -/
theorem quietW {P : Program} {f : FuncId} {args : Array Value} {w : World} {n : Nat} {v : Value} (h : Calls P f args (w.drewN n) fun e w' => e = .returned v ∧ w.drewN n = w') :
    Calls P f args (w.drewN n) fun e w'' => e = .returned v ∧ ∃ m, w'' = w.drewN m := h.mono fun _ _ ⟨he, hm⟩ => ⟨he, n, hm.symm⟩

def RAddRel (x y : List Nat) (w : World) (N : Nat) (i cv : Value) (wr : World) : Prop :=
  ∃ (k cy : Nat) (o : List Nat), k ≤ N + 1 ∧ i = .int .i64 k ∧ cv = .int .u64 cy ∧ cy ≤ 1 ∧ Own wr 110 w.heap.size o ∧ o.length = N + 1 ∧ Ds o ∧ vs o k + cy * pw k = vs x k + vs y k ∧ Below w.heap.size w wr

/-- the last carry is 0 -/
theorem carry_zero {N cy : Nat} {x y o : List Nat} (hx : x.length ≤ N) (hy : y.length ≤ N) (dx : Ds x) (dy : Ds y) (h : vs o (N + 1) + cy * pw (N + 1) = vs x (N + 1) + vs y (N + 1)) : vs o (N + 1) = val x + val y := by
  rw [vs_len (l := x) (by omega), vs_len (l := y) (by omega)] at h
  have h1 := dx.val_lt
  have h2 := dy.val_lt
  have h3 := pw_mono hx
  have h4 := pw_mono hy
  rcases Nat.eq_zero_or_pos cy with h0 | h0
  · rw [h0] at h; omega
  · have : 1 * pw (N + 1) ≤ cy * pw (N + 1) := Nat.mul_le_mul_right _ h0
    simp only [pw] at this h; omega

set_option maxHeartbeats 1000000 in
set_option maxRecDepth 100000 in
theorem radded_any (A A' : Option Addr) (n m c c' : Nat) (x y : List Nat) (w : World) (hx : WordsAt w A x) (hy : WordsAt w A' y) (hn : x.length = n) (hm : y.length = m) (dx : Ds x) (dy : Ds y)
    (lx : n ≤ 1099511627776) (ly : m ≤ 1099511627776) :
    Calls Tryz.prog 132 #[.slice A n c, .slice A' m c'] w fun e w' => ∃ r, e = .returned r ∧ NatV w' r (val x + val y) ∧ Below w.heap.size w w' := by
  obtain ⟨N, hNe, hNb, hNM⟩ : ∃ N, (N = n ∨ N = m) ∧ N ≤ 1099511627776 ∧ n ≤ N ∧ m ≤ N := ⟨max n m, by omega, by omega, by omega, by omega⟩
  have HX : Hid (x.length = n) := hn
  have HY : Hid (y.length = m) := hm
  have HNM : Hid (n ≤ N ∧ m ≤ N) := hNM
  clear hn hm
  have hmk1 := make_u32s1 N (by omega)
  have hown0 : ∀ W : World, Own (W.alloc (.cells (madeCells (Value.int .u32 0).cells (N + 1)) 110)) 110 W.heap.size (List.replicate (N + 1) 0) := fun W => Own.made W _ _
  have hsub : (n < m ∧ N = m) ∨ (m ≤ n ∧ N = n) := by omega
  clear hNe hNM
  rcases hsub with ⟨h, hNm⟩ | ⟨h, hNm⟩
  all_goals
    subst hNm
    go_enter Tryz.func132, Tryz.ntmps132
    go_wp2_with fail
    go_loopw [7, 8] (fun cv i wr => RAddRel x y w N i cv wr) (fun _ i _ => N + 1 - (intOf i).toNat)
    case atStart =>
      exact ⟨0, 0, List.replicate (N + 1) 0, Nat.zero_le _, rfl, rfl, Nat.zero_le _, hown0 w, by simp, Ds.zeros _, by simp [vs], (Below.refl _ _).alloc (Nat.le_refl _) _⟩
    case round =>
      obtain ⟨k, cy, o, hk, rfl, rfl, hcy, hown, hlo, hdo, hv, hb⟩ := hrel
      have hx1 := hx.below hb
      have hy1 := hy.below hb
      clear hx hy hmk1 hown0
      by_cases hlt : k < N + 1
      · have hc1 := hown.cell (i := k) (by omega)
        have hf1 := hown.frozen k
        have dxk := dx k
        have dyk := dy k
        obtain ⟨s, hs⟩ : ∃ s : Nat, ((dg x k : Int) + (dg y k : Int) + (cy : Int)) % 4294967296 = (s : Int) := ⟨(dg x k + dg y k + cy) % 4294967296, by omega⟩
        obtain ⟨cy', hcy'⟩ : ∃ s : Nat, ((dg x k : Int) + (dg y k : Int) + (cy : Int)) / 4294967296 = (s : Int) := ⟨(dg x k + dg y k + cy) / 4294967296, by omega⟩
        have hsn : s < 4294967296 := by omega
        have hst : Hid (s + 4294967296 * cy' = dg x k + dg y k + cy) := by show s + 4294967296 * cy' = dg x k + dg y k + cy; omega
        have hcy1 : cy' ≤ 1 := by omega
        have hstep := Lib.hid (add_step hv (k := k) (by omega) hst.out)
        have hown' := Lib.hid (hown.set k s)
        have hlo' : Hid (o.length = _) := hlo
        have DX := Lib.hid dx
        have DY := Lib.hid dy
        clear hlo hv hst dx dy hown h
        go_wp2_with (go_at_call 140; with_reducible first | (refine (rword_any A _ c x k _ hx1 HX.out (by omega) DX.out).mono ?_; rintro e w' ⟨rfl, rfl⟩) | (refine (rword_any A' _ c' y k _ hy1 HY.out (by omega) DY.out).mono ?_; rintro e w' ⟨rfl, rfl⟩))
        go_roundw
        case rel => exact ⟨k + 1, cy', o.set k s, by omega, by go_num, by rw [hcy'], hcy1, hown'.out, by rw [List.length_set]; exact hlo'.out, hdo.set hsn, hstep.out, hb.setCell (Nat.le_refl _) _⟩
        case measure => simp [intOf]; omega
      · have hk' : k = N + 1 := by omega
        subst hk'
        have hfin : Hid (val o = val x + val y) := by
          show vs o o.length = val x + val y
          rw [hlo]
          exact carry_zero (by rw [HX.out]; exact HNM.out.1) (by rw [HY.out]; exact HNM.out.2) dx dy hv
        have hlo' : Hid (o.length = _) := hlo
        have hw := hown.words
        clear hlo hv dx dy hx1 hy1
        go_wp2_with fail
        refine (rtrim_any _ _ _ _ _ hw hlo'.out (Nat.le_refl _) (by omega)).mono ?_
        rintro e w' ⟨rfl, rfl⟩
        go_wp2
        go_ret
        exact ⟨_, rfl, by rw [← hfin.out]; exact NatV.of_rtrim hw hdo (by rw [hlo'.out]; omega) (by omega), hb⟩

def RTakRel (x y : List Nat) (w : World) (n : Nat) (i cv : Value) (wr : World) : Prop :=
  ∃ (k bw : Nat) (o : List Nat), k ≤ n ∧ i = .int .i64 k ∧ cv = .int .u64 bw ∧ bw ≤ 1 ∧ Own wr 110 w.heap.size o ∧ o.length = n ∧ Ds o ∧ vs o k + vs y k = vs x k + bw * pw k ∧ Below w.heap.size w wr

theorem take_step {x y o : List Nat} {k bw s bw' : Nat} (h : vs o k + vs y k = vs x k + bw * pw k) (hk : k < o.length) (hs : s + dg y k + bw = dg x k + 4294967296 * bw') :
    vs (o.set k s) (k + 1) + vs y (k + 1) = vs x (k + 1) + bw' * pw (k + 1) := by
  simp only [vs, pw]
  rw [vs_set_ge (Nat.le_refl k), dg_set_self hk]
  have e : (s + dg y k + bw) * pw k = (dg x k + 4294967296 * bw') * pw k := by rw [hs]
  rw [Nat.add_mul, Nat.add_mul, Nat.add_mul, Nat.mul_assoc] at e
  rw [Nat.mul_left_comm bw']
  omega

set_option maxHeartbeats 1000000 in
set_option maxRecDepth 100000 in
theorem rtaken_any (A A' : Option Addr) (n m c c' : Nat) (x y : List Nat) (w : World) (hx : WordsAt w A x) (hy : WordsAt w A' y) (hn : x.length = n) (hm : y.length = m) (dx : Ds x) (dy : Ds y)
    (lx : n ≤ 1099511627776) (ly : m ≤ n) (hle : val y ≤ val x) :
    Calls Tryz.prog 134 #[.slice A n c, .slice A' m c'] w fun e w' => ∃ r, e = .returned r ∧ NatV w' r (val x - val y) ∧ Below w.heap.size w w' := by
  have HX : Hid (x.length = n) := hn
  have HY : Hid (y.length = m) := hm
  clear hn hm
  have hmk1 := make_u32s n (by omega)
  have hown0 : ∀ W : World, Own (W.alloc (.cells (madeCells (Value.int .u32 0).cells n) 110)) 110 W.heap.size (List.replicate n 0) := fun W => Own.made W _ _
  go_enter Tryz.func134, Tryz.ntmps134
  go_wp2_with fail
  go_loopw [6, 7] (fun cv i wr => RTakRel x y w n i cv wr) (fun _ i _ => n - (intOf i).toNat)
  case atStart =>
    exact ⟨0, 0, List.replicate n 0, Nat.zero_le _, rfl, rfl, Nat.zero_le _, hown0 w, by simp, Ds.zeros _, by simp [vs], (Below.refl _ _).alloc (Nat.le_refl _) _⟩
  case round =>
    obtain ⟨k, bw, o, hk, rfl, rfl, hbw, hown, hlo, hdo, hv, hb⟩ := hrel
    have hx1 := hx.below hb
    have hy1 := hy.below hb
    clear hx hy hmk1 hown0
    by_cases hlt : k < n
    · have hc1 := hown.cell (i := k) (by omega)
      have hf1 := hown.frozen k
      have dxk := dx k
      have dyk := dy k
      obtain ⟨t, ht⟩ : ∃ t : Nat, t + dg y k + bw = dg x k + 4294967296 := ⟨dg x k + 4294967296 - dg y k - bw, by omega⟩
      have htb : t < 8589934592 := by omega
      have u1 : IntKind.u64.wrap (dg x k : Int) = (dg x k : Int) := by rw [IntKind.wrap_u64]; omega
      have u2 : IntKind.u64.wrap (4294967296 + (dg x k : Int) - (dg y k : Int) - (bw : Int)) = (t : Int) := by rw [IntKind.wrap_u64]; omega
      have u3 : (4294967296 + (dg x k : Int) - (dg y k : Int) - (bw : Int)) = (t : Int) := by omega
      obtain ⟨s, hs⟩ : ∃ s : Nat, (t : Int) % 4294967296 = (s : Int) := ⟨t % 4294967296, by omega⟩
      obtain ⟨q, hq⟩ : ∃ q : Nat, (t : Int) / 4294967296 = (q : Int) := ⟨t / 4294967296, by omega⟩
      have hq1 : q ≤ 1 := by omega
      have hsn : s < 4294967296 := by omega
      have hst : Hid (s + dg y k + bw = dg x k + 4294967296 * (1 - q)) := by show s + dg y k + bw = dg x k + 4294967296 * (1 - q); omega
      have hq2 : (1 : Int) - (q : Int) = ((1 - q : Nat) : Int) := by omega
      have hstep := Lib.hid (take_step hv (k := k) (by omega) hst.out)
      have hown' := Lib.hid (hown.set k s)
      have hlo' : Hid (o.length = _) := hlo
      have DY := Lib.hid dy
      obtain ⟨b, off, rfl, hbb, hcell⟩ := hx1 (by rw [HX.out]; omega)
      have hcx := hcell k (by rw [HX.out]; omega)
      have HT := Lib.hid ht
      clear hlo hv hst dx dy hown hcell ht
      go_wp2_with fail
      go_quiet ((go_at_call 140; exact quietW (rword_any A' _ c' y k _ (hy1.drewN _) HY.out (by omega) DY.out)))
      go_wp2
      go_roundw
      case rel => exact ⟨k + 1, 1 - q, o.set k s, by omega, by go_num, by go_num, by omega, hown'.out, by rw [List.length_set]; exact hlo'.out, hdo.set hsn, hstep.out, (hb.drewN nq).setCell (Nat.le_refl _) _⟩
      case measure => simp [intOf]; omega
    · have hk' : k = n := by omega
      subst hk'
      have hfin : Hid (val o = val x - val y) := by
        show vs o o.length = val x - val y
        rw [hlo]
        have h1 : vs x k = val x := vs_len (by rw [HX.out]; exact Nat.le_refl _)
        have h2 : vs y k = val y := vs_len (by rw [HY.out]; exact ly)
        rw [h1, h2] at hv
        have h3 : vs o k < pw k := vs_lt fun j _ => hdo j
        rcases Nat.eq_zero_or_pos bw with h0 | h0
        · rw [h0] at hv; omega
        · have : 1 * pw k ≤ bw * pw k := Nat.mul_le_mul_right _ h0
          omega
      have hlo' : Hid (o.length = _) := hlo
      have hw := hown.words
      clear hlo hv dx dy hx1 hy1
      go_wp2_with fail
      refine (rtrim_any _ _ _ _ _ hw hlo'.out (Nat.le_refl _) (by omega)).mono ?_
      rintro e w' ⟨rfl, rfl⟩
      go_wp2
      go_ret
      exact ⟨_, rfl, by rw [← hfin.out]; exact NatV.of_rtrim hw hdo (by rw [hlo'.out]; omega) (by omega), hb⟩

end Go.Proofs.YtmkhfgggleplfaaGreat
