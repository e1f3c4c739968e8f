/-
  The walks of Lex, Graded, Reverse, Eliminating, and of Clone of a list of rows. Conditions: lengths below 2^36.
-/
import Derived.Test.YtmkhfgggleplfaaGreatOrdA
namespace Go.Proofs.YtmkhfgggleplfaaGreat
set_option linter.unusedSimpArgs false
set_option linter.unusedVariables false
open Go.RowKit

/-- a list of rows that lies in a block of its own -/
def OrdO (w : World) (base : Nat) (v : Value) (n : Nat) (f : Nat → Nat → Int) : Prop :=
  ∃ xs : List Value, w.ownsRow base 35 8 v n xs ∧ ∀ i, i < n → ∀ k, k < 8 → xs[i * 8 + k]? = some (.int .i64 (f i k))
theorem OrdO.ordV {w : World} {base n : Nat} {v : Value} {f : Nat → Nat → Int} (h : OrdO w base v n f) : OrdV w v n f := by
  obtain ⟨xs, h1, h2⟩ := h
  obtain ⟨A, c, rfl, hn, hc, hA⟩ := own_slice h1
  refine ⟨A, c, rfl, hn, hc, fun h0 => ?_⟩
  obtain ⟨g, rfl, hg, hlt⟩ := hA h0
  refine ⟨g, 0, rfl, hlt, fun i hi k hk => ?_⟩
  have := h1.cells (g := g) rfl _ _ (h2 i hi k hk)
  rw [add_none] at this
  rw [Nat.add_assoc]; exact this
theorem OrdO.below {w w' : World} {base n : Nat} {v : Value} {f : Nat → Nat → Int} (h : OrdO w base v n f) (hb : Below w.heap.size w w') : OrdO w' base v n f := by
  obtain ⟨xs, h1, h2⟩ := h
  exact ⟨xs, ownsRow_below h1 hb, h2⟩
theorem OrdO.mono {w : World} {base base' n : Nat} {v : Value} {f : Nat → Nat → Int} (h : OrdO w base v n f) (hb : base' ≤ base) : OrdO w base' v n f := by
  obtain ⟨xs, h1, h2⟩ := h
  exact ⟨xs, ownsRow_mono h1 hb, h2⟩
theorem OrdO.congr {w : World} {base n : Nat} {v : Value} {f g : Nat → Nat → Int} (h : OrdO w base v n f) (e : ∀ i, i < n → ∀ k, k < 8 → f i k = g i k) : OrdO w base v n g := by
  obtain ⟨xs, h1, h2⟩ := h
  exact ⟨xs, h1, fun i hi k hk => e i hi k hk ▸ h2 i hi k hk⟩
theorem OrdV.congr {w : World} {n : Nat} {v : Value} {f g : Nat → Nat → Int} (h : OrdV w v n f) (e : ∀ i, i < n → ∀ k, k < 8 → f i k = g i k) : OrdV w v n g := by
  obtain ⟨A, c, h1, h2, h3, h4⟩ := h
  refine ⟨A, c, h1, h2, h3, fun h0 => ?_⟩
  obtain ⟨b, off, k1, k2, k3⟩ := h4 h0
  exact ⟨b, off, k1, k2, fun i hi k hk => e i hi k hk ▸ k3 i hi k hk⟩
/-- rows behind one another -/
def catF (n : Nat) (f g : Nat → Nat → Int) : Nat → Nat → Int := fun i => if i < n then f i else g (i - n)
theorem info_row : (Tryz.prog.info? 35).map (fun i => (i.zero, i.size, i.bytes)) = some (some (.agg (vec8 fun _ => 0)), 8, 64) := by kernel_rfl

/-- the cells of a list of rows as one list -/
def flat (f : Nat → Nat → Int) (n : Nat) : List Value := (List.range (n * 8)).map fun j => .int .i64 (f (j / 8) (j % 8))
theorem flat_len (f : Nat → Nat → Int) (n : Nat) : (flat f n).length = n * 8 := by simp [flat]
theorem flat_get (f : Nat → Nat → Int) {n j : Nat} (h : j < n * 8) : (flat f n)[j]? = some (.int .i64 (f (j / 8) (j % 8))) := by simp [flat, h]
theorem flat_at (f : Nat → Nat → Int) {n i k : Nat} (h : i < n) (hk : k < 8) : (flat f n)[i * 8 + k]? = some (.int .i64 (f i k)) := by
  rw [flat_get f (by omega), show (i * 8 + k) / 8 = i from by omega, show (i * 8 + k) % 8 = k from by omega]
theorem flat_one (f : Nat → Nat → Int) (n : Nat) : ∀ u ∈ flat f n, u.oneCell' = true := by
  intro u hu
  simp [flat] at hu
  obtain ⟨_, _, rfl⟩ := hu
  rfl
theorem OrdV.reads {w : World} {A : Option Addr} {n c : Nat} {f : Nat → Nat → Int} (h : OrdV w (.slice A n c) n f) : Reads w w.heap.size 8 A n (flat f n) := by
  obtain ⟨A', c', e, _, _, h3⟩ := h
  injection e with e1 _ e3
  subst e1 e3
  refine ⟨flat_len f n, fun h0 => ?_⟩
  obtain ⟨b, off, rfl, hb, hc⟩ := h3 h0
  refine ⟨_, rfl, hb, fun j u hu => ?_⟩
  have hj : j < n * 8 := by have := (List.getElem?_eq_some_iff.1 hu).1; rwa [flat_len] at this
  rw [flat_get f hj] at hu
  injection hu with hu
  rw [add_none, ← hu]
  have := hc (j / 8) (by omega) (j % 8) (by omega)
  rwa [show off + j / 8 * 8 + j % 8 = off + j from by omega] at this
/-- behind an append of rows -/
theorem OrdO.append {w' : World} {base n m : Nat} {v' : Value} {f g : Nat → Nat → Int} {xs : List Value} (hx : ∀ i, i < n → ∀ k, k < 8 → xs[i * 8 + k]? = some (.int .i64 (f i k))) (hl : xs.length = n * 8)
    (hown : w'.ownsRow base 35 8 v' (n + m) (xs ++ flat g m)) : OrdO w' base v' (n + m) (catF n f g) := by
  refine ⟨_, hown, fun i hi k hk => ?_⟩
  unfold catF
  by_cases h : i < n
  · rw [if_pos h, List.getElem?_append_left (by omega)]; exact hx i h k hk
  · rw [if_neg h, List.getElem?_append_right (by omega), hl, show i * 8 + k - n * 8 = (i - n) * 8 + k from by omega]
    exact flat_at g (by omega) hk
theorem flat_vec (f : Nat → Nat → Int) : flat f 1 = (vec8 (f 0)).toList := rfl

theorem lex_any (w : World) : Calls Tryz.prog 21 #[] w fun e w' => ∃ v, e = .returned v ∧ OrdO w' w.heap.size v 0 (fun _ _ => 0) ∧ Below w.heap.size w w' := by
  go_enter Tryz.func21, Tryz.ntmps21
  go_wp2
  go_ret
  exact ⟨_, rfl, ⟨[], World.ownsRow_made w #[] 0 (Nat.le_refl _) (by simp [maxLen]) rfl, fun i hi => absurd hi (by omega)⟩, (Below.refl _ _).alloc (Nat.le_refl _) _⟩

theorem own_vec (w : World) (g : Nat → Int) : OrdO (w.alloc (.cells (vec8 g) 35)) w.heap.size (.slice (some ⟨w.heap.size, 0, none⟩) 1 1) 1 (fun _ => g) :=
  ⟨(vec8 g).toList, ⟨rfl, .inr ⟨_, 1, _, rfl, Nat.le_refl _, heap_alloc_new w _, Nat.le_refl _, by simp [maxLen], rfl, rfl⟩⟩, fun i hi k hk => by
    rw [show i = 0 from by omega, Nat.zero_mul, Nat.zero_add, Array.getElem?_toList]; exact vec8_get g hk⟩
theorem graded_any (w : World) : Calls Tryz.prog 23 #[] w fun e w' => ∃ v, e = .returned v ∧ OrdO w' w.heap.size v 1 (fun _ => bit8 255) ∧ Below w.heap.size w w' := by
  go_enter Tryz.func23, Tryz.ntmps23
  go_wp2_with fail
  refine (ones_any 255 w (by omega)).mono ?_
  rintro e w1 ⟨rfl, hb⟩
  go_wp2
  go_ret
  exact ⟨_, rfl, (own_vec w1 (bit8 255)).mono hb.size, hb.trans ((Below.refl _ _).alloc hb.size _)⟩

set_option maxRecDepth 100000 in
/-- Clone of a list of rows -/
theorem clone_rows {w : World} {v : Value} {n : Nat} {f : Nat → Nat → Int} (h : OrdV w v n f) (hn : n ≤ 68719476736) :
    Calls Tryz.prog 36 #[v] w fun e w' => ∃ r, e = .returned r ∧ OrdO w' w.heap.size r n f ∧ Below w.heap.size w w' := by
  obtain ⟨i0, hi0, hz0, hz1, hz2⟩ := info_parts info_row
  obtain ⟨A, c, rfl, hnc, hcm, hA⟩ := id h
  have heq := fun W => Lib.run_eql_slice_nil (P := Tryz.prog) W 30 35 A n c 0 0 Tryz.underlying30
  rcases A with _ | ad
  · have h0 : n = 0 := by
      rcases Nat.eq_zero_or_pos n with h0 | h0
      · exact h0
      · obtain ⟨b, off, h, -⟩ := hA h0; cases h
    subst h0
    go_enter Tryz.func36, Tryz.ntmps36
    go_wp2
    go_ret
    exact ⟨_, rfl, ⟨[], World.ownsRow_nil _ _ _ _, fun i hi => absurd hi (by omega)⟩, Below.refl _ _⟩
  · have hr := Lib.hid (h.reads.alloc (Nat.le_refl _) (.cells #[] 35))
    clear hA h
    go_enter Tryz.func36, Tryz.ntmps36
    go_wp2_with (at_builtin; refine wpList_append_any _ rfl (.tmp 5) (.tmp 6) _ rfl w.heap.size 35 i0 _ 8 64 Tryz.underlying30 hi0 hz0 hz1 hz2 rfl (by omega) (.slice (some ⟨w.heap.size, 0, none⟩) 0 0) 0 [] rfl (World.ownsRow_made w #[] 0 (Nat.le_refl _) (by simp [maxLen]) rfl) w.heap.size (some ad) n c (flat f n) rfl hr.out (flat_one f n) (by simp only [maxLen]; omega) (by omega) (by simp) ?_; intro v1 w1 hown1 hg1 hat1)
    go_ret
    rw [Nat.zero_add, List.nil_append] at hown1
    refine ⟨_, rfl, ⟨_, hown1, fun i hi k hk => flat_at f hi hk⟩, ?_⟩
    refine Below.trans ((Below.refl w.heap.size w).alloc (Nat.le_refl _) _) ((grown_below' hg1 (B := w.heap.size) (by simp) (fun k hk => ?_)))
    simp [Value.ownBlock] at hk; omega

/-- one row more -/
theorem OrdO.push {w' : World} {base n : Nat} {v' : Value} {f : Nat → Nat → Int} {g : Nat → Int} {xs : List Value} (hx : ∀ i, i < n → ∀ k, k < 8 → xs[i * 8 + k]? = some (.int .i64 (f i k))) (hl : xs.length = n * 8)
    (hown : w'.ownsRow base 35 8 v' (n + 1) (xs ++ (vec8 g).toList)) : OrdO w' base v' (n + 1) (fun i => if i < n then f i else g) := by
  have := OrdO.append (g := fun _ => g) hx hl hown
  exact this.congr fun i hi k hk => by unfold catF; by_cases h : i < n <;> simp [h]
theorem vec8_one (g : Nat → Int) : ∀ u ∈ (vec8 g).toList, u.oneCell' = true := by
  intro u hu
  simp at hu
  rcases hu with rfl | rfl | rfl | rfl | rfl | rfl | rfl | rfl <;> rfl
theorem vec8_reads (w : World) (g : Nat → Int) : Reads (w.alloc (.cells (vec8 g) 35)) (w.heap.size + 1) 8 (some ⟨w.heap.size, 0, none⟩) 1 (vec8 g).toList := by
  have := (own_vec w g).ordV.reads
  rwa [alloc_size] at this

def revF : Nat → Nat → Int := fun i => if i = 0 then bit8 255 else unitF (8 - i) (-1)
set_option maxHeartbeats 1000000 in
set_option maxRecDepth 100000 in
theorem reverse_any (w : World) : Calls Tryz.prog 25 #[] w fun e w' => ∃ v, e = .returned v ∧ OrdO w' w.heap.size v 8 revF ∧ Below w.heap.size w w' := by
  obtain ⟨i0, hi0, hz0, hz1, hz2⟩ := info_parts info_row
  go_enter Tryz.func25, Tryz.ntmps25
  go_wp2_with fail
  refine (graded_any w).mono ?_
  rintro e w1 ⟨v1, rfl, hv1, hb1⟩
  go_wp2_with fail
  go_loopw [1, 2] (fun lv kv wr => ∃ j : Nat, j ≤ 7 ∧ kv = .int .i64 ((7 - j : Nat) : Int) ∧ OrdO wr w.heap.size lv (j + 1) revF ∧ Below w.heap.size w wr) (fun _ k _ => (intOf k).toNat)
  case atStart => exact ⟨0, Nat.zero_le _, rfl, hv1.congr (fun i hi k hk => by rw [show i = 0 from by omega]; rfl), hb1⟩
  case round =>
    obtain ⟨j, hj, rfl, ⟨xs, hown, hx⟩, hb⟩ := hrel
    obtain ⟨m, hm⟩ : ∃ m, m = 7 - j := ⟨_, rfl⟩
    rw [← hm]
    have HM := Lib.hid hm
    by_cases hm0 : 0 < m
    · have hmi : (0 : Int) < (m : Int) := by omega
      have hm1 : ((m : Int) - 1) = ((m - 1 : Nat) : Int) := by omega
      have HX := Lib.hid hx
      have HO := Lib.hid hown
      have hm7 : m ≤ 7 := by omega
      clear hx hown hm
      go_wp2_with fail
      refine (unit_any m (-1) wr (by omega)).mono ?_
      rintro e w2 ⟨rfl, hb2⟩
      have hr := Lib.hid (vec8_reads w2 (unitF m (-1)))
      have hW2 : Below wr.heap.size wr (w2.alloc (.cells (vec8 (unitF m (-1))) 35)) := hb2.alloc hb2.size _
      have hown2 := Lib.hid (ownsRow_below HO.out hW2)
      have hsz := hb.size
      have hsz2 := hb2.size
      go_wp2_with (at_builtin; refine wpList_append_any _ rfl (.tmp 8) (.tmp 11) _ rfl w.heap.size 35 i0 _ 8 64 Tryz.underlying30 hi0 hz0 hz1 hz2 rfl (by omega) _ (j + 1) xs rfl hown2.out (w2.heap.size + 1) (some ⟨w2.heap.size, 0, none⟩) 1 1 (vec8 (unitF m (-1))).toList rfl hr.out (vec8_one _) (by simp only [maxLen]; omega) (by omega) (by simp; omega) ?_; intro v3 w3 hown3 hg3 hat3)
      go_roundw
      case rel =>
        have hm := HM.out
        refine ⟨j + 1, by omega, ?_, (OrdO.push HX.out HO.out.1 hown3).congr ?_, (hb.trans (hW2.mono hb.size)).grown hg3 (by simp; omega) (fun g h => (hown2.out.lt g h).1)⟩
        · rw [show 7 - (j + 1) = m - 1 from by omega]; try rfl
        · intro i hi k hk
          by_cases h : i < j + 1
          · simp [h]
          · simp only [h, if_false]
            rw [revF, if_neg (by omega), show 8 - i = m from by omega]
      case measure => simp [intOf]; omega
    · obtain rfl : m = 0 := by omega
      go_wp2
      go_ret
      exact ⟨_, rfl, by rw [show j + 1 = 8 from by omega] at hown hx; exact ⟨xs, hown, hx⟩, hb⟩

/-- the ones of a mask, and Reverse behind them -/
def elimF (m : Nat) : Nat → Nat → Int := fun i => if i = 0 then bit8 m else revF (i - 1)
set_option maxHeartbeats 1000000 in
set_option maxRecDepth 100000 in
theorem eliminating_any (m : Nat) (w : World) (hm : m < 256) : Calls Tryz.prog 27 #[.int .u8 m] w fun e w' => ∃ v, e = .returned v ∧ OrdO w' w.heap.size v 9 (elimF m) ∧ Below w.heap.size w w' := by
  obtain ⟨i0, hi0, hz0, hz1, hz2⟩ := info_parts info_row
  go_enter Tryz.func27, Tryz.ntmps27
  go_wp2_with fail
  refine (ones_any m w hm).mono ?_
  rintro e w1 ⟨rfl, hb1⟩
  obtain ⟨W1, hW1, hown1, hbW⟩ : ∃ W1, W1 = w1.alloc (.cells (vec8 (bit8 m)) 35) ∧ OrdO W1 w.heap.size (.slice (some ⟨w1.heap.size, 0, none⟩) 1 1) 1 (fun _ => bit8 m) ∧ Below w.heap.size w W1 :=
    ⟨_, rfl, (own_vec w1 (bit8 m)).mono hb1.size, hb1.alloc hb1.size _⟩
  go_wp2_with fail
  rw [← hW1]
  refine (reverse_any W1).mono ?_
  rintro e w2 ⟨v2, rfl, hv2, hb2⟩
  obtain ⟨xs, hown, hx⟩ := hown1.below hb2
  obtain ⟨A, c, rfl, hn8, hc8, -⟩ := id hv2.ordV
  have hr := Lib.hid hv2.ordV.reads
  have HO := Lib.hid hown
  have hsz := hbW.size
  have hsz2 := hb2.size
  have HX := Lib.hid hx
  have HV := Lib.hid hv2
  clear hx hown hv2 hown1 hW1
  go_wp2_with (at_builtin; refine wpList_append_any _ rfl (.tmp 5) (.tmp 6) _ rfl w.heap.size 35 i0 _ 8 64 Tryz.underlying30 hi0 hz0 hz1 hz2 rfl (by omega) _ 1 xs rfl HO.out w2.heap.size A 8 c (flat revF 8) rfl hr.out (flat_one _ _) (by simp only [maxLen]; omega) (by omega) (by omega) ?_; intro v3 w3 hown3 hg3 hat3)
  go_ret
  refine ⟨_, rfl, (OrdO.append HX.out HO.out.1 hown3).congr ?_, (hbW.trans (hb2.mono hsz)).grown hg3 (by omega) (fun g h => (HO.out.lt g h).1)⟩
  intro i hi k hk
  unfold catF elimF
  by_cases h : i < 1
  · rw [if_pos h, if_pos (by omega)]
  · rw [if_neg h, if_neg (by omega)]

end Go.Proofs.YtmkhfgggleplfaaGreat
