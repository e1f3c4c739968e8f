/-
  The walks of Clone at words, natural, signed: an integer out of words. Conditions: words are words; lengths below 2^40.
-/
import Derived.Test.YtmkhfgggleplfaaGreatWords
import Derived.Test.YtmkhfgggleplfaaGreatNatA
namespace Go.Proofs.YtmkhfgggleplfaaGreat
set_option linter.unusedSimpArgs false
set_option linter.unusedVariables false
open Go.RowKit

theorem own_empty (w : World) (t : TypeId) : (w.alloc (.cells #[] t)).ownsRow w.heap.size t 1 (.slice (some ⟨w.heap.size, 0, none⟩) 0 0) 0 [] :=
  ⟨by simp, .inr ⟨w.heap.size, 0, #[], rfl, Nat.le_refl _, heap_alloc_new w _, Nat.le_refl _, by simp [maxLen], by simp, by simp⟩⟩

set_option maxHeartbeats 400000 in
theorem clone_nat (A : Option Addr) (n c : Nat) (l : List Nat) (w : World) (h : WordsAt w A l) (hn : l.length = n) (hb : n ≤ 1099511627776) :
    Calls Tryz.prog 112 #[.slice A n c] w fun e w' => ∃ A' c', e = .returned (.slice A' n c') ∧ WordsAt w' A' l ∧ n ≤ c' ∧ c' ≤ 9223372036854775807 ∧ Below w.heap.size w w' := by
  have HN := Lib.hid hn
  have heq := fun W => Lib.run_eql_slice_nil (P := Tryz.prog) W 114 110 A n c 0 0 Tryz.underlying114
  rcases A with _ | ad
  · have hn0 : n = 0 := by
      rcases Nat.eq_zero_or_pos n with h0 | h0
      · exact h0
      · obtain ⟨b, off, e, _⟩ := h (by omega); cases e
    subst hn0
    clear hn
    go_enter Tryz.func112, Tryz.ntmps112
    go_wp2
    go_ret
    have : l = [] := List.eq_nil_of_length_eq_zero HN.out
    subst this
    exact ⟨none, 0, rfl, WordsAt.nil, Nat.le_refl _, by omega, Below.refl _ _⟩
  · obtain ⟨i0, hi0, hz0, hz1, hz2⟩ := info_parts info_u32
    have hr := (h.reads hn).alloc (Nat.le_refl _) (.cells #[] 110)
    have HR := Lib.hid hr
    clear hn hr
    go_enter Tryz.func112, Tryz.ntmps112
    go_wp2_with (at_builtin; refine wpList_append_any _ rfl (.tmp 5) (.tmp 6) _ rfl w.heap.size 110 i0 _ 1 4 Tryz.underlying114 hi0 hz0 hz1 hz2 rfl (by omega) (.slice (some ⟨w.heap.size, 0, none⟩) 0 0) 0 [] rfl (own_empty w 110) w.heap.size (some ad) n c (wcells l) rfl HR.out (wcells_one l) (by simp only [maxLen]; omega) (by omega) (by simp) ?_; intro v1 w1 hown1 hg1 hat1)
    go_ret
    obtain ⟨A', c', rfl, h1, h2, h3⟩ := own_slice hown1
    rw [Nat.zero_add] at hown1 h1 h3
    rw [List.nil_append] at hown1
    refine ⟨A', c', by rw [Nat.zero_add]; rfl, own_words hown1, h1, h2, ?_⟩
    refine Below.trans ((Below.refl w.heap.size w).alloc (Nat.le_refl _) _) ((grown_below' hg1 (B := w.heap.size) (by simp) (fun k hk => ?_)))
    simp [Value.ownBlock] at hk; omega

theorem natural_any (x : Nat) (w : World) (hx : x < 18446744073709551616) :
    Calls Tryz.prog 91 #[.int .u64 (x : Int)] w fun e w' => ∃ r, e = .returned r ∧ NatV w' r x ∧ Below w.heap.size w w' := by
  obtain ⟨lo, hlo⟩ : ∃ s : Nat, (x : Int) % 4294967296 = (s : Int) := ⟨x % 4294967296, by omega⟩
  obtain ⟨h, hh⟩ : ∃ s : Nat, (x : Int) / 4294967296 = (s : Int) := ⟨x / 4294967296, by omega⟩
  have hlb : lo < 4294967296 := by omega
  have hhb : h < 4294967296 := by omega
  have hv : Hid (val [lo, h] = x) := by
    show val [lo, h] = x
    simp [val, vs, pw, dg]; omega
  have hown : Own (w.alloc (.cells #[Value.int .u32 (lo : Int), Value.int .u32 (h : Int)] 110)) 110 w.heap.size [lo, h] := heap_alloc_new w _
  have hd : Ds [lo, h] := Ds.of_all fun k hk => by
    simp only [List.length_cons, List.length_nil] at hk
    rcases Nat.lt_or_ge k 1 with h1 | h1
    · rw [show k = 0 from by omega]; exact hlb
    · rw [show k = 1 from by omega]; exact hhb
  go_enter Tryz.func91, Tryz.ntmps91
  go_wp2_with fail
  refine (norm_any _ 2 2 [lo, h] _ hown.words rfl (Nat.le_refl _) (by omega)).mono ?_
  rintro e w' ⟨rfl, rfl⟩
  go_wp2
  go_ret
  refine ⟨_, rfl, ?_, (Below.refl _ _).alloc (Nat.le_refl _) _⟩
  have := NatV.of_trim hown hd (by simp only [List.length_cons, List.length_nil]; omega)
  rwa [hv.out] at this

/-- is the number negative? -/
def ngb (z : Int) : Bool := decide (z < 0)
/-- v is the integer z -/
def IntV (w : World) (v : Value) (z : Int) : Prop := ∃ A n c, v = .agg #[.bool (ngb z), .slice A n c] ∧ NatV w (.slice A n c) z.natAbs
theorem IntV.below {w w' : World} {v : Value} {z : Int} (h : IntV w v z) (hb : Below w.heap.size w w') : IntV w' v z := by
  obtain ⟨A, n, c, e, h⟩ := h; exact ⟨A, n, c, e, h.below hb⟩
theorem IntV.only {w w' : World} {v : Value} {z : Int} {g : Nat} {t : TypeId} {cs : Array Value} (h : IntV w v z) (hb : Blk w g t cs) (hn : noU32 cs = true) (ho : Only g w w') : IntV w' v z := by
  obtain ⟨A, n, c, e, h⟩ := h; exact ⟨A, n, c, e, h.only hb hn ho⟩

set_option maxHeartbeats 400000 in
theorem signed_any (A : Option Addr) (n c : Nat) (l : List Nat) (neg : Bool) (w : World) (h : WordsAt w A l) (hn : l.length = n) (hl : n ≤ c) (hc : c ≤ 9223372036854775807) (d : Ds l) (hb : n ≤ 1099511627776) :
    Calls Tryz.prog 92 #[.slice A n c, .bool neg] w fun e w' => ∃ r, e = .returned r ∧ IntV w' r (if neg = true then -(val l : Int) else (val l : Int)) ∧ Below w.heap.size w w' := by
  have HN := Lib.hid hn
  clear hn
  go_enter Tryz.func92, Tryz.ntmps92
  go_wp2_with fail
  refine (norm_any A n c l _ (h.below ((Below.refl _ _).alloc (Nat.le_refl _) _)) HN.out hl hc).mono ?_
  rintro e w' ⟨rfl, rfl⟩
  have htr : (trim l).length = trimLen l := trim_length l
  have hcl := clone_nat A (trimLen l) (trimLen l) (trim l) (w.alloc (.cells #[Value.bool false, Value.slice none 0 0] 75)) ((h.below ((Below.refl _ _).alloc (Nat.le_refl _) _)).take _) htr (by have := trimLen_le l; have := HN.out; omega)
  have HCL := Lib.hid hcl
  have HTR := Lib.hid htr
  have hblk : Blk (w.alloc (.cells #[Value.bool false, Value.slice none 0 0] 75)) w.heap.size 75 #[Value.bool false, Value.slice none 0 0] := Blk.new _ _ _
  have hbl : Below w.heap.size w (w.alloc (.cells #[Value.bool false, Value.slice none 0 0] 75)) := (Below.refl _ _).alloc (Nat.le_refl _) _
  clear hcl htr
  have hcn := canon_trim d
  have hpos : ((0 : Int) < (trimLen l : Int)) ↔ val l ≠ 0 := by
    rw [← val_trim l, Ne, hcn.zero_iff, trim_length]; omega
  cases neg
  · go_wp2_with fail
    refine HCL.out.mono ?_
    rintro e w1 ⟨A1, c1, rfl, hw1, hc1, hc1', hb1⟩
    have hb1' := hbl.trans (hb1.mono hbl.size)
    have hblk1 := hblk.below hb1 hblk.lt
    have hf0 := hblk1.cell 0
    have hf1 := hblk1.cell 1
    have hg0 := hblk1.frozen 0
    have hg1 := hblk1.frozen 1
    have hz : w.heap.size < w1.heap.size := hblk1.lt
    simp at hf0 hf1
    go_wp2
    refine bodyPost_ret (v := .agg #[.bool false, .slice A1 (trimLen l) c1]) (by simp [results, Tryz.results92, go_sem, hf0, hf1]) rfl ⟨_, rfl, ⟨A1, trimLen l, c1, ?_, ?_⟩, ?_⟩
    · show _ = Value.agg #[.bool (ngb (val l : Int)), _]
      rw [show ngb (val l : Int) = false from by unfold ngb; simp]
    · have hw2 := hw1.only hblk1 rfl (((Only.refl w.heap.size w1).setCell (p := ⟨w.heap.size, 0, none⟩) rfl (.bool false)).setCell (p := ⟨w.heap.size, 1, none⟩) rfl (.slice A1 (trimLen l) c1))
      exact ⟨A1, c1, trim l, by rw [HTR.out], by rw [HTR.out]; exact hc1, hc1', hw2, hcn, by rw [val_trim]; simp⟩
    · exact (hb1'.setCell (p := ⟨w.heap.size, 0, none⟩) (Nat.le_refl _) _).setCell (p := ⟨w.heap.size, 1, none⟩) (Nat.le_refl _) _
  · go_wp2_with fail
    refine HCL.out.mono ?_
    rintro e w1 ⟨A1, c1, rfl, hw1, hc1, hc1', hb1⟩
    have hb1' := hbl.trans (hb1.mono hbl.size)
    have hblk1 := hblk.below hb1 hblk.lt
    have hf0 := hblk1.cell 0
    have hf1 := hblk1.cell 1
    have hg0 := hblk1.frozen 0
    have hg1 := hblk1.frozen 1
    have hz : w.heap.size < w1.heap.size := hblk1.lt
    simp at hf0 hf1
    go_wp2
    refine bodyPost_ret (v := .agg #[.bool (decide (0 < trimLen l)), .slice A1 (trimLen l) c1]) (by simp [results, Tryz.results92, go_sem, hf0, hf1]) rfl ⟨_, rfl, ⟨A1, trimLen l, c1, ?_, ?_⟩, ?_⟩
    · have : decide (0 < trimLen l) = ngb (-(val l : Int)) := by
        unfold ngb; rw [decide_eq_decide]; omega
      rw [this]
    · have hw2 := hw1.only hblk1 rfl (((Only.refl w.heap.size w1).setCell (p := ⟨w.heap.size, 0, none⟩) rfl (.bool (decide (0 < trimLen l)))).setCell (p := ⟨w.heap.size, 1, none⟩) rfl (.slice A1 (trimLen l) c1))
      exact ⟨A1, c1, trim l, by rw [HTR.out], by rw [HTR.out]; exact hc1, hc1', hw2, hcn, by rw [val_trim]; simp⟩
    · exact (hb1'.setCell (p := ⟨w.heap.size, 0, none⟩) (Nat.le_refl _) _).setCell (p := ⟨w.heap.size, 1, none⟩) (Nat.le_refl _) _

end Go.Proofs.YtmkhfgggleplfaaGreat
