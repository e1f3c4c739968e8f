/-
  The contracts of the functions on words, told of the numbers. Conditions: fewer than 2^39 words.
-/
import Derived.Test.YtmkhfgggleplfaaGreatIntA
import Derived.Test.YtmkhfgggleplfaaGreatDivW
import Derived.Test.YtmkhfgggleplfaaGreatNatD
namespace Go.Proofs.YtmkhfgggleplfaaGreat
set_option linter.unusedSimpArgs false
set_option linter.unusedVariables false
open Go.RowKit

theorem NatV.len {w : World} {v : Value} {n k : Nat} (h : NatV w v n) (hk : n < pw k) : ∃ A m c l, v = .slice A m c ∧ l.length = m ∧ m ≤ k ∧ m ≤ c ∧ c ≤ 9223372036854775807 ∧ WordsAt w A l ∧ Canon l ∧ val l = n := by
  obtain ⟨A, c, l, rfl, h1, h2, h3, h4, h5⟩ := h
  exact ⟨A, l.length, c, l, rfl, rfl, h4.len_le (by rw [h5]; exact hk), h1, h2, h3, h4, h5⟩
theorem nat_add {w : World} {a b : Value} {x y k : Nat} (ha : NatV w a x) (hb : NatV w b y) (hx : x < pw k) (hy : y < pw k) (hk : k ≤ 549755813888) :
    Calls Tryz.prog 115 #[a, b] w fun e w' => ∃ r, e = .returned r ∧ NatV w' r (x + y) ∧ Below w.heap.size w w' := by
  obtain ⟨A, m, c, l, rfl, rfl, h1, h2, h3, h4, h5, rfl⟩ := ha.len hx
  obtain ⟨A', m', c', l', rfl, rfl, g1, g2, g3, g4, g5, rfl⟩ := hb.len hy
  exact add_any A A' c c' l l' w h4 g4 h5.1 g5.1 (by omega) (by omega)
theorem nat_sub {w : World} {a b : Value} {x y k : Nat} (ha : NatV w a x) (hb : NatV w b y) (hx : x < pw k) (hk : k ≤ 549755813888) (hle : y ≤ x) :
    Calls Tryz.prog 116 #[a, b] w fun e w' => ∃ r, e = .returned r ∧ NatV w' r (x - y) ∧ Below w.heap.size w w' := by
  obtain ⟨A, m, c, l, rfl, rfl, h1, h2, h3, h4, h5, rfl⟩ := ha.len hx
  obtain ⟨A', m', c', l', rfl, rfl, g1, g2, g3, g4, g5, rfl⟩ := hb.len (k := l.length) (Nat.lt_of_le_of_lt hle h5.1.val_lt)
  exact sub_any A A' _ _ c c' l l' w h4 g4 rfl rfl h5.1 g5.1 (by omega) g1 hle
theorem nat_mul {w : World} {a b : Value} {x y j k : Nat} (ha : NatV w a x) (hb : NatV w b y) (hx : x < pw j) (hy : y < pw k) (hj : j ≤ 549755813888) (hk : k ≤ 549755813888) :
    Calls Tryz.prog 113 #[a, b] w fun e w' => ∃ r, e = .returned r ∧ NatV w' r (x * y) ∧ Below w.heap.size w w' := by
  obtain ⟨A, m, c, l, rfl, rfl, h1, h2, h3, h4, h5, rfl⟩ := ha.len hx
  obtain ⟨A', m', c', l', rfl, rfl, g1, g2, g3, g4, g5, rfl⟩ := hb.len hy
  exact mul_any A A' _ _ c c' l l' w h4 g4 rfl rfl h5.1 g5.1 (by omega) (by omega)
theorem nat_div {w : World} {a b : Value} {x y j k : Nat} (ha : NatV w a x) (hb : NatV w b y) (hx : x < pw j) (hy : y < pw k) (hj : j ≤ 549755813888) (hk : k ≤ 549755813888) (hy0 : y ≠ 0) :
    Calls Tryz.prog 114 #[a, b] w fun e w' => ∃ q r, e = .returned (.tuple #[q, r]) ∧ NatV w' q (x / y) ∧ NatV w' r (x % y) ∧ Below w.heap.size w w' := by
  obtain ⟨A, m, c, l, rfl, rfl, h1, h2, h3, h4, h5, rfl⟩ := ha.len hx
  obtain ⟨A', m', c', l', rfl, rfl, g1, g2, g3, g4, g5, rfl⟩ := hb.len hy
  exact div_any A A' _ _ c c' l l' w h4 g4 rfl rfl h5 g5 h2 h3 (by omega) (by omega) (by rw [Ne, ← g5.zero_iff]; exact hy0)
theorem nat_cmp {w : World} {a b : Value} {x y j k : Nat} (ha : NatV w a x) (hb : NatV w b y) (hx : x < pw j) (hy : y < pw k) (hj : j ≤ 549755813888) (hk : k ≤ 549755813888) :
    Calls Tryz.prog 117 #[a, b] w fun e w' => e = .returned (.int .i64 (cmpI x y)) ∧ Same w w' := by
  obtain ⟨A, m, c, l, rfl, rfl, h1, h2, h3, h4, h5, rfl⟩ := ha.len hx
  obtain ⟨A', m', c', l', rfl, rfl, g1, g2, g3, g4, g5, rfl⟩ := hb.len hy
  exact natcmp_any A A' _ _ c c' l l' w h4 g4 rfl rfl h5 g5 (by omega) (by omega)
theorem nat_signed {w : World} {a : Value} {x k : Nat} (neg : Bool) (ha : NatV w a x) (hx : x < pw k) (hk : k ≤ 1099511627776) :
    Calls Tryz.prog 92 #[a, .bool neg] w fun e w' => ∃ r, e = .returned r ∧ IntV w' r (if neg = true then -(x : Int) else (x : Int)) ∧ Below w.heap.size w w' := by
  obtain ⟨A, m, c, l, rfl, rfl, h1, h2, h3, h4, h5, rfl⟩ := ha.len hx
  exact signed_any A _ c l neg w h4 rfl h2 h3 h5.1 (by omega)

theorem nat_signedZ {w : World} {a : Value} {x k : Nat} {z : Int} (neg : Bool) (ha : NatV w a x) (hx : x < pw k) (hk : k ≤ 1099511627776) (hz : (if neg = true then -(x : Int) else (x : Int)) = z) :
    Calls Tryz.prog 92 #[a, .bool neg] w fun e w' => ∃ r, e = .returned r ∧ IntV w' r z ∧ Below w.heap.size w w' := by
  rw [← hz]; exact nat_signed neg ha hx hk

theorem _root_.Go.RowKit.Below.undrew {a w : World} (h : Below a.drew.heap.size a.drew w) : Below a.heap.size a w := ⟨h.os, h.tape, h.output, h.size, h.block⟩
theorem bcell {W w1 : World} (hb : Below W.heap.size W w1) : (∀ b o, b < W.heap.size → w1.cell? ⟨b, o, none⟩ = W.cell? ⟨b, o, none⟩) ∧ (∀ b o, b < W.heap.size → w1.frozen? ⟨b, o, none⟩ = W.frozen? ⟨b, o, none⟩) :=
  ⟨fun b o h => hb.cell (p := ⟨b, o, none⟩) h, fun b o h => hb.frozen (p := ⟨b, o, none⟩) h⟩

/-- what a store into a box of two cells wants -/
theorem Blk.two {w : World} {g : Nat} {t : TypeId} {a b : Value} (h : Blk w g t #[a, b]) : w.cell? ⟨g, 0, none⟩ = some a ∧ w.cell? ⟨g, 1, none⟩ = some b ∧ w.frozen? ⟨g, 0, none⟩ = false ∧ w.frozen? ⟨g, 1, none⟩ = false ∧ g < w.heap.size :=
  ⟨h.cell 0, h.cell 1, h.frozen 0, h.frozen 1, h.lt⟩
theorem Blk.four {w : World} {g : Nat} {t : TypeId} {a b c d : Value} (h : Blk w g t #[a, b, c, d]) : (w.cell? ⟨g, 0, none⟩ = some a ∧ w.cell? ⟨g, 1, none⟩ = some b ∧ w.cell? ⟨g, 2, none⟩ = some c ∧ w.cell? ⟨g, 3, none⟩ = some d) ∧
    (w.frozen? ⟨g, 0, none⟩ = false ∧ w.frozen? ⟨g, 1, none⟩ = false ∧ w.frozen? ⟨g, 2, none⟩ = false ∧ w.frozen? ⟨g, 3, none⟩ = false) ∧ g < w.heap.size :=
  ⟨⟨h.cell 0, h.cell 1, h.cell 2, h.cell 3⟩, ⟨h.frozen 0, h.frozen 1, h.frozen 2, h.frozen 3⟩, h.lt⟩

/-- an integer stored into a result's box -/
theorem int_box {w w2 : World} {g n c : Nat} {t : TypeId} {z : Int} {A : Option Addr} {a b : Value} (hn : NatV w2 (.slice A n c) z.natAbs) (hB : Blk w2 g t #[a, b]) (hab : noU32 #[a, b] = true) (hbl : Below w.heap.size w w2) (hg : w.heap.size ≤ g) :
    IntV ((w2.setCell ⟨g, 0, none⟩ (.bool (ngb z))).setCell ⟨g, 1, none⟩ (.slice A n c)) (.agg #[.bool (ngb z), .slice A n c]) z ∧
      Below w.heap.size w ((w2.setCell ⟨g, 0, none⟩ (.bool (ngb z))).setCell ⟨g, 1, none⟩ (.slice A n c)) :=
  ⟨⟨A, n, c, rfl, hn.only hB hab (((Only.refl g w2).setCell (p := ⟨g, 0, none⟩) rfl _).setCell (p := ⟨g, 1, none⟩) rfl _)⟩, (hbl.setCell (p := ⟨g, 0, none⟩) hg _).setCell (p := ⟨g, 1, none⟩) hg _⟩

/-- an integer with few words -/
def Bd (k : Nat) (z : Int) : Prop := z.natAbs < pw k
theorem Bd.mono {j k : Nat} {z : Int} (h : Bd j z) (hjk : j ≤ k) : Bd k z := Nat.lt_of_lt_of_le h (pw_mono hjk)
theorem Bd.mul {j k : Nat} {x y : Int} (hx : Bd j x) (hy : Bd k y) : Bd (j + k) (x * y) := by
  unfold Bd at *
  rw [Int.natAbs_mul, pw_add]
  exact Nat.mul_lt_mul'' hx hy
theorem Bd.neg {k : Nat} {x : Int} (hx : Bd k x) : Bd k (-x) := by unfold Bd at *; rwa [Int.natAbs_neg]
theorem Bd.add {k : Nat} {x y : Int} (hx : Bd k x) (hy : Bd k y) : Bd (k + 1) (x + y) := by
  unfold Bd at *
  simp only [pw]
  omega
theorem Bd.sub {k : Nat} {x y : Int} (hx : Bd k x) (hy : Bd k y) : Bd (k + 1) (x - y) := by
  unfold Bd at *
  simp only [pw]
  omega
theorem Bd.of_abs {k : Nat} {x y : Int} (hx : Bd k x) (h : y.natAbs ≤ x.natAbs) : Bd k y := Nat.lt_of_le_of_lt h hx

end Go.Proofs.YtmkhfgggleplfaaGreat
