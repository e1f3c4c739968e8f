/-
  Arguments opened: slices of rows of eight integers, arrays of integers, a struct of one slice. Conditions: none but the types.
  What the closing texts of the laws of orders share: the program's layout, the bounds of small integers.
-/
import Derived.WalkKit
import Derived.ProofKit
import Derived.OpenShut
import Derived.ShutString
import Derived.ChangeOld
import Derived.Below
import Derived.Carry
import Derived.Deep.Slices
import Derived.Lib.SmallJoins
import Derived.Test.YtmkhfgggleplfaaGreatBase
import Derived.Test.YtmkhfgggleplfaaGreatRows
namespace Go.Proofs.YtmkhfgggleplfaaGreat
set_option linter.unusedSimpArgs false
set_option linter.unusedVariables false
open Go.Joins Go.ChangeShapes Go.WideShapes Go.ChangeAt Go.RowKit Go.Deep

section
variable {H : Type} {enc : TypeId × Value → H} {P : Program} {w : World} {base : Nat} {spare : Nat → Bool} {held : Bool}

theorem okWide_array {r : Reach} {b0 : Nat} {t e : TypeId} {n : Nat} {v : Value} (ht : P.underlying t = some (.array n e)) (h : Value.okWide P w r b0 t v) : ∃ cs, v = .agg cs ∧ cs.size = P.cellsOf t := by
  simp only [Value.okWide, ht] at h
  obtain ⟨cs, h1, h2, _⟩ := h
  exact ⟨cs, h1, h2⟩

theorem choose2 {p : Nat → Nat → Int → Prop} {n m : Nat} (h : ∀ i, i < n → ∀ j, j < m → ∃ z, p i j z) : ∃ X : Nat → Nat → Int, ∀ i, i < n → ∀ j, j < m → p i j (X i j) := by
  have H : ∀ i j, ∃ z, i < n → j < m → p i j z := fun i j => by
    by_cases hi : i < n
    · by_cases hj : j < m
      · obtain ⟨z, hz⟩ := h i hi j hj; exact ⟨z, fun _ _ => hz⟩
      · exact ⟨0, fun _ h => absurd h hj⟩
    · exact ⟨0, fun h => absurd h hi⟩
  exact ⟨fun i j => Classical.choose (H i j), fun i hi j hj => Classical.choose_spec (H i j) hi hj⟩
theorem choose1 {p : Nat → Int → Prop} {n : Nat} (h : ∀ i, i < n → ∃ z, p i z) : ∃ X : Nat → Int, ∀ i, i < n → p i (X i) := by
  obtain ⟨X, hX⟩ := choose2 (p := fun i _ z => p i z) (n := n) (m := 1) (fun i hi _ _ => h i hi)
  exact ⟨fun i => X i 0, fun i hi => hX i hi 0 (by omega)⟩

theorem take_one {cs : List Value} {j : Nat} (h : j < cs.length) : (cs.drop (j * 1)).take 1 = [cs[j]] := by
  rw [Nat.mul_one, List.drop_eq_getElem_cons h]; rfl

/-- an array of integers, cell by cell -/
theorem trod_ints {k : IntKind} {n fuel : Nat} {t e : TypeId} {cs : List Value} {x : DataW H × List MemPlace} (ht : P.underlying t = some (.array n e)) (he : P.underlying e = some (.int k)) (hc1 : P.cellsOf e = 1) (hc : P.cellsOf t = n)
    (h : DataW.trod enc P w base spare held fuel t cs = some x) : cs.length = n ∧ ∀ j, j < n → ∃ z, cs[j]? = some (.int k z) ∧ (Lit.int k z).wf = true := by
  obtain ⟨xs, m, _, _, hl, hn, hel⟩ := DataW.trod_array ht h
  rw [hc] at hl
  refine ⟨hl, fun j hj => ?_⟩
  have h1 := hel j hj
  have hjl : j < cs.length := by omega
  rw [hc1, take_one hjl, List.getElem?_eq_getElem (by omega)] at h1
  obtain ⟨z, e1, _, hw⟩ := DataW.trod_int he h1
  injection e1 with e1
  exact ⟨z, by rw [List.getElem?_eq_getElem hjl, e1], hw⟩

/-- a slice of arrays of eight integers -/
theorem open_rows {k : IntKind} {t e8 e : TypeId} (ht : P.underlying t = some (.slice e8)) (h8 : P.underlying e8 = some (.array 8 e)) (he : P.underlying e = some (.int k)) (hc : P.cellsOf e8 = 8) (hc1 : P.cellsOf e = 1)
    {A : Option Addr} {n c fuel : Nat} {x : DataW H × List MemPlace} (h : DataW.trod enc P w base spare held fuel t [.slice A n c] = some x) :
    n ≤ c ∧ c ≤ 9223372036854775807 ∧ ∃ X : Nat → Nat → Int, (0 < n → ∃ b off, A = some ⟨b, off, none⟩ ∧ b < w.heap.size ∧ ∀ i, i < n → ∀ j, j < 8 → w.cell? ⟨b, off + i * 8 + j, none⟩ = some (.int k (X i j))) ∧
      ∀ i, i < n → ∀ j, j < 8 → (Lit.int k (X i j)).wf = true := by
  rcases open_slice ht h with ⟨e0, _⟩ | ⟨a, len, cap, m, n', D, Pl, e0, _, hl, hm, hmm, _, hel⟩
  · simp only [List.cons.injEq, Value.slice.injEq, and_true] at e0
    obtain ⟨rfl, rfl, rfl⟩ := e0
    exact ⟨Nat.le_refl _, by omega, fun _ _ => 0, fun h0 => absurd h0 (by omega), fun i hi => absurd hi (by omega)⟩
  · simp only [List.cons.injEq, Value.slice.injEq, and_true] at e0
    obtain ⟨rfl, rfl, rfl⟩ := e0
    unfold maxLen at hm
    obtain ⟨b, off, spot⟩ := a
    have hmn : n ≤ m := by rw [hmm]; split <;> omega
    have H1 : ∀ i, i < n → ∀ j, j < 8 → ∃ z, w.cell? ((⟨b, off, spot⟩ : Addr).add (i * 8 + j)) = some (.int k z) ∧ (Lit.int k z).wf = true := fun i hi j hj => by
      obtain ⟨cs', h1, h2⟩ := hel i (by omega)
      rw [hc] at h1
      obtain ⟨_, _, hat⟩ := World.cells?_some h1
      obtain ⟨_, hz⟩ := trod_ints h8 he hc1 hc h2
      obtain ⟨z, h3, h4⟩ := hz j hj
      exact ⟨z, by rw [← Go.Deep.add_add, hat j hj, h3], h4⟩
    obtain ⟨X, hX⟩ := choose2 H1
    refine ⟨hl, by omega, X, fun h0 => ?_, fun i hi j hj => (hX i hi j hj).2⟩
    have h00 := (hX 0 h0 0 (by omega)).1
    have hsp : spot = none := by
      cases spot with
      | none => rfl
      | some s => simpa [Addr.add] using World.cell?_spot h00
    subst hsp
    refine ⟨b, off, rfl, ?_, fun i hi j hj => ?_⟩
    · exact World.block_lt_of_cell? w _ h00
    · have := (hX i hi j hj).1
      have e : (⟨b, off, none⟩ : Addr).add (i * 8 + j) = ⟨b, off + i * 8 + j, none⟩ := by unfold Addr.add; split <;> simp_all [Nat.add_assoc]
      rw [← e]; exact this

/-- an array of integers by value: a function on its indexes -/
def ofInts (k : IntKind) (g : Nat → Int) (n : Nat) : Array Value := ((List.range n).map fun i => Value.int k (g i)).toArray
theorem open_ints_arr {k : IntKind} {n : Nat} {r : Reach} {b0 : Nat} {t e : TypeId} {v : Value} {d : DataW H} {p : List MemPlace} (ht : P.underlying t = some (.array n e)) (he : P.underlying e = some (.int k)) (hc1 : P.cellsOf e = 1) (hc : P.cellsOf t = n)
    (hv : Value.okWide P w r b0 t v) (h : DataW.Trod enc P w base spare held t v d p) : ∃ g : Nat → Int, v = .agg (ofInts k g n) ∧ ∀ i, i < n → (Lit.int k (g i)).wf = true := by
  obtain ⟨cs, rfl, hsz⟩ := okWide_array ht hv
  obtain ⟨fuel, hf⟩ := h
  obtain ⟨hl, hz⟩ := trod_ints ht he hc1 hc hf
  obtain ⟨g, hg⟩ := choose1 hz
  refine ⟨g, ?_, fun i hi => (hg i hi).2⟩
  congr 1
  apply Array.ext'
  unfold ofInts
  apply List.ext_getElem?
  intro i
  by_cases hi : i < n
  · have := (hg i hi).1
    simp only [Value.cells] at this
    rw [this]; simp [hi]
  · rw [List.getElem?_eq_none (by simp only [Value.cells] at hl; omega), List.getElem?_eq_none (by simp; omega)]
/-- an array of arrays of eight integers by value -/
def ofRows (k : IntKind) (g : Nat → Nat → Int) (n : Nat) : Array Value := ((List.range n).flatMap fun i => (List.range 8).map fun j => Value.int k (g i j)).toArray
theorem rows_get {k : IntKind} {g : Nat → Nat → Int} : ∀ {n i j : Nat}, i < n → j < 8 → ((List.range n).flatMap fun i => (List.range 8).map fun j => Value.int k (g i j))[i * 8 + j]? = some (.int k (g i j))
  | 0, i, j, hi, _ => absurd hi (by omega)
  | n + 1, i, j, hi, hj => by
    have hl : ∀ m, ((List.range m).flatMap fun i => (List.range 8).map fun j => Value.int k (g i j)).length = m * 8 := fun m => by
      induction m with
      | zero => rfl
      | succ m ih => rw [List.range_succ (n := m), List.flatMap_append, List.length_append, ih]; simp; omega
    rw [List.range_succ (n := n), List.flatMap_append]
    by_cases h : i < n
    · rw [List.getElem?_append_left (by rw [hl]; omega)]; exact rows_get h hj
    · obtain rfl : i = n := by omega
      rw [List.getElem?_append_right (by rw [hl]; omega), hl, show i * 8 + j - i * 8 = j from by omega]
      simp [hj]
theorem rows_length {k : IntKind} {g : Nat → Nat → Int} (n : Nat) : ((List.range n).flatMap fun i => (List.range 8).map fun j => Value.int k (g i j)).length = n * 8 := by
  induction n with
  | zero => rfl
  | succ m ih => rw [List.range_succ (n := m), List.flatMap_append, List.length_append, ih]; simp; omega
theorem open_rows_arr {k : IntKind} {n : Nat} {r : Reach} {b0 : Nat} {t e8 e : TypeId} {v : Value} {d : DataW H} {p : List MemPlace} (ht : P.underlying t = some (.array n e8)) (h8 : P.underlying e8 = some (.array 8 e)) (he : P.underlying e = some (.int k))
    (hc8 : P.cellsOf e8 = 8) (hc1 : P.cellsOf e = 1) (hc : P.cellsOf t = n * 8)
    (hv : Value.okWide P w r b0 t v) (h : DataW.Trod enc P w base spare held t v d p) : ∃ g : Nat → Nat → Int, v = .agg (ofRows k g n) ∧ ∀ i, i < n → ∀ j, j < 8 → (Lit.int k (g i j)).wf = true := by
  obtain ⟨cs, rfl, hsz⟩ := okWide_array ht hv
  obtain ⟨fuel, hf⟩ := h
  obtain ⟨xs, m, _, _, hl, hn, hel⟩ := DataW.trod_array ht hf
  simp only [Value.cells] at hl hel
  rw [hc] at hl
  have H1 : ∀ i, i < n → ∀ j, j < 8 → ∃ z, cs.toList[i * 8 + j]? = some (.int k z) ∧ (Lit.int k z).wf = true := fun i hi j hj => by
    have h1 := hel i hi
    rw [hc8, List.getElem?_eq_getElem (by omega)] at h1
    obtain ⟨_, hz⟩ := trod_ints h8 he hc1 hc8 h1
    obtain ⟨z, h3, h4⟩ := hz j hj
    rw [List.getElem?_take_of_lt hj, List.getElem?_drop] at h3
    exact ⟨z, h3, h4⟩
  obtain ⟨g, hg⟩ := choose2 H1
  refine ⟨g, ?_, fun i hi j hj => (hg i hi j hj).2⟩
  congr 1
  apply Array.ext'
  apply List.ext_getElem?
  intro q
  show cs.toList[q]? = ((List.range n).flatMap fun i => (List.range 8).map fun j => Value.int k (g i j))[q]?
  by_cases hq : q < n * 8
  · have h1 := (hg (q / 8) (by omega) (q % 8) (by omega)).1
    have h2 := rows_get (k := k) (g := g) (n := n) (i := q / 8) (j := q % 8) (by omega) (by omega)
    rw [show q / 8 * 8 + q % 8 = q from by omega] at h1 h2
    rw [h1, h2]
  · rw [List.getElem?_eq_none (by omega), List.getElem?_eq_none (by rw [rows_length]; omega)]

/-- a struct of one field of one cell -/
theorem open_agg1 {r : Reach} {b0 : Nat} {t : TypeId} {f0 : Field} {v : Value} {d : DataW H} {p : List MemPlace} (hs : P.underlying t = some (.struct #[f0])) (hone : oneCellFields P #[f0] = true) (hC : P.cellsOf t = 1)
    (hv : Value.okWide P w r b0 t v) (h : DataW.Trod enc P w base spare held t v d p) : ∃ (v0 : Value) (y0 : DataW H × List MemPlace) (n : Nat), v = .agg #[v0] ∧ DataW.trod enc P w base spare held n f0.type [v0] = some y0 := by
  obtain ⟨cs, rfl, hsz⟩ := okWide_struct hs hv
  obtain ⟨l⟩ := cs
  match l, hsz.trans hC with
  | [c0], _ =>
    obtain ⟨fuel, hf⟩ := h
    obtain ⟨xs, n, _, hx, _, hlen, hg⟩ := DataW.trod_struct hs hf
    obtain ⟨o0, k0⟩ := hone_of hone 0 f0 rfl
    match xs, hlen with
    | [y0], _ => exact ⟨c0, y0, n, rfl, by simpa [Value.cells, o0, k0] using hg 0 f0 rfl⟩
theorem trod_slice_form {t e : TypeId} {fuel : Nat} {v : Value} {x : DataW H × List MemPlace} (ht : P.underlying t = some (.slice e)) (h : DataW.trod enc P w base spare held fuel t [v] = some x) : ∃ A n c, v = .slice A n c := by
  rcases open_slice ht h with ⟨e0, _⟩ | ⟨a, len, cap, m, n', D, Pl, e0, _⟩
  · injection e0 with e0; exact ⟨_, _, _, e0⟩
  · injection e0 with e0; exact ⟨_, _, _, e0⟩
end

end Go.Proofs.YtmkhfgggleplfaaGreat
namespace Go.Proofs.YtmkhfgggleplfaaGreat
open Go.Joins Go.ChangeShapes Go.WideShapes Go.ChangeAt Go.RowKit Go.Deep

theorem own : ownKnob Tryz.prog.godebug = none := by kernel_rfl
theorem laidOut : laidOutB Tryz.prog = true := by kernel_rfl
theorem i8_bounds {n : Int} (h : (Lit.int .i8 n).wf = true) : -128 ≤ n ∧ n ≤ 127 := bounds_i8 h
theorem u8_bounds {n : Int} (h : (Lit.int .u8 n).wf = true) : 0 ≤ n ∧ n ≤ 255 := bounds_u8 h
theorem u16_bounds {n : Int} (h : (Lit.int .u16 n).wf = true) : 0 ≤ n ∧ n ≤ 65535 := by
  simp [Lit.wf, IntKind.min, IntKind.max, IntKind.signed, IntKind.bits] at h
  omega

end Go.Proofs.YtmkhfgggleplfaaGreat
