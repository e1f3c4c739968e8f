/-
  Plain lemmas on numbers written in words of 32 bits, and on memory that holds them. No condition.
-/
import Derived.WalkKit
import Derived.WalkLawsBesides
import Derived.WalkSpells
import Derived.Lib.Hide
import Derived.Deep.Draws
namespace Go.Proofs.YtmkhfgggleplfaaGreat
set_option linter.unusedSimpArgs false
set_option linter.unusedVariables false
open Go.RowKit

/-! ### digits -/
def dg (l : List Nat) (k : Nat) : Nat := l.getD k 0
def pw : Nat → Nat
  | 0 => 1
  | k + 1 => 4294967296 * pw k
def vs (l : List Nat) : Nat → Nat
  | 0 => 0
  | i + 1 => vs l i + dg l i * pw i
def val (l : List Nat) : Nat := vs l l.length

theorem pw_pos : ∀ k, 0 < pw k
  | 0 => by simp [pw]
  | k + 1 => by have := pw_pos k; simp only [pw]; omega
theorem pw_add (a b : Nat) : pw (a + b) = pw a * pw b := by
  induction b with
  | zero => simp [pw]
  | succ b ih => rw [← Nat.add_assoc]; simp only [pw, ih]; rw [Nat.mul_left_comm]
theorem pw_mono {a b : Nat} (h : a ≤ b) : pw a ≤ pw b := by
  obtain ⟨c, rfl⟩ := Nat.exists_eq_add_of_le h
  rw [pw_add]; exact Nat.le_mul_of_pos_right _ (pw_pos c)
theorem pw_lt {a b : Nat} (h : pw a < pw b) : a < b := by
  rcases Nat.lt_or_ge a b with h1 | h1
  · exact h1
  · have := pw_mono h1; omega

theorem dg_ge {l : List Nat} {k : Nat} (h : l.length ≤ k) : dg l k = 0 := by simp [dg, List.getElem?_eq_none h]
theorem dg_lt {l : List Nat} {k : Nat} (h : k < l.length) : dg l k = l[k] := by simp [dg, List.getElem?_eq_getElem h]
theorem dg_set (l : List Nat) (i v j : Nat) : dg (l.set i v) j = if i = j ∧ i < l.length then v else dg l j := by
  simp only [dg, List.getD_eq_getElem?_getD, List.getElem?_set]
  by_cases h : i = j
  · subst h
    by_cases h2 : i < l.length <;> simp [h2]
  · simp [h]
theorem dg_set_self {l : List Nat} {i v : Nat} (h : i < l.length) : dg (l.set i v) i = v := by rw [dg_set, if_pos ⟨rfl, h⟩]
theorem dg_set_ne {l : List Nat} {i v j : Nat} (h : i ≠ j) : dg (l.set i v) j = dg l j := by rw [dg_set, if_neg (fun x => h x.1)]
theorem dg_replicate (n k : Nat) : dg (List.replicate n 0) k = 0 := by
  simp only [dg, List.getD_eq_getElem?_getD, List.getElem?_replicate]; split <;> rfl
theorem dg_take (l : List Nat) (n j : Nat) : dg (l.take n) j = if j < n then dg l j else 0 := by
  simp only [dg, List.getD_eq_getElem?_getD, List.getElem?_take]; split <;> rfl
theorem dg_cons_zero (d : Nat) (l : List Nat) : dg (d :: l) 0 = d := rfl
theorem dg_cons_succ (d : Nat) (l : List Nat) (k : Nat) : dg (d :: l) (k + 1) = dg l k := rfl
theorem dg_append_left {l m : List Nat} {k : Nat} (h : k < l.length) : dg (l ++ m) k = dg l k := by
  simp only [dg, List.getD_eq_getElem?_getD, List.getElem?_append_left h]
theorem ext_dg {l m : List Nat} (hl : l.length = m.length) (h : ∀ k, k < l.length → dg l k = dg m k) : l = m := by
  apply List.ext_getElem hl
  intro k h1 h2
  have := h k h1
  rwa [dg_lt h1, dg_lt h2] at this

theorem vs_congr {l m : List Nat} : ∀ {i : Nat}, (∀ j, j < i → dg l j = dg m j) → vs l i = vs m i
  | 0, _ => rfl
  | i + 1, h => by simp only [vs]; rw [vs_congr (i := i) (fun j hj => h j (by omega)), h i (by omega)]
theorem vs_set_ge {l : List Nat} {i v k : Nat} (h : k ≤ i) : vs (l.set i v) k = vs l k := vs_congr fun j hj => dg_set_ne (by omega)
theorem vs_zero {l : List Nat} : ∀ {i : Nat}, (∀ j, j < i → dg l j = 0) → vs l i = 0
  | 0, _ => rfl
  | i + 1, h => by simp only [vs]; rw [vs_zero (i := i) (fun j hj => h j (by omega)), h i (by omega)]; simp
theorem vs_ge {l : List Nat} {n : Nat} : ∀ {i : Nat}, (∀ j, n ≤ j → dg l j = 0) → n ≤ i → vs l i = vs l n
  | 0, _, h => by have : n = 0 := by omega
                  subst this; rfl
  | i + 1, h, hi => by
    by_cases hn : n = i + 1
    · rw [hn]
    · simp only [vs]; rw [h i (by omega), vs_ge (i := i) h (by omega)]; simp
theorem vs_len {l : List Nat} {i : Nat} (h : l.length ≤ i) : vs l i = val l := vs_ge (fun _ hj => dg_ge hj) h
theorem vs_lt {l : List Nat} : ∀ {i : Nat}, (∀ j, j < i → dg l j < 4294967296) → vs l i < pw i
  | 0, _ => by simp [vs, pw]
  | i + 1, h => by
    have h1 := vs_lt (i := i) (fun j hj => h j (by omega))
    have h2 := h i (by omega)
    simp only [vs, pw]
    have h3 : dg l i * pw i ≤ 4294967295 * pw i := Nat.mul_le_mul_right _ (by omega)
    omega
theorem vs_mono {l : List Nat} : ∀ {i j : Nat}, i ≤ j → vs l i ≤ vs l j
  | i, 0, h => by have : i = 0 := by omega
                  subst this; exact Nat.le_refl _
  | i, j + 1, h => by
    by_cases hi : i = j + 1
    · rw [hi]; exact Nat.le_refl _
    · have := vs_mono (l := l) (i := i) (j := j) (by omega); simp only [vs]; omega
theorem vs_split (l : List Nat) (k : Nat) : ∀ n, vs l (k + n) = vs l k + pw k * vs (l.drop k) n
  | 0 => by simp [vs]
  | n + 1 => by
    rw [← Nat.add_assoc]; simp only [vs]; rw [vs_split l k n, pw_add, Nat.mul_add]
    have : dg (l.drop k) n = dg l (k + n) := by simp [dg, List.getElem?_drop]
    rw [this, Nat.mul_left_comm (pw k), Nat.add_assoc]

/-- all words are words -/
def Ds (l : List Nat) : Prop := ∀ j, dg l j < 4294967296
theorem Ds.set {l : List Nat} (h : Ds l) {i v : Nat} (hv : v < 4294967296) : Ds (l.set i v) := fun j => by have := h j; rw [dg_set]; split <;> omega
theorem Ds.take {l : List Nat} (h : Ds l) (n : Nat) : Ds (l.take n) := fun j => by have := h j; rw [dg_take]; split <;> omega
theorem Ds.zeros (n : Nat) : Ds (List.replicate n 0) := fun j => by rw [dg_replicate]; omega
theorem Ds.nil : Ds [] := fun j => by simp [dg]
theorem Ds.val_lt {l : List Nat} (h : Ds l) : val l < pw l.length := vs_lt fun j _ => h j
theorem Ds.of_all {l : List Nat} (h : ∀ k, k < l.length → dg l k < 4294967296) : Ds l := fun j => by
  rcases Nat.lt_or_ge j l.length with h1 | h1
  · exact h j h1
  · rw [dg_ge h1]; omega

/-! ### the length without the words 0 at the end -/
def trimLen : List Nat → Nat
  | [] => 0
  | d :: l => match trimLen l with
    | 0 => if d = 0 then 0 else 1
    | n + 1 => n + 2
theorem trimLen_le : ∀ l, trimLen l ≤ l.length := by
  intro l; induction l with
  | nil => simp [trimLen]
  | cons d l ih => simp only [trimLen]; split <;> (try split) <;> simp <;> omega
theorem trimLen_zero : ∀ (l : List Nat) (j : Nat), trimLen l ≤ j → dg l j = 0 := by
  intro l
  induction l with
  | nil => intro j _; simp [dg]
  | cons d l ih =>
    intro j hj
    simp only [trimLen] at hj
    split at hj
    · rename_i h0
      cases j with
      | zero => by_cases hd : d = 0 <;> simp [hd] at hj ⊢; rfl
      | succ j => rw [dg_cons_succ]; exact ih j (by omega)
    · rename_i n h0
      cases j with
      | zero => omega
      | succ j => rw [dg_cons_succ]; exact ih j (by omega)
theorem trimLen_last : ∀ (l : List Nat), trimLen l ≠ 0 → dg l (trimLen l - 1) ≠ 0 := by
  intro l
  induction l with
  | nil => simp [trimLen]
  | cons d l ih =>
    simp only [trimLen]
    split
    · rename_i h0
      by_cases hd : d = 0
      · simp [hd]
      · intro _; simp only [hd, if_false, Nat.sub_self, dg_cons_zero]; exact hd
    · rename_i n h0
      intro _
      have := ih (by omega)
      rw [h0] at this
      rw [show n + 2 - 1 = (n + 1 - 1) + 1 from by omega, dg_cons_succ]; exact this
theorem trimLen_eq {l : List Nat} {k : Nat} (h1 : ∀ j, k ≤ j → dg l j = 0) (h2 : k ≠ 0 → dg l (k - 1) ≠ 0) : trimLen l = k := by
  rcases Nat.lt_trichotomy (trimLen l) k with h | h | h
  · exact absurd (trimLen_zero l (k - 1) (by omega)) (h2 (by omega))
  · exact h
  · exact absurd (h1 (trimLen l - 1) (by omega)) (trimLen_last l (by omega))

/-- words, the last one not 0 -/
def Canon (l : List Nat) : Prop := Ds l ∧ (l.length ≠ 0 → dg l (l.length - 1) ≠ 0)
def trim (l : List Nat) : List Nat := l.take (trimLen l)
theorem trim_length (l : List Nat) : (trim l).length = trimLen l := by simp [trim, trimLen_le, Nat.min_eq_left]
theorem dg_trim (l : List Nat) (j : Nat) : dg (trim l) j = dg l j := by
  rw [trim, dg_take]; split
  · rfl
  · rw [trimLen_zero l j (by omega)]
theorem val_trim (l : List Nat) : val (trim l) = val l := by
  rw [← vs_len (l := trim l) (i := l.length) (by rw [trim_length]; exact trimLen_le l), val]
  exact vs_congr fun j _ => dg_trim l j
theorem canon_trim {l : List Nat} (h : Ds l) : Canon (trim l) :=
  ⟨h.take _, fun h0 => by rw [trim_length] at h0 ⊢; rw [dg_trim]; exact trimLen_last l h0⟩
theorem Canon.trim_eq {l : List Nat} (h : Canon l) : trim l = l := by
  have : trimLen l = l.length := trimLen_eq (fun j hj => dg_ge hj) h.2
  rw [trim, this, List.take_length]
theorem canon_nil : Canon [] := ⟨Ds.nil, fun h => absurd rfl h⟩
theorem Canon.pw_le {l : List Nat} (h : Canon l) (h0 : l.length ≠ 0) : pw (l.length - 1) ≤ val l := by
  have h1 := h.2 h0
  have : val l = vs l (l.length - 1) + dg l (l.length - 1) * pw (l.length - 1) := by
    have e : l.length = (l.length - 1) + 1 := by omega
    unfold val; rw [e]; simp only [vs, Nat.add_sub_cancel]
  have h2 : 1 * pw (l.length - 1) ≤ dg l (l.length - 1) * pw (l.length - 1) := Nat.mul_le_mul_right _ (by omega)
  omega
theorem Canon.len_le {l : List Nat} (h : Canon l) {k : Nat} (hv : val l < pw k) : l.length ≤ k := by
  by_cases h0 : l.length = 0
  · omega
  · have := h.pw_le h0
    have h3 : pw (l.length - 1) < pw k := by omega
    have := pw_lt h3; omega
theorem Canon.zero_iff {l : List Nat} (h : Canon l) : val l = 0 ↔ l.length = 0 := by
  constructor
  · intro hv
    have := h.len_le (k := 0) (by simp [pw, hv]); omega
  · intro h0; rw [val, h0]; rfl
theorem vs_inj : ∀ {n : Nat} {l m : List Nat}, (∀ j, j < n → dg l j < 4294967296) → (∀ j, j < n → dg m j < 4294967296) → vs l n = vs m n → ∀ j, j < n → dg l j = dg m j
  | 0, _, _, _, _, _ => fun j hj => absurd hj (by omega)
  | n + 1, l, m, hl, hm, h => by
    simp only [vs] at h
    have h1 := vs_lt (l := l) (i := n) (fun j hj => hl j (by omega))
    have h2 := vs_lt (l := m) (i := n) (fun j hj => hm j (by omega))
    have h3 : dg l n = dg m n := by
      have e1 : (vs l n + dg l n * pw n) / pw n = dg l n := by rw [Nat.add_mul_div_right _ _ (pw_pos n), Nat.div_eq_of_lt h1, Nat.zero_add]
      have e2 : (vs m n + dg m n * pw n) / pw n = dg m n := by rw [Nat.add_mul_div_right _ _ (pw_pos n), Nat.div_eq_of_lt h2, Nat.zero_add]
      rw [← e1, ← e2, h]
    have h4 : vs l n = vs m n := by rw [h3] at h; omega
    intro j hj
    by_cases hjn : j = n
    · subst hjn; exact h3
    · exact vs_inj (fun j hj => hl j (by omega)) (fun j hj => hm j (by omega)) h4 j (by omega)
theorem Canon.inj {l m : List Nat} (hl : Canon l) (hm : Canon m) (h : val l = val m) : l = m := by
  have e : l.length = m.length := by
    have h1 := hl.len_le (k := m.length) (by rw [h]; exact hm.1.val_lt)
    have h2 := hm.len_le (k := l.length) (by rw [← h]; exact hl.1.val_lt)
    omega
  refine ext_dg e (vs_inj (fun j _ => hl.1 j) (fun j _ => hm.1 j) ?_)
  have := h; unfold val at this; rw [this, e]

/-! ### memory -/
/-- from address A on the words l are laid -/
def WordsAt (w : World) (A : Option Addr) (l : List Nat) : Prop :=
  0 < l.length → ∃ b off, A = some ⟨b, off, none⟩ ∧ b < w.heap.size ∧ ∀ j, j < l.length → w.cell? ⟨b, off + j, none⟩ = some (.int .u32 (dg l j : Int))
theorem WordsAt.below {w w' : World} {A : Option Addr} {l : List Nat} (h : WordsAt w A l) (hb : Below w.heap.size w w') : WordsAt w' A l := fun h0 => by
  obtain ⟨b, off, e, hlt, hc⟩ := h h0
  exact ⟨b, off, e, Nat.lt_of_lt_of_le hlt hb.size, fun j hj => (hb.cell (p := ⟨b, off + j, none⟩) hlt).trans (hc j hj)⟩
theorem WordsAt.take {w : World} {A : Option Addr} {l : List Nat} (h : WordsAt w A l) (n : Nat) : WordsAt w A (l.take n) := fun h0 => by
  have hl : (l.take n).length ≤ l.length := by rw [List.length_take]; omega
  have hn : (l.take n).length ≤ n := by rw [List.length_take]; omega
  obtain ⟨b, off, e, hlt, hc⟩ := h (by omega)
  refine ⟨b, off, e, hlt, fun j hj => ?_⟩
  rw [dg_take, if_pos (by omega)]; exact hc j (by omega)
theorem WordsAt.nil {w : World} {A : Option Addr} : WordsAt w A [] := fun h => absurd h (by simp)

/-- v is the absolute value n -/
def NatV (w : World) (v : Value) (n : Nat) : Prop :=
  ∃ A c l, v = .slice A l.length c ∧ l.length ≤ c ∧ c ≤ 9223372036854775807 ∧ WordsAt w A l ∧ Canon l ∧ val l = n
theorem NatV.below {w w' : World} {v : Value} {n : Nat} (h : NatV w v n) (hb : Below w.heap.size w w') : NatV w' v n := by
  obtain ⟨A, c, l, e, h1, h2, h3, h4⟩ := h
  exact ⟨A, c, l, e, h1, h2, h3.below hb, h4⟩

/-- block g is just these words -/
def Own (w : World) (t : TypeId) (g : Nat) (l : List Nat) : Prop := w.heap[g]? = some (.cells (l.map fun d : Nat => Value.int .u32 (d : Int)).toArray t (0, 0))
theorem Own.lt {w : World} {t : TypeId} {g : Nat} {l : List Nat} (h : Own w t g l) : g < w.heap.size := by
  rcases Nat.lt_or_ge g w.heap.size with hlt | hge
  · exact hlt
  · unfold Own at h; rw [Array.getElem?_eq_none hge] at h; cases h
theorem Own.cell {w : World} {t : TypeId} {g : Nat} {l : List Nat} (h : Own w t g l) {i : Nat} (hi : i < l.length) : w.cell? ⟨g, i, none⟩ = some (.int .u32 (dg l i : Int)) := by
  rw [cell_of_row w g i _ t (0, 0) h, dg_lt hi]; simp [List.getElem?_eq_getElem hi]
theorem Own.frozen {w : World} {t : TypeId} {g : Nat} {l : List Nat} (h : Own w t g l) (i : Nat) : w.frozen? ⟨g, i, none⟩ = false := by
  unfold Own at h
  simp [World.frozen?, h]
theorem Own.set {w : World} {t : TypeId} {g : Nat} {l : List Nat} (h : Own w t g l) (i v : Nat) : Own (w.setCell ⟨g, i, none⟩ (.int .u32 (v : Int))) t g (l.set i v) := by
  unfold Own at h ⊢
  simp [World.setCell, Array.getElem?_modify, h, List.map_set]
theorem Own.below {w w' : World} {t : TypeId} {B g : Nat} {l : List Nat} (h : Own w t g l) (hb : Below B w w') (hg : g < B) : Own w' t g l := (hb.block g hg).trans h
theorem Own.words {w : World} {t : TypeId} {g : Nat} {l : List Nat} (h : Own w t g l) : WordsAt w (some ⟨g, 0, none⟩) l := fun _ =>
  ⟨g, 0, rfl, h.lt, fun j hj => by rw [Nat.zero_add]; exact h.cell hj⟩
theorem Own.made (w : World) (t : TypeId) (n : Nat) : Own (w.alloc (.cells (madeCells (Value.int .u32 0).cells n) t)) t w.heap.size (List.replicate n 0) := by
  unfold Own
  rw [heap_alloc_new w _]
  congr 2
  apply Array.ext
  · simp [size_madeCells]
  · intro i h1 h2
    simp [madeCells, Value.cells, Nat.mod_one]

end Go.Proofs.YtmkhfgggleplfaaGreat
