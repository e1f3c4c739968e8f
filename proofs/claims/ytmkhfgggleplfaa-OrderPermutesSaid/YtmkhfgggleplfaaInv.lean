/-
  A region whose order is open, by one relation that each of its operations keeps.
-/
import Derived.Test.YtmkhfgggleplfaaLawH
import Derived.RegionTactic
namespace Go.Proofs.Ytmkhfgggleplfaa
set_option linter.unusedSimpArgs false
set_option linter.unusedVariables false
open Go.RowKit

section
variable {P : Program} {ops : Array Oper} {Q : Exit → Act → World → Prop} {md : Region.Mode} {S : World → Prop}
def left_ (listed : Array Bool) : Nat := listed.toList.countP (fun b => !b)
theorem left_set {listed : Array Bool} {i : Nat} (hi : listed.getD i true = false) : left_ (listed.setIfInBounds i true) + 1 = left_ listed := by
  have hlt : i < listed.size := by
    rcases Nat.lt_or_ge i listed.size with h | h
    · exact h
    · simp [Array.getElem?_eq_none h] at hi
  have hv : listed[i] = false := by simpa [Array.getElem?_eq_getElem hlt] using hi
  unfold left_
  have e : listed.toList = listed.toList.take i ++ false :: listed.toList.drop (i + 1) := by
    rw [← hv, ← Array.getElem_toList hlt, ← List.drop_eq_getElem_cons (by simpa using hlt), List.take_append_drop]
  rw [Array.toList_setIfInBounds, List.set_eq_take_append_cons_drop, if_pos (by simpa using hlt)]
  conv => rhs; rw [e]
  simp
  omega
theorem wpAnyH_inv {J : Array Bool → Act → World → Prop}
    (hstep : ∀ listed a w i, J listed a w → i ∈ Region.ready md ops listed → wpOp P ops Q i (fun a' w' => S w' ∧ J (listed.setIfInBounds i true) a' w') a w)
    (hend : ∀ listed a w, J listed a w → Region.ready md ops listed = [] → Q .normal a w) :
    ∀ fuel listed a w, J listed a w → left_ listed ≤ fuel → wpAnyH P md ops Q S fuel listed a w
  | 0, listed, a, w, hJ, hl => by
    have h0 : Region.ready md ops listed = [] := by
      apply List.eq_nil_iff_forall_not_mem.2
      intro j hj
      have := left_set (mem_ready.1 hj).1
      omega
    exact ⟨h0, hend listed a w hJ h0⟩
  | fuel + 1, listed, a, w, hJ, hl => ⟨hend listed a w hJ, fun i hi =>
      wpOp_mono (fun a' w' ⟨hS, h⟩ => ⟨hS, wpAnyH_inv hstep hend fuel _ a' w' h (by have := left_set (mem_ready.1 hi).1; omega)⟩) (hstep listed a w i hJ hi)⟩
theorem wpAnyH_inv' {R : Act → Array Bool → Act → World → Prop} {fuel : Nat} {listed : Array Bool} {a0 : Act} {w : World}
    (hstep : ∀ l a w i, R a0 l a w → i ∈ Region.ready md ops l → wpOp P ops Q i (fun a' w' => S w' ∧ R a0 (l.setIfInBounds i true) a' w') a w)
    (hend : ∀ l a w, R a0 l a w → Region.ready md ops l = [] → Q .normal a w) (h0 : R a0 listed a0 w) (hl : left_ listed ≤ fuel) : wpAnyH P md ops Q S fuel listed a0 w :=
  wpAnyH_inv (J := R a0) hstep hend fuel listed a0 w h0 hl
/-- what an operation waits for has come up -/
theorem ready_on {j k : Nat} {o : Oper} {e : Edge} {listed : Array Bool} (h : j ∈ Region.ready md ops listed) (ho : ops[j]? = some o) (he : e ∈ o.after) (hb : Region.binds md e = true) (hk : e.on = k) : listed.getD k false = true := by
  obtain ⟨_, o', ho', hall⟩ := mem_ready.1 h
  rw [ho] at ho'
  injection ho' with ho'
  subst ho' hk
  exact hall e he hb
end

/-- a monomial is stored -/
theorem Blk.put8 {w : World} {g : Nat} {t : TypeId} {y : Nat → Int} (x : Nat → Int) (h : Blk w g t (vec8 y)) : Blk ((((((((w.setCell ⟨g, 0, none⟩ (.int .i64 (x 0))).setCell ⟨g, 1, none⟩ (.int .i64 (x 1))).setCell ⟨g, 2, none⟩ (.int .i64 (x 2))).setCell ⟨g, 3, none⟩ (.int .i64 (x 3))).setCell ⟨g, 4, none⟩ (.int .i64 (x 4))).setCell ⟨g, 5, none⟩ (.int .i64 (x 5))).setCell ⟨g, 6, none⟩ (.int .i64 (x 6))).setCell ⟨g, 7, none⟩ (.int .i64 (x 7))) g t (vec8 x) := by
  have h8 := (((((((h.set8 (k := 0) (by omega) (x 0)).set8 (k := 1) (by omega) (x 1)).set8 (k := 2) (by omega) (x 2)).set8 (k := 3) (by omega) (x 3)).set8 (k := 4) (by omega) (x 4)).set8 (k := 5) (by omega) (x 5)).set8 (k := 6) (by omega) (x 6)).set8 (k := 7) (by omega) (x 7)
  rwa [vec8_congr (h := x)] at h8
  intro j hj
  rcases Go.Proofs.Ytmkhfgggleplfaa.eight hj with e | e | e | e | e | e | e | e <;> subst e <;> rfl
theorem Blk.far8 {w : World} {g g' : Nat} {t : TypeId} {cs : Array Value} (x : Nat → Int) (h : Blk w g' t cs) (hne : g' ≠ g) : Blk ((((((((w.setCell ⟨g, 0, none⟩ (.int .i64 (x 0))).setCell ⟨g, 1, none⟩ (.int .i64 (x 1))).setCell ⟨g, 2, none⟩ (.int .i64 (x 2))).setCell ⟨g, 3, none⟩ (.int .i64 (x 3))).setCell ⟨g, 4, none⟩ (.int .i64 (x 4))).setCell ⟨g, 5, none⟩ (.int .i64 (x 5))).setCell ⟨g, 6, none⟩ (.int .i64 (x 6))).setCell ⟨g, 7, none⟩ (.int .i64 (x 7))) g' t cs :=
  (((((((h.far hne _).far hne _).far hne _).far hne _).far hne _).far hne _).far hne _).far hne _
theorem below_put8 {B : Nat} {a w : World} {g : Nat} (x : Nat → Int) (h : Below B a w) (hg : B ≤ g) : Below B a ((((((((w.setCell ⟨g, 0, none⟩ (.int .i64 (x 0))).setCell ⟨g, 1, none⟩ (.int .i64 (x 1))).setCell ⟨g, 2, none⟩ (.int .i64 (x 2))).setCell ⟨g, 3, none⟩ (.int .i64 (x 3))).setCell ⟨g, 4, none⟩ (.int .i64 (x 4))).setCell ⟨g, 5, none⟩ (.int .i64 (x 5))).setCell ⟨g, 6, none⟩ (.int .i64 (x 6))).setCell ⟨g, 7, none⟩ (.int .i64 (x 7))) :=
  (((((((h.setCell hg _).setCell hg _).setCell hg _).setCell hg _).setCell hg _).setCell hg _).setCell hg _).setCell hg _
def ptr (p : Nat) : Value := .pointer (some ⟨p, 0, none⟩)
theorem ptr_ne {p q : Nat} (h : p ≠ q) : ptr p ≠ ptr q := fun e => h (by injection e with e; injection e with e; injection e)

end Go.Proofs.Ytmkhfgggleplfaa
