/-
  Rows that a call builds, with a property of all cells of their block, spare ones too.
-/
import Derived.Test.YtmkhfgggleplfaaGreatRatB
namespace Go.Proofs.YtmkhfgggleplfaaGreat
set_option linter.unusedSimpArgs false
set_option linter.unusedVariables false
open Go.RowKit

/-- all cells of the block that a slice lies in have the property -/
def Every (φ : Value → Bool) (w : World) (v : Value) : Prop := ∀ g, v.ownBlock = some g → ∀ cs e, w.heap[g]? = some (.cells cs e (0, 0)) → ∀ u ∈ cs.toList, φ u = true

section
variable {P : Program} (w : World) {φ : Value → Bool}
theorem Every.nil (w : World) : Every φ w (.slice none 0 0) := fun g h => by simp [Value.ownBlock] at h
theorem Every.block {v : Value} {w w' : World} (h : Every φ w v) (hb : ∀ g, v.ownBlock = some g → w'.heap[g]? = w.heap[g]?) : Every φ w' v := fun g hg cs e hc => h g hg cs e (by rw [← hb g hg]; exact hc)
theorem zeroCells_all {z : Array Value} (hz : ∀ u ∈ z.toList, φ u = true) (n : Nat) : ∀ u ∈ (Builtin.zeroCells z n).toList, φ u = true := by
  intro u hu
  rw [Builtin.zeroCells, Array.toList_map, List.mem_map] at hu
  obtain ⟨i, hi, rfl⟩ := hu
  have hlt : i < n * z.size := by simpa using hi
  have hz0 : 0 < z.size := by
    rcases Nat.eq_zero_or_pos z.size with h | h
    · rw [h] at hlt; omega
    · exact h
  have hm := Nat.mod_lt i hz0
  refine hz _ ?_
  rw [getElem!_pos z (i % z.size) hm]
  simp

theorem append_every (base : Nat) (t ty e : TypeId) (i : TypeInfo) (z : Value) (size bytes : Nat) (ht : P.underlying t = some (.slice e)) (hi : P.info? e = some i) (hz : i.zero = some z)
    (hsize : i.size = size) (hby : i.bytes = bytes) (hzs : z.cells.size = size) (hsz : 0 < size)
    (v : Value) (n : Nat) (xs : List Value) (hown : w.ownsRow base e size v n xs)
    (a : Addr) (m c : Nat) (news : List Value) (hl : news.length = m * size) (hnews : ∀ j u, news[j]? = some u → w.cell? (a.add j) = some u) (h1 : ∀ u ∈ news, u.oneCell' = true)
    (h63 : n + m ≤ maxLen) (hbytes : (n + m) * bytes ≤ 140737488355328)
    (he : Every φ w v) (hn : ∀ u ∈ news, φ u = true) (hzz : ∀ u ∈ z.cells.toList, φ u = true)
    {v' : Value} {w' : World} (hrun : (Builtin.append_ #[t, t] ty #[v, .slice (some a) m c]).run P w = .ok v' w') : Every φ w' v' := by
  subst hsize
  subst hby
  have hsmall : n + m ≤ 9223372036854775807 := by simp only [maxLen] at h63; omega
  have grown : ∀ k : Nat, (∀ u ∈ xs, φ u = true) → Every φ (w.drew.alloc (.cells (xs.toArray ++ news.toArray ++ Builtin.zeroCells z.cells k) e)) (.slice (some ⟨w.heap.size, 0, none⟩) (n + m) (grownCap w (n + m) 0 e)) := by
    intro k hx g hg cs e' hc u hu
    simp [Value.ownBlock] at hg
    subst hg
    rw [show w.heap.size = w.drew.heap.size from rfl, heap_alloc_new w.drew _] at hc
    injection hc with hc
    injection hc with h2
    subst h2
    simp only [Array.toList_append, List.mem_append] at hu
    rcases hu with (hu | hu) | hu
    · exact hx u hu
    · exact hn u hu
    · exact zeroCells_all hzz k u hu
  rcases hown.2 with ⟨rfl, rfl⟩ | ⟨g, cap, cur, rfl, hbg, hg, hnc, hcm, hcs, htake⟩
  · have hx : xs = [] := List.eq_nil_of_length_eq_zero (by simpa using hown.1)
    subst hx
    by_cases hm : m = 0
    · subst hm
      have hn0 : news = [] := List.eq_nil_of_length_eq_zero (by simpa using hl)
      subst hn0
      have hr : (Builtin.append_ #[t, t] ty #[.slice none 0 0, .slice (some a) 0 c]).run P w = .ok (.slice none 0 0) w := by
        simp [Builtin.append_, run_underlying ht, sizeOf, typeInfo, hi, Builtin.lenOf, Builtin.firstCells, loadCells, loadCellsFrom]
      rw [hr] at hrun
      injection hrun with e1 e2
      subst e1 e2
      exact Every.nil w
    · have hr := run_append_nil (P := P) w t ty e i z ht hi hz a m c news hl hnews (by omega) (by omega) (by have hb := hbytes; simp only [Nat.zero_add] at hb; omega)
      rw [hr] at hrun
      injection hrun with e1 e2
      subst e1 e2
      have := grown (grownCap w m 0 e - m) (by simp)
      simp only [Nat.zero_add, Array.empty_append] at this ⊢
      exact this
  · have hx : ∀ u ∈ xs, φ u = true := fun u hu => he g (by simp [Value.ownBlock]) cur e hg u (by rw [← htake] at hu; exact List.mem_of_mem_take hu)
    by_cases hroom : n + m ≤ cap
    · have hfit : n * i.size + news.length ≤ cur.size := by rw [hl, hcs, ← Nat.add_mul]; exact Nat.mul_le_mul_right _ hroom
      have hr := run_append_room (P := P) w t ty e i ht hi g n cap cur hg a m c news hl hnews h1 hroom hfit
      rw [hr] at hrun
      injection hrun with e1 e2
      subst e1 e2
      intro g' hg' cs e' hc u hu
      simp [Value.ownBlock] at hg'
      subst hg'
      rw [setRow_heap w g cur _ e _ hg] at hc
      injection hc with hc
      injection hc with h2
      subst h2
      simp only [List.mem_append] at hu
      rcases hu with (hu | hu) | hu
      · exact he g (by simp [Value.ownBlock]) cur e hg u (List.mem_of_mem_take hu)
      · exact hn u hu
      · exact he g (by simp [Value.ownBlock]) cur e hg u (List.mem_of_mem_drop hu)
    · have holds : ∀ j u, xs[j]? = some u → w.cell? ((⟨g, 0, none⟩ : Addr).add j) = some u := hown.cells (g := g) rfl
      have hr := run_append_grow (P := P) w t ty e i z ht hi hz ⟨g, 0, none⟩ n cap xs hown.1 holds a m c news hl hnews (by omega) (by omega) (growslice_fits (by omega) hbytes)
      rw [hr] at hrun
      injection hrun with e1 e2
      subst e1 e2
      intro g' hg' cs e' hc u hu
      exact grown _ hx g' (by simpa [Value.ownBlock] using hg') cs e' hc u hu

theorem wp_append_ev {o : Oper} {a : Act} {K : Act → World → Prop} {Q : Exit → Act → World → Prop} (φ : Value → Bool) (s x : Operand) (t : TypeId)
    (ho : o.op = .call { callee := .builtin .append, args := #[s, x], argTypes := #[t, t] })
    (base : Nat) (e : TypeId) (i : TypeInfo) (z : Value) (size bytes : Nat) (ht : P.underlying t = some (.slice e)) (hi : P.info? e = some i) (hz : i.zero = some z)
    (hsize : i.size = size) (hby : i.bytes = bytes) (hzs : z.cells.size = size) (hsz : 0 < size)
    (v : Value) (n : Nat) (xs : List Value) (hs : a.eval s = v) (hown : w.ownsRow base e size v n xs)
    (ad : Addr) (m c : Nat) (news : List Value) (hx : a.eval x = .slice (some ad) m c) (hl : news.length = m * size) (hnews : ∀ j u, news[j]? = some u → w.cell? (ad.add j) = some u) (h1 : ∀ u ∈ news, u.oneCell' = true)
    (h63 : n + m ≤ maxLen) (hbytes : (n + m) * bytes ≤ 140737488355328) (hbase : base ≤ w.heap.size)
    (he : Every φ w v) (hn : ∀ u ∈ news, φ u = true) (hzz : ∀ u ∈ z.cells.toList, φ u = true)
    (h : ∀ v' w', w'.ownsRow base e size v' (n + m) (xs ++ news) → w.grownBy w' v.ownBlock → Every φ w' v' → K (a.put o.dst v') w') : o.wp P a w K Q := by
  obtain ⟨v', w', hrun, h2, h3, h4⟩ := run_append_own (P := P) w base t o.type e i z size bytes ht hi hz hsize hby hzs hsz v n xs hown ad m c news hl hnews h1 h63 hbytes hbase
  have hev := append_every (P := P) w base t o.type e i z size bytes ht hi hz hsize hby hzs hsz v n xs hown ad m c news hl hnews h1 h63 hbytes he hn hzz hrun
  unfold Oper.wp execOp
  simp only [ho, resolve, invoke, builtin, Sem.run_bind, Sem.run_pure, Result.andThen_ok, List.map_toArray, List.map_cons, List.map_nil, hs, hx, hrun]
  exact h v' w' h2 h3 hev

theorem wpList_append_ev {ops : Array Oper} {rest : List Oper} {o : Oper} {a : Act} {Q : Exit → Act → World → Prop} (hgd : o.guard = none) (φ : Value → Bool) (s x : Operand) (t : TypeId)
    (ho : o.op = .call { callee := .builtin .append, args := #[s, x], argTypes := #[t, t] })
    (base : Nat) (e : TypeId) (i : TypeInfo) (z : Value) (size bytes : Nat) (ht : P.underlying t = some (.slice e)) (hi : P.info? e = some i) (hz : i.zero = some z)
    (hsize : i.size = size) (hby : i.bytes = bytes) (hzs : z.cells.size = size) (hsz : 0 < size)
    (v : Value) (n : Nat) (xs : List Value) (hs : a.eval s = v) (hown : w.ownsRow base e size v n xs)
    (ad : Addr) (m c : Nat) (news : List Value) (hx : a.eval x = .slice (some ad) m c) (hl : news.length = m * size) (hnews : ∀ j u, news[j]? = some u → w.cell? (ad.add j) = some u) (h1 : ∀ u ∈ news, u.oneCell' = true)
    (h63 : n + m ≤ maxLen) (hbytes : (n + m) * bytes ≤ 140737488355328) (hbase : base ≤ w.heap.size)
    (he : Every φ w v) (hn : ∀ u ∈ news, φ u = true) (hzz : ∀ u ∈ z.cells.toList, φ u = true)
    (h : ∀ v' w', w'.ownsRow base e size v' (n + m) (xs ++ news) → w.grownBy w' v.ownBlock → Every φ w' v' → wpList P ops Q rest (a.put o.dst v') w') : wpList P ops Q (o :: rest) a w :=
  wpList_plain hgd fun _ hK => wp_append_ev w φ s x t ho base e i z size bytes ht hi hz hsize hby hzs hsz v n xs hs hown ad m c news hx hl hnews h1 h63 hbytes hbase he hn hzz fun v' w' h2 h3 h4 => hK _ _ (h v' w' h2 h3 h4)
end

/-- no word -/
def nw : Value → Bool | .int .u32 _ => false | _ => true
theorem noU32_of {cs : Array Value} (h : ∀ u ∈ cs.toList, nw u = true) : noU32 cs = true := by
  unfold noU32
  rw [List.all_eq_true]
  intro u hu
  have := h u hu
  revert this
  unfold nw
  split <;> simp_all
theorem noU32_all {cs : Array Value} (h : noU32 cs = true) : ∀ u ∈ cs.toList, nw u = true := by
  unfold noU32 at h
  rw [List.all_eq_true] at h
  intro u hu
  have := h u hu
  revert this
  unfold nw
  split <;> simp_all

def setL : List Value → Nat → List Value → List Value
  | l, _, [] => l
  | l, o, v :: r => setL (l.set o v) (o + 1) r
theorem setL_len : ∀ (vs l : List Value) (o : Nat), (setL l o vs).length = l.length
  | [], _, _ => rfl
  | v :: r, l, o => by rw [setL, setL_len r, List.length_set]
theorem setL_out : ∀ (vs l : List Value) (o i : Nat), i < o ∨ o + vs.length ≤ i → (setL l o vs)[i]? = l[i]?
  | [], _, _, _, _ => rfl
  | v :: r, l, o, i, h => by
    simp only [List.length_cons] at h
    rw [setL, setL_out r _ _ _ (by omega), List.getElem?_set_ne (by omega)]
theorem setL_in : ∀ (vs l : List Value) (o j : Nat), j < vs.length → o + vs.length ≤ l.length → (setL l o vs)[o + j]? = vs[j]?
  | [], _, _, _, h, _ => absurd h (by simp)
  | v :: r, l, o, 0, h, hl => by
    simp only [List.length_cons] at hl
    rw [setL, setL_out r _ _ _ (by omega), Nat.add_zero, List.getElem?_set_self (by omega)]; rfl
  | v :: r, l, o, j + 1, h, hl => by
    simp only [List.length_cons] at hl h
    rw [setL, show o + (j + 1) = o + 1 + j from by omega, setL_in r _ _ j (by omega) (by rw [List.length_set]; omega)]; rfl
theorem setL_all {φ : Value → Bool} : ∀ (vs l : List Value) (o : Nat), (∀ u ∈ l, φ u = true) → (∀ u ∈ vs, φ u = true) → ∀ u ∈ setL l o vs, φ u = true
  | [], _, _, hl, _ => hl
  | v :: r, l, o, hl, hv => by
    refine setL_all r _ _ (fun u hu => ?_) (fun u hu => hv u (List.mem_cons_of_mem _ hu))
    rcases List.mem_or_eq_of_mem_set hu with hu | rfl
    · exact hl u hu
    · exact hv _ List.mem_cons_self
theorem Blk.setCells {g : Nat} {t : TypeId} : ∀ (vs l : List Value) (o : Nat) (w : World), Blk w g t l.toArray → Blk (w.setCells g o vs) g t (setL l o vs).toArray
  | [], _, _, _, h => h
  | v :: r, l, o, w, h => by
    refine Blk.setCells r (l.set o v) (o + 1) _ ?_
    have := h.set_ o v
    rwa [List.setIfInBounds_toArray] at this
theorem only_setCells {g : Nat} : ∀ (vs : List Value) (o : Nat) (a w : World), Only g a w → Only g a (w.setCells g o vs)
  | [], _, _, _, h => h
  | v :: r, o, a, w, h => only_setCells r (o + 1) a _ (h.setCell (p := ⟨g, o, none⟩) rfl v)

/-- a number lies in four cells of an array -/
def RatCells (w : World) (cur : List Value) (o : Nat) (q : Rat) : Prop := ∃ a b c d, cur[o]? = some a ∧ cur[o + 1]? = some b ∧ cur[o + 2]? = some c ∧ cur[o + 3]? = some d ∧ RatV w (.agg #[a, b, c, d]) q
theorem RatCells.below {w w' : World} {cur : List Value} {o : Nat} {q : Rat} (h : RatCells w cur o q) (hb : Below w.heap.size w w') : RatCells w' cur o q := by
  obtain ⟨a, b, c, d, h1, h2, h3, h4, h5⟩ := h
  exact ⟨a, b, c, d, h1, h2, h3, h4, h5.below hb⟩
theorem RatCells.only {w w' : World} {cur : List Value} {o g : Nat} {q : Rat} {t : TypeId} {cs : Array Value} (h : RatCells w cur o q) (hb : Blk w g t cs) (hn : noU32 cs = true) (ho : Only g w w') : RatCells w' cur o q := by
  obtain ⟨a, b, c, d, h1, h2, h3, h4, h5⟩ := h
  exact ⟨a, b, c, d, h1, h2, h3, h4, h5.only hb hn ho⟩
theorem RatCells.left {w : World} {cur more : List Value} {o : Nat} {q : Rat} (h : RatCells w cur o q) : RatCells w (cur ++ more) o q := by
  obtain ⟨a, b, c, d, h1, h2, h3, h4, h5⟩ := h
  have k : ∀ j u, cur[j]? = some u → (cur ++ more)[j]? = some u := fun j u hj => by rw [List.getElem?_append_left (List.getElem?_eq_some_iff.1 hj).1]; exact hj
  exact ⟨a, b, c, d, k _ _ h1, k _ _ h2, k _ _ h3, k _ _ h4, h5⟩
theorem RatV.fields {w : World} {v : Value} {q : Rat} (h : RatV w v q) : ∃ a b c d, v = .agg #[a, b, c, d] ∧ nw a = true ∧ nw b = true ∧ nw c = true ∧ nw d = true ∧ a.oneCell' = true ∧ b.oneCell' = true ∧ c.oneCell' = true ∧ d.oneCell' = true := by
  obtain ⟨A, n, c, B, m, d, rfl, -, -⟩ := h
  exact ⟨_, _, _, _, rfl, rfl, rfl, rfl, rfl, rfl, rfl, rfl, rfl⟩
theorem RatV.nw4 {w : World} {a b c d : Value} {q : Rat} (h : RatV w (.agg #[a, b, c, d]) q) : nw a = true ∧ nw b = true ∧ nw c = true ∧ nw d = true := by
  obtain ⟨A, n, c', B, m, d', e, -, -⟩ := h
  simp only [Value.agg.injEq, Array.mk.injEq, List.cons.injEq] at e
  obtain ⟨rfl, rfl, rfl, rfl, -⟩ := e
  exact ⟨rfl, rfl, rfl, rfl⟩
theorem all_set {l : List Value} {i : Nat} {a : Value} (hl : ∀ u ∈ l, nw u = true) (ha : nw a = true) : ∀ u ∈ l.set i a, nw u = true := fun u hu => by
  rcases List.mem_or_eq_of_mem_set hu with hu | rfl
  · exact hl u hu
  · exact ha
def put4 (w : World) (g j : Nat) (a b c d : Value) : World := (((w.setCell ⟨g, j, none⟩ a).setCell ⟨g, j + 1, none⟩ b).setCell ⟨g, j + 2, none⟩ c).setCell ⟨g, j + 3, none⟩ d
def putL (l : List Value) (j : Nat) (a b c d : Value) : List Value := (((l.set j a).set (j + 1) b).set (j + 2) c).set (j + 3) d
theorem putL_len (l : List Value) (j : Nat) (a b c d : Value) : (putL l j a b c d).length = l.length := by simp [putL]
theorem putL_far {l : List Value} {j : Nat} {a b c d : Value} {i : Nat} (h : i < j ∨ j + 3 < i) : (putL l j a b c d)[i]? = l[i]? := by
  unfold putL
  rw [List.getElem?_set_ne (by omega), List.getElem?_set_ne (by omega), List.getElem?_set_ne (by omega), List.getElem?_set_ne (by omega)]
theorem putL_at {l : List Value} {j : Nat} {a b c d : Value} (h : j + 3 < l.length) : (putL l j a b c d)[j]? = some a ∧ (putL l j a b c d)[j + 1]? = some b ∧ (putL l j a b c d)[j + 2]? = some c ∧ (putL l j a b c d)[j + 3]? = some d := by
  unfold putL
  refine ⟨?_, ?_, ?_, ?_⟩
  · rw [List.getElem?_set_ne (by omega), List.getElem?_set_ne (by omega), List.getElem?_set_ne (by omega), List.getElem?_set_self (by omega)]
  · rw [List.getElem?_set_ne (by omega), List.getElem?_set_ne (by omega), List.getElem?_set_self (by rw [List.length_set]; omega)]
  · rw [List.getElem?_set_ne (by omega), List.getElem?_set_self (by rw [List.length_set, List.length_set]; omega)]
  · rw [List.getElem?_set_self (by rw [List.length_set, List.length_set, List.length_set]; omega)]
theorem Blk.put4 {w : World} {g : Nat} {t : TypeId} {cs : Array Value} (h : Blk w g t cs) (j : Nat) (a b c d : Value) : Blk (put4 w g j a b c d) g t (putL cs.toList j a b c d).toArray := by
  have := (((h.set_ j a).set_ (j + 1) b).set_ (j + 2) c).set_ (j + 3) d
  have e : (putL cs.toList j a b c d).toArray = (((cs.setIfInBounds j a).setIfInBounds (j + 1) b).setIfInBounds (j + 2) c).setIfInBounds (j + 3) d := by
    apply Array.toList_inj.1; simp only [putL, Array.toList_setIfInBounds]
  rw [e]; exact this
theorem put4_only (w : World) (g j : Nat) (a b c d : Value) : Only g w (put4 w g j a b c d) :=
  ((((Only.refl g w).setCell (p := ⟨g, j, none⟩) rfl a).setCell (p := ⟨g, j + 1, none⟩) rfl b).setCell (p := ⟨g, j + 2, none⟩) rfl c).setCell (p := ⟨g, j + 3, none⟩) rfl d

/-- a row of eight numbers that has a block of its own -/
def RowAt (w : World) (h : Nat) (q : Nat → Rat) : Prop := ∃ cur, Blk w h 77 cur ∧ 32 ≤ cur.size ∧ noU32 cur = true ∧ ∀ j, j < 8 → RatCells w cur.toList (j * 4) (q j)
theorem RowAt.lt {w : World} {h : Nat} {q : Nat → Rat} (hr : RowAt w h q) : h < w.heap.size := by obtain ⟨cur, hb, -⟩ := hr; exact hb.lt
theorem RowAt.below {w w' : World} {h : Nat} {q : Nat → Rat} (hr : RowAt w h q) (hb : Below w.heap.size w w') : RowAt w' h q := by
  obtain ⟨cur, h1, h2, h3, h4⟩ := hr
  exact ⟨cur, h1.below hb h1.lt, h2, h3, fun j hj => (h4 j hj).below hb⟩
theorem RowAt.only {w w' : World} {h g : Nat} {q : Nat → Rat} {t : TypeId} {cs : Array Value} (hr : RowAt w h q) (hb : Blk w g t cs) (hn : noU32 cs = true) (ho : Only g w w') (hne : h ≠ g) : RowAt w' h q := by
  obtain ⟨cur, h1, h2, h3, h4⟩ := hr
  exact ⟨cur, h1.only ho hne, h2, h3, fun j hj => (h4 j hj).only hb hn ho⟩
theorem RowAt.congr {w : World} {h : Nat} {q q' : Nat → Rat} (hr : RowAt w h q) (e : ∀ j, j < 8 → q j = q' j) : RowAt w h q' := by
  obtain ⟨cur, h1, h2, h3, h4⟩ := hr
  exact ⟨cur, h1, h2, h3, fun j hj => e j hj ▸ h4 j hj⟩
/-- the number at a place -/
theorem RowAt.get {w : World} {h : Nat} {q : Nat → Rat} (hr : RowAt w h q) {j : Nat} (hj : j < 8) : ∃ a b c d, w.cell? ⟨h, j * 4, none⟩ = some a ∧ w.cell? ⟨h, j * 4 + 1, none⟩ = some b ∧ w.cell? ⟨h, j * 4 + 2, none⟩ = some c ∧ w.cell? ⟨h, j * 4 + 3, none⟩ = some d ∧
    RatV w (.agg #[a, b, c, d]) (q j) := by
  obtain ⟨cur, h1, h2, h3, h4⟩ := hr
  obtain ⟨a, b, c, d, k1, k2, k3, k4, k5⟩ := h4 j hj
  have k : ∀ i u, cur.toList[i]? = some u → w.cell? ⟨h, i, none⟩ = some u := fun i u hu => by rw [h1.cell]; simpa using hu
  exact ⟨a, b, c, d, k _ _ k1, k _ _ k2, k _ _ k3, k _ _ k4, k5⟩
theorem RowAt.frozen {w : World} {h : Nat} {q : Nat → Rat} (hr : RowAt w h q) (i : Nat) : w.frozen? ⟨h, i, none⟩ = false := by obtain ⟨cur, h1, -⟩ := hr; exact h1.frozen i
/-- a number is put at a place -/
theorem RowAt.put {w : World} {h : Nat} {q : Nat → Rat} (hr : RowAt w h q) {j : Nat} (hj : j < 8) {a b c d : Value} {y : Rat} (hv : RatV w (.agg #[a, b, c, d]) y) :
    RowAt (put4 w h (j * 4) a b c d) h (fun i => if i = j then y else q i) := by
  obtain ⟨cur, h1, h2, h3, h4⟩ := hr
  have ho := put4_only w h (j * 4) a b c d
  have hl : 32 ≤ cur.toList.length := by simpa using h2
  obtain ⟨n1, n2, n3, n4⟩ := hv.nw4
  refine ⟨_, h1.put4 (j * 4) a b c d, by rw [List.size_toArray, putL_len]; exact hl, noU32_of ?_, ?_⟩
  · exact all_set (all_set (all_set (all_set (noU32_all h3) n1) n2) n3) n4
  · intro i hi
    show RatCells _ _ _ (if i = j then y else q i)
    by_cases e : i = j
    · subst e
      rw [if_pos rfl]
      obtain ⟨k1, k2, k3, k4⟩ := putL_at (l := cur.toList) (j := i * 4) (a := a) (b := b) (c := c) (d := d) (by omega)
      exact ⟨a, b, c, d, k1, k2, k3, k4, hv.only h1 h3 ho⟩
    · rw [if_neg e]
      obtain ⟨a', b', c', d', k1, k2, k3, k4, k5⟩ := (h4 i hi).only h1 h3 ho
      refine ⟨a', b', c', d', ?_, ?_, ?_, ?_, k5⟩
      · exact (putL_far (by omega)).trans k1
      · exact (putL_far (by omega)).trans k2
      · exact (putL_far (by omega)).trans k3
      · exact (putL_far (by omega)).trans k4

/-- the list of rows: its block G holds n slices of eight numbers, each with a block of its own -/
structure LeftAt (w : World) (base G n : Nat) (hs : Nat → Nat) (rows : Nat → Nat → Rat) : Prop where
  blk : ∃ cur, Blk w G 72 cur ∧ noU32 cur = true ∧ ∀ i, i < n → ∃ c, 8 ≤ c ∧ c ≤ 9223372036854775807 ∧ cur[i]? = some (.slice (some ⟨hs i, 0, none⟩) 8 c)
  low : base ≤ G
  inj : ∀ i j, i < n → j < n → hs i = hs j → i = j
  row : ∀ i, i < n → base ≤ hs i ∧ RowAt w (hs i) (rows i)
theorem LeftAt.below {w w' : World} {base G n : Nat} {hs : Nat → Nat} {rows : Nat → Nat → Rat} (h : LeftAt w base G n hs rows) (hb : Below w.heap.size w w') : LeftAt w' base G n hs rows := by
  obtain ⟨⟨cur, h1, h2, h3⟩, h4, h5, h6⟩ := h
  exact ⟨⟨cur, h1.below hb h1.lt, h2, h3⟩, h4, h5, fun i hi => ⟨(h6 i hi).1, (h6 i hi).2.below hb⟩⟩
theorem LeftAt.ne {w : World} {base G n : Nat} {hs : Nat → Nat} {rows : Nat → Nat → Rat} (h : LeftAt w base G n hs rows) {g : Nat} {q : Nat → Rat} (hr : RowAt w g q) : G ≠ g := by
  obtain ⟨⟨cur, h1, h2, h3⟩, h4, h5, h6⟩ := h
  obtain ⟨cur', k1, -⟩ := hr
  exact h1.ne_ k1 (by decide)
/-- one of its rows is changed -/
theorem LeftAt.turn {w w' : World} {base G n k : Nat} {hs : Nat → Nat} {rows : Nat → Nat → Rat} {q : Nat → Rat} (h : LeftAt w base G n hs rows) (hk : k < n) (ho : Only (hs k) w w') (hr : RowAt w' (hs k) q) :
    LeftAt w' base G n hs (fun i => if i = k then q else rows i) := by
  have hne := h.ne (h.row k hk).2
  obtain ⟨⟨cur, h1, h2, h3⟩, h4, h5, h6⟩ := h
  refine ⟨⟨cur, h1.only ho hne, h2, h3⟩, h4, h5, fun i hi => ⟨(h6 i hi).1, ?_⟩⟩
  by_cases e : i = k
  · subst e; rw [if_pos rfl]; exact hr
  · rw [if_neg e]
    obtain ⟨cur', k1, k2, k3, -⟩ := (h6 k hk).2
    exact (h6 i hi).2.only k1 k3 ho (fun x => e (h5 i k hi hk x))

end Go.Proofs.YtmkhfgggleplfaaGreat
