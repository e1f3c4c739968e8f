/-
  The walk of the reference's rank. Conditions: a valid order.
-/
import Derived.Test.YtmkhfgggleplfaaGreatR5E
import Derived.Test.YtmkhfgggleplfaaGreatR5F
import Derived.Test.YtmkhfgggleplfaaGreatR5C
import Derived.StillTailTactics
import Derived.Laws.CopyOwn
import Derived.Great.BuildSlice
namespace Go.Proofs.YtmkhfgggleplfaaGreat
set_option linter.unusedSimpArgs false
set_option linter.unusedVariables false
open Go.RowKit

theorem run_loadVar_at {P : Program} (w : World) (a : Addr) (ty : TypeId) (cs : List Value) (d : TypeDesc) (hv : ∀ j v, cs[j]? = some v → w.cell? (a.add j) = some v)
    (hu : P.underlying ty = some d) (hd : (match d with | .struct _ | .array _ _ => true | _ => false) = true) (hi : (P.info? ty).map (·.size) = some cs.length) :
    (loadVar ty a).run P w = .ok (.agg cs.toArray) w := by
  have hl : (loadCells a cs.length).run P w = .ok cs.toArray w := run_loadCells_list (P := P) w a cs hv
  cases hq : P.info? ty with
  | none => simp [hq] at hi
  | some i =>
    have hs : i.size = cs.length := by simpa [hq] using hi
    have hagg : (isAgg ty).run P w = .ok true w := by
      unfold isAgg
      rw [Sem.run_bind, run_underlying hu w]
      cases d <;> simp_all
    simp [loadVar, Sem.run_bind, hagg, sizeOf, typeInfo, hq, hs, hl]

theorem wpStill_load {P : Program} {ops : Array Oper} {w : World} {Q : Act → Prop} {a : Act} {o : Oper} {rest : List Oper} (hgd : o.guard = none) (ty : TypeId) (x : Operand) (ho : o.op = .load ty x) (ad : Addr) (hx : a.eval x = .pointer (some ad)) (v : Value)
    (hrun : (loadVar ty ad).run P w = .ok v w) (h : wpStill P ops w Q rest (a.put o.dst v)) : wpStill P ops w Q (o :: rest) a := by
  refine wpStill_step (fun K hK => ?_)
  have hw : Region.wanted o (yielded ops a.tmps) = true := by simp [Region.wanted, hgd]
  rw [if_pos hw]
  unfold Oper.still execOp
  simp only [ho, hx, Instr.loadAt, Instr.sureAddr, Sem.run_bind, Sem.run_pure, Result.andThen_ok, hrun]
  exact ⟨rfl, hK _ h⟩

/-- eight numbers out of their cells -/
theorem RowV.of_cells {w : World} {cs : List Value} {q : Nat → Rat} (hl : cs.length = 32) (h : ∀ j, j < 8 → RatCells w cs (j * 4) (q j)) : RowV w cs.toArray q := by
  have key : ∀ u ∈ cs, nw u = true ∧ u.oneCell' = true := fun u hu => by
    obtain ⟨i, hi, rfl⟩ := List.mem_iff_getElem.1 hu
    obtain ⟨a, b, c, d, k1, k2, k3, k4, k5⟩ := h (i / 4) (by omega)
    obtain ⟨n1, n2, n3, n4⟩ := k5.nw4
    obtain ⟨o1, o2, o3, o4⟩ := k5.one4
    have hx : cs[i]? = some cs[i] := List.getElem?_eq_getElem hi
    have hc : i = i / 4 * 4 ∨ i = i / 4 * 4 + 1 ∨ i = i / 4 * 4 + 2 ∨ i = i / 4 * 4 + 3 := by omega
    rcases hc with e | e | e | e
    · rw [← e] at k1; rw [hx] at k1; injection k1 with k1; rw [k1]; exact ⟨n1, o1⟩
    · rw [← e] at k2; rw [hx] at k2; injection k2 with k2; rw [k2]; exact ⟨n2, o2⟩
    · rw [← e] at k3; rw [hx] at k3; injection k3 with k3; rw [k3]; exact ⟨n3, o3⟩
    · rw [← e] at k4; rw [hx] at k4; injection k4 with k4; rw [k4]; exact ⟨n4, o4⟩
  exact ⟨by simpa using hl, noU32_of fun u hu => (key u (by simpa using hu)).1, by rw [Array.all_eq_true_iff_forall_mem]; exact fun u hu => (key u (by simpa using hu)).2, by simpa using h⟩

theorem only_grown {g : Nat} {w w' : World} (h : Only g w w') : w.grownBy w' (some g) := ⟨h.os, h.tape, h.output, h.size, fun k hk hne => h.block k hk fun e => hne (by rw [e])⟩
/-- the rows that are done, and their places -/
def DoneAt (w : World) (base H m : Nat) (dv av : Value) (pl : Nat → Nat) (d : Nat → Nat → Rat) : Prop :=
  ∃ xs ys, w.ownsRow base 87 32 dv m xs ∧ w.ownsRow base 3 1 av m ys ∧ Every nw w dv ∧ Every nw w av ∧ (∀ g, dv.ownBlock = some g → g < H) ∧ (∀ g, av.ownBlock = some g → g < H) ∧
    (∀ l, l < m → ∀ j, j < 8 → RatCells w xs (l * 32 + j * 4) (d l j)) ∧ ∀ l, l < m → ys[l]? = some (.int .i64 (pl l : Int))
theorem DoneAt.below {w w' : World} {base H m : Nat} {dv av : Value} {pl : Nat → Nat} {d : Nat → Nat → Rat} (h : DoneAt w base H m dv av pl d) (hb : Below w.heap.size w w') : DoneAt w' base H m dv av pl d := by
  obtain ⟨xs, ys, h1, h2, h3, h4, h5, h6, h7, h8⟩ := h
  exact ⟨xs, ys, ownsRow_below h1 hb, ownsRow_below h2 hb, h3.below h1 hb, h4.below h2 hb, h5, h6, fun l hl j hj => (h7 l hl j hj).below hb, h8⟩
theorem DoneAt.only {w w' : World} {base H m g : Nat} {dv av : Value} {pl : Nat → Nat} {d : Nat → Nat → Rat} {t : TypeId} {cs : Array Value} (h : DoneAt w base H m dv av pl d) (hB : Blk w g t cs) (hn : noU32 cs = true) (ho : Only g w w') (hg : H ≤ g) : DoneAt w' base H m dv av pl d := by
  obtain ⟨xs, ys, h1, h2, h3, h4, h5, h6, h7, h8⟩ := h
  have e1 : dv.ownBlock ≠ some g := fun e => by have := h5 g e; omega
  have e2 : av.ownBlock ≠ some g := fun e => by have := h6 g e; omega
  have hgr := only_grown ho
  exact ⟨xs, ys, h1.kept (row := some g) hgr (.inr e1), h2.kept (row := some g) hgr (.inr e2), h3.block fun b hb => ho.block b (h1.lt b hb).2 (by have := h5 b hb; omega), h4.block fun b hb => ho.block b (h2.lt b hb).2 (by have := h6 b hb; omega), h5, h6,
    fun l hl j hj => (h7 l hl j hj).only hB hn ho, h8⟩
theorem DoneAt.high {w : World} {base H H' m : Nat} {dv av : Value} {pl : Nat → Nat} {d : Nat → Nat → Rat} (h : DoneAt w base H m dv av pl d) (hH : w.heap.size ≤ H') : DoneAt w base H' m dv av pl d := by
  obtain ⟨xs, ys, h1, h2, h3, h4, h5, h6, h7, h8⟩ := h
  exact ⟨xs, ys, h1, h2, h3, h4, fun g hg => by have := (h1.lt g hg).2; omega, fun g hg => by have := (h2.lt g hg).2; omega, h7, h8⟩
/-- one of the rows, and its place, as they are read -/
theorem DoneAt.get {w : World} {base H m l : Nat} {dv av : Value} {pl : Nat → Nat} {d : Nat → Nat → Rat} (h : DoneAt w base H m dv av pl d) (hl : l < m) : ∃ (g c g' c' : Nat) (cs : List Value), dv = .slice (some ⟨g, 0, none⟩) m c ∧ av = .slice (some ⟨g', 0, none⟩) m c' ∧
    (∀ j u, cs[j]? = some u → w.cell? ⟨g, l * 32 + j, none⟩ = some u) ∧ cs.length = 32 ∧ RowV w cs.toArray (d l) ∧ w.cell? ⟨g', l, none⟩ = some (.int .i64 (pl l : Int)) ∧ g < w.heap.size ∧ g' < w.heap.size := by
  obtain ⟨xs, ys, h1, h2, h3, h4, h5, h6, h7, h8⟩ := h
  obtain ⟨g, c, hv, _, hlt⟩ := h1.form (by omega)
  obtain ⟨g', c', hv', _, hlt'⟩ := h2.form (by omega)
  have hx := h1.cells (g := g) (by rw [hv]; rfl)
  have hy := h2.cells (g := g') (by rw [hv']; rfl)
  have hlen : xs.length = m * 32 := h1.1
  have hc : ∀ j u, ((xs.drop (l * 32)).take 32)[j]? = some u → j < 32 ∧ xs[l * 32 + j]? = some u := fun j u hu => by
    rw [List.getElem?_take] at hu
    by_cases e : j < 32
    · rw [if_pos e, List.getElem?_drop] at hu; exact ⟨e, hu⟩
    · rw [if_neg e] at hu; cases hu
  have hc2 : ∀ j u, j < 32 → xs[l * 32 + j]? = some u → ((xs.drop (l * 32)).take 32)[j]? = some u := fun j u hj hu => by rw [List.getElem?_take, if_pos hj, List.getElem?_drop]; exact hu
  refine ⟨g, c, g', c', (xs.drop (l * 32)).take 32, hv, hv', fun j u hu => ?_, by rw [List.length_take, List.length_drop, hlen]; omega, RowV.of_cells (by rw [List.length_take, List.length_drop, hlen]; omega) fun j hj => ?_, ?_, hlt, hlt'⟩
  · have := hx _ _ (hc j u hu).2
    rwa [add_none, Nat.zero_add] at this
  · obtain ⟨a, b, c, e, k1, k2, k3, k4, k5⟩ := h7 l hl j hj
    exact ⟨a, b, c, e, hc2 _ _ (by omega) k1, hc2 _ _ (by omega) (by rw [← Nat.add_assoc]; exact k2), hc2 _ _ (by omega) (by rw [← Nat.add_assoc]; exact k3), hc2 _ _ (by omega) (by rw [← Nat.add_assoc]; exact k4), k5⟩
  · have := hy _ _ (h8 l hl)
    rwa [add_none, Nat.zero_add] at this

theorem DoneAt.shape {w : World} {base H m : Nat} {dv av : Value} {pl : Nat → Nat} {d : Nat → Nat → Rat} (h : DoneAt w base H m dv av pl d) : ∃ A c A' c', dv = .slice A m c ∧ av = .slice A' m c' ∧ m ≤ c ∧ m ≤ c' := by
  obtain ⟨xs, ys, h1, h2, -⟩ := h
  obtain ⟨A, c, e1, k1, _⟩ := own_slice h1
  obtain ⟨A', c', e2, k2, _⟩ := own_slice h2
  exact ⟨A, c, A', c', e1, e2, k1, k2⟩
theorem DoneAt.nil (w : World) (base H : Nat) (pl : Nat → Nat) (d : Nat → Nat → Rat) : DoneAt w base H 0 (.slice none 0 0) (.slice none 0 0) pl d :=
  ⟨[], [], ⟨rfl, .inl ⟨rfl, rfl⟩⟩, ⟨rfl, .inl ⟨rfl, rfl⟩⟩, Every.nil w, Every.nil w, fun g hg => by simp [Value.ownBlock] at hg, fun g hg => by simp [Value.ownBlock] at hg, fun l hl => absurd hl (by omega), fun l hl => absurd hl (by omega)⟩

/-- a row of which k numbers are laid -/
def RowK (k : Nat) (w : World) (cs : Array Value) (q : Nat → Rat) : Prop := cs.size = 32 ∧ noU32 cs = true ∧ cs.all (·.oneCell') = true ∧ ∀ j, j < k → RatCells w cs.toList (j * 4) (q j)
theorem RowK.below {k : Nat} {w w' : World} {cs : Array Value} {q : Nat → Rat} (h : RowK k w cs q) (hb : Below w.heap.size w w') : RowK k w' cs q := ⟨h.1, h.2.1, h.2.2.1, fun j hj => (h.2.2.2 j hj).below hb⟩
theorem zero_one : zero32.all (·.oneCell') = true := by simp [Value.oneCell']
theorem RowK.zero (w : World) (q : Nat → Rat) : RowK 0 w zero32 q := ⟨rfl, rfl, zero_one, fun j hj => absurd hj (by omega)⟩
theorem Blk.four_ {w : World} {g : Nat} {t : TypeId} {cs : Array Value} (h : Blk w g t cs) (hs : cs.size = 32) {k : Nat} (hk : k < 8) : ∃ a b c d, w.cell? ⟨g, k * 4, none⟩ = some a ∧ w.cell? ⟨g, k * 4 + 1, none⟩ = some b ∧ w.cell? ⟨g, k * 4 + 2, none⟩ = some c ∧ w.cell? ⟨g, k * 4 + 3, none⟩ = some d := by
  have key : ∀ i, i < 32 → w.cell? ⟨g, i, none⟩ = some (cs[i]!) := fun i hi => by rw [h.cell, getElem!_pos cs i (by omega)]; simp [show i < cs.size from by omega]
  exact ⟨_, _, _, _, key _ (by omega), key _ (by omega), key _ (by omega), key _ (by omega)⟩
theorem RowK.put {k : Nat} {w : World} {g : Nat} {t : TypeId} {cs : Array Value} {q : Nat → Rat} (h : RowK k w cs q) (hB : Blk w g t cs) (hk : k < 8) {a b c d : Value} (hv : RatV w (.agg #[a, b, c, d]) (q k)) :
    Blk (put4 w g (k * 4) a b c d) g t (putL cs.toList (k * 4) a b c d).toArray ∧ RowK (k + 1) (put4 w g (k * 4) a b c d) (putL cs.toList (k * 4) a b c d).toArray q := by
  obtain ⟨h2, h3, h5, h4⟩ := h
  have ho := put4_only w g (k * 4) a b c d
  have hl : cs.toList.length = 32 := by simpa using h2
  obtain ⟨n1, n2, n3, n4⟩ := hv.nw4
  obtain ⟨o1, o2, o3, o4⟩ := hv.one4
  refine ⟨hB.put4 (k * 4) a b c d, by rw [List.size_toArray, putL_len]; exact hl, noU32_of ?_, ?_, ?_⟩
  · exact all_set (all_set (all_set (all_set (noU32_all h3) n1) n2) n3) n4
  · rw [Array.all_eq_true_iff_forall_mem]
    intro u hu
    have h5' : ∀ u ∈ cs.toList, u.oneCell' = true := fun u hu => (Array.all_eq_true_iff_forall_mem.1 h5) u (by simpa using hu)
    exact all_setP (all_setP (all_setP (all_setP h5' o1) o2) o3) o4 u (Array.mem_toList_iff.2 hu)
  · intro i hi
    by_cases e : i = k
    · subst e
      obtain ⟨k1, k2, k3, k4⟩ := putL_at (l := cs.toList) (j := i * 4) (a := a) (b := b) (c := c) (d := d) (by omega)
      exact ⟨a, b, c, d, k1, k2, k3, k4, hv.only hB h3 ho⟩
    · obtain ⟨a', b', c', d', k1, k2, k3, k4, k5⟩ := (h4 i (by omega)).only hB h3 ho
      refine ⟨a', b', c', d', ?_, ?_, ?_, ?_, k5⟩
      · exact (putL_far (by omega)).trans k1
      · exact (putL_far (by omega)).trans k2
      · exact (putL_far (by omega)).trans k3
      · exact (putL_far (by omega)).trans k4

theorem scale_mix (y : Nat → Rat) (z : Rat) (a : Nat) : ∀ j, j < 8 → (if j = a then y a * z else if j < a then y j * z else y j) = if j < a + 1 then y j * z else y j := fun j _ => by
  rcases Nat.lt_trichotomy j a with h | h | h
  · rw [if_neg (by omega), if_pos h, if_pos (by omega)]
  · subst h; rw [if_pos rfl, if_pos (by omega)]
  · rw [if_neg (by omega), if_neg (by omega), if_neg (by omega)]
theorem info_row8 : (Tryz.prog.info? 87).map (fun i => (i.zero, i.size, i.bytes)) = some (some (.agg zero32), 32, 512) := by kernel_rfl
theorem info_int5 : (Tryz.prog.info? 3).map (fun i => (i.zero, i.size, i.bytes)) = some (some (.int .i64 0), 1, 8) := by kernel_rfl
theorem zero_nw : ∀ u ∈ (Value.agg zero32).cells.toList, nw u = true := noU32_all (cs := zero32) rfl
theorem zint_nw : ∀ u ∈ (Value.int .i64 0).cells.toList, nw u = true := fun u hu => by
  have : u = .int .i64 0 := by simpa [Value.cells] using hu
  subst this; rfl
theorem build_row {cur : Array Value} {z : Value} {ie : TypeInfo} (hs : cur.size = 32) (h : ie.size = 32) : Instr.fill (fun i => some (i * ie.size, ie.size)) ((Array.range (1 * ie.size)).map (z.cells[· % z.cells.size]!)) [(0, .agg cur)] = some cur := by
  rw [h]
  have := Great.fill_whole (s := 32) (by omega) [.agg cur] ((Array.range (1 * 32)).map (z.cells[· % z.cells.size]!)) (fun v hv => by
    have : v = .agg cur := by simpa using hv
    subst this; exact hs) (by simp)
  simpa [Value.cells] using this
theorem own_own_ne {w : World} {base base' s s' n n' : Nat} {e e' : TypeId} {v v' : Value} {xs xs' : List Value} (h : w.ownsRow base e s v n xs) (h' : w.ownsRow base' e' s' v' n' xs') (hne : e ≠ e') : v'.ownBlock = none ∨ v'.ownBlock ≠ v.ownBlock := by
  rcases h'.2 with ⟨rfl, _⟩ | ⟨g, cap, cur, rfl, _, hh, _⟩
  · exact .inl rfl
  · refine .inr fun e0 => ?_
    rcases h.2 with ⟨rfl, _⟩ | ⟨g', cap', cur', rfl, _, hh', _⟩
    · simp [Value.ownBlock] at e0
    · have : g = g' := by simpa [Value.ownBlock] using e0
      subst this
      rw [hh] at hh'
      injection hh' with hh'
      injection hh' with _ ht
      exact hne ht.symm
theorem Every.other {w w' : World} {v : Value} {base n size : Nat} {e : TypeId} {xs : List Value} {φ : Value → Bool} {row : Option Nat} (h : Every φ w v) (ho : w.ownsRow base e size v n xs) (hg : w.grownBy w' row) (hne : v.ownBlock = none ∨ v.ownBlock ≠ row) : Every φ w' v :=
  h.block fun g hg' => hg.block g (ho.lt g hg').2 fun e => by
    rcases hne with h1 | h1
    · rw [h1] at hg'; cases hg'
    · rw [hg', e] at h1; exact h1 rfl
theorem one_news (w : World) (t : TypeId) (v : Value) : ∀ j u, [v][j]? = some u → (w.alloc (.cells #[v] t)).cell? ((⟨w.heap.size, 0, none⟩ : Addr).add j) = some u := fun j u hu => by
  rw [add_none, Nat.zero_add, (Blk.new w t #[v]).cell]
  cases j with
  | zero => simpa using hu
  | succ j => simp at hu
theorem below_one (w : World) (o : Obj) : Below w.heap.size w (w.alloc o) := (Below.refl _ _).alloc (Nat.le_refl _) _
theorem RatCells.right {w : World} {cs : List Value} {o : Nat} {q : Rat} (h : RatCells w cs o q) (pre : List Value) : RatCells w (pre ++ cs) (pre.length + o) q := by
  obtain ⟨a, b, c, d, h1, h2, h3, h4, h5⟩ := h
  have k : ∀ j u, cs[j]? = some u → (pre ++ cs)[pre.length + j]? = some u := fun j u hj => by rw [List.getElem?_append_right (by omega), Nat.add_sub_cancel_left]; exact hj
  exact ⟨a, b, c, d, k _ _ h1, k _ _ h2, k _ _ h3, k _ _ h4, h5⟩
/-- one row more is done -/
theorem DoneAt.more {X1 w1 w2 : World} {base m k : Nat} {av v1 v2 : Value} {dv : Value} {pl : Nat → Nat} {d : Nat → Nat → Rat} {q : Nat → Rat} {xs ys : List Value} {cur : Array Value}
    (P1 : X1.ownsRow base 87 32 dv m xs) (P2 : X1.ownsRow base 3 1 av m ys) (E1 : Every nw X1 dv) (E2 : Every nw X1 av)
    (hown1 : w1.ownsRow base 87 32 v1 (m + 1) (xs ++ cur.toList)) (hg1 : X1.grownBy w1 dv.ownBlock) (hev1 : Every nw w1 v1)
    (hown2 : w2.ownsRow base 3 1 v2 (m + 1) (ys ++ [.int .i64 (k : Int)])) (hg2 : (w1.alloc (.cells #[.int .i64 (k : Int)] 3)).grownBy w2 av.ownBlock) (hev2 : Every nw w2 v2)
    (hq : RowV X1 cur q) (hc1 : ∀ l, l < m → ∀ j, j < 8 → RatCells X1 xs (l * 32 + j * 4) (d l j)) (hc2 : ∀ l, l < m → ys[l]? = some (.int .i64 (pl l : Int))) :
    DoneAt w2 base w2.heap.size (m + 1) v1 v2 (addAt m pl k) (addAt m d q) := by
  have hb := below_one w1 (.cells #[.int .i64 (k : Int)] 3)
  have hne := own_own_ne P1 P2 (by decide)
  have Q2 := ownsRow_below (P2.kept hg1 hne) hb
  have F2 := (E2.other P2 hg1 hne).below (P2.kept hg1 hne) hb
  have R1 := ownsRow_below hown1 hb
  have G1 := hev1.below hown1 hb
  have hne2 := own_own_ne Q2 R1 (by decide)
  have S1 := R1.kept hg2 hne2
  have H1 := G1.other R1 hg2 hne2
  have carry : ∀ (cs : List Value) (o : Nat) (z : Rat), RatCells X1 cs o z → RatCells w2 cs o z := fun cs o z h => ((h.grown E1 P1 hg1).below hb).grown F2 Q2 hg2
  have hxl : xs.length = m * 32 := P1.1
  have hyl : ys.length = m := by have := P2.1; omega
  refine ⟨xs ++ cur.toList, ys ++ [.int .i64 (k : Int)], S1, hown2, H1, hev2, fun g hg => (S1.lt g hg).2, fun g hg => (hown2.lt g hg).2, fun l hl j hj => ?_, fun l hl => ?_⟩
  · by_cases e : l = m
    · subst e
      rw [show addAt l d q l = q from if_pos rfl, ← hxl]
      exact carry _ _ _ ((hq.2.2.2 j hj).right xs)
    · rw [show addAt m d q l = d l from if_neg e]
      exact carry _ _ _ ((hc1 l (by omega) j hj).left)
  · by_cases e : l = m
    · subst e
      rw [show addAt l pl k l = k from if_pos rfl, List.getElem?_append_right (by omega), hyl, Nat.sub_self]; rfl
    · rw [show addAt m pl k l = pl l from if_neg e, List.getElem?_append_left (by omega)]
      exact hc2 l (by omega)
def RankRel (w : World) (n : Nat) (f : Nat → Nat → Int) (dv av iv : Value) (wr : World) : Prop :=
  ∃ (i m : Nat) (pl : Nat → Nat) (d : Nat → Nat → Rat), i ≤ n ∧ iv = .int .i64 (i : Int) ∧ DoneAt wr w.heap.size wr.heap.size m dv av pl d ∧ Steps m pl d ∧ SameZero f i m d ∧ (∀ l, l < m → ∀ j, j < 8 → RBd (2 * rb l) (d l j)) ∧ Below w.heap.size w wr
theorem rbd_small {x : Int} (h1 : -1000 ≤ x) (h2 : x ≤ 1000) : RBd 1 (x : Rat) := by
  constructor
  · rw [Rat.num_intCast]; unfold Bd; simp only [pw]; omega
  · rw [Rat.den_intCast]; unfold Bd; simp only [pw]; omega

set_option maxHeartbeats 4000000 in
set_option maxRecDepth 100000 in
theorem rrank_any {w : World} {v : Value} {n : Nat} {f : Nat → Nat → Int} (ho : OrdV w v n f) (hv : validP n f) :
    Calls Tryz.prog 39 #[v] w fun e w' => (∃ m : Nat, e = .returned (.int .i64 m) ∧ (m = 8 ↔ IndepP n f)) ∧ Below w.heap.size w w' := by
  obtain ⟨A, c, rfl, hnc, hcm, hA⟩ := ho
  have hinf : (Tryz.prog.info? 87).map (·.size) = some 32 := by kernel_rfl
  have HBD : Hid (∀ i, i < n → ∀ k, k < 8 → -1000 ≤ f i k ∧ f i k ≤ 1000) := fun i hi k hk => ⟨(hv.2 i hi k hk).1, (hv.2 i hi k hk).2.1⟩
  have hn24 := hv.1
  have HINF := Lib.hid hinf
  clear hv hinf
  go_enter Tryz.func39, Tryz.ntmps39
  go_wp2_with fail
  go_loopw [3, 4, 5] (fun dv av iv wr => RankRel w n f dv av iv wr) (fun _ _ i _ => n - (intOf i).toNat)
  case atStart =>
    exact ⟨0, 0, fun _ => 0, fun _ _ => 0, by omega, rfl, DoneAt.nil _ _ _ _ _, ⟨fun l hl => absurd hl (by omega), fun l hl => absurd hl (by omega), fun l p hl => absurd hl (by omega)⟩, fun x => ⟨fun _ l hl => absurd hl (by omega), fun _ r hr => absurd hr (by omega)⟩, fun l hl => absurd hl (by omega), Below.refl _ _⟩
  case round =>
    obtain ⟨i, m, pl, d, hi, rfl, hD, hst, hz, hbd, hb⟩ := hrel
    have HST := Lib.hid hst
    have HZ := Lib.hid hz
    have HB := Lib.hid hbd
    have hm8 := hst.le
    obtain ⟨Ad, cd, Aa, ca, rfl, rfl, hcd, hca⟩ := hD.shape
    clear hst hz hbd
    by_cases hlt : i < n
    · obtain ⟨bo, off, rfl, hbo, hcell⟩ := hA (by omega)
      have HC := Lib.hid (hcell i hlt)
      have HBI := Lib.hid (HBD.out i hlt)
      clear hA hcell
      have hnew : Hid ((wr.alloc (.cells zero32 87)).heap[wr.heap.size]? = some (.cells zero32 87 (0, 0))) := heap_alloc_new _ _
      go_upto_region 7 with (refine wpList_store_row rfl _ _ _ rfl wr.heap.size zero32 rfl rfl 87 zero32 hnew.out (by rw [HINF.out]; rfl) rfl zero_one ?_)
      obtain ⟨W1, hW1⟩ : ∃ W1, W1 = (wr.alloc (.cells zero32 87)).setRow wr.heap.size zero32 := ⟨_, rfl⟩
      have hb1 : Below wr.heap.size wr W1 := by rw [hW1]; exact below_setRow ((Below.refl _ _).alloc (Nat.le_refl _) _) (Nat.le_refl _) _
      have hB1 : Blk W1 wr.heap.size 87 zero32 := by rw [hW1]; exact setRow_heap _ _ _ _ _ _ hnew.out
      rw [← hW1]
      have hD1 : DoneAt W1 w.heap.size wr.heap.size m (.slice Ad m cd) (.slice Aa m ca) pl d := hD.below hb1
      have hbW := hb.trans (hb1.mono hb.size)
      have hRb := hb.size
      obtain ⟨R, hR⟩ : ∃ R, R = wr.heap.size := ⟨_, rfl⟩
      rw [← hR] at hB1 hD1 hRb ⊢
      clear hW1 hnew hD hb1 hb hR
      go_wp2_with fail
      -- the row's numbers are laid
      go_loopw [7] (fun kv wk => ∃ (k : Nat) (cur : Array Value), k ≤ 8 ∧ kv = .int .i64 (k : Int) ∧ Blk wk R 87 cur ∧ RowK k wk cur (rowQ f i) ∧ DoneAt wk w.heap.size R m (.slice Ad m cd) (.slice Aa m ca) pl d ∧ Below w.heap.size w wk) (fun k _ => 8 - (intOf k).toNat)
      case atStart => exact ⟨0, zero32, by omega, rfl, hB1, RowK.zero _ _, hD1, hbW⟩
      case round =>
        obtain ⟨k, cur, hk, rfl, hBk, hrow, hDk, hbk⟩ := hrel
        clear hB1 hD1 hbW
        by_cases hk8 : k < 8
        · have hki : (k : Int) < 8 := by omega
          have hc := (hbk.cell (p := ⟨bo, off + i * 8 + k, none⟩) hbo).trans (HC.out k hk8)
          have hfb := HBI.out k hk8
          go_wp2_with fail
          refine (rq_whole (f i k) _ (by omega) (by omega)).mono ?_
          rintro e w3 ⟨rv, rfl, hrv, hb3⟩
          obtain ⟨a1, a2, a3, a4, a5, a6, rfl, -, -⟩ := id hrv
          have hB3 := hBk.below hb3 hBk.lt
          have hrow3 := hrow.below hb3
          obtain ⟨e0, e1, e2, e3, g0, g1, g2, g3⟩ := hB3.four_ hrow3.1 hk8
          have fr0 := hB3.frozen (k * 4)
          have fr1 := hB3.frozen (k * 4 + 1)
          have fr2 := hB3.frozen (k * 4 + 2)
          have fr3 := hB3.frozen (k * 4 + 3)
          have hp := Lib.hid (hrow3.put hB3 hk8 hrv)
          have hD3 := (hDk.below hb3).only hB3 hrow3.2.1 (put4_only w3 R (k * 4) (.bool (ngb (rowQ f i k).num)) (.slice a1 a2 a3) (.bool (ngb ((rowQ f i k).den : Int))) (.slice a4 a5 a6)) (Nat.le_refl _)
          have hb3' := (hbk.trans (hb3.mono hbk.size)).trans ((put4_only w3 R (k * 4) (.bool (ngb (rowQ f i k).num)) (.slice a1 a2 a3) (.bool (ngb ((rowQ f i k).den : Int))) (.slice a4 a5 a6)).below hRb (hbk.trans (hb3.mono hbk.size)).size)
          have HD3 := Lib.hid hD3
          have HB3 := Lib.hid hb3'
          clear hD3 hb3'
          go_wp2_with fail
          go_roundw
          case rel => exact ⟨k + 1, _, by omega, by go_num, hp.out.1, hp.out.2, HD3.out, HB3.out⟩
          case measure => simp [intOf]; omega
        · obtain rfl : k = 8 := by omega
          have hrow8 : RowV wr cur (rowQ f i) := hrow
          have hRed0 := Red.start f i m pl d
          have hbd0 : Hid (∀ j, j < 8 → RBd (rb 0) (rowQ f i j)) := fun j hj => rbd_small (HBI.out j hj).1 (HBI.out j hj).2
          clear hrow
          go_wp2_with fail
          -- the row is reduced by the rows that are done
          go_loopw [8] (fun lv wk => ∃ (l : Nat) (cur : Array Value) (y : Nat → Rat), l ≤ m ∧ lv = .int .i64 (l : Int) ∧ Blk wk R 87 cur ∧ RowV wk cur y ∧ Red f i l m pl d y ∧ (∀ j, j < 8 → RBd (rb l) (y j)) ∧ DoneAt wk w.heap.size R m (.slice Ad m cd) (.slice Aa m ca) pl d ∧ Below w.heap.size w wk) (fun l _ => m - (intOf l).toNat)
          case atStart => exact ⟨0, cur, rowQ f i, by omega, rfl, hBk, hrow8, hRed0, hbd0.out, hDk, hbk⟩
          case round =>
            obtain ⟨l, cur', y, hl, rfl, hBl, hrl, hRed, hby, hDl, hbl⟩ := hrel
            have HRED := Lib.hid hRed
            have HBY := Lib.hid hby
            clear hBk hrow8 hRed0 hbd0 hDk hbk hRed hby
            by_cases hlm : l < m
            · obtain ⟨g, cg, g', cg', ds, ed, ea, hds, hdl, hrd, hca', hgl, hgl'⟩ := hDl.get hlm
              injection ed with ed1 ed2 ed3
              injection ea with ea1 ea2 ea3
              subst ed1 ed3 ea1 ea3
              have hpl8 := HST.out.lt l hlm
              have hl1 : Hid ((loadVar 87 ⟨R, 0, none⟩).run Tryz.prog wr.drew = .ok (.agg cur') wr.drew) := run_loadVar_row _ R 87 87 cur' (0, 0) _ hBl Tryz.underlying87 rfl (by rw [HINF.out, hrl.1])
              have hl2 : Hid ((loadVar 87 ⟨g, l * 32, none⟩).run Tryz.prog wr.drew = .ok (.agg ds.toArray) wr.drew) := run_loadVar_at _ ⟨g, l * 32, none⟩ 87 ds _ (fun j u hu => by rw [add_none]; exact hds j u hu) Tryz.underlying87 rfl (by rw [HINF.out, hdl])
              have HCALL : Hid (Calls Tryz.prog 60 #[.agg cur', .agg ds.toArray, .int .i64 (pl l : Int)] wr.drew fun e w' => ∃ es, e = .returned (.agg es) ∧ RowV w' es (fun j => y j - y (pl l) * d l j) ∧ Below wr.drew.heap.size wr.drew w') :=
                rreduced_any (w := wr.drew) (hrl.below ((Below.refl _ _).drewN 1)) (hrd.below ((Below.refl _ _).drewN 1)) hpl8 HBY.out (HB.out l hlm) (by have := rb_le (a := l) (by omega); omega) (by have := rb_le (a := l) (by omega); omega)
              have HL1 := hl1.out
              have HL2 := hl2.out
              go_wp2_with fail
              refine wp_region_still_tail 9 (by kernel_rfl) (by kernel_rfl) ?_
              simp only [List.take_succ_cons, List.take_zero, List.drop_succ_cons, List.drop_zero]
              refine wpStill_load rfl 87 (.tmp 6) rfl ⟨R, 0, none⟩ rfl (.agg cur') hl1.out ?_
              try go_simp
              repeat still_step
              refine wpStill_load rfl 87 (.tmp 42) rfl ⟨g, l * 32, none⟩ rfl (.agg ds.toArray) hl2.out ?_
              try go_simp
              repeat still_step
              refine wpStill_nil ?_
              change wpList _ _ _ _ _ wr.drew
              clear HL1 HL2
              go_wp2_with fail
              refine HCALL.out.mono ?_
              rintro e w5 ⟨es, rfl, hres, hb5⟩
              replace hb5 := hb5.undrew
              have hB5 := hBl.below hb5 hBl.lt
              have hrl5 := hrl.below hb5
              have hO6 := setRow_only w5 R es
              have hB6 := Lib.hid (show Blk (w5.setRow R es) R 87 es from setRow_heap _ _ _ _ 87 _ hB5)
              have hres6 := Lib.hid (hres.only hB5 hrl5.2.1 hO6)
              have hD6 := Lib.hid ((hDl.below hb5).only hB5 hrl5.2.1 hO6 (Nat.le_refl _))
              have hb6 := Lib.hid ((hbl.trans (hb5.mono hbl.size)).trans (hO6.below hRb (hbl.trans (hb5.mono hbl.size)).size))
              have hred6 := Lib.hid (HRED.out.next HST.out hlm)
              have hby6 : Hid (∀ j, j < 8 → RBd (rb (l + 1)) (y j - y (pl l) * d l j)) := fun j hj => rbd_red (HBY.out j hj) (HBY.out _ hpl8) (HB.out l hlm j hj)
              have HSZ : Hid (cur'.size = es.size) := hrl.1.trans hres.1.symm
              have HS2 : Hid (es.size = 32) := hres.1
              have HON := Lib.hid hres.2.2.1
              have HB5 := Lib.hid hB5
              clear hl1 hl2 HCALL hres hO6 hB5 hrl5 hds hdl hrd hca' hDl hbl hBl hrl
              go_wp2_with (refine wpList_store_row rfl _ _ _ rfl R es rfl rfl 87 cur' HB5.out (by rw [HINF.out, HS2.out]) HSZ.out HON.out ?_)
              go_roundw
              case rel =>
                refine ⟨_, _, _, _, _, _, _, _, _, _, _, _, _, _, _, _, _, ?_, rfl⟩
                exact ⟨l + 1, es, _, by omega, by go_num, hB6.out, hres6.out, hred6.out, hby6.out, hD6.out, hb6.out⟩
              case measure => simp [intOf]; omega
            · obtain rfl : m = l := by omega
              go_wp2_with fail
              -- the first place that is not 0
              go_loopw [9] (fun kv wk => ∃ k : Nat, k ≤ 8 ∧ kv = .int .i64 (k : Int) ∧ (∀ j, j < k → y j = 0) ∧ Blk wk R 87 cur' ∧ RowV wk cur' y ∧ DoneAt wk w.heap.size R m (.slice Ad m cd) (.slice Aa m ca) pl d ∧ Below w.heap.size w wk) (fun k _ => 8 - (intOf k).toNat)
              case atStart => exact ⟨0, by omega, rfl, fun j hj => absurd hj (by omega), hBl, hrl, hDl, hbl⟩
              case round =>
                obtain ⟨k, hk, rfl, hzk, hBk, hrk, hDk, hbk⟩ := hrel
                have HZK := Lib.hid hzk
                clear hBl hrl hDl hbl hzk
                by_cases hk8 : k < 8
                · have hki : (k : Int) < 8 := by omega
                  have hk8e : ((k : Int) == 8) = false := by rw [beq_eq_false_iff_ne]; omega
                  obtain ⟨x1, x2, x3, x4, q1, q2, q3, q4, hyk⟩ := hrk.get hBk hk8
                  by_cases hy0 : y k = 0
                  · have hs0 : cmpI (y k).num 0 = 0 := by rw [hy0]; rfl
                    have hzn : Hid (∀ j, j < k + 1 → y j = 0) := fun j hj => by
                      by_cases e : j = k
                      · rw [e]; exact hy0
                      · exact HZK.out j (by omega)
                    clear hy0
                    go_wp2_with fail
                    refine (rq_sign hyk).mono ?_
                    rw [hs0]
                    rintro e w5 ⟨rfl, hb5⟩
                    have hB5 := Lib.hid (hBk.below hb5 hBk.lt)
                    have hr5 := Lib.hid (hrk.below hb5)
                    have hD5 := Lib.hid (hDk.below hb5)
                    have hb5' := Lib.hid (hbk.trans (hb5.mono hbk.size))
                    clear hBk hrk hDk hbk hb5 q1 q2 q3 q4 hs0
                    go_wp2_with fail
                    go_roundw
                    case rel =>
                      refine ⟨_, _, _, _, _, _, _, _, _, _, _, _, ?_, rfl⟩
                      exact ⟨k + 1, by omega, by go_num, hzn.out, hB5.out, hr5.out, hD5.out, hb5'.out⟩
                    case measure => simp [intOf]; omega
                  · have hnum : (y k).num ≠ 0 := fun e => hy0 (Rat.num_eq_zero.1 e)
                    obtain ⟨s, hs⟩ : ∃ s, cmpI (y k).num 0 = s := ⟨_, rfl⟩
                    have hs0 : (s == 0) = false := by
                      rw [beq_eq_false_iff_ne, ← hs]; unfold cmpI; split
                      · omega
                      · rw [if_pos (by omega)]; omega
                    have HS := Lib.hid hs
                    have HY0 := Lib.hid hy0
                    have hnum' := Lib.hid hnum
                    clear hs hy0 hnum
                    go_wp2_with fail
                    refine (rq_sign hyk).mono ?_
                    rw [HS.out]
                    rintro e w5 ⟨rfl, hb5⟩
                    have hB5 := hBk.below hb5 hBk.lt
                    have hr5 := hrk.below hb5
                    have hD5 := hDk.below hb5
                    have hb5' := hbk.trans (hb5.mono hbk.size)
                    obtain ⟨z1, z2, z3, z4, p1, p2, p3, p4, hyk5⟩ := hr5.get hB5 hk8
                    clear hBk hrk hDk hbk hb5 q1 q2 q3 q4 hyk
                    go_wp2_with fail
                    refine (rq_inv hyk5 (HBY.out k hk8) (by have := rb_le (a := m) hm8; omega) hnum'.out).mono ?_
                    rintro e w6 ⟨iv, rfl, hiv, hb6⟩
                    obtain ⟨a1, a2, a3, a4, a5, a6, rfl, -, -⟩ := id hiv
                    have hIB := Lib.hid ((HBY.out k hk8).inv hnum'.out)
                    obtain ⟨W7, hW7, hb7, hI7, hs7⟩ := boxes1 w6 77 #[.bool (ngb ((y k)⁻¹).num), .slice a1 a2 a3, .bool (ngb (((y k)⁻¹).den : Int)), .slice a4 a5 a6]
                    obtain ⟨z, hz⟩ : ∃ z, z = (y k)⁻¹ := ⟨_, rfl⟩
                    rw [← hz] at hiv hIB hI7 hW7 ⊢
                    have HZV := Lib.hid hz
                    have hD7 := (hD5.below hb6).below hb7
                    have hr7 := (hr5.below hb6).below hb7
                    have hB7 := (hB5.below hb6 (by have := hB5.lt; omega)).below hb7 (by have := hb6.size; have := hB5.lt; omega)
                    have hiv7 := hiv.below hb7
                    have hbW7 := (hb5'.trans (hb6.mono hb5'.size)).trans (hb7.mono (hb5'.trans (hb6.mono hb5'.size)).size)
                    have hRI : R < w6.heap.size := by have := hb6.size; have := hB5.lt; omega
                    clear hz p1 p2 p3 p4 hyk5 hs7
                    go_wp2_with fail
                    rw [← hW7]
                    clear hW7 hb7 hb6 hb5' hD5 hr5 hB5 hiv
                    generalize w6.heap.size = I at *
                    -- the row is multiplied
                    go_loopw [12] (fun nv wk => ∃ (a : Nat) (cur : Array Value), a ≤ 8 ∧ nv = .int .i64 (a : Int) ∧ Blk wk R 87 cur ∧ RowV wk cur (fun j => if j < a then y j * z else y j) ∧ DoneAt wk w.heap.size R m (.slice Ad m cd) (.slice Aa m ca) pl d ∧ Blk wk I 77 #[.bool (ngb z.num), .slice a1 a2 a3, .bool (ngb (z.den : Int)), .slice a4 a5 a6] ∧ RatV wk (.agg #[.bool (ngb z.num), .slice a1 a2 a3, .bool (ngb (z.den : Int)), .slice a4 a5 a6]) z ∧ Below w.heap.size w wk) (fun a _ => 8 - (intOf a).toNat)
                    case atStart => exact ⟨0, cur', by omega, rfl, hB7, hr7.congr (fun j hj => by simp), hD7, hI7, hiv7, hbW7⟩
                    case round =>
                      obtain ⟨a, cur2, ha, rfl, hBk, hrow, hDk, hIk, hzk, hbk⟩ := hrel
                      clear hB7 hr7 hD7 hI7 hiv7 hbW7
                      by_cases ha8 : a < 8
                      · have hai : (a : Int) < 8 := by omega
                        obtain ⟨x1', x2', x3', x4', q1, q2, q3, q4, hxn⟩ := hrow.get hBk ha8
                        rw [if_neg (Nat.lt_irrefl a)] at hxn
                        obtain ⟨⟨d0, d1, d2, d3⟩, -, lt3⟩ := hIk.four
                        have lt2 : R < wr.heap.size := hBk.lt
                        have hbyA := HBY.out a ha8
                        have hrbm := rb_le (a := m) hm8
                        have HROW := Lib.hid hrow
                        have HBK := Lib.hid hBk
                        have HDK := Lib.hid hDk
                        have HIK := Lib.hid hIk
                        clear hrow hBk hDk hIk
                        go_upto_region 23 with fail
                        go_region_with
                          (first
                            | (go_at_call 63; refine (rq_mul (RatV.below hxn ?_) (RatV.below hzk ?_) hbyA hIB.out (by omega)).mono ?_; (focus ((repeat' (first | with_reducible exact Below.refl _ _ | with_reducible refine Below.drew ?_)))); (focus ((repeat' (first | with_reducible exact Below.refl _ _ | with_reducible refine Below.drew ?_)))); rintro e w8 ⟨v8, rfl, hv8, hb8⟩; have hC2 : Below wr.heap.size wr w8 := (by refine below_step ?_ hb8; ((repeat' (first | with_reducible exact Below.refl _ _ | with_reducible refine Below.drew ?_)))); have hv8' := hv8; obtain ⟨A5, n5, c5, A6, n6, c6, rfl, -, -⟩ := hv8'; have hblk8 := HBK.out.below hC2 lt2; have hrow8 := HROW.out.below hC2; have fr0 := hblk8.frozen (a * 4); have fr1 := hblk8.frozen (a * 4 + 1); have fr2 := hblk8.frozen (a * 4 + 2); have fr3 := hblk8.frozen (a * 4 + 3); have e0 := (hC2.cell (p := ⟨R, a * 4, none⟩) lt2).trans q1; have e1 := (hC2.cell (p := ⟨R, a * 4 + 1, none⟩) lt2).trans q2; have e2 := (hC2.cell (p := ⟨R, a * 4 + 2, none⟩) lt2).trans q3; have e3 := (hC2.cell (p := ⟨R, a * 4 + 3, none⟩) lt2).trans q4))
                        all_goals
                          have hO8 := put4_only w8 R (a * 4) (.bool (ngb (y a * z).num)) (.slice A5 n5 c5) (.bool (ngb ((y a * z).den : Int))) (.slice A6 n6 c6)
                          have hp := Lib.hid (hrow8.put hblk8 ha8 hv8)
                          have hD8 := Lib.hid ((HDK.out.below hC2).only hblk8 hrow8.2.1 hO8 (Nat.le_refl _))
                          have hI8 := Lib.hid ((HIK.out.below hC2 HIK.out.lt).only hO8 (by omega))
                          have hz8 := Lib.hid ((hzk.below hC2).only hblk8 hrow8.2.1 hO8)
                          have hb8' := Lib.hid ((hbk.trans (hC2.mono hbk.size)).trans (hO8.below hRb (hbk.trans (hC2.mono hbk.size)).size))
                          go_wp2_with fail
                          go_roundw
                          case rel =>
                            first
                              | exact ⟨a + 1, _, by omega, by go_num, hp.out.1, hp.out.2.congr (scale_mix y z a), hD8.out, hI8.out, hz8.out, hb8'.out⟩
                              | (refine ⟨_, _, _, _, _, _, _, _, _, _, _, ?_, rfl⟩; exact ⟨a + 1, _, by omega, by go_num, hp.out.1, hp.out.2.congr (scale_mix y z a), hD8.out, hI8.out, hz8.out, hb8'.out⟩)
                          case measure => simp [intOf]; omega
                      · obtain rfl : a = 8 := by omega
                        have hrow9 : RowV wr cur2 (fun j => y j * z) := hrow.congr (fun j hj => if_pos hj)
                        have hy0 : Hid (z = (y k)⁻¹) := HZV
                        have hmore := Lib.hid (HRED.out.more HST.out HZ.out hk8 HY0.out)
                        rw [← HZV.out] at hmore
                        have hbnew : Hid (∀ l, l < m + 1 → ∀ j, j < 8 → RBd (2 * rb l) (addAt m d (fun j => y j * z) l j)) := fun l hl j hj => by
                          by_cases e : l = m
                          · subst e; rw [show addAt l d (fun j => y j * z) l = fun j => y j * z from if_pos rfl]
                            exact ((HBY.out j hj).mul' hIB.out).mono (by omega)
                          · rw [show addAt m d (fun j => y j * z) l = d l from if_neg e]; exact HB.out l (by omega) j hj
                        obtain ⟨xs, ys, o1, o2, v1, v2, l1, l2, hc1, hc2⟩ := hDk
                        obtain ⟨i0, hi0, hz0, hz1, hz2⟩ := info_parts info_row8
                        obtain ⟨j0, hj0, hj1, hj2, hj3⟩ := info_parts info_int5
                        -- the row behind the rows
                        obtain ⟨X1, hX1⟩ : ∃ X1, X1 = wr.alloc (.cells cur2 87) := ⟨_, rfl⟩
                        have hbX1 : Below wr.heap.size wr X1 := by rw [hX1]; exact (Below.refl _ _).alloc (Nat.le_refl _) _
                        have hN1 : Blk X1 wr.heap.size 87 cur2 := by rw [hX1]; exact Blk.new _ _ _
                        have P1 := Lib.hid (ownsRow_below o1 hbX1)
                        have P2 := Lib.hid (ownsRow_below o2 hbX1)
                        have E1 := Lib.hid (v1.below o1 hbX1)
                        have E2 := Lib.hid (v2.below o2 hbX1)
                        have hnews : Hid (∀ j u, cur2.toList[j]? = some u → X1.cell? ((⟨wr.heap.size, 0, none⟩ : Addr).add j) = some u) := fun j u hu => by rw [add_none, Nat.zero_add, hN1.cell]; rwa [Array.getElem?_toList] at hu
                        have hone : Hid (∀ u ∈ cur2.toList, u.oneCell' = true) := fun u hu => (Array.all_eq_true_iff_forall_mem.1 hrow9.2.2.1) u (Array.mem_toList_iff.1 hu)
                        have hnw : Hid (∀ u ∈ cur2.toList, nw u = true) := noU32_all hrow9.2.1
                        have hl32 : Hid (cur2.toList.length = 1 * 32) := by show cur2.toList.length = 1 * 32; rw [Array.length_toList, hrow9.1]
                        have hsz1 : w.heap.size ≤ X1.heap.size := Nat.le_trans hbk.size hbX1.size
                        have HCB := Lib.hid hbk
                        have HRW := Lib.hid hrow9
                        have HBK := Lib.hid hBk
                        have hLD : Hid (cur2.size = 32) := hrow9.1
                        have HX1 := Lib.hid hX1
                        clear hBk hrow hIk hzk hbk hrow9 hN1 hX1 hy0
                        have HB1 := Lib.hid hbX1
                        have hwX : wr.heap.size < X1.heap.size := by have := hbX1.size; rw [HX1.out]; simp
                        clear o1 o2 v1 v2 hbX1
                        go_wp2_with (first
                          | (refine wpList_load_row rfl _ _ rfl R rfl 87 cur2 (0, 0) _ HBK.out Tryz.underlying87 rfl (by rw [HINF.out, hLD.out]) ?_)
                          | (refine wpList_buildSlice rfl 86 87 1 _ rfl cur2 i0 _ Tryz.underlying86 hi0 hz0 (by rw [hz1]; omega) (by rw [hz1]; omega) (by rw [Array.toList_map]; exact build_row hLD.out hz1) ?_; rw [← HX1.out])
                          | (at_builtin; refine wpList_append_ev _ rfl nw (.tmp 80) (.tmp 82) 86 rfl w.heap.size 87 i0 _ 32 512 Tryz.underlying86 hi0 hz0 hz1 hz2 rfl (by omega) (.slice Ad m cd) m xs rfl P1.out ⟨wr.heap.size, 0, none⟩ 1 1 cur2.toList rfl hl32.out hnews.out hone.out (by simp only [maxLen]; omega) (by omega) hsz1 E1.out hnw.out zero_nw ?_; intro v1 w1 hown1 hg1 hev1; have hne2 := own_own_ne P1.out P2.out (by decide); have Q2 := Lib.hid (ownsRow_below (P2.out.kept hg1 hne2) (below_one w1 (.cells #[.int .i64 (k : Int)] 3))); have F2 := Lib.hid ((E2.out.other P2.out hg1 hne2).below (P2.out.kept hg1 hne2) (below_one w1 (.cells #[.int .i64 (k : Int)] 3))); have HO1 := Lib.hid hown1; have HG1 := Lib.hid hg1; have HE1 := Lib.hid hev1; have hsz2 := hg1.size; clear hown1 hg1 hev1 hne2)
                          | (at_builtin; refine wpList_append_ev _ rfl nw (.tmp 84) (.tmp 86) 59 rfl w.heap.size 3 j0 _ 1 8 Tryz.underlying59 hj0 hj1 hj2 hj3 rfl (by omega) (.slice Aa m ca) m ys rfl Q2.out ⟨w1.heap.size, 0, none⟩ 1 1 [.int .i64 (k : Int)] rfl rfl (one_news w1 3 (.int .i64 (k : Int))) (fun u hu => by rw [List.mem_singleton.1 hu]; rfl) (by simp only [maxLen]; omega) (by omega) (by simp; omega) F2.out (fun u hu => by rw [List.mem_singleton.1 hu]; rfl) zint_nw ?_; intro v2 w2 hown2 hg2 hev2; have HO2 := Lib.hid hown2; have HG2 := Lib.hid hg2; have HE2 := Lib.hid hev2; clear hown2 hg2 hev2))
                        have hdone := Lib.hid (DoneAt.more (q := fun j => y j * z) P1.out P2.out E1.out E2.out HO1.out HG1.out HE1.out HO2.out HG2.out HE2.out (HRW.out.below HB1.out) (fun l hl j hj => (hc1 l hl j hj).below HB1.out) hc2)
                        have hbend : Hid (Below w.heap.size w w2) := by
                          have b1 := HCB.out.trans (HB1.out.mono HCB.out.size)
                          have b2 := b1.grown HG1.out b1.size (fun g hg => (P1.out.lt g hg).1)
                          have b3 := b2.trans ((below_one w1 (.cells #[.int .i64 (k : Int)] 3)).mono b2.size)
                          exact b3.grown HG2.out b3.size (fun g hg => (Q2.out.lt g hg).1)
                        clear hc1 hc2
                        go_roundw
                        case rel =>
                          exact ⟨i + 1, m + 1, addAt m pl k, addAt m d fun j => y j * z, by omega, by go_num, hdone.out, hmore.out.1, hmore.out.2, hbnew.out, hbend.out⟩
                        case measure => simp [intOf]; omega
                · obtain rfl : k = 8 := by omega
                  have hsz := Lib.hid (HRED.out.none HZ.out HZK.out)
                  have hD9 := Lib.hid (hDk.high (Nat.le_refl _))
                  clear hBk hrk hDk
                  go_wp2_with fail
                  go_roundw
                  case rel => exact ⟨i + 1, m, pl, d, by omega, by go_num, hD9.out, HST.out, hsz.out, HB.out, hbk⟩
                  case measure => simp [intOf]; omega
    · obtain rfl : i = n := by omega
      have HR := Lib.hid (rank_eight HST.out HZ.out)
      go_wp2
      go_ret
      exact ⟨⟨m, rfl, HR.out⟩, hb⟩

end Go.Proofs.YtmkhfgggleplfaaGreat
