/-
  The walk of the reference's reduced: a row less a multiple of another one. Conditions: eight numbers each, of fewer than 2^33 words.
-/
import Derived.Test.YtmkhfgggleplfaaGreatRqC
import Derived.Test.YtmkhfgggleplfaaGreatIndC
import Derived.Test.YtmkhfgggleplfaaGreatR5B
import Derived.Laws.Tables
import Derived.Outline
namespace Go.Proofs.YtmkhfgggleplfaaGreat
set_option linter.unusedSimpArgs false
set_option linter.unusedVariables false
open Go.RowKit

/-- the cells of eight numbers -/
def RowV (w : World) (cs : Array Value) (q : Nat → Rat) : Prop := cs.size = 32 ∧ noU32 cs = true ∧ cs.all (·.oneCell') = true ∧ ∀ j, j < 8 → RatCells w cs.toList (j * 4) (q j)
theorem RowV.below {w w' : World} {cs : Array Value} {q : Nat → Rat} (h : RowV w cs q) (hb : Below w.heap.size w w') : RowV w' cs q := ⟨h.1, h.2.1, h.2.2.1, fun j hj => (h.2.2.2 j hj).below hb⟩
theorem RowV.only {w w' : World} {cs : Array Value} {q : Nat → Rat} {g : Nat} {t : TypeId} {ds : Array Value} (h : RowV w cs q) (hb : Blk w g t ds) (hn : noU32 ds = true) (ho : Only g w w') : RowV w' cs q := ⟨h.1, h.2.1, h.2.2.1, fun j hj => (h.2.2.2 j hj).only hb hn ho⟩
theorem RowV.congr {w : World} {cs : Array Value} {q q' : Nat → Rat} (h : RowV w cs q) (e : ∀ j, j < 8 → q j = q' j) : RowV w cs q' := ⟨h.1, h.2.1, h.2.2.1, fun j hj => e j hj ▸ h.2.2.2 j hj⟩
/-- the number at a place of a block -/
theorem RowV.get {w : World} {g : Nat} {t : TypeId} {cs : Array Value} {q : Nat → Rat} (h : RowV w cs q) (hb : Blk w g t cs) {j : Nat} (hj : j < 8) : ∃ a b c d, w.cell? ⟨g, j * 4, none⟩ = some a ∧ w.cell? ⟨g, j * 4 + 1, none⟩ = some b ∧ w.cell? ⟨g, j * 4 + 2, none⟩ = some c ∧ w.cell? ⟨g, j * 4 + 3, none⟩ = some d ∧
    RatV w (.agg #[a, b, c, d]) (q j) := by
  obtain ⟨a, b, c, d, k1, k2, k3, k4, k5⟩ := h.2.2.2 j hj
  have k : ∀ i u, cs.toList[i]? = some u → w.cell? ⟨g, i, none⟩ = some u := fun i u hu => by rw [hb.cell]; rwa [Array.getElem?_toList] at hu
  exact ⟨a, b, c, d, k _ _ k1, k _ _ k2, k _ _ k3, k _ _ k4, k5⟩
theorem RatV.one4 {w : World} {a b c d : Value} {q : Rat} (h : RatV w (.agg #[a, b, c, d]) q) : a.oneCell' = true ∧ b.oneCell' = true ∧ c.oneCell' = true ∧ d.oneCell' = true := by
  obtain ⟨A, n, c', B, m, d', e, -, -⟩ := h
  simp only [Value.agg.injEq, Array.mk.injEq, List.cons.injEq] at e
  obtain ⟨rfl, rfl, rfl, rfl, -⟩ := e
  exact ⟨rfl, rfl, rfl, rfl⟩
theorem all_setP {φ : Value → Bool} {l : List Value} {i : Nat} {a : Value} (hl : ∀ u ∈ l, φ u = true) (ha : φ a = true) : ∀ u ∈ l.set i a, φ u = true := fun u hu => by
  rcases List.mem_or_eq_of_mem_set hu with hu | rfl
  · exact hl u hu
  · exact ha
/-- a number is put at a place -/
theorem RowV.put {w : World} {g : Nat} {t : TypeId} {cs : Array Value} {q : Nat → Rat} (h : RowV w cs q) (hB : Blk w g t cs) {j : Nat} (hj : j < 8) {a b c d : Value} {y : Rat} (hv : RatV w (.agg #[a, b, c, d]) y) :
    Blk (put4 w g (j * 4) a b c d) g t (putL cs.toList (j * 4) a b c d).toArray ∧ RowV (put4 w g (j * 4) a b c d) (putL cs.toList (j * 4) a b c d).toArray (fun i => if i = j then y else q i) := by
  obtain ⟨h2, h3, h5, h4⟩ := h
  have ho := put4_only w g (j * 4) a b c d
  have hl : cs.toList.length = 32 := by simpa using h2
  obtain ⟨n1, n2, n3, n4⟩ := hv.nw4
  obtain ⟨o1, o2, o3, o4⟩ := hv.one4
  refine ⟨hB.put4 (j * 4) a b c d, by rw [List.size_toArray, putL_len]; exact hl, noU32_of ?_, ?_, ?_⟩
  · exact all_set (all_set (all_set (all_set (noU32_all h3) n1) n2) n3) n4
  · rw [Array.all_eq_true_iff_forall_mem]
    intro u hu
    have h5' : ∀ u ∈ cs.toList, u.oneCell' = true := fun u hu => (Array.all_eq_true_iff_forall_mem.1 h5) u (by simpa using hu)
    exact all_setP (all_setP (all_setP (all_setP h5' o1) o2) o3) o4 u (Array.mem_toList_iff.2 hu)
  · intro i hi
    show RatCells _ _ _ (if i = j then y else q i)
    by_cases e : i = j
    · subst e
      rw [if_pos rfl]
      obtain ⟨k1, k2, k3, k4⟩ := putL_at (l := cs.toList) (j := i * 4) (a := a) (b := b) (c := c) (d := d) (by omega)
      exact ⟨a, b, c, d, k1, k2, k3, k4, hv.only hB h3 ho⟩
    · rw [if_neg e]
      obtain ⟨a', b', c', d', k1, k2, k3, k4, k5⟩ := (h4 i hi).only hB h3 ho
      refine ⟨a', b', c', d', ?_, ?_, ?_, ?_, k5⟩
      · exact (putL_far (by omega)).trans k1
      · exact (putL_far (by omega)).trans k2
      · exact (putL_far (by omega)).trans k3
      · exact (putL_far (by omega)).trans k4

abbrev zero32 : Array Value := #[.bool false, .slice none 0 0, .bool false, .slice none 0 0, .bool false, .slice none 0 0, .bool false, .slice none 0 0, .bool false, .slice none 0 0, .bool false, .slice none 0 0, .bool false, .slice none 0 0, .bool false, .slice none 0 0,
  .bool false, .slice none 0 0, .bool false, .slice none 0 0, .bool false, .slice none 0 0, .bool false, .slice none 0 0, .bool false, .slice none 0 0, .bool false, .slice none 0 0, .bool false, .slice none 0 0, .bool false, .slice none 0 0]
theorem setRow_only (w : World) (g : Nat) (cs : Array Value) : Only g w (w.setRow g cs) := ⟨rfl, rfl, rfl, by simp [World.setRow], fun k hk hne => setRow_other w g k cs hne⟩
theorem red_mix (x y : Nat → Rat) (k n : Nat) : ∀ j, j < 8 → (if j = n then x n - x k * y n else if j < n then x j - x k * y j else x j) = if j < n + 1 then x j - x k * y j else x j := fun j _ => by
  rcases Nat.lt_trichotomy j n with h | h | h
  · rw [if_neg (by omega), if_pos h, if_pos (by omega)]
  · subst h; rw [if_pos rfl, if_pos (by omega)]
  · rw [if_neg (by omega), if_neg (by omega), if_neg (by omega)]

set_option maxHeartbeats 2000000 in
set_option maxRecDepth 100000 in
theorem rreduced_any {w : World} {cs ds : Array Value} {x y : Nat → Rat} {k K D : Nat} (hx : RowV w cs x) (hy : RowV w ds y) (hk : k < 8) (bx : ∀ j, j < 8 → RBd K (x j)) (bY : ∀ j, j < 8 → RBd D (y j)) (hK : K ≤ 1000000000) (hD : D ≤ 1000000000) :
    Calls Tryz.prog 60 #[.agg cs, .agg ds, .int .i64 k] w fun e w' => ∃ es, e = .returned (.agg es) ∧ RowV w' es (fun j => x j - x k * y j) ∧ Below w.heap.size w w' := by
  have hinf : (Tryz.prog.info? 87).map (·.size) = some 32 := by kernel_rfl
  go_enter Tryz.func60, Tryz.ntmps60
  go_upto_region 1 with fail
  obtain ⟨W0, hW0, hbl, hB1, hB2, hR, hsz⟩ := boxes3 w 87 87 87 cs ds zero32
  rw [← hW0]
  clear hW0
  replace hx := hx.below hbl
  replace hy := hy.below hbl
  obtain ⟨x1, x2, x3, x4, q1, q2, q3, q4, hxk⟩ := hx.get hB1 hk
  obtain ⟨a1, a2, a3, a4, a5, a6, e, -, -⟩ := id hxk
  simp only [Value.agg.injEq, Array.mk.injEq, List.cons.injEq] at e
  obtain ⟨rfl, rfl, rfl, rfl, -⟩ := e
  have hs2 : w.heap.size + 1 + 1 < W0.heap.size := by omega
  clear hsz
  go_wp2_with fail
  obtain ⟨W1, hW1, hb1, hC, hsz1⟩ := boxes1 W0 77 #[.bool (ngb (x k).num), .slice a1 a2 a3, .bool (ngb ((x k).den : Int)), .slice a4 a5 a6]
  rw [← hW1]
  clear hW1 q1 q2 q3 q4
  replace hx := hx.below hb1
  replace hy := hy.below hb1
  replace hxk := hxk.below hb1
  replace hB1 := hB1.below hb1 (by omega)
  replace hB2 := hB2.below hb1 (by omega)
  replace hR := hR.below hb1 (by omega)
  replace hbl := hbl.trans (hb1.mono hbl.size)
  obtain ⟨C, hCe⟩ : ∃ C, C = W0.heap.size := ⟨_, rfl⟩
  rw [← hCe] at hC ⊢
  have hCb : w.heap.size + 1 + 1 < C := by rw [hCe]; exact hs2
  clear hCe hs2 hsz1
  have HX := Lib.hid hx
  have HY := Lib.hid hy
  clear hx hy
  go_loopw [8] (fun nv wk => ∃ n cur, n ≤ 8 ∧ nv = .int .i64 (n : Nat) ∧ Blk wk w.heap.size 87 cur ∧ RowV wk cur (fun j => if j < n then x j - x k * y j else x j) ∧ Only w.heap.size W1 wk) (fun n _ => 8 - (intOf n).toNat)
  case atStart => exact ⟨0, cs, by omega, rfl, hB1, HX.out.congr (fun j hj => by simp), Only.refl _ _⟩
  case round =>
    obtain ⟨n, cur, hn, rfl, hBk, hrow, honly⟩ := hrel
    by_cases hn8 : n < 8
    · have hni : (n : Int) < 8 := by omega
      obtain ⟨x1', x2', x3', x4', q1, q2, q3, q4, hxn⟩ := hrow.get hBk hn8
      rw [if_neg (Nat.lt_irrefl n)] at hxn
      have hB2' := hB2.only honly (by omega)
      have hRy := HY.out.only hB1 HX.out.2.1 honly
      obtain ⟨y1, y2, y3, y4, s1, s2, s3, s4, hyn⟩ := hRy.get hB2' hn8
      have hC' := hC.only honly (by omega)
      obtain ⟨⟨d0, d1, d2, d3⟩, -, lt3⟩ := hC'.four
      have hcV := hxk.only hB1 HX.out.2.1 honly
      have lt1 : w.heap.size + 1 < wr.heap.size := hB2'.lt
      have lt2 : w.heap.size < wr.heap.size := hBk.lt
      have bC := (bx k hk).mono (show K ≤ K + D by omega)
      have bY' := (bY n hn8).mono (show D ≤ K + D by omega)
      have bX := bx n hn8
      have bM := RBd.mul bC bY'
      have HROW := Lib.hid hrow
      have HBK := Lib.hid hBk
      clear hrow hBk hRy hC' hB2'
      go_upto_region 5 with fail
      go_region_with
        (first
          | (go_at_call 63; refine (rq_mul (RatV.below hcV ?_) (RatV.below hyn ?_) bC bY' (by omega)).mono ?_; (focus ((repeat' (first | with_reducible exact Below.refl _ _ | with_reducible refine Below.drew ?_)))); (focus ((repeat' (first | with_reducible exact Below.refl _ _ | with_reducible refine Below.drew ?_)))); rintro e w6 ⟨v6, rfl, hv6, hb6⟩; have hC1 : Below wr.heap.size wr w6 := (by refine below_step ?_ hb6; ((repeat' (first | with_reducible exact Below.refl _ _ | with_reducible refine Below.drew ?_)))); have m0 := (hC1.cell (p := ⟨w.heap.size, n * 4, none⟩) lt2).trans q1; have m1 := (hC1.cell (p := ⟨w.heap.size, n * 4 + 1, none⟩) lt2).trans q2; have m2 := (hC1.cell (p := ⟨w.heap.size, n * 4 + 2, none⟩) lt2).trans q3; have m3 := (hC1.cell (p := ⟨w.heap.size, n * 4 + 3, none⟩) lt2).trans q4)
          | (go_at_call 75; refine (rq_sub (RatV.below hxn ?_) (RatV.below hv6 ?_) (bX.mono (show K ≤ K + D + (K + D) by omega)) bM (by omega)).mono ?_; (focus ((repeat' (first | with_reducible exact Below.refl _ _ | with_reducible exact hC1 | with_reducible refine Below.drew ?_)))); (focus ((repeat' (first | with_reducible exact Below.refl _ _ | with_reducible refine Below.drew ?_)))); rintro e w7 ⟨v7, rfl, hv7, hb7⟩; have hC2 : Below wr.heap.size wr w7 := (by refine below_step ?_ hb7; ((repeat' (first | with_reducible exact Below.refl _ _ | with_reducible exact hC1 | with_reducible refine Below.drew ?_)))); have hv7' := hv7; obtain ⟨A5, n5, c5, A6, n6, c6, rfl, -, -⟩ := hv7'; have hblk7 := HBK.out.below hC2 lt2; have hrow7 := HROW.out.below hC2; have fr0 := hblk7.frozen (n * 4); have fr1 := hblk7.frozen (n * 4 + 1); have fr2 := hblk7.frozen (n * 4 + 2); have fr3 := hblk7.frozen (n * 4 + 3); have e0 := (hC2.cell (p := ⟨w.heap.size, n * 4, none⟩) lt2).trans q1; have e1 := (hC2.cell (p := ⟨w.heap.size, n * 4 + 1, none⟩) lt2).trans q2; have e2 := (hC2.cell (p := ⟨w.heap.size, n * 4 + 2, none⟩) lt2).trans q3; have e3 := (hC2.cell (p := ⟨w.heap.size, n * 4 + 3, none⟩) lt2).trans q4))
      all_goals
        go_wp2_with fail
        go_roundw
      all_goals first
        | (have hp := hrow7.put hblk7 hn8 hv7; exact ⟨n + 1, _, by omega, by go_num, hp.1, hp.2.congr (red_mix x y k n), honly.trans ((Only.of_below hC2).trans (put4_only w7 w.heap.size (n * 4) _ _ _ _))⟩)
        | (simp [intOf]; omega)
    · obtain rfl : n = 8 := by omega
      have hrow8 : RowV wr cur (fun j => x j - x k * y j) := hrow.congr (fun j hj => if_pos hj)
      have hR8 := hR.only honly (by omega)
      have HR8 := Lib.hid hR8
      have HBK := Lib.hid hBk
      clear hR8 hBk
      go_wp2_with (first
        | (refine wpList_load_row rfl _ _ rfl w.heap.size rfl 87 cur (0, 0) _ HBK.out Tryz.underlying87 rfl (by rw [hinf, hrow8.1]) ?_)
        | (refine wpList_store_row rfl _ _ _ rfl (w.heap.size + 1 + 1) cur rfl rfl 87 zero32 HR8.out (by rw [hinf, hrow8.1]) (by rw [hrow8.1]; rfl) hrow8.2.2.1 ?_))
      have hO : Only (w.heap.size + 1 + 1) wr (wr.setRow (w.heap.size + 1 + 1) cur) := setRow_only _ _ _
      exact bodyPost_ret (v := .agg cur) (results_cell_row rfl _ _ (w.heap.size + 1 + 1) 87 cur (0, 0) _ rfl (setRow_heap wr _ _ _ 87 _ HR8.out) Tryz.underlying87 rfl (by rw [hinf, hrow8.1])) rfl
        ⟨cur, rfl, hrow8.only HR8.out rfl hO, (hbl.trans (honly.below (Nat.le_refl _) hbl.size)).trans (hO.below (by omega) (Nat.le_trans hbl.size honly.size))⟩

end Go.Proofs.YtmkhfgggleplfaaGreat
