/-
  The walk of Same. Conditions: rows of type int.
  The walk of Shuffle: a permutation. Conditions: none.
  The walk of Permute. Conditions: entries of the list of numbers are of type int.
  Plain laws of full and permuted orders.
-/
import Derived.Test.YtmkhfgggleplfaaGreatLawB
import Derived.Test.YtmkhfgggleplfaaGreatLawD
import Derived.Test.YtmkhfgggleplfaaGreatMadeW
import Derived.StillTailTactics
namespace Go.Proofs.YtmkhfgggleplfaaGreat
set_option linter.unusedSimpArgs false
set_option linter.unusedVariables false
open Go.RowKit

set_option maxHeartbeats 1000000 in
set_option maxRecDepth 100000 in
theorem same_any {w : World} {v v' : Value} {n n' : Nat} {d d' : Nat → Nat → Int} (ho : OrdV w v n d) (ho' : OrdV w v' n' d') (hd : ∀ i, i < n → In64 (d i)) (hd' : ∀ i, i < n' → In64 (d' i)) :
    Calls Tryz.prog 15 #[v, v'] w fun e w' => Says (n = n' ∧ ∀ i, i < n → ∀ c, c < 8 → d i c = d' i c) e ∧ Below w.heap.size w w' := by
  obtain ⟨A, c, rfl, hnc, hcm, hA⟩ := ho
  obtain ⟨A', c', rfl, hnc', hcm', hA'⟩ := ho'
  by_cases hn : n = n'
  · subst hn
    go_enter Tryz.func15, Tryz.ntmps15
    go_wp2_with fail
    go_loopw [5] (fun iv wr => ∃ i : Nat, i ≤ n ∧ iv = .int .i64 i ∧ (∀ j, j < i → ∀ c, c < 8 → d j c = d' j c) ∧ Below w.heap.size w wr) (fun i _ => n - (intOf i).toNat)
    case atStart => exact ⟨0, Nat.zero_le _, rfl, fun j hj => absurd hj (by omega), Below.refl _ _⟩
    case round =>
      obtain ⟨i, hi, rfl, hz, hbw⟩ := hrel
      by_cases hlt : i < n
      · obtain ⟨bk, off, rfl, hbl, hcell⟩ := hA (by omega)
        obtain ⟨bk', off', rfl, hbl', hcell'⟩ := hA' (by omega)
        obtain ⟨c0, c1, c2, c3, c4, c5, c6, c7⟩ := OrdV.cells hcell hlt wr hbw hbl
        obtain ⟨d0, d1, d2, d3, d4, d5, d6, d7⟩ := OrdV.cells hcell' hlt wr hbw hbl'
        have heq := eq_row (hd i hlt) (hd' i hlt)
        have hiff := same8_iff (d i) (d' i)
        have HZ := Lib.hid hz
        clear hz hA hcell hA' hcell'
        cases hs : same8 (d i) (d' i)
        · rw [hs] at heq hiff
          have HN : Hid (¬ ∀ c, c < 8 → d i c = d' i c) := fun h => by have := hiff.2 h; cases this
          clear hs hiff
          go_wp2_with fail
          go_quiet (fail)
          go_wp2
          go_ret
          exact ⟨⟨false, rfl, ⟨fun h => (by cases h), fun ⟨_, h⟩ => absurd (h i hlt) HN.out⟩⟩, hbw.drewN _⟩
        · rw [hs] at heq hiff
          have HN : Hid (∀ c, c < 8 → d i c = d' i c) := hiff.1 rfl
          clear hs hiff
          go_wp2_with fail
          go_quiet (fail)
          go_wp2_with fail
          go_roundw
          case rel =>
            refine ⟨i + 1, by omega, by go_num, fun j hj => ?_, hbw.drewN _⟩
            by_cases h : j < i
            · exact HZ.out j h
            · rw [show j = i from by omega]; exact HN.out
          case measure => simp [intOf]; omega
      · obtain rfl : i = n := by omega
        have HZ := Lib.hid hz
        clear hz
        go_wp2
        go_ret
        exact ⟨⟨true, rfl, ⟨fun _ => ⟨by trivial, HZ.out⟩, fun _ => rfl⟩⟩, hbw⟩
  · have hni : ((n : Int) == (n' : Int)) = false := by simp; omega
    have hni2 : ((n : Int) != (n' : Int)) = true := by simp; omega
    have HN := Lib.hid hn
    clear hn
    go_enter Tryz.func15, Tryz.ntmps15
    go_wp2
    go_ret
    exact ⟨⟨false, rfl, ⟨fun h => (by cases h), fun ⟨h, _⟩ => absurd h HN.out⟩⟩, Below.refl _ _⟩

/-- a permutation of the variables -/
def PermP (p : Nat → Nat) : Prop := (∀ k, k < 8 → p k < 8) ∧ ∀ i j, i < 8 → j < 8 → p i = p j → i = j
def permI (p : Nat → Nat) : Nat → Int := fun k => (p k : Int)
end Go.Proofs.YtmkhfgggleplfaaGreat
namespace Go.Proofs.YtmkhfgggleplfaaGreat
open Go.RowKit

def icells (L : List Nat) : List Value := L.map fun d : Nat => Value.int .i64 (d : Int)
theorem icells_len (L : List Nat) : (icells L).length = L.length := by simp [icells]
theorem icells_one (L : List Nat) : ∀ u ∈ icells L, u.oneCell' = true := fun u hu => by
  obtain ⟨d, _, rfl⟩ := List.mem_map.1 hu
  rfl
theorem Reads.take {w : World} {B n : Nat} {A : Option Addr} {xs : List Value} (h : Reads w B 1 A n xs) {k : Nat} (hk : k ≤ n) : Reads w B 1 A k (xs.take k) := by
  refine ⟨by rw [List.length_take, h.1]; omega, fun h0 => ?_⟩
  obtain ⟨ad, e, hb, hc⟩ := h.2 (by omega)
  exact ⟨ad, e, hb, fun j u hu => hc j u (by
    rw [List.getElem?_take] at hu
    split at hu
    · exact hu
    · cases hu)⟩
theorem info_int : (Tryz.prog.info? 3).map (fun i => (i.zero, i.size, i.bytes)) = some (some (.int .i64 0), 1, 8) := by kernel_rfl
def listP (O : List Nat) : Nat → Nat := fun k => O.getD k 0
theorem perm_of {O : List Nat} (h : O.Perm (List.range 8)) : PermP (listP O) := by
  have hl : O.length = 8 := by rw [h.length_eq]; simp
  have hn : O.Nodup := h.nodup_iff.2 List.nodup_range
  refine ⟨fun k hk => ?_, fun i j hi hj e => ?_⟩
  · have : O[k] ∈ O := List.getElem_mem (by omega)
    have h1 := List.mem_range.1 (h.mem_iff.1 this)
    unfold listP
    rw [List.getD_eq_getElem?_getD, List.getElem?_eq_getElem (by omega)]
    exact h1
  · unfold listP at e
    rw [List.getD_eq_getElem?_getD, List.getD_eq_getElem?_getD, List.getElem?_eq_getElem (by omega), List.getElem?_eq_getElem (by omega)] at e
    exact (List.getElem_inj hn).1 e
theorem getD_some {L : List Nat} {k : Nat} (hk : k < L.length) : L[k]? = some (L.getD k 0) := by
  rw [List.getD_eq_getElem?_getD, List.getElem?_eq_getElem hk]; rfl
theorem perm_step {L O : List Nat} {k : Nat} (hk : k < L.length) (h : (L ++ O).Perm (List.range 8)) : ((L.take k ++ L.drop (k + 1)) ++ (O ++ [L.getD k 0])).Perm (List.range 8) := by
  have hg : L.getD k 0 = L[k] := by rw [List.getD_eq_getElem?_getD, List.getElem?_eq_getElem hk]; rfl
  rw [hg]
  refine List.Perm.trans ?_ h
  have e : L = L.take k ++ L[k] :: L.drop (k + 1) := by rw [← List.drop_eq_getElem_cons hk, List.take_append_drop]
  conv => rhs; rw [e]
  rw [List.perm_iff_count]
  intro a
  simp only [List.count_append, List.count_cons, List.count_nil]
  omega
/-- the rounds of Shuffle: what is left, the number, what is taken -/
def shufS (n : Nat) : Nat → List Nat × Nat × List Nat
  | 0 => (List.range 8, n, [])
  | i + 1 => ((shufS n i).1.take ((shufS n i).2.1 % (shufS n i).1.length) ++ (shufS n i).1.drop ((shufS n i).2.1 % (shufS n i).1.length + 1), (shufS n i).2.1 / (shufS n i).1.length, (shufS n i).2.2 ++ [(shufS n i).1.getD ((shufS n i).2.1 % (shufS n i).1.length) 0])
def shufP (n : Nat) : Nat → Nat := listP (shufS n 8).2.2
theorem shufS_step {n i m t d : Nat} {z : Int} {L O : List Nat} (h : shufS n i = (L, z.toNat, O)) (hz : 0 ≤ z) (hL : L.length = m) (ht : z % (m : Int) = (t : Int)) (hd : d = L.getD t 0) :
    shufS n (i + 1) = (L.take t ++ L.drop (t + 1), (z / (m : Int)).toNat, O ++ [d]) := by
  obtain ⟨y, rfl⟩ : ∃ y : Nat, z = (y : Int) := ⟨z.toNat, by omega⟩
  have e1 : y % m = t := by have h9 : ((y % m : Nat) : Int) = (t : Int) := by rw [Int.natCast_emod]; exact ht
                            omega
  have e2 : ((y : Int) / (m : Int)).toNat = y / m := by rw [← Int.natCast_ediv]; rfl
  unfold shufS
  rw [h]
  simp only [Int.toNat_natCast, hL, e1, e2, hd]
/-- what a round of Shuffle leaves -/
theorem shuffle_step {w W1 w1 w2 : World} {i m t d : Nat} {L O : List Nat} {v1 v2 : Value} (hperm : (L ++ O).Perm (List.range 8)) (hL : L.length = m) (hOl : O.length = i) (hd : d = L.getD t 0) (ht : t < m)
    (hO1 : Blk W1 (w.heap.size + 1 + 1) 35 (vec8 (permI (listP (O ++ [d]))))) (hR1 : Blk W1 w.heap.size 35 (vec8 fun _ => 0)) (hb1 : Below w.heap.size w W1) (hs1 : w.heap.size ≤ W1.heap.size)
    (hg1 : (W1.alloc (.cells #[] 3)).drew.grownBy w1 (some W1.heap.size)) (hat1 : v1.ownBlock = some W1.heap.size ∨ v1.ownBlock = some ((W1.alloc (.cells #[] 3)).drew).heap.size)
    (hown2 : w2.ownsRow w.heap.size 3 1 v2 (0 + t + (m - (t + 1))) ([] ++ (icells L).take t ++ (icells L).drop (t + 1))) (hg2 : w1.grownBy w2 v1.ownBlock) (hat2 : v2.ownBlock = v1.ownBlock ∨ v2.ownBlock = some w1.heap.size) :
    (L.take t ++ L.drop (t + 1)).length = m - 1 ∧ (O ++ [d]).length = i + 1 ∧ ((L.take t ++ L.drop (t + 1)) ++ (O ++ [d])).Perm (List.range 8) ∧
    (∃ g c, v2 = .slice (some ⟨g, 0, none⟩) (m - 1) c ∧ g ≠ w.heap.size ∧ g ≠ w.heap.size + 1 + 1) ∧ w2.ownsRow w.heap.size 3 1 v2 (m - 1) (icells (L.take t ++ L.drop (t + 1))) ∧
    Blk w2 w.heap.size 35 (vec8 fun _ => 0) ∧ Blk w2 (w.heap.size + 1 + 1) 35 (vec8 (permI (listP (O ++ [d])))) ∧ Below w.heap.size w w2 := by
  have hsz : W1.heap.size < w1.heap.size := by
    have := hg1.size
    have e : ((W1.alloc (.cells #[] 3)).drew).heap.size = W1.heap.size + 1 := by show (W1.alloc (.cells #[] 3)).heap.size = _; simp
    omega
  have e0 : ((W1.alloc (.cells #[] 3)).drew).heap.size = W1.heap.size + 1 := by show (W1.alloc (.cells #[] 3)).heap.size = _; simp
  have hl2 := hO1.lt
  have v1b : ∀ b, v1.ownBlock = some b → W1.heap.size ≤ b := fun b hb => by
    rcases hat1 with h | h
    · rw [h] at hb; injection hb with hb; omega
    · rw [h, e0] at hb; injection hb with hb; omega
  have keep : ∀ {b : Nat} {t' : TypeId} {cs : Array Value}, Blk W1 b t' cs → Blk w2 b t' cs := fun {b t' cs} h => by
    have h1 : Blk w1 b t' cs := ((h.alloc _).drew).grown hg1 (fun e => by injection e with e; have := h.lt; omega)
    exact h1.grown hg2 (fun e => by have := v1b b e.symm; have := h.lt; omega)
  have n1 : 0 + t + (m - (t + 1)) = m - 1 := by omega
  have x1 : [] ++ (icells L).take t ++ (icells L).drop (t + 1) = icells (L.take t ++ L.drop (t + 1)) := by unfold icells; rw [List.map_append, List.map_take, List.map_drop]; rfl
  rw [n1, x1] at hown2
  refine ⟨by simp; omega, by simp; omega, by rw [hd]; exact perm_step (by omega) hperm, ?_, hown2, keep hR1, keep hO1, ?_⟩
  · have hob : ∃ b, v2.ownBlock = some b ∧ W1.heap.size ≤ b := by
      rcases hat2 with h | h
      · rcases hat1 with h' | h'
        · exact ⟨_, h.trans h', Nat.le_refl _⟩
        · exact ⟨_, h.trans h', by omega⟩
      · exact ⟨_, h, by omega⟩
    obtain ⟨b, hb, hb'⟩ := hob
    rcases hown2.2 with ⟨e, _⟩ | ⟨g, cap, cur, e, _⟩
    · rw [e] at hb; cases hb
    · subst e
      have : g = b := by injection hb
      exact ⟨g, cap, rfl, by omega, by omega⟩
  · exact ((hb1.alloc hs1 _).drewN 1).grown hg1 (by rw [show ((W1.alloc (.cells #[] 3)).drewN 1).heap.size = W1.heap.size + 1 from e0]; omega) (fun g h => by injection h with h; omega) |>.grown hg2 (by omega) (fun g h => by have := v1b g h; omega)
set_option maxHeartbeats 2000000 in
set_option maxRecDepth 100000 in
theorem shuffle_any {w : World} (n : Nat) (hn : n < 65536) :
    Calls Tryz.prog 10 #[.int .u16 n] w fun e w' => (e = .returned (.agg (vec8 (permI (shufP n)))) ∧ (shufS n 8).2.2.Perm (List.range 8)) ∧ Below w.heap.size w w' := by
  obtain ⟨i0, hI0, hI1, hI2, hI3⟩ := info_parts info_int
  go_enter Tryz.func10, Tryz.ntmps10
  go_wp2_with fail
  obtain ⟨W0, hW0, hbl, hR, hL, hO, hsz⟩ := boxes3 w 35 3 35 (vec8 fun _ => 0) #[.int .i64 0, .int .i64 1, .int .i64 2, .int .i64 3, .int .i64 4, .int .i64 5, .int .i64 6, .int .i64 7] (vec8 fun _ => 0)
  rw [← hW0]
  have hown0 : W0.ownsRow w.heap.size 3 1 (.slice (some ⟨w.heap.size + 1, 0, none⟩) 8 8) 8 (icells (List.range 8)) :=
    ⟨by simp [icells], .inr ⟨w.heap.size + 1, 8, _, rfl, by omega, hL, by omega, by simp [maxLen], by simp, rfl⟩⟩
  clear hW0 hL
  have hs0 : w.heap.size + 1 + 1 < W0.heap.size := by omega
  clear hsz
  go_loopw [3, 5, 6] (fun lv kv iv wr => ∃ (i m : Nat) (z : Int) (L O : List Nat), i + m = 8 ∧ shufS n i = (L, z.toNat, O) ∧ iv = .int .i64 i ∧ kv = .int .i64 z ∧ 0 ≤ z ∧ z ≤ 65535 ∧ L.length = m ∧ O.length = i ∧ (L ++ O).Perm (List.range 8) ∧
    (∃ g c, lv = .slice (some ⟨g, 0, none⟩) m c ∧ g ≠ w.heap.size ∧ g ≠ w.heap.size + 1 + 1) ∧ wr.ownsRow w.heap.size 3 1 lv m (icells L) ∧ Blk wr w.heap.size 35 (vec8 fun _ => 0) ∧ Blk wr (w.heap.size + 1 + 1) 35 (vec8 (permI (listP O))) ∧ Below w.heap.size w wr) (fun _ _ i _ => 8 - (intOf i).toNat)
  case atStart => exact ⟨0, 8, n, List.range 8, [], rfl, rfl, rfl, rfl, by omega, by omega, by simp, rfl, by simp, ⟨_, _, rfl, by omega, by omega⟩, hown0, hR, hO, hbl⟩
  case round =>
    obtain ⟨i, m, z, L, O, him, hst, rfl, rfl, hz0, hz1, hLl, hOl, hperm, ⟨g, c, rfl, hg1, hg2⟩, hown, hR, hO, hb⟩ := hrel
    have HST := Lib.hid hst
    clear hst
    by_cases hi8 : i < 8
    · have hii : (i : Int) < 8 := by omega
      have hi0 : (0 : Int) ≤ (i : Int) := by omega
      have hm0 : (0 : Int) < (m : Int) := by omega
      obtain ⟨t, ht, htm⟩ : ∃ t : Nat, z % (m : Int) = (t : Int) ∧ t < m := ⟨(z % (m : Int)).toNat, by have := Int.emod_nonneg z (show (m : Int) ≠ 0 by omega); omega, by have := Int.emod_lt_of_pos z hm0; have := Int.emod_nonneg z (show (m : Int) ≠ 0 by omega); omega⟩
      have hq0 : 0 ≤ z / (m : Int) := Int.ediv_nonneg hz0 (by omega)
      have hq1 : z / (m : Int) ≤ z := Int.ediv_le_self _ hz0
      have hti : (t : Int) < (m : Int) := by omega
      have ht0 : (0 : Int) ≤ (t : Int) := by omega
      have hcell : wr.cell? ⟨g, t, none⟩ = some (.int .i64 ((L.getD t 0 : Nat) : Int)) := by
        have := hown.cells (g := g) rfl t (.int .i64 ((L.getD t 0 : Nat) : Int)) (by unfold icells; rw [List.getElem?_map, getD_some (by omega)]; rfl)
        rwa [add_none, Nat.zero_add] at this
      have co := (hO.cell i).trans (vec8_get _ hi8)
      have cf := hO.frozen i
      obtain ⟨d, hd⟩ : ∃ d, d = L.getD t 0 := ⟨_, rfl⟩
      rw [← hd] at hcell
      have HD := Lib.hid hd
      have HT := Lib.hid ht
      have HP := Lib.hid hperm
      have HOWN := Lib.hid hown
      have HR := Lib.hid hR
      have HO := Lib.hid hO
      have HL := Lib.hid hLl
      have HOl := Lib.hid hOl
      clear hd hperm hown hR hO hLl hOl
      go_upto_region 8 with fail
      have hon : Only (w.heap.size + 1 + 1) wr (wr.setCell ⟨w.heap.size + 1 + 1, i, none⟩ (.int .i64 ((d : Nat) : Int))) := Only.setCell (p := ⟨w.heap.size + 1 + 1, i, none⟩) (Only.refl _ _) rfl _
      have hown1 := HOWN.out.kept (row := some (w.heap.size + 1 + 1)) ⟨hon.os, hon.tape, hon.output, hon.size, fun k hk hne => hon.block k hk (fun e => hne (by rw [e]))⟩ (.inr (by simp [Value.ownBlock]; exact hg2))
      have hR1 := HR.out.far (p := ⟨w.heap.size + 1 + 1, i, none⟩) (by show w.heap.size ≠ w.heap.size + 1 + 1; omega) (.int .i64 ((d : Nat) : Int))
      have hO1 : Blk (wr.setCell ⟨w.heap.size + 1 + 1, i, none⟩ (.int .i64 ((d : Nat) : Int))) (w.heap.size + 1 + 1) 35 (vec8 (permI (listP (O ++ [d])))) := by
        have := HO.out.set8 hi8 ((d : Nat) : Int)
        rwa [vec8_congr (h := permI (listP (O ++ [d])))] at this
        intro j hj
        have hl := HOl.out
        unfold permI listP
        by_cases e : j = i
        · subst e
          rw [if_pos rfl, List.getD_eq_getElem?_getD, List.getElem?_append_right (by omega), hl, Nat.sub_self]; rfl
        · rw [if_neg e, List.getD_eq_getElem?_getD, List.getD_eq_getElem?_getD]
          rcases Nat.lt_or_ge j i with h | h
          · rw [List.getElem?_append_left (by omega)]
          · rw [List.getElem?_append_right (by omega), List.getElem?_eq_none (show O.length ≤ j by omega), List.getElem?_eq_none (by simp; omega)]
      have hb1 : Below w.heap.size w (wr.setCell ⟨w.heap.size + 1 + 1, i, none⟩ (.int .i64 ((d : Nat) : Int))) := hb.setCell (by show w.heap.size ≤ w.heap.size + 1 + 1; omega) _
      clear hon co cf hcell HOWN HR HO hb
      generalize wr.setCell ⟨w.heap.size + 1 + 1, i, none⟩ (.int .i64 ((d : Nat) : Int)) = W1 at *
      have hs1 := hb1.size
      have hgl : g < W1.heap.size := (hown1.lt g rfl).2
      have o1 : (W1.alloc (.cells #[] 3)).drew.ownsRow w.heap.size 3 1 (.slice (some ⟨W1.heap.size, 0, none⟩) 0 0) 0 [] := World.ownsRow_made W1 #[] 0 (by omega) (by simp [maxLen]) rfl
      have r0 : Reads (W1.alloc (.cells #[] 3)).drew W1.heap.size 1 (some ⟨g, 0, none⟩) m (icells L) := ((Reads.of_own hown1).alloc (Nat.le_refl _) _).drew
      have r1 := r0.take (show t ≤ m by omega)
      have O1 := Lib.hid o1
      have R0 := Lib.hid r0
      have R1 := Lib.hid r1
      have HN := Lib.hid hown1
      obtain ⟨hmc, hcm⟩ : m ≤ c ∧ c ≤ 9223372036854775807 := by
        obtain ⟨_, c', ec, h1, h2, _⟩ := own_slice hown1
        injection ec with _ _ ec
        omega
      have HB0 : Hid (W1.heap.size ≤ ((W1.alloc (.cells #[] 3)).drew).heap.size) := by show W1.heap.size ≤ (W1.alloc (.cells #[] 3)).heap.size; simp
      have HR0 : Hid (∀ b, (Value.slice (some ⟨W1.heap.size, 0, none⟩) 0 0).ownBlock = some b → W1.heap.size ≤ b) := fun b hb => by have h9 : some W1.heap.size = some b := hb; injection h9 with h9; omega
      clear o1 r0 r1 hown1
      have hci : (m : Int) ≤ (c : Int) := by omega
      have htc : (t : Int) ≤ (c : Int) := by omega
      have et1 : IntKind.i64.wrap ((t : Int) + 1) = (t : Int) + 1 := IntWalk.i64_in _ (by omega)
      have ht1 : (t : Int) + 1 ≤ (m : Int) := by omega
      have ht10 : (0 : Int) ≤ (t : Int) + 1 := by omega
      have htn : ((t : Int) + 1).toNat = t + 1 := by omega
      rw [ht]
      by_cases hct : c = t + 1
      · subst hct
        obtain rfl : m = t + 1 := by omega
        have htt : (t : Int) ≤ (t : Int) + 1 := by omega
        have hq0' : 0 ≤ z / ((t : Int) + 1) := by have := hq0; rwa [Int.natCast_add] at this
        have hq1' : z / ((t : Int) + 1) ≤ z := by have := hq1; rwa [Int.natCast_add] at this
        go_region_law (first
          | (refine step_append_any _ rfl (.tmp 30) (.tmp 33) 59 rfl w.heap.size 3 i0 _ 1 8 Tryz.underlying59 hI0 hI1 hI2 hI3 rfl (by omega) _ 0 [] rfl O1.out W1.heap.size (some ⟨g, 0, none⟩) t (t + 1) ((icells L).take t) rfl R1.out (fun u hu => icells_one L u (List.mem_of_mem_take hu)) (by simp only [maxLen]; omega) (by omega) (by simp; omega) ?_; intro v1 w1 hown1 hg1 hat1; have O2 := Lib.hid hown1; have G1 : Hid ((W1.alloc (.cells #[] 3)).drew.grownBy w1 (some W1.heap.size)) := hg1; have AT1 : Hid (v1.ownBlock = some W1.heap.size ∨ v1.ownBlock = some ((W1.alloc (.cells #[] 3)).drew).heap.size) := hat1; have HB1 : Hid (w.heap.size ≤ w1.heap.size) := (by have h9 := hg1.size; have h8 := HB0.out; show w.heap.size ≤ w1.heap.size; omega); clear hown1 hg1 hat1)
          | (refine step_append_any _ rfl (.tmp 34) (.tmp 38) 59 rfl w.heap.size 3 i0 _ 1 8 Tryz.underlying59 hI0 hI1 hI2 hI3 rfl (by omega) v1 (0 + t) ([] ++ (icells L).take t) rfl O2.out W1.heap.size (some ⟨g, 0, none⟩) 0 0 [] rfl Reads.none_ (fun u hu => absurd hu List.not_mem_nil) (by simp only [maxLen]; omega) (by omega) HB1.out ?_; intro v2 w2 hown2 hg2 hat2))
        have HST1 := Lib.hid (shufS_step HST.out hz0 HL.out HT.out HD.out)
        have hfin := shuffle_step HP.out HL.out HOl.out HD.out htm hO1 hR1 hb1 hs1 G1.out AT1.out (by rw [show (icells L).drop (t + 1) = [] from List.drop_eq_nil_of_le (by rw [icells_len, HL.out]; exact Nat.le_refl _), Nat.sub_self]; exact hown2) hg2 hat2
        obtain ⟨hf1, hf2, hf3, hf4, hf5, hf6, hf7, hf8⟩ := hfin
        clear hown2 hg2 hat2 G1 AT1 O2 O1 R0 R1 HN hR1 hO1 hb1
        go_wp2_with fail
        go_roundw
        case rel => exact ⟨i + 1, t + 1 - 1, z / ((t : Int) + 1), L.take t ++ L.drop (t + 1), O ++ [d], by omega, HST1.out, by go_num, rfl, hq0', by omega, hf1, hf2, hf3, hf4, hf5, hf6, hf7, hf8⟩
        case measure => simp [intOf]; omega
      · have HCT := Lib.hid hct
        go_region_law (first
          | (refine step_append_any _ rfl (.tmp 30) (.tmp 33) 59 rfl w.heap.size 3 i0 _ 1 8 Tryz.underlying59 hI0 hI1 hI2 hI3 rfl (by omega) _ 0 [] rfl O1.out W1.heap.size (some ⟨g, 0, none⟩) t c ((icells L).take t) rfl R1.out (fun u hu => icells_one L u (List.mem_of_mem_take hu)) (by simp only [maxLen]; omega) (by omega) (by simp; omega) ?_; intro v1 w1 hown1 hg1 hat1; have R2 := Lib.hid ((R0.out.grown hg1 HB0.out HR0.out).cut (show t + 1 ≤ m by omega) hmc); have R3 : Hid (Reads w1 W1.heap.size 1 (some ⟨g, t + 1, none⟩) (m - (t + 1)) ((icells L).drop (t + 1))) := (by have h9 := R2.out; rw [if_neg HCT.out, Nat.mul_one] at h9; simp only [Option.map_some, add_none, Nat.zero_add] at h9; exact h9); have O2 := Lib.hid hown1; have G1 : Hid ((W1.alloc (.cells #[] 3)).drew.grownBy w1 (some W1.heap.size)) := hg1; have AT1 : Hid (v1.ownBlock = some W1.heap.size ∨ v1.ownBlock = some ((W1.alloc (.cells #[] 3)).drew).heap.size) := hat1; have HB1 : Hid (w.heap.size ≤ w1.heap.size) := (by have h9 := hg1.size; have h8 := HB0.out; show w.heap.size ≤ w1.heap.size; omega); clear hown1 hg1 hat1 R2)
          | (refine step_append_any _ rfl (.tmp 34) (.tmp 38) 59 rfl w.heap.size 3 i0 _ 1 8 Tryz.underlying59 hI0 hI1 hI2 hI3 rfl (by omega) v1 (0 + t) ([] ++ (icells L).take t) rfl O2.out W1.heap.size (some ⟨g, t + 1, none⟩) (m - (t + 1)) (c - (t + 1)) ((icells L).drop (t + 1)) rfl R3.out (fun u hu => icells_one L u (List.mem_of_mem_drop hu)) (by simp only [maxLen]; omega) (by omega) HB1.out ?_; intro v2 w2 hown2 hg2 hat2))
        have HST1 := Lib.hid (shufS_step HST.out hz0 HL.out HT.out HD.out)
        have hfin := shuffle_step HP.out HL.out HOl.out HD.out htm hO1 hR1 hb1 hs1 G1.out AT1.out hown2 hg2 hat2
        obtain ⟨hf1, hf2, hf3, hf4, hf5, hf6, hf7, hf8⟩ := hfin
        clear hown2 hg2 hat2 G1 AT1 O2 R3 O1 R0 R1 HN hR1 hO1 hb1
        go_wp2_with fail
        go_roundw
        case rel => exact ⟨i + 1, m - 1, z / (m : Int), L.take t ++ L.drop (t + 1), O ++ [d], by omega, HST1.out, by go_num, rfl, hq0, by omega, hf1, hf2, hf3, hf4, hf5, hf6, hf7, hf8⟩
        case measure => simp [intOf]; omega
    · obtain rfl : i = 8 := by omega
      obtain rfl : m = 0 := by omega
      obtain rfl : L = [] := List.eq_nil_of_length_eq_zero hLl
      obtain ⟨c0, c1, c2, c3, c4, c5, c6, c7⟩ := hO.eight
      obtain ⟨d0, d1, d2, d3, d4, d5, d6, d7⟩ := hR.eight
      obtain ⟨e0, e1, e2, e3, e4, e5, e6, e7⟩ := hR.eightF
      have hp0 : O.Perm (List.range 8) := by simpa using hperm
      have HP := Lib.hid hp0
      have hS : (shufS n 8).2.2 = O := by rw [HST.out]
      have HS : Hid ((shufS n 8).2.2 = O) := hS
      have hsp : permI (shufP n) = permI (listP O) := by unfold shufP; rw [hS]
      have HSP := Lib.hid hsp
      clear hS hsp hp0
      clear hperm hown
      go_wp2
      refine bodyPost_ret (v := .agg (vec8 (permI (listP O)))) (by simp [results, Tryz.results10, go_sem, d0, d1, d2, d3, d4, d5, d6, d7]) rfl ⟨⟨by rw [HSP.out], by rw [HS.out]; exact HP.out⟩, ?_⟩
      exact below_put8 (permI (listP O)) hb (Nat.le_refl _)

end Go.Proofs.YtmkhfgggleplfaaGreat
namespace Go.Proofs.YtmkhfgggleplfaaGreat
open Go.RowKit

/-- the numbers are a permutation of the variables' -/
def okPerm (q : Nat → Int) : Prop := ∀ k, k < 8 → 0 ≤ q k ∧ q k < 8 ∧ ∀ j, j < k → q j ≠ q k
def PermuteSays (w w' : World) (n : Nat) (f : Nat → Nat → Int) (q : Nat → Int) (e : Ending) : Prop :=
  (¬ validP n f ∧ e = .returned (.tuple #[.slice none 0 0, .int .i64 50])) ∨
  (validP n f ∧ ¬ okPerm q ∧ e = .returned (.tuple #[.slice none 0 0, .int .i64 1])) ∨
  (validP n f ∧ okPerm q ∧ ¬ IndepP n f ∧ 24 < n + 8 ∧ e = .returned (.tuple #[.slice none 0 0, .int .i64 2])) ∨
  (validP n f ∧ okPerm q ∧ ∃ (N : Nat) (F G : Nat → Nat → Int), ((IndepP n f ∧ N = n ∧ F = f) ∨ (¬ IndepP n f ∧ n + 8 ≤ 24 ∧ N = n + 8 ∧ F = fullF n f)) ∧
    (∀ i, i < N → ∀ k, k < 8 → G i (q k).toNat = F i k) ∧ ∃ r, e = .returned (.tuple #[r, .int .i64 0]) ∧ OrdO w' w.heap.size r N G)
def seenF (q : Nat → Int) (k : Nat) : Nat → Bool := fun j => (List.range k).any fun k' => decide (q k' = (j : Int))
theorem seenF_iff {q : Nat → Int} {k j : Nat} : seenF q k j = true ↔ ∃ k', k' < k ∧ q k' = (j : Int) := by
  unfold seenF
  simp [List.any_eq_true]
theorem seenF_step {q : Nat → Int} {k j : Nat} : seenF q (k + 1) j = (seenF q k j || decide (q k = (j : Int))) := by
  unfold seenF
  rw [List.range_succ, List.any_append]
  simp
/-- the slice of an owned list that has a row -/
theorem OrdO.shape {w : World} {base n : Nat} {v : Value} {f : Nat → Nat → Int} (h : OrdO w base v n f) (h0 : 0 < n) : ∃ g c, v = .slice (some ⟨g, 0, none⟩) n c ∧ base ≤ g ∧ g < w.heap.size := by
  obtain ⟨xs, h1, _⟩ := h
  obtain ⟨A, c, rfl, _, _, hA⟩ := own_slice h1
  obtain ⟨g, rfl, hg, hl⟩ := hA h0
  exact ⟨g, c, rfl, hg, hl⟩
theorem OrdO.far {w w' : World} {base n : Nat} {v : Value} {f : Nat → Nat → Int} (h : OrdO w base v n f) (hb : Below w.heap.size w w') : OrdO w' base v n f := h.below hb

set_option maxHeartbeats 4000000 in
set_option maxRecDepth 100000 in
theorem permute_any {w : World} {v : Value} {n : Nat} {f : Nat → Nat → Int} {q : Nat → Int} (ho : OrdV w v n f) :
    Calls Tryz.prog 13 #[v, .agg (vec8 q)] w fun e w' => PermuteSays w w' n f q e ∧ Below w.heap.size w w' := by
  obtain ⟨W0, hW0, hb0, hQ0, hs0⟩ : ∃ W0, W0 = w.alloc (.cells (vec8 q) 35) ∧ Below w.heap.size w W0 ∧ Blk W0 w.heap.size 35 (vec8 q) ∧ w.heap.size < W0.heap.size :=
    ⟨_, rfl, (Below.refl _ _).alloc (Nat.le_refl _) _, Blk.new _ _ _, by simp⟩
  have HO := Lib.hid (ho.below hb0)
  clear ho
  go_enter Tryz.func13, Tryz.ntmps13
  go_wp2_with fail
  rw [← hW0]
  clear hW0
  (with_reducible refine (valid_any HO.out).mono ?_)
  rintro e w1 ⟨⟨b1, rfl, hv⟩, hb1⟩
  have hQ1 := hQ0.below hb1 hs0
  have hb01 := hb0.trans (hb1.mono hb0.size)
  have HO1 := Lib.hid (HO.out.below hb1)
  clear HO hQ0
  cases b1
  · have hnv : ¬ validP n f := fun h => by have := hv.2 h; cases this
    go_wp2
    exact bodyPost_ret (v := .tuple #[.slice none 0 0, .int .i64 50]) (by simp [results, Tryz.results13, go_sem]) rfl ⟨.inl ⟨hnv, rfl⟩, hb01⟩
  · have HV : Hid (validP n f) := hv.1 rfl
    clear hv
    go_upto_region 4 with fail
    obtain ⟨W2, hW2, hb2, hS2, hs2⟩ : ∃ W2, W2 = w1.alloc (.cells (vecb fun _ => false) 63) ∧ Below w1.heap.size w1 W2 ∧ Blk W2 w1.heap.size 63 (vecb fun _ => false) ∧ w1.heap.size < W2.heap.size :=
      ⟨_, rfl, (Below.refl _ _).alloc (Nat.le_refl _) _, Blk.new _ _ _, by simp⟩
    rw [← hW2]
    have hQ2 := hQ1.below hb2 hQ1.lt
    have hb02 := hb01.trans (hb2.mono hb01.size)
    have HB2 := Lib.hid hb2
    have hwb : w.heap.size < w1.heap.size := hQ1.lt
    clear hW2 hQ1 hb2 hb01 hb1 hb0 hs0
    obtain ⟨c0, c1, c2, c3, c4, c5, c6, c7⟩ := hQ2.eight
    go_wp2_with fail
    clear c0 c1 c2 c3 c4 c5 c6 c7
    go_loopw [19] (fun kv wr => ∃ k : Nat, k ≤ 8 ∧ kv = .int .i64 k ∧ (∀ k', k' < k → 0 ≤ q k' ∧ q k' < 8 ∧ ∀ j, j < k' → q j ≠ q k') ∧ Blk wr w1.heap.size 63 (vecb (seenF q k)) ∧ Blk wr w.heap.size 35 (vec8 q) ∧ Below w1.heap.size W2 wr) (fun k _ => 8 - (intOf k).toNat)
    case atStart => exact ⟨0, Nat.zero_le _, rfl, fun j hj => absurd hj (by omega), hS2, hQ2, Below.refl _ _⟩
    case round =>
      obtain ⟨k, hk, rfl, hz, hS, hQ, hbr⟩ := hrel
      have HZ := Lib.hid hz
      clear hz
      have hb0r := hb02.trans (hbr.mono (by omega))
      by_cases hk8 : k < 8
      · have hki : (k : Int) < 8 := by omega
        have hix := index_row (vec8_get q hk8) hk8
        obtain ⟨x, hx⟩ : ∃ x, x = q k := ⟨_, rfl⟩
        rw [← hx] at hix
        have HX := Lib.hid hx
        clear hx
        by_cases h1 : x < 0
        · go_wp2
          refine bodyPost_ret (v := .tuple #[.slice none 0 0, .int .i64 1]) (by simp [results, Tryz.results13, go_sem]) rfl ⟨.inr (.inl ⟨HV.out, fun h => ?_, rfl⟩), hb0r⟩
          have := (h k hk8).1
          rw [← HX.out] at this
          omega
        by_cases h2 : 8 ≤ x
        · go_wp2
          refine bodyPost_ret (v := .tuple #[.slice none 0 0, .int .i64 1]) (by simp [results, Tryz.results13, go_sem]) rfl ⟨.inr (.inl ⟨HV.out, fun h => ?_, rfl⟩), hb0r⟩
          have := (h k hk8).2.1
          rw [← HX.out] at this
          omega
        obtain ⟨y, rfl⟩ : ∃ y : Nat, x = (y : Int) := ⟨x.toNat, by omega⟩
        have hy8 : y < 8 := by omega
        have hyi : (y : Int) < 8 := by omega
        have hy0 : (0 : Int) ≤ (y : Int) := by omega
        have hcs := (hS.cell y).trans (vecb_get _ hy8)
        have hfs := hS.frozen y
        have HS := Lib.hid hS
        have HQ := Lib.hid hQ
        clear hS hQ
        obtain ⟨sb, hsb⟩ : ∃ sb, sb = seenF q k y := ⟨_, rfl⟩
        rw [← hsb] at hcs
        have HSB := Lib.hid hsb
        clear hsb
        cases sb
        · go_wp2_with fail
          go_roundw
          case rel =>
            refine ⟨k + 1, by omega, by go_num, fun k' hk' => ?_, ?_, HQ.out.far (by show w.heap.size ≠ w1.heap.size; omega) _, hbr.setCell (Nat.le_refl _) _⟩
            · by_cases e : k' < k
              · exact HZ.out k' e
              · obtain rfl : k' = k := by omega
                refine ⟨by rw [← HX.out]; omega, by rw [← HX.out]; omega, fun j hj e' => ?_⟩
                have : seenF q k' y = true := seenF_iff.2 ⟨j, hj, e'.trans HX.out.symm⟩
                rw [← HSB.out] at this
                cases this
            · have := HS.out.set_ y (.bool true)
              rw [vecb_set _ hy8, vecb_congr (h := seenF q (k + 1))] at this
              · exact this
              · intro j hj
                rw [seenF_step, ← HX.out]
                by_cases e : j = y
                · subst e; rw [if_pos rfl]; simp
                · rw [if_neg e]
                  have : decide ((y : Int) = (j : Int)) = false := by simp; omega
                  rw [this, Bool.or_false]
          case measure => simp [intOf]; omega
        · go_wp2
          refine bodyPost_ret (v := .tuple #[.slice none 0 0, .int .i64 1]) (by simp [results, Tryz.results13, go_sem]) rfl ⟨.inr (.inl ⟨HV.out, fun h => ?_, rfl⟩), hb0r⟩
          obtain ⟨j, hj, e⟩ := seenF_iff.1 HSB.out.symm
          exact (h k hk8).2.2 j hj (e.trans HX.out)
      · obtain rfl : k = 8 := by omega
        have HP : Hid (okPerm q) := HZ.out
        have hO3 := HO1.out.below (HB2.out.trans hbr)
        clear HO1 HB2 hS HZ
        go_wp2_with fail
        (with_reducible refine (full_any hO3).mono ?_)
        rintro e w4 ⟨hF, hb4⟩
        have hQ4 := hQ.below hb4 hQ.lt
        have hb04 := hb0r.trans (hb4.mono hb0r.size)
        have hqr := hQ.lt
        have hcomb : (e = .returned (.tuple #[.slice none 0 0, .int .i64 2]) ∧ ¬ IndepP n f ∧ 24 < n + 8) ∨ ∃ (N : Nat) (F : Nat → Nat → Int), ((IndepP n f ∧ N = n ∧ F = f) ∨ (¬ IndepP n f ∧ n + 8 ≤ 24 ∧ N = n + 8 ∧ F = fullF n f)) ∧ N ≤ 24 ∧ ∃ r, e = .returned (.tuple #[r, .int .i64 0]) ∧ OrdO w4 wr.heap.size r N F := by
          rcases hF with ⟨h, _⟩ | ⟨h0, h, r, h1, h2⟩ | ⟨h0, h, h1, r, h2, h3⟩ | ⟨h0, h, h1, h2⟩
          · exact absurd HV.out h
          · exact .inr ⟨n, f, .inl ⟨h, rfl, rfl⟩, HV.out.1, r, h1, h2⟩
          · exact .inr ⟨n + 8, _, .inr ⟨h, h1, rfl, rfl⟩, h1, r, h2, h3⟩
          · exact .inl ⟨h2, h, h1⟩
        clear hF hO3 hQ hb4 hb0r hbr
        rcases hcomb with ⟨rfl, hni, hbig⟩ | ⟨N, F, hNF, hN24, r, rfl, hr⟩
        · have HN := Lib.hid hni
          clear hni
          go_wp2_with fail
          go_loopw [43] (fun iv wx => iv = .int .i64 0 ∧ w4 = wx) (fun _ _ => 0)
          case atStart => exact ⟨rfl, rfl⟩
          case round =>
            obtain ⟨rfl, rfl⟩ := hrel
            go_wp2
            exact bodyPost_ret (v := .tuple #[.slice none 0 0, .int .i64 2]) (by simp [results, Tryz.results13, go_sem]) rfl ⟨.inr (.inr (.inl ⟨HV.out, HP.out, HN.out, hbig, rfl⟩)), hb04⟩
        · have HNF := Lib.hid hNF
          clear hNF
          have hrb : w.heap.size < wr.heap.size := hqr
          obtain ⟨A, c, rfl, hNc, hcm, _⟩ := id hr.ordV
          have hN63 : N ≤ 9223372036854775807 := by omega
          generalize wr.heap.size = B0 at *
          go_wp2_with fail
          go_loopw [43] (fun iv wx => ∃ (i : Nat) (G : Nat → Nat → Int), i ≤ N ∧ iv = .int .i64 i ∧ (∀ i', i' < i → ∀ k, k < 8 → G i' (q k).toNat = F i' k) ∧ (∀ i', i ≤ i' → ∀ k, k < 8 → G i' k = F i' k) ∧ OrdO wx B0 (.slice A N c) N G ∧ Blk wx w.heap.size 35 (vec8 q) ∧ Below w.heap.size w wx) (fun i _ => N - (intOf i).toNat)
          case atStart => exact ⟨0, F, Nat.zero_le _, rfl, fun j hj => absurd hj (by omega), fun _ _ _ _ => rfl, hr, hQ4, hb04⟩
          case round =>
            obtain ⟨i, G, hi, rfl, hz1, hz2, hO, hQ, hbx⟩ := hrel
            by_cases hlt : i < N
            · obtain ⟨g, c', e, hgb, hgl⟩ := hO.shape (by omega)
              injection e with e1 e2 e3
              subst e1 e3
              have hii : (i : Int) < (N : Int) := by omega
              have hi0 : (0 : Int) ≤ (i : Int) := by omega
              have hrow : ∀ k, k < 8 → wr.cell? ⟨g, i * 8 + k, none⟩ = some (.int .i64 (F i k)) := fun k hk => by rw [(hO.cell hlt hk).1, hz2 i (Nat.le_refl _) k hk]
              have c0 : wr.cell? ⟨g, i * 8, none⟩ = some (.int .i64 (F i 0)) := hrow 0 (by omega)
              have c1 := hrow 1 (by omega)
              have c2 := hrow 2 (by omega)
              have c3 := hrow 3 (by omega)
              have c4 := hrow 4 (by omega)
              have c5 := hrow 5 (by omega)
              have c6 := hrow 6 (by omega)
              have c7 := hrow 7 (by omega)
              have HZ1 := Lib.hid hz1
              have HZ2 := Lib.hid hz2
              obtain ⟨W5, hW5, hbl5⟩ : ∃ W5, W5 = wr.alloc (.cells (vec8 (F i)) 35) ∧ Below wr.heap.size wr W5 := ⟨_, rfl, (Below.refl _ _).alloc (Nat.le_refl _) _⟩
              have hO5 := Lib.hid (hO.below hbl5)
              have hQ5 := Lib.hid (hQ.below hbl5 hQ.lt)
              have hbx5 := Lib.hid (hbx.trans (hbl5.mono hbx.size))
              clear hz1 hz2 hrow hO hQ hbx
              go_wp2_with fail
              rw [← hW5]
              clear hW5 hbl5 c0 c1 c2 c3 c4 c5 c6 c7
              go_loopw [49] (fun kv wk => ∃ (k : Nat) (G' : Nat → Nat → Int), k ≤ 8 ∧ kv = .int .i64 k ∧ (∀ k', k' < k → G' i (q k').toNat = F i k') ∧ (∀ i', i' ≠ i → ∀ k, k < 8 → G' i' k = G i' k) ∧ OrdO wk B0 (.slice (some ⟨g, 0, none⟩) N c) N G' ∧ Blk wk w.heap.size 35 (vec8 q) ∧ Below w.heap.size w wk) (fun k _ => 8 - (intOf k).toNat)
              case atStart => exact ⟨0, G, Nat.zero_le _, rfl, fun j hj => absurd hj (by omega), fun _ _ _ _ => rfl, hO5.out, hQ5.out, hbx5.out⟩
              case round =>
                obtain ⟨k, G', hk, rfl, hk1, hk2, hO, hQ, hbx⟩ := hrel
                have HK1 := Lib.hid hk1
                have HK2 := Lib.hid hk2
                clear hk1 hk2 hO5 hQ5 hbx5
                by_cases hk8 : k < 8
                · have hki : (k : Int) < 8 := by omega
                  have hk0 : (0 : Int) ≤ (k : Int) := by omega
                  have hix := index_row (vec8_get (F i) hk8) hk8
                  obtain ⟨y, hy⟩ : ∃ y : Nat, q k = (y : Int) := ⟨(q k).toNat, by have := HP.out k hk8; omega⟩
                  have hy8 : y < 8 := by have := HP.out k hk8; omega
                  have hyi : (y : Int) < 8 := by omega
                  have hy0 : (0 : Int) ≤ (y : Int) := by omega
                  have cq := hQ.at8 hk8
                  rw [hy] at cq
                  have HY := Lib.hid hy
                  obtain ⟨cs, fs⟩ := hO.cell hlt hy8
                  have HO := Lib.hid hO
                  have HQ := Lib.hid hQ
                  clear hy hO hQ
                  go_wp2_with fail
                  go_still_tail 8, (by kernel_rfl)
                  change wpList _ _ _ _ _ wr.drew
                  have hbx' : Below w.heap.size w wr.drew := hbx.drewN 1
                  have HO' := Lib.hid (HO.out.drewN 1)
                  have HQ' := Lib.hid HQ.out.drew
                  clear cq cs fs hbx HO HQ
                  replace HO' : Hid (OrdO wr.drew B0 (.slice (some ⟨g, 0, none⟩) N c) N G') := HO'
                  generalize wr.drew = w6 at *
                  obtain ⟨cs, fs⟩ := HO'.out.cell hlt hy8
                  go_wp2_with fail
                  go_roundw
                  case rel =>
                    refine ⟨k + 1, _, by omega, by go_num, fun k' hk' => ?_, fun i' hi' k' hk' => ?_, HO'.out.put hlt hy8, HQ'.out.far (by show w.heap.size ≠ g; omega) _, hbx'.setCell (by show w.heap.size ≤ g; omega) _⟩
                    · show (if i = i ∧ (q k').toNat = y then F i k else G' i (q k').toNat) = F i k'
                      by_cases e : k' = k
                      · subst e; rw [if_pos ⟨rfl, by rw [HY.out]; rfl⟩]
                      · have hne : ¬ (i = i ∧ (q k').toNat = y) := fun h => by
                          have h1 := HP.out k' (by omega)
                          have h2 := HP.out k hk8
                          have h3 := HY.out
                          have h4 := h.2
                          exact h2.2.2 k' (by omega) (by omega)
                        rw [if_neg hne]
                        exact HK1.out k' (by omega)
                    · show (if i' = i ∧ k' = y then F i k else G' i' k') = G i' k'
                      rw [if_neg (fun h => hi' h.1)]; exact HK2.out i' hi' k' hk'
                  case measure => simp [intOf]; omega
                · obtain rfl : k = 8 := by omega
                  have HO := Lib.hid hO
                  have HQ := Lib.hid hQ
                  clear hO hQ
                  go_wp2_with fail
                  go_roundw
                  case rel =>
                    refine ⟨i + 1, G', by omega, by go_num, fun i' hi' k' hk' => ?_, fun i' hi' k' hk' => ?_, HO.out, HQ.out, hbx⟩
                    · by_cases e : i' = i
                      · subst e; exact HK1.out k' hk'
                      · have h1 := HP.out k' hk'
                        rw [HK2.out i' e _ (by omega)]; exact HZ1.out i' (by omega) k' hk'
                    · rw [HK2.out i' (by omega) k' hk']; exact HZ2.out i' (by omega) k' hk'
                  case measure => simp [intOf]; omega
            · obtain rfl : i = N := by omega
              have HZ := Lib.hid hz1
              have HO := Lib.hid hO
              clear hz1 hz2 hO
              go_wp2
              exact bodyPost_ret (v := .tuple #[.slice A i c, .int .i64 0]) (by simp [results, Tryz.results13, go_sem]) rfl ⟨.inr (.inr (.inr ⟨HV.out, HP.out, i, F, G, HNF.out, HZ.out, _, rfl, HO.out.mono (by omega)⟩)), hbx⟩

end Go.Proofs.YtmkhfgggleplfaaGreat
namespace Go.Proofs.YtmkhfgggleplfaaGreat
open Go.RowKit

theorem surj_of {O : List Nat} (h : O.Perm (List.range 8)) : ∀ j, j < 8 → ∃ k, k < 8 ∧ listP O k = j := fun j hj => by
  have hl : O.length = 8 := by rw [h.length_eq]; simp
  obtain ⟨k, hk, e⟩ := List.mem_iff_getElem.1 (h.mem_iff.2 (List.mem_range.2 hj))
  exact ⟨k, by omega, by unfold listP; rw [List.getD_eq_getElem?_getD, List.getElem?_eq_getElem hk]; exact e⟩
/-- a permutation of the variables that reaches all -/
def PermS (p : Nat → Nat) : Prop := PermP p ∧ ∀ j, j < 8 → ∃ k, k < 8 ∧ p k = j
theorem PermS.list {p : Nat → Nat} (h : PermS p) : ((List.range 8).map p).Perm (List.range 8) := by
  refine (List.perm_ext_iff_of_nodup ?_ List.nodup_range).2 fun a => ?_
  · exact List.pairwise_map.2 (List.Pairwise.imp_of_mem (fun ha hb hne e => hne (h.1.2 _ _ (List.mem_range.1 ha) (List.mem_range.1 hb) e)) List.nodup_range)
  · rw [List.mem_map, List.mem_range]
    constructor
    · rintro ⟨k, hk, rfl⟩; exact h.1.1 k (List.mem_range.1 hk)
    · intro ha; obtain ⟨k, hk, e⟩ := h.2 a ha; exact ⟨k, List.mem_range.2 hk, e⟩
def lsum (l : List Int) : Int := l.foldr (· + ·) 0
theorem lsum_perm {l l' : List Int} (h : l.Perm l') : lsum l = lsum l' := by
  induction h with
  | nil => rfl
  | cons x _ ih => show x + lsum _ = x + lsum _; rw [ih]
  | swap x y l => show y + (x + lsum l) = x + (y + lsum l); omega
  | trans _ _ h1 h2 => rw [h1, h2]
theorem lsum_append (l l' : List Int) : lsum (l ++ l') = lsum l + lsum l' := by
  induction l with
  | nil => show lsum l' = 0 + lsum l'; omega
  | cons x l ih => show x + lsum (l ++ l') = (x + lsum l) + lsum l'; omega
theorem dotI_lsum (r a b : Nat → Int) : ∀ n, dotI r a b n = lsum ((List.range n).map fun k => r k * (a k - b k))
  | 0 => rfl
  | n + 1 => by rw [List.range_succ, List.map_append, lsum_append, ← dotI_lsum r a b n, dotI]; show _ = _ + (r n * (a n - b n) + 0); omega
theorem dotI_perm {p : Nat → Nat} (hp : PermS p) {r r' a b a' b' : Nat → Int} (hr : ∀ k, k < 8 → r' (p k) = r k) (ha : ∀ k, k < 8 → a' (p k) = a k) (hb : ∀ k, k < 8 → b' (p k) = b k) : dotI r' a' b' 8 = dotI r a b 8 := by
  rw [dotI_lsum, dotI_lsum, ← lsum_perm (hp.list.map fun k => r' k * (a' k - b' k)), List.map_map]
  congr 1
  refine List.map_congr_left fun k hk => ?_
  have hk8 := List.mem_range.1 hk
  show r' (p k) * (a' (p k) - b' (p k)) = _
  rw [hr k hk8, ha k hk8, hb k hk8]
def qsum (l : List Rat) : Rat := l.foldr (· + ·) 0
theorem qsum_perm {l l' : List Rat} (h : l.Perm l') : qsum l = qsum l' := by
  induction h with
  | nil => rfl
  | cons x _ ih => show x + qsum _ = x + qsum _; rw [ih]
  | swap x y l => show y + (x + qsum l) = x + (y + qsum l); rw [← Rat.add_assoc, ← Rat.add_assoc, Rat.add_comm y x]
  | trans _ _ h1 h2 => rw [h1, h2]
theorem qsum_append (l l' : List Rat) : qsum (l ++ l') = qsum l + qsum l' := by
  induction l with
  | nil => show qsum l' = 0 + qsum l'; rw [Rat.zero_add]
  | cons x l ih => show x + qsum (l ++ l') = (x + qsum l) + qsum l'; rw [ih, Rat.add_assoc]
theorem dotR_qsum (r x : Nat → Rat) : ∀ n, dotR r x n = qsum ((List.range n).map fun k => r k * x k)
  | 0 => rfl
  | n + 1 => by rw [List.range_succ, List.map_append, qsum_append, ← dotR_qsum r x n, dotR]; show _ = _ + (r n * x n + 0); rw [Rat.add_zero]
theorem dotR_perm {p : Nat → Nat} (hp : PermS p) {r r' x : Nat → Rat} (hr : ∀ k, k < 8 → r' (p k) = r k) : dotR r' x 8 = dotR r (fun k => x (p k)) 8 := by
  rw [dotR_qsum, dotR_qsum, ← qsum_perm (hp.list.map fun k => r' k * x k), List.map_map]
  congr 1
  refine List.map_congr_left fun k hk => ?_
  show r' (p k) * x (p k) = _
  rw [hr k (List.mem_range.1 hk)]
/-- permuting columns keeps independence -/
theorem indep_perm {p : Nat → Nat} (hp : PermS p) {N : Nat} {F G : Nat → Nat → Int} (hG : ∀ i, i < N → ∀ k, k < 8 → G i (p k) = F i k) (hF : IndepP N F) : IndepP N G := by
  intro x _ hx j hj
  obtain ⟨k, hk, rfl⟩ := hp.2 j hj
  refine hF (fun k => x (p k)) (fun j hj => absurd hj (by omega)) (fun r hr => ?_) k hk
  obtain ⟨i, hi, rfl⟩ := mem_listQ.1 hr
  rw [← dotR_perm hp (r := rowQ F i) (r' := rowQ G i) (x := x) (fun k hk => by unfold rowQ; rw [hG i hi k hk])]
  exact hx _ (mem_listQ.2 ⟨i, hi, rfl⟩)
theorem valid_perm {p : Nat → Nat} (hp : PermS p) {N : Nat} {F G : Nat → Nat → Int} (hG : ∀ i, i < N → ∀ k, k < 8 → G i (p k) = F i k) (hF : validP N F) : validP N G := by
  refine ⟨hF.1, fun i hi j hj => ?_⟩
  obtain ⟨k, hk, rfl⟩ := hp.2 j hj
  have h := hF.2 i hi k hk
  unfold okAt at h ⊢
  rw [hG i hi k hk]
  refine ⟨h.1, h.2.1, fun h0 => ?_⟩
  obtain ⟨s, hs, h1⟩ := begun_iff.1 (h.2.2 h0)
  exact begun_iff.2 ⟨s, hs, by rw [hG s (by omega) k hk]; exact h1⟩
theorem rowsC_perm {p : Nat → Nat} (hp : PermS p) {F G : Nat → Nat → Int} {a b a' b' : Nat → Int} (ha : ∀ k, k < 8 → a' (p k) = a k) (hb : ∀ k, k < 8 → b' (p k) = b k) :
    ∀ N, (∀ i, i < N → ∀ k, k < 8 → G i (p k) = F i k) → rowsC G a' b' N = rowsC F a b N
  | 0, _ => rfl
  | N + 1, h => by rw [rowsC, rowsC, rowsC_perm hp ha hb N (fun i hi => h i (by omega)), dotI_perm hp (h N (by omega)) ha hb]
/-- what Full makes of an order -/
def FullOf (n : Nat) (f : Nat → Nat → Int) (N : Nat) (F : Nat → Nat → Int) : Prop := (IndepP n f ∧ N = n ∧ F = f) ∨ (¬ IndepP n f ∧ n + 8 ≤ 24 ∧ N = n + 8 ∧ F = fullF n f)
theorem fullF_old {n : Nat} {f : Nat → Nat → Int} {i : Nat} (h : i < n) : fullF n f i = f i := if_pos h
theorem fullF_new {n : Nat} {f : Nat → Nat → Int} (k : Nat) : fullF n f (n + k) = unitF k 1 := by
  unfold fullF catF; rw [if_neg (by omega), show n + k - n = k from by omega]
theorem dotI_cast (r a b : Nat → Int) : ∀ n, ((dotI r a b n : Int) : Rat) = dotR (fun k => (r k : Rat)) (fun k => ((a k - b k : Int) : Rat)) n
  | 0 => rfl
  | n + 1 => by rw [dotI, dotR, ← dotI_cast r a b n, Rat.intCast_add, Rat.intCast_mul]
theorem rowsC_all {f : Nat → Nat → Int} {a b : Nat → Int} : ∀ {n}, rowsC f a b n = 0 → ∀ i, i < n → dotI (f i) a b 8 = 0
  | 0, _ => fun i hi => absurd hi (by omega)
  | n + 1, h => fun i hi => by
    have h0 : rowsC f a b n = 0 := by
      rcases Classical.em (rowsC f a b n = 0) with h1 | h1
      · exact h1
      · exfalso
        have := rowsC_stay h1 1
        rw [h] at this
        exact h1 this.symm
    rcases Nat.lt_or_ge i n with h1 | h1
    · exact rowsC_all h0 i h1
    · rw [show i = n from by omega]
      have h2 : rowsC f a b (n + 1) = cmpI (dotI (f n) a b 8) 0 := by rw [rowsC, if_neg (by simp [h0])]
      rw [h] at h2
      rcases Int.lt_trichotomy (dotI (f n) a b 8) 0 with h3 | h3 | h3
      · rw [cmpI_lt h3] at h2; cases h2
      · exact h3
      · rw [cmpI_gt h3] at h2; cases h2
/-- independent rows tell all monomials apart -/
theorem indep_apart {N : Nat} {F : Nat → Nat → Int} (hF : IndepP N F) {a b : Nat → Int} (h : rowsC F a b N = 0) : ∀ k, k < 8 → a k = b k := fun k hk => by
  have := hF (fun k => ((a k - b k : Int) : Rat)) (fun j hj => absurd hj (by omega)) (fun r hr => by
    obtain ⟨i, hi, rfl⟩ := mem_listQ.1 hr
    have h1 := dotI_cast (F i) a b 8
    rw [rowsC_all h i hi] at h1
    exact h1.symm) k hk
  have h2 : a k - b k = 0 := by exact_mod_cast this
  omega
theorem cmpI_sub (x y : Int) : cmpI (x - y) 0 = cmpI x y := by unfold cmpI; split <;> split <;> (try split) <;> (try split) <;> omega
theorem dotI_unit1 (j : Nat) (a b : Nat → Int) : ∀ n, dotI (unitF j 1) a b n = if j < n then a j - b j else 0
  | 0 => rfl
  | n + 1 => by
    rw [dotI, dotI_unit1 j a b n]
    by_cases h : j < n
    · rw [if_pos h, if_pos (by omega), unitF, if_neg (by omega)]; omega
    · by_cases e : n = j
      · subst e; rw [if_neg h, if_pos (by omega), unitF, if_pos rfl]; omega
      · rw [if_neg h, if_neg (by omega), unitF, if_neg (by omega)]; omega
theorem rowsC_congrF {f g : Nat → Nat → Int} {a b : Nat → Int} : ∀ {n}, (∀ i, i < n → f i = g i) → rowsC f a b n = rowsC g a b n
  | 0, _ => rfl
  | n + 1, h => by rw [rowsC, rowsC, rowsC_congrF (fun i hi => h i (by omega)), h n (by omega)]
theorem rowsC_full {n : Nat} {f : Nat → Nat → Int} {a b : Nat → Int} : ∀ k, k ≤ 8 → rowsC (fullF n f) a b (n + k) = if rowsC f a b n ≠ 0 then rowsC f a b n else lexC a b k
  | 0, _ => by
    rw [Nat.add_zero, rowsC_congrF (fun i hi => fullF_old hi)]
    by_cases h : rowsC f a b n = 0
    · rw [if_neg (by simp [h]), h]; rfl
    · rw [if_pos h]
  | k + 1, hk => by
    show (if rowsC (fullF n f) a b (n + k) ≠ 0 then rowsC (fullF n f) a b (n + k) else cmpI (dotI (fullF n f (n + k)) a b 8) 0) = _
    have e : cmpI (dotI (fullF n f (n + k)) a b 8) 0 = cmpI (a k) (b k) := by rw [fullF_new, dotI_unit1, if_pos (by omega), cmpI_sub]
    rw [rowsC_full k (by omega), e]
    by_cases h : rowsC f a b n = 0
    · simp only [h, ne_eq, not_true_eq_false, if_false]
      rfl
    · simp only [h, ne_eq, not_false_eq_true, if_true]
theorem FullOf.rows {n N : Nat} {f F : Nat → Nat → Int} (h : FullOf n f N F) (a b : Nat → Int) : rowsC F a b N = ordC n f a b := by
  rcases h with ⟨h, rfl, rfl⟩ | ⟨_, _, rfl, rfl⟩
  · unfold ordC
    by_cases h0 : rowsC F a b N = 0
    · rw [if_neg (by simp [h0]), h0, lexC_same a b 8 (indep_apart h h0)]
    · rw [if_pos h0]
  · rw [rowsC_full 8 (Nat.le_refl _)]; rfl
theorem FullOf.valid {n N : Nat} {f F : Nat → Nat → Int} (h : FullOf n f N F) (hv : validP n f) : validP N F := by
  rcases h with ⟨_, rfl, rfl⟩ | ⟨_, h8, rfl, rfl⟩
  · exact hv
  · refine ⟨h8, fun i hi k hk => ?_⟩
    rcases Nat.lt_or_ge i n with h1 | h1
    · have h2 := hv.2 i h1 k hk
      unfold okAt at h2 ⊢
      rw [fullF_old h1]
      refine ⟨h2.1, h2.2.1, fun h0 => ?_⟩
      obtain ⟨s, hs, h3⟩ := begun_iff.1 (h2.2.2 h0)
      exact begun_iff.2 ⟨s, hs, by rw [fullF_old (by omega)]; exact h3⟩
    · obtain ⟨j, rfl⟩ : ∃ j, i = n + j := ⟨i - n, by omega⟩
      unfold okAt
      rw [fullF_new]
      unfold unitF
      split
      · exact ⟨by omega, by omega, fun h => absurd h (by decide)⟩
      · exact ⟨by omega, by omega, fun h => absurd h (by decide)⟩
theorem FullOf.indep {n N : Nat} {f F : Nat → Nat → Int} (h : FullOf n f N F) : IndepP N F := by
  rcases h with ⟨h, rfl, rfl⟩ | ⟨_, _, rfl, rfl⟩
  · exact h
  · intro x _ hx j hj
    have h1 := hx _ (mem_listQ.2 ⟨n + j, by omega, rfl⟩)
    rw [dotR_only (k := j) hj (fun j' hj' hne => by
      have : rowQ (fullF n f) (n + j) j' = 0 := by unfold rowQ; rw [fullF_new, unitF, if_neg hne]; rfl
      rw [this, Rat.zero_mul])] at h1
    have h2 : rowQ (fullF n f) (n + j) j = 1 := by unfold rowQ; rw [fullF_new, unitF, if_pos rfl]; rfl
    rw [h2, Rat.one_mul] at h1
    exact h1

theorem shufS_inv (n : Nat) : ∀ i, i ≤ 8 → (shufS n i).1.length = 8 - i ∧ ((shufS n i).1 ++ (shufS n i).2.2).Perm (List.range 8)
  | 0, _ => ⟨by simp [shufS], by simp [shufS]⟩
  | i + 1, hi => by
    obtain ⟨h1, h2⟩ := shufS_inv n i (by omega)
    have ht : (shufS n i).2.1 % (shufS n i).1.length < (shufS n i).1.length := Nat.mod_lt _ (by omega)
    have h3 := perm_step ht h2
    refine ⟨?_, h3⟩
    show ((shufS n i).1.take _ ++ (shufS n i).1.drop _).length = 8 - (i + 1)
    rw [List.length_append, List.length_take, List.length_drop]
    omega
theorem shufP_perm (n : Nat) : PermS (shufP n) := by
  obtain ⟨h1, h2⟩ := shufS_inv n 8 (Nat.le_refl _)
  have h3 : (shufS n 8).1 = [] := List.eq_nil_of_length_eq_zero (by omega)
  rw [h3, List.nil_append] at h2
  exact ⟨perm_of h2, surj_of h2⟩
theorem shuf_at (n : Nat) (w : World) (hn : n < 65536) : Calls Tryz.prog 10 #[.int .u16 n] w fun e w' => e = .returned (.agg (vec8 (permI (shufP n)))) ∧ Below w.heap.size w w' :=
  (shuffle_any n hn).mono fun _ _ h => ⟨h.1.1, h.2⟩
theorem FullOf.one {n N N' : Nat} {f F F' : Nat → Nat → Int} (h : FullOf n f N F) (h' : FullOf n f N' F') : N' = N ∧ F' = F := by
  rcases h with ⟨h, rfl, rfl⟩ | ⟨h, _, rfl, rfl⟩ <;> rcases h' with ⟨k, rfl, rfl⟩ | ⟨k, _, rfl, rfl⟩
  · exact ⟨rfl, rfl⟩
  · exact absurd h k
  · exact absurd k h
  · exact ⟨rfl, rfl⟩
def FullYes (w' : World) (n : Nat) (f : Nat → Nat → Int) (e : Ending) : Prop := ∃ (N : Nat) (F : Nat → Nat → Int) (r : Value), FullOf n f N F ∧ e = .returned (.tuple #[r, .int .i64 0]) ∧ OrdV w' r N F
theorem full_yes {w : World} {v : Value} {n : Nat} {f : Nat → Nat → Int} (hv : validP n f) (hn : n + 8 ≤ 24) (ho : OrdV w v n f) : Calls Tryz.prog 11 #[v] w fun e w' => FullYes w' n f e ∧ Below w.heap.size w w' :=
  (full_any ho).mono fun e w' ⟨h, hb⟩ => ⟨by
    rcases h with ⟨h, _⟩ | ⟨_, h, r, h1, h2⟩ | ⟨_, h, h1, r, h2, h3⟩ | ⟨_, _, h, _⟩
    · exact absurd hv h
    · exact ⟨n, f, r, .inl ⟨h, rfl, rfl⟩, h1, h2.ordV⟩
    · exact ⟨n + 8, _, r, .inr ⟨h, h1, rfl, rfl⟩, h2, h3.ordV⟩
    · omega, hb⟩
theorem okPerm_of {s : Nat → Nat} (hs : PermS s) : okPerm (permI s) := fun k hk => ⟨by unfold permI; omega, by have := hs.1.1 k hk; unfold permI; omega, fun j hj e => by
  have : s j = s k := by unfold permI at e; omega
  have := hs.1.2 j k (by omega) hk this
  omega⟩
def PermYes (w' : World) (n : Nat) (f : Nat → Nat → Int) (s : Nat → Nat) (e : Ending) : Prop :=
  ∃ (N : Nat) (F G : Nat → Nat → Int) (r : Value), FullOf n f N F ∧ (∀ i, i < N → ∀ k, k < 8 → G i (s k) = F i k) ∧ e = .returned (.tuple #[r, .int .i64 0]) ∧ OrdV w' r N G
theorem perm_yes {w : World} {v : Value} {n : Nat} {f : Nat → Nat → Int} {s : Nat → Nat} (hv : validP n f) (hn : IndepP n f ∨ n + 8 ≤ 24) (hs : PermS s) (ho : OrdV w v n f) :
    Calls Tryz.prog 13 #[v, .agg (vec8 (permI s))] w fun e w' => PermYes w' n f s e ∧ Below w.heap.size w w' :=
  (permute_any ho).mono fun e w' ⟨h, hb⟩ => ⟨by
    rcases h with ⟨h, _⟩ | ⟨_, h, _⟩ | ⟨_, _, h, h1, _⟩ | ⟨_, _, N, F, G, h1, h2, r, h3, h4⟩
    · exact absurd hv h
    · exact absurd (okPerm_of hs) h
    · rcases hn with h2 | h2
      · exact absurd h2 h
      · omega
    · exact ⟨N, F, G, r, h1, h2, h3, h4.ordV⟩, hb⟩
/-- the inverse of a permutation, as the law reckons it -/
theorem back_perm {s : Nat → Nat} (hs : PermS s) {h : Nat → Int} (hh : ∀ k, k < 8 → h (s k) = (k : Int)) : ∃ t : Nat → Nat, PermS t ∧ (∀ k, k < 8 → t (s k) = k) ∧ ∀ j, j < 8 → h j = permI t j := by
  have key : ∀ k, k < 8 → (h (s k)).toNat = k := fun k hk => by rw [hh k hk]; rfl
  refine ⟨fun j => (h j).toNat, ⟨⟨fun j hj => ?_, fun i j hi hj e => ?_⟩, fun j hj => ⟨s j, hs.1.1 j hj, key j hj⟩⟩, key, fun j hj => ?_⟩
  · obtain ⟨k, hk, rfl⟩ := hs.2 j hj
    show (h (s k)).toNat < 8
    rw [key k hk]; exact hk
  · obtain ⟨k, hk, rfl⟩ := hs.2 i hi
    obtain ⟨k', hk', rfl⟩ := hs.2 j hj
    have e' : (h (s k)).toNat = (h (s k')).toNat := e
    rw [key k hk, key k' hk'] at e'
    rw [e']
  · obtain ⟨k, hk, rfl⟩ := hs.2 j hj
    show h (s k) = (((h (s k)).toNat : Nat) : Int)
    rw [hh k hk]; rfl

end Go.Proofs.YtmkhfgggleplfaaGreat
