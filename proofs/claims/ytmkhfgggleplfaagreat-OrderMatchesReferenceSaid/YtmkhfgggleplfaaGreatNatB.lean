/-
  The walks of sub and cmp on words. Conditions: lengths below 2^40; for sub: the second number is not greater.
-/
import Derived.Test.YtmkhfgggleplfaaGreatNatA
import Derived.Deep.QuietTactic
import Derived.StillTailTactics
import Derived.Deep.RegionWith
namespace Go.Proofs.YtmkhfgggleplfaaGreat
set_option linter.unusedSimpArgs false
set_option linter.unusedVariables false
open Go.RowKit

def cmpI (a b : Int) : Int := if a < b then -1 else if b < a then 1 else 0
/-- only draws -/
def Same (w w' : World) : Prop := ∃ n, w' = w.drewN n
theorem Same.refl (w : World) : Same w w := ⟨0, rfl⟩
theorem Same.below {w w' : World} (h : Same w w') : Below w.heap.size w w' := by obtain ⟨n, rfl⟩ := h; exact ⟨rfl, rfl, rfl, Nat.le_refl _, fun _ _ => rfl⟩
theorem Same.trans {a b c : World} (h : Same a b) (k : Same b c) : Same a c := by
  obtain ⟨n, rfl⟩ := h; obtain ⟨m, rfl⟩ := k; exact ⟨n + m, by rw [World.drewN_drewN]⟩

/-- a quiet callee behind one quiet region and behind two -/
theorem quiet1 {P : Program} {f : FuncId} {args : Array Value} {w : World} {n : Nat} {v : Value} (h : Calls P f args (w.drewN n) fun e w' => e = .returned v ∧ w.drewN n = w') :
    Calls P f args (w.drewN n) fun e w'' => e = .returned v ∧ ∃ m, w'' = w.drewN m := h.mono fun _ _ ⟨he, hm⟩ => ⟨he, n, hm.symm⟩
theorem quiet2 {P : Program} {f : FuncId} {args : Array Value} {w : World} {a n : Nat} {v : Value} (h : Calls P f args (w.drewN (a + n)) fun e w' => e = .returned v ∧ w.drewN (a + n) = w') :
    Calls P f args (w.drewN (a + n)) fun e w'' => e = .returned v ∧ ∃ m, w'' = w.drewN (a + m) := h.mono fun _ _ ⟨he, hm⟩ => ⟨he, n, hm.symm⟩
theorem quiet1S {P : Program} {f : FuncId} {args : Array Value} {w : World} {n : Nat} {v : Value} (h : Calls P f args (w.drewN n) fun e w' => e = .returned v ∧ Same (w.drewN n) w') :
    Calls P f args (w.drewN n) fun e w'' => e = .returned v ∧ ∃ m, w'' = w.drewN m := h.mono fun _ _ ⟨he, k, hm⟩ => ⟨he, n + k, by rw [hm, World.drewN_drewN]⟩
theorem quiet2S {P : Program} {f : FuncId} {args : Array Value} {w : World} {a n : Nat} {v : Value} (h : Calls P f args (w.drewN (a + n)) fun e w' => e = .returned v ∧ Same (w.drewN (a + n)) w') :
    Calls P f args (w.drewN (a + n)) fun e w'' => e = .returned v ∧ ∃ m, w'' = w.drewN (a + m) := h.mono fun _ _ ⟨he, k, hm⟩ => ⟨he, n + k, by rw [hm, World.drewN_drewN, Nat.add_assoc]⟩
theorem _root_.Go.RowKit.Below.drewN {B : Nat} {a w : World} (h : Below B a w) (n : Nat) : Below B a (w.drewN n) := ⟨h.os, h.tape, h.output, h.size, h.block⟩
theorem Own.drewN {w : World} {t : TypeId} {g : Nat} {l : List Nat} (h : Own w t g l) (n : Nat) : Own (w.drewN n) t g l := h
theorem WordsAt.drewN {w : World} {A : Option Addr} {l : List Nat} (h : WordsAt w A l) (n : Nat) : WordsAt (w.drewN n) A l := h
theorem Same.drewN {a b : World} (h : Same a b) (n : Nat) : Same a (b.drewN n) := h.trans ⟨n, rfl⟩

theorem cmpI_lt {a b : Int} (h : a < b) : cmpI a b = -1 := if_pos h
theorem cmpI_gt {a b : Int} (h : b < a) : cmpI a b = 1 := by unfold cmpI; rw [if_neg (by omega), if_pos h]
theorem cmpI_eq {a b : Int} (h : a = b) : cmpI a b = 0 := by unfold cmpI; rw [if_neg (by omega), if_neg (by omega)]
theorem ret_i64 {a b : Int} (h : a = b) : Ending.returned (.int .i64 a) = .returned (.int .i64 b) := by rw [h]

theorem cmp_u32 (a b : Int) (w : World) : Calls Tryz.prog 131 #[.int .u32 a, .int .u32 b] w fun e w' => e = .returned (.int .i64 (cmpI a b)) ∧ w = w' := by
  rcases Int.lt_trichotomy a b with h | h | h
  · have hr := Lib.hid (cmpI_lt h)
    go_enter Tryz.func131, Tryz.ntmps131
    go_wp2
    go_ret
    exact ⟨ret_i64 hr.out.symm, rfl⟩
  · subst h
    have hr := Lib.hid (cmpI_eq (a := a) rfl)
    go_enter Tryz.func131, Tryz.ntmps131
    go_wp2
    go_ret
    exact ⟨ret_i64 hr.out.symm, rfl⟩
  · have hr := Lib.hid (cmpI_gt h)
    go_enter Tryz.func131, Tryz.ntmps131
    go_wp2
    go_ret
    exact ⟨ret_i64 hr.out.symm, rfl⟩
theorem cmp_int (a b : Int) (w : World) : Calls Tryz.prog 66 #[.int .i64 a, .int .i64 b] w fun e w' => e = .returned (.int .i64 (cmpI a b)) ∧ w = w' := by
  rcases Int.lt_trichotomy a b with h | h | h
  · have hr := Lib.hid (cmpI_lt h)
    go_enter Tryz.func66, Tryz.ntmps66
    go_wp2
    go_ret
    exact ⟨ret_i64 hr.out.symm, rfl⟩
  · subst h
    have hr := Lib.hid (cmpI_eq (a := a) rfl)
    go_enter Tryz.func66, Tryz.ntmps66
    go_wp2
    go_ret
    exact ⟨ret_i64 hr.out.symm, rfl⟩
  · have hr := Lib.hid (cmpI_gt h)
    go_enter Tryz.func66, Tryz.ntmps66
    go_wp2
    go_ret
    exact ⟨ret_i64 hr.out.symm, rfl⟩

def SubRel (x y : List Nat) (w : World) (i cv : Value) (wr : World) : Prop :=
  ∃ (k bw : Nat) (o : List Nat), k ≤ x.length ∧ i = .int .i64 k ∧ cv = .int .u32 bw ∧ bw ≤ 1 ∧ Own wr 110 w.heap.size o ∧ o.length = x.length ∧ Ds o ∧ vs o k + vs y k = vs x k + bw * pw k ∧ Below w.heap.size w wr

theorem sub_step {x y o : List Nat} {k bw s bw' : Nat} (h : vs o k + vs y k = vs x k + bw * pw k) (hk : k < o.length) (hs : s + dg y k + bw = dg x k + 4294967296 * bw') :
    vs (o.set k s) (k + 1) + vs y (k + 1) = vs x (k + 1) + bw' * pw (k + 1) := by
  simp only [vs, pw]
  rw [vs_set_ge (Nat.le_refl k), dg_set_self hk]
  have e : (s + dg y k + bw) * pw k = (dg x k + 4294967296 * bw') * pw k := by rw [hs]
  rw [Nat.add_mul, Nat.add_mul, Nat.add_mul, Nat.mul_assoc] at e
  rw [Nat.mul_left_comm bw']
  omega

set_option maxHeartbeats 1000000 in
set_option maxRecDepth 100000 in
theorem sub_any (A A' : Option Addr) (n m c c' : Nat) (x y : List Nat) (w : World) (hx : WordsAt w A x) (hy : WordsAt w A' y) (hn : x.length = n) (hm : y.length = m) (dx : Ds x) (dy : Ds y)
    (lx : n ≤ 1099511627776) (ly : m ≤ n) (hle : val y ≤ val x) :
    Calls Tryz.prog 116 #[.slice A n c, .slice A' m c'] w fun e w' => ∃ r, e = .returned r ∧ NatV w' r (val x - val y) ∧ Below w.heap.size w w' := by
  have hmk1 := make_nat n (by omega)
  have hN := Lib.hid hn
  have hM := Lib.hid hm
  clear hn hm
  go_enter Tryz.func116, Tryz.ntmps116
  go_wp2_with fail
  go_loopw [6, 13] (fun cv i wr => SubRel x y w i cv wr) (fun _ i _ => n - (intOf i).toNat)
  case atStart =>
    refine ⟨0, 0, List.replicate n 0, Nat.zero_le _, rfl, rfl, Nat.zero_le _, ?_, by simp [hN.out], Ds.zeros _, by simp [vs], (Below.refl _ _).alloc (Nat.le_refl _) _⟩
    exact Own.made w 110 n
  case round =>
    obtain ⟨k, cy, o, hk, rfl, rfl, hcy, hown, hlo, hdo, hv, hb⟩ := hrel
    have hx1 := hx.below hb
    have hy1 := hy.below hb
    rw [hN.out] at hk hlo
    clear hx hy hmk1
    by_cases hlt : k < n
    · have hc1 := hown.cell (i := k) (by omega)
      have hf1 := hown.frozen k
      have dxk := dx k
      have dyk := dy k
      obtain ⟨b, off, rfl, hbb, hcell⟩ := hx1 (by rw [hN.out]; omega)
      have hcx := hcell k (by rw [hN.out]; omega)
      obtain ⟨s, hs⟩ : ∃ s : Nat, ((dg x k : Int) - (dg y k : Int) - (cy : Int)) % 4294967296 = (s : Int) := ⟨(((dg x k : Int) - (dg y k : Int) - (cy : Int)) % 4294967296).toNat, by omega⟩
      obtain ⟨bw', hbw'⟩ : ∃ s : Nat, bor32 (dg x k : Int) (dg y k : Int) (cy : Int) = (s : Int) := ⟨(bor32 (dg x k : Int) (dg y k : Int) (cy : Int)).toNat, by unfold bor32; split <;> rfl⟩
      have hsn : s < 4294967296 := by omega
      have hst : Hid (s + dg y k + cy = dg x k + 4294967296 * bw') := by
        show s + dg y k + cy = dg x k + 4294967296 * bw'
        unfold bor32 at hbw'
        split at hbw' <;> omega
      have hbw1 : bw' ≤ 1 := by unfold bor32 at hbw'; split at hbw' <;> omega
      have hstep := Lib.hid (sub_step hv (k := k) (by omega) hst.out)
      have hown' := Lib.hid (hown.set k s)
      have hlo' : Hid (o.length = _) := hlo
      clear hlo hv hst dx dy hown hcell hle
      go_wp2_with fail
      go_region_with (first | (go_at_call 129; refine (at_any _ _ _ _ _ _ (by assumption) hM.out (by omega) (by omega)).mono ?_; rintro e w' ⟨rfl, rfl⟩) | (go_at_call 130; refine (sub32_any _ _ _ _ (by omega) (by omega) (by omega) (by omega) (by omega) (by omega)).mono ?_; rintro e w' ⟨rfl, rfl⟩))
      all_goals
        go_wp2
        go_roundw
        case rel => exact ⟨k + 1, bw', o.set k s, by rw [hN.out]; omega, by go_num, rfl, hbw1, hown'.out, by rw [List.length_set, hN.out]; exact hlo'.out, hdo.set hsn, hstep.out, (hb.setCell (p := ⟨w.heap.size, k, none⟩) (Nat.le_refl _) _).drew⟩
        case measure => simp [intOf]; omega
    · have hk' : k = n := by omega
      subst hk'
      have hfin : Hid (val o = val x - val y) := by
        show val o = val x - val y
        have h1 : vs o k = val o := by rw [← hlo]; rfl
        have h2 : vs x k = val x := by rw [← hN.out]; rfl
        have h3 : vs y k = val y := vs_len (by rw [hM.out]; exact ly)
        have h4 : vs o k < pw k := vs_lt fun j _ => hdo j
        have h5 : cy = 0 := by
          rcases Nat.lt_or_ge cy 1 with h | h
          · omega
          · rw [show cy = 1 from by omega] at hv; omega
        rw [h5] at hv; omega
      have hw := hown.words
      have hlo' : Hid (o.length = _) := hlo
      clear hlo hv dx dy hx1 hy1
      go_wp2_with fail
      refine (norm_any _ _ _ _ _ hw hlo'.out (Nat.le_refl _) (by omega)).mono ?_
      rintro e w' ⟨rfl, rfl⟩
      go_wp2
      go_ret
      exact ⟨_, rfl, by rw [← hfin.out]; exact NatV.of_trim hown hdo (by rw [hlo'.out]; omega), hb⟩

end Go.Proofs.YtmkhfgggleplfaaGreat
