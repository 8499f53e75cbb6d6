/- Part 6 of the proof of SplitPlays: what the functions below it compute, each shown by a walk or by plain reasoning; no condition of its own. -/
import Derived.Test.YtlidbaejhmamjaaSP5
import Derived.Test.YtlidbaejhmamjaaSP3
import Derived.Test.YtlidbaejhmamjaaSP1
import Derived.Test.YtlidbaejhmamjaaSP4
import Derived.Deep.SlicePairs
import Derived.Lib.SmallJoins
import Derived.ChangeSlices
import Derived.ProofKit
namespace Go.Proofs.Ytlidbaejhmamjaa.LA
open Go.RowKit Go.Proofs.YtlidbaejhmamjaaW.PrintWords Go.Proofs.YtlidbaejhmamjaaW.PrintLast Go.Proofs.YtlidbaejhmamjaaW.PrintMore Go.Proofs.Ytlidbaejhmamjaa.PB
set_option linter.unusedVariables false
set_option linter.unusedSimpArgs false
/-- A point of one symbol's part, in parts of 2 to the depth. -/
def endv (d l a s : Int) : Int := (2 * a + 1 + s) * 2 ^ (d - l).toNat - 2 ^ d.toNat
def EOk (lv at_ sg : List Int) (d : Int) : Prop := Reg lv at_ ∧ sg.length = lv.length ∧ (∀ i, i < sg.length → -1 ≤ rd sg (i : Nat) ∧ rd sg (i : Nat) ≤ 1) ∧ 0 ≤ d ∧ d ≤ 8 ∧ ∀ i, i < lv.length → rd lv (i : Nat) ≤ d
instance (lv at_ sg : List Int) (d : Int) : Decidable (EOk lv at_ sg d) := by unfold EOk; infer_instance
def eE (lv at_ sg : List Int) (d : Int) : Int := if EOk lv at_ sg d then 0 else if Reg lv at_ then (if sg.length = lv.length then 1 else 63) else 180
def eRow (lv at_ sg : List Int) (d : Int) (i : Nat) : Int := endv d (rd lv (i : Nat)) (rd at_ (i : Nat)) (rd sg (i : Nat))
def eL (lv at_ sg : List Int) (d : Int) : List Int := if EOk lv at_ sg d then (List.range lv.length).map (eRow lv at_ sg d) else []
theorem pow_256 (n : Nat) (h : n ≤ 8) : (0 : Int) < 2 ^ n ∧ (2 : Int) ^ n ≤ 256 := by
 have h4 : (2 : Int) ^ n ≤ 2 ^ 8 := by
  have := Nat.pow_le_pow_right (n := 2) (by decide) h
  exact_mod_cast this
 have e : (2 : Int) ^ 8 = 256 := by decide
 exact ⟨Int.pow_pos (by decide), by omega⟩
theorem mul_256 (x : Int) (n : Nat) (h : n ≤ 8) (h0 : -1000 ≤ x) (h1 : x ≤ 1000) : -256000 ≤ x * 2 ^ n ∧ x * 2 ^ n ≤ 256000 := by
 obtain ⟨p0, p1⟩ := pow_256 n h
 generalize (2 : Int) ^ n = P at *
 have a1 : x * P ≤ 1000 * P := Int.mul_le_mul_of_nonneg_right h1 (by omega)
 have a2 : -1000 * P ≤ x * P := Int.mul_le_mul_of_nonneg_right h0 (by omega)
 omega
theorem shl_eq (x n : Int) (h0 : 0 ≤ n) (h8 : n ≤ 8) (x0 : -1000 ≤ x) (x1 : x ≤ 1000) : shl .i64 x n = x * 2 ^ n.toNat := by
 obtain ⟨m, rfl⟩ : ∃ m : Nat, n = m := ⟨n.toNat, by omega⟩
 show IntKind.i64.wrap (x * 2 ^ min (m : Int).toNat 64) = _
 rw [Int.toNat_natCast, Nat.min_eq_left (by omega), zl, w64]
 ·have := (mul_256 x m (by omega) x0 x1).1; omega
 ·have := (mul_256 x m (by omega) x0 x1).2; omega
theorem Max_ev (l : List Int) (h : 0 < l.length) (hn : l.length ≤ 256) : ∃ m, EvS (fun k => zG.f k l) m ∧ (∀ i : Nat, i < l.length → rd l (i : Nat) ≤ m) ∧ ∃ i : Nat, i < l.length ∧ rd l (i : Nat) = m := by
 have key : ∀ n (i : Nat) (x : Int), n + i = l.length → 0 < i → (∀ j : Nat, j < i → rd l (j : Nat) ≤ x) → (∃ j : Nat, j < i ∧ rd l (j : Nat) = x) →
   ∃ m, EvS (fun k => zG.l0 k l x (i : Int)) m ∧ (∀ i : Nat, i < l.length → rd l (i : Nat) ≤ m) ∧ ∃ i : Nat, i < l.length ∧ rd l (i : Nat) = m := by
  intro n
  induction n with
  | zero =>
   intro i x hi _ h1 h2
   obtain rfl : i = l.length := by omega
   exact ⟨x, EvS.done fun k => by simp only [zG.l0]; rw [if_neg (by omega)], h1, h2⟩
  | succ n ih =>
   intro i x hi hp h1 h2
   obtain ⟨m, hm, hm1, hm2⟩ := ih (i + 1) (mx x (rd l (i : Int))) (by omega) (by omega) (fun j hj => by
    unfold mx
    by_cases hji : j = i
    ·subst hji; split <;> omega
    ·have := h1 j (by omega); split <;> omega) (by
    unfold mx
    split
    ·exact ⟨i, by omega, rfl⟩
    ·obtain ⟨j, hj, e⟩ := h2; exact ⟨j, by omega, e⟩)
   refine ⟨m, EvS.succ (fun k => ?_) hm, hm1, hm2⟩
   simp only [zG.l0]
   rw [if_pos (by omega), if_pos (by omega), wnext i (by omega)]
 have one : ∀ j : Nat, j < 1 → rd l (j : Nat) ≤ rd l 0 := fun j hj => by
  have : j = 0 := by omega
  subst this
  exact Int.le_refl _
 obtain ⟨m, hm, r⟩ := key (l.length - 1) 1 (rd l 0) (by omega) (by omega) one ⟨0, by omega, rfl⟩
 refine ⟨m, ?_, r⟩
 unfold zG.f
 simp only [if_neg (show ¬ (l.length : Int) < 1 by omega)]
 refine EvS.succ (fun k => ?_) hm
 simp only [zG.j0]
 rw [if_pos (by omega)]
 rfl
section
variable (lv at_ sg : List Int) (d : Int)
theorem e_bad (hr : Reg lv at_) (hl : sg.length = lv.length) (h : ¬ EOk lv at_ sg d) : (eL lv at_ sg d, eE lv at_ sg d) = ([], 1) := by
 unfold eL eE
 rw [if_neg h, if_neg h, if_pos hr, if_pos hl]
theorem take_range (n i : Nat) (h : i < n) (f : Nat → Int) : ((List.range n).map f).take (i + 1) = ((List.range n).map f).take i ++ [f i] := by
 rw [List.take_add_one]
 simp [h]
/-- One point of the list, as the program reckons it. -/
theorem one_end (l a s : Int) (hf : Fit l a) (hs : -1 ≤ s ∧ s ≤ 1) (hl : l ≤ d) (d0 : 0 ≤ d) (d8 : d ≤ 8) :
  wrap64 (d - l) = d - l ∧ wrap64 (wrap64 (wrap64 (2 * a) + 1) + s) = 2 * a + 1 + s ∧ shl .i64 (2 * a + 1 + s) (d - l) = (2 * a + 1 + s) * 2 ^ (d - l).toNat ∧ shl .i64 (-1) d = -2 ^ d.toNat ∧ shl .i64 1 d = 2 ^ d.toNat ∧
   wrap64 (-2 ^ d.toNat + (2 * a + 1 + s) * 2 ^ (d - l).toNat) = endv d l a s ∧ wrap64 ((2 * a + 1 + s) * 2 ^ (d - l).toNat - 2 ^ d.toNat) = endv d l a s := by
 have ha := fit_at hf
 have h0 := hf.1
 have p := pow_256 d.toNat (by omega)
 have q := mul_256 (2 * a + 1 + s) (d - l).toNat (by omega) (by omega) (by omega)
 refine ⟨w64 _ (by omega) (by omega), ?_, shl_eq _ _ (by omega) (by omega) (by omega) (by omega), ?_, ?_, ?_, ?_⟩
 ·rw [w64 (2 * a) (by omega) (by omega), w64 (2 * a + 1) (by omega) (by omega), w64 _ (by omega) (by omega)]
 ·rw [shl_eq _ _ d0 d8 (by omega) (by omega)]; omega
 ·rw [shl_eq _ _ d0 d8 (by omega) (by omega)]; omega
 ·unfold endv; rw [w64 _ (by omega) (by omega)]; omega
 ·unfold endv; rw [w64 _ (by omega) (by omega)]
theorem Ends_ev : EvS (fun k => zF.f k lv at_ sg d) (eL lv at_ sg d, eE lv at_ sg d) := by
 unfold zF.f
 refine EvS.bind (Check_ev lv at_ _) ?_
 rw [chk_self]
 by_cases hr : Reg lv at_
 ·simp only [if_pos hr, if_true]
  by_cases hl : sg.length = lv.length
  ·simp only [if_pos (show (sg.length : Int) = (lv.length : Int) by omega)]
   have hn := hr.1
   have bad : ¬ EOk lv at_ sg d → EvS (fun k => zF.j1 k sg d true lv at_) (eL lv at_ sg d, eE lv at_ sg d) := fun h => by
    rw [e_bad lv at_ sg d hr hl h]
    exact EvS.done fun k => by simp only [zF.j1]; rfl
   have good : EOk lv at_ sg d → EvS (fun k => zF.j1 k sg d false lv at_) (eL lv at_ sg d, eE lv at_ sg d) := fun h => by
    unfold eL eE
    simp only [if_pos h]
    refine EvS.succ (fun k => by simp only [zF.j1]; rfl) ?_
    simp only [Bool.false_eq_true, if_false, if_pos (show 0 ≤ (sg.length : Int) by omega), Int.toNat_natCast, if_pos (show sg.length ≤ 35184372088832 by omega)]
    refine EvS.bind (parts_ev lv at_ hr.2.1 hr.1) ?_
    rw [za0 lv at_ hr.2.1]
    have key : ∀ m i : Nat, m + i = lv.length → EvS (fun k => zF.l1 k sg d (((List.range lv.length).map (eRow lv at_ sg d)).take i ++ List.replicate (lv.length - i) 0) (pz lv at_) (lv.length : Int) (i : Int)) ((List.range lv.length).map (eRow lv at_ sg d), 0) := by
     intro m
     induction m with
     | zero =>
      intro i hi
      rw [List.take_of_length_le (by simp; omega), show lv.length - i = 0 by omega]
      exact EvS.done fun k => by simp only [zF.l1]; rw [if_neg (by omega)]; simp
     | succ m ih =>
      intro i hi
      refine EvS.succ (fun k => ?_) (ih (i + 1) (by omega))
      have hp := pz_rd lv at_ i (by omega) (by have := hr.2.1; omega)
      obtain ⟨e1, e2, e3, e4, e5, e6, e7⟩ := one_end d (rd lv (i : Int)) (rd at_ (i : Int)) (rd sg (i : Int)) (hr.2.2 i (by omega)) (h.2.2.1 i (by omega)) (h.2.2.2.2.2 i (by omega)) h.2.2.2.1 h.2.2.2.2.1
      have hs := set_step ((List.range lv.length).map (eRow lv at_ sg d)) i (by simp; omega)
      simp only [List.length_map, List.length_range, List.getElem_map, List.getElem_range] at hs
      simp only [zF.l1, hp]
      rw [if_pos (by omega), if_pos (by omega), if_pos (by rw [za0 lv at_ hr.2.1]; omega), if_pos h.2.2.2.1, if_pos (by omega), e1, if_pos (by have := h.2.2.2.2.2 i (by omega); omega), if_pos (by simp; omega), e2, e3, e4, e6, wnext i (by omega), Int.toNat_natCast]
      rw [← hs]
      rfl
    have := key lv.length 0 (by omega)
    rw [hl]
    simpa using this
   have key : ∀ m i : Nat, m + i = sg.length → (∀ j : Nat, j < i → -1 ≤ rd sg (j : Nat) ∧ rd sg (j : Nat) ≤ 1) → EvS (fun k => zF.l0 k sg d sg (sg.length : Int) (i : Int) lv at_) (eL lv at_ sg d, eE lv at_ sg d) := by
    intro m
    induction m with
    | zero =>
     intro i hi hall
     obtain rfl : i = sg.length := by omega
     by_cases d0 : d < 0
     ·refine EvS.succ (fun k => ?_) (bad (fun h => by have := h.2.2.2.1; omega))
      simp only [zF.l0]
      rw [if_neg (by omega), if_pos d0]
     ·by_cases d8 : d > 8
      ·refine EvS.succ (fun k => ?_) (bad (fun h => by have := h.2.2.2.2.1; omega))
       simp only [zF.l0]
       rw [if_neg (by omega), if_neg d0, if_pos d8]
      ·by_cases hz : (lv.length : Int) > 0
       ·refine EvS.succ (fun k => by simp only [zF.l0]; rw [if_neg (by omega), if_neg d0, if_neg d8, if_pos hz]) ?_
        obtain ⟨x, hx, hx1, i, hi1, hx2⟩ := Max_ev lv (by omega) hn
        refine EvS.bind hx ?_
        by_cases hd : d < x
        ·rw [decide_eq_true hd]
         exact bad (fun h => by have := h.2.2.2.2.2 i hi1; omega)
        ·rw [decide_eq_false hd]
         exact good ⟨hr, hl, hall, by omega, by omega, fun i hi => by have := hx1 i hi; omega⟩
       ·refine EvS.succ (fun k => ?_) (good ⟨hr, hl, hall, by omega, by omega, fun i hi => by omega⟩)
        simp only [zF.l0]
        rw [if_neg (by omega), if_neg d0, if_neg d8, if_neg hz]
    | succ m ih =>
     intro i hi hall
     by_cases s0 : rd sg (i : Int) < -1
     ·rw [e_bad lv at_ sg d hr hl (fun h => by have := h.2.2.1 i (by omega); omega)]
      exact EvS.done fun k => by
       simp only [zF.l0]
       rw [if_pos (by omega), if_pos (by omega), if_pos (by omega), if_pos s0]
     ·by_cases s1 : rd sg (i : Int) > 1
      ·rw [e_bad lv at_ sg d hr hl (fun h => by have := h.2.2.1 i (by omega); omega)]
       exact EvS.done fun k => by
        simp only [zF.l0]
        rw [if_pos (by omega), if_pos (by omega), if_pos (by omega), if_neg s0, if_pos s1]
      ·refine EvS.succ (fun k => ?_) (ih (i + 1) (by omega) (fun j hj => by
        by_cases hji : j = i
        ·subst hji; omega
        ·exact hall j (by omega)))
       simp only [zF.l0]
       rw [if_pos (by omega), if_pos (by omega), if_pos (by omega), if_neg s0, if_neg s1, wnext i (by omega)]
   exact key sg.length 0 (by omega) (fun j hj => by omega)
  ·simp only [if_neg (show ¬ (sg.length : Int) = (lv.length : Int) by omega)]
   unfold eL eE
   simp only [if_neg (show ¬ EOk lv at_ sg d from fun h => hl h.2.1), if_pos hr, if_neg hl]
   exact EvS.pure _
 ·have hn : ¬ EOk lv at_ sg d := fun h => hr h.1
  simp only [if_neg hr, if_neg (show ¬ ((180 : Int) = 0) by decide)]
  unfold eL eE
  simp only [if_neg hn, if_neg hr]
  exact EvS.pure _
end
end Go.Proofs.Ytlidbaejhmamjaa.LA

namespace Go.Proofs.Ytlidbaejhmamjaa.PB
open Go.RowKit Go.Proofs.YtlidbaejhmamjaaW.PrintWords Go.Proofs.YtlidbaejhmamjaaW.PrintLast Go.Proofs.YtlidbaejhmamjaaW.PrintMore
attribute [local go_sem] zao zar zaB zaC zaf zag zap zas   -- for this text's walks alone
set_option linter.unusedVariables false
set_option linter.unusedSimpArgs false
mutual
def zv.l0 : Nat → List Int → Int → Int → List Int → List Int → Option (List Int × Int)
 | 0, _, _, _, _, _ => none
 | k + 1, x1, x2, x8, x295000, x295001 => if x8 < (x1.length : Int) then (if 0 ≤ x8 then (if (rd x1 x8) < (-1) then (some (([] : List Int), 1)) else (if (rd x1 x8) > 1 then (some (([] : List Int), 1)) else (zv.l0 k x1 x2 (wrap64 (x8 + 1)) x295000 x295001))) else (none)) else (if x2 < 0 then (zv.j1 k x1 x2 true x295000 x295001) else (zv.j1 k x1 x2 (decide (x2 > 8)) x295000 x295001))
def zv.j1 : Nat → List Int → Int → Bool → List Int → List Int → Option (List Int × Int)
 | 0, _, _, _, _, _ => none
 | k + 1, x1, x2, x46, x295000, x295001 => if x46 = true then (some (([] : List Int), 1)) else (zv.l1 k x1 x2 ([] : List Int) 0 x295000 x295001)
def zv.l1 : Nat → List Int → Int → List Int → Int → List Int → List Int → Option (List Int × Int)
 | 0, _, _, _, _, _, _ => none
 | k + 1, x1, x2, x9, x10, x295000, x295001 => if x10 < (x1.length : Int) then (if 0 ≤ x10 then (if x10 < (x295000.length : Int) then (if x2 < (rd x295000 x10) then (some (([] : List Int), 1)) else (if x10 < (x295001.length : Int) then (if 0 ≤ (wrap64 (x2 - (rd x295000 x10))) then (if 0 ≤ x2 then (if x9.length < 17592186044416 then (zv.l1 k x1 x2 (x9 ++ [wrap64 ((shl .i64 (wrap64 ((wrap64 ((wrap64 (2 * (rd x295001 x10))) + 1)) + (rd x1 x10))) (wrap64 (x2 - (rd x295000 x10)))) - (shl .i64 1 x2))]) (wrap64 (x10 + 1)) x295000 x295001) else (none)) else (none)) else (none)) else (none))) else (none)) else (none)) else (some (x9, 0))
end
def zv.f (k : Nat) (l0_0 : List Int) (l0_1 : List Int) (l1 : List Int) (a2 : Int) : Option (List Int × Int) := (zy.f k l0_0 l0_1 (l0_0.length : Int)).bind fun t295 => (if t295 = 0 then (if (l1.length : Int) = (l0_0.length : Int) then (zv.l0 k l1 a2 0 l0_0 l0_1) else (some (([] : List Int), 63))) else (some (([] : List Int), 180)))
def zv.T18 : Bool × List (List Nat × List Nat) := (true, [([], []), ([], []), ([1], [1]), ([], []), ([2, 3], [2, 3]), ([4], [4]), ([5], [5]), ([6], [6]), ([], []), ([], []), ([8, 9], [8, 9]), ([10], [10]), ([7, 11], [7, 11]), ([], []), ([], []), ([14], [14]), ([], []), ([15, 16], [15, 16]), ([17], [17]), ([13, 18], [13, 18]), ([12, 19], [12, 19]), ([], []), ([21], [21]), ([20, 22], [20, 22]), ([23], [23]), ([0, 24], [0, 24]), ([25, 25, 0, 1, 2, 3, 4, 5, 6, 7, 8, 9, 10, 11, 12, 13, 14, 15, 16, 17, 18, 19, 20, 21, 22, 23, 24, 25], [0, 25])])
def zv.B18 : List Nat := [0, 0, 2, 0, 14, 30, 62, 126, 0, 0, 768, 1792, 4094, 0, 0, 16384, 0, 114688, 245760, 516096, 1048574, 0, 2097152, 8388606, 16777214, 33554431, 67108863]
theorem zv.tab18 : rtab .any (opsOf Try.f22 18) = zv.T18 := by kernel_rfl
theorem zv.bits18 : zaG zv.T18.2 zv.B18 = true := by kernel_rfl
set_option maxHeartbeats 8000000 in
set_option maxRecDepth 100000 in
theorem zv.calls (k : Nat) (A0_0 : Option Addr) (c0_0 : Nat) (l0_0 : List Int) (A0_1 : Option Addr) (c0_1 : Nat) (l0_1 : List Int) (A1 : Option Addr) (c1 : Nat) (l1 : List Int) (a2 : Int) (r1 : List Int) (r2 : Int) (w : World) (hr0_0 : Kd.C (Kd.int .i64) w A0_0 l0_0.length l0_0) (hc0_0 : l0_0.length ≤ c0_0) (hr0_1 : Kd.C (Kd.int .i64) w A0_1 l0_1.length l0_1) (hc0_1 : l0_1.length ≤ c0_1) (hr1 : Kd.C (Kd.int .i64) w A1 l1.length l1) (hc1 : l1.length ≤ c1) (h : zv.f k l0_0 l0_1 l1 a2 = some (r1, r2)) :
  Calls Try.prog 22 #[.agg #[.slice A0_0 l0_0.length c0_0, .slice A0_1 l0_1.length c0_1], .slice A1 l1.length c1, .int .i64 a2] w fun e w' => ∃ v0_ : Value, e = .returned (.tuple #[v0_, .int .i64 r2]) ∧ Kd.R (Kd.int .i64) 3 w' w.heap.size (fun _ => True) v0_ r1 ∧ Below w.heap.size w w' := by
 have hu24 := Try.underlying24
 have HR0_0 := am_ hr0_0
 have HC0_0 := am_ hc0_0
 clear hr0_0 hc0_0
 have HR0_1 := am_ hr0_1
 have HC0_1 := am_ hc0_1
 clear hr0_1 hc0_1
 have HR1 := am_ hr1
 have HC1 := am_ hc1
 clear hr1 hc1
 have HB := am_ (Below.refl w.heap.size w)
 have H : ((zy.f k l0_0 l0_1 (l0_0.length : Int)).bind fun t295 => (if t295 = 0 then (if (l1.length : Int) = (l0_0.length : Int) then (zv.l0 k l1 a2 0 l0_0 l0_1) else (some (([] : List Int), 63))) else (some (([] : List Int), 180)))) = some (r1, r2) := h
 clear h
 replace H := Option.bind_eq_some_iff.mp H
 obtain ⟨t295, A40, H⟩ := H
 replace H : (if t295 = 0 then (if (l1.length : Int) = (l0_0.length : Int) then (zv.l0 k l1 a2 0 l0_0 l0_1) else (some (([] : List Int), 63))) else (some (([] : List Int), 180))) = some (r1, r2) := H
 have A4 := am_ A40
 clear A40
 by_cases c5 : t295 = 0
 ·rw [if_pos c5] at H
  have c5b0 : (t295 == 0) = true := beq_iff_eq.mpr c5
  have c5b1 : (t295 != 0) = false := bne_eq_false_iff_eq.mpr c5
  clear c5
  by_cases c6 : (l1.length : Int) = (l0_0.length : Int)
  ·rw [if_pos c6] at H
   have c6b0 : ((l1.length : Int) == (l0_0.length : Int)) = true := beq_iff_eq.mpr c6
   have c6b1 : ((l1.length : Int) != (l0_0.length : Int)) = false := bne_eq_false_iff_eq.mpr c6
   have c6b2 : (l1.length == l0_0.length) = true := by first | simpa using c6 | (simp at c6 ⊢; omega)
   clear c6
   have H' := am_ H
   clear H
   go_enter Try.func22, Try.ntmps22
   go_wp2_with (first | ((with_reducible refine zr (N := 3) rfl ?_); refine zt ?hg (N := 3) ?hd (cs := #[.slice A0_0 l0_0.length c0_0, .slice A0_1 l0_1.length c0_1]) (t := 24) ?hr ?_; (case hd => rfl); (case hg => rfl); (case hr => first | (go_simp; done) | (go_simp; rfl)); intro gb294 hg w7 hbox hb; have n0_ := am_ (zh (by repeat (first | (with_reducible first | exact HB.out | apply zc | apply za | apply zb) | exact HB.out)) hb); have n1_ := am_ (hbox); have n2_ := am_ ((by rw [hg]; exact (zk (by repeat (first | (with_reducible first | exact HB.out | apply zc | apply za | apply zb) | exact HB.out))) : w.heap.size ≤ gb294)); have n3_ := am_ ((by rw [hg]; exact (zk (by repeat (first | (with_reducible first | exact HB.out | apply zc | apply za | apply zb) | exact HB.out))) : w.heap.size ≤ gb294)); clear HB; have HB := n0_; have BK294 := n1_; have GW294 := n2_; have GE294 := n3_; clear n0_ n1_ n2_ n3_; clear hb hbox hg; have hcz8_0 : w7.cell? ⟨gb294, 0, none⟩ = some (.slice A0_0 l0_0.length c0_0) := (zj BK294.out 0).trans rfl; have hcz8_1 : w7.cell? ⟨gb294, 1, none⟩ = some (.slice A0_1 l0_1.length c0_1) := (zj BK294.out 1).trans rfl; have hfz8_0 := zi BK294.out 0; have hfz8_1 := zi BK294.out 1) | ((with_reducible refine zV (f := 18) rfl ?_); refine zaF (some 15) rfl rfl Try.func18 (by kernel_rfl) rfl #[.agg #[.slice A0_0 l0_0.length c0_0, .slice A0_1 l0_1.length c0_1], .int .i64 (l0_0.length : Int)] rfl (by (try simp only [List.map_toArray, List.map_cons, List.map_nil]); first | done | rfl | (simp only [List.length_drop, List.length_take]; rfl)) ?_; (with_reducible refine (zy.calls k _ _ l0_0 _ _ l0_1 (l0_0.length : Int) t295 _ ?side1 ?side2 ?side3 ?side4 A4.out).mono ?_); (case side1 => repeat (first | exact (Kd.zU HR0_0.out HB.out) | (with_reducible refine Kd.zaa ?_ _) | (with_reducible refine Kd.zab ?_ _) | (with_reducible refine Kd.zam ?_))); (case side2 => exact HC0_0.out); (case side3 => repeat (first | exact (Kd.zU HR0_1.out HB.out) | (with_reducible refine Kd.zaa ?_ _) | (with_reducible refine Kd.zab ?_ _) | (with_reducible refine Kd.zam ?_))); (case side4 => exact HC0_1.out); rintro e w9 ⟨rfl, hb⟩; refine ⟨_, rfl, ?_⟩; have n0_ := am_ (zo (g := gb294) (o := .cells #[.slice A0_0 l0_0.length c0_0, .slice A0_1 l0_1.length c0_1] 24 (0, 0)) (by (with_reducible repeat (first | refine ze ?_ _ | refine zg ?_ | refine zd ?_ _)); exact BK294.out) hb); have n1_ := am_ (zh (by repeat (first | (with_reducible first | exact HB.out | apply zc | apply za | apply zb | refine zf ?_ GE294.out) | exact HB.out)) hb); clear BK294; clear HB; have BK294 := n0_; have HB := n1_; clear n0_ n1_; (try clear hb); (try clear hb2); (try clear hk); (try clear hi); have hcz10_0 : w9.cell? ⟨gb294, 0, none⟩ = some (.slice A0_0 l0_0.length c0_0) := (zj BK294.out 0).trans rfl; have hcz10_1 : w9.cell? ⟨gb294, 1, none⟩ = some (.slice A0_1 l0_1.length c0_1) := (zj BK294.out 1).trans rfl; have hfz10_0 := zi BK294.out 0; have hfz10_1 := zi BK294.out 1))
   go_loopg [8] k (fun kq v8 w' => ∃ (x8_1 : Int), v8 = .int .i64 x8_1 ∧ Aside0 (zv.l0 kq l1 a2 x8_1 l0_0 l0_1 = some (r1, r2)) ∧ Aside0 (kq ≤ k) ∧ Aside0 (w'.heap[gb294]? = some (.cells #[(.slice A0_0 l0_0.length c0_0), (.slice A0_1 l0_1.length c0_1)] 24 (0, 0))) ∧ Aside0 (Below w.heap.size w w'))
   case atStart => exact ⟨(0), (by first | rfl | (simp; done) | (simp [*]; done)), H', ⟨Nat.le_refl _⟩, ⟨by (with_reducible repeat (first | refine ze ?_ _ | refine zg ?_ | refine zd ?_ _)); exact BK294.out⟩, ⟨by repeat (first | (with_reducible first | exact HB.out | apply zc | apply za | apply zb | refine zf ?_ GE294.out) | exact HB.out)⟩⟩
   case round =>
    clear H'
    try clear c1
    try clear c2
    try clear p2
    try clear c5
    try clear c5b0
    try clear c5b1
    try clear c6
    try clear c6b0
    try clear c6b1
    try clear c6b2
    try clear hcz10_0
    try clear hcz10_1
    try clear hcz8_0
    try clear hcz8_1
    try clear hfz10_0
    try clear hfz10_1
    try clear hfz8_0
    try clear hfz8_1
    obtain ⟨x8_1, rfl, HA, HK1, BK294, HB⟩ := hrel
    cases gk with
    | zero => exact absurd HA.out (by simp [zv.l0])
    | succ k1 =>
     have H := HA.out
     clear HA
     simp only [zv.l0] at H
     by_cases c11 : x8_1 < (l1.length : Int)
     ·rw [if_pos c11] at H
      have c11b0 : decide (x8_1 < (l1.length : Int)) = true := decide_eq_true c11
      clear c11
      by_cases c12 : 0 ≤ x8_1
      ·rw [if_pos c12] at H
       have c12b0 : decide (0 ≤ x8_1) = true := decide_eq_true c12
       clear c12
       by_cases c13 : (rd l1 x8_1) < (-1)
       ·rw [if_pos c13] at H
        have c13b0 : decide ((rd l1 x8_1) < (-1)) = true := decide_eq_true c13
        clear c13
        simp only [Option.some.injEq, Prod.mk.injEq] at H
        obtain ⟨rfl, rfl⟩ := H
        have p296 : 0 ≤ (x8_1 : Int) := of_decide_eq_true (by first | (with_reducible assumption) | assumption)
        have q296 : x8_1 < (l1.length : Int) := of_decide_eq_true (by first | (with_reducible assumption) | assumption)
        obtain ⟨ad296, e296, hx296_0⟩ := Kd.z3 HR1.out x8_1 p296 q296
        cases e296
        replace hx296_0 := (HB.out.cell (World.block_lt_of_cell? w _ hx296_0)).trans hx296_0
        replace p296 := eq_true p296
        replace q296 := eq_true q296
        go_wp2
        go_ret2
        exact ⟨_, by first | rfl | (simp [zq, zp] <;> rfl) | (simp [*, zq, zp] <;> rfl), by first | exact Kd.zaK _ _ _ _ _ | exact Kd.zaP _ _ _ _ _ | exact Kd.zaT _ _ _ _ _ | exact Kd.zaO _ _ _ _ _ | exact Kd.zaS _ _ _ _ _, by repeat (first | (with_reducible first | exact HB.out | apply zc | apply za | apply zb | refine zf ?_ GE294.out) | exact HB.out)⟩
       ·rw [if_neg c13] at H
        have c13b0 : decide ((rd l1 x8_1) < (-1)) = false := decide_eq_false c13
        clear c13
        by_cases c14 : (rd l1 x8_1) > 1
        ·rw [if_pos c14] at H
         have c14b0 : decide (1 < (rd l1 x8_1)) = true := decide_eq_true c14
         clear c14
         simp only [Option.some.injEq, Prod.mk.injEq] at H
         obtain ⟨rfl, rfl⟩ := H
         have p296 : 0 ≤ (x8_1 : Int) := of_decide_eq_true (by first | (with_reducible assumption) | assumption)
         have q296 : x8_1 < (l1.length : Int) := of_decide_eq_true (by first | (with_reducible assumption) | assumption)
         obtain ⟨ad296, e296, hx296_0⟩ := Kd.z3 HR1.out x8_1 p296 q296
         cases e296
         replace hx296_0 := (HB.out.cell (World.block_lt_of_cell? w _ hx296_0)).trans hx296_0
         replace p296 := eq_true p296
         replace q296 := eq_true q296
         have p297 : 0 ≤ (x8_1 : Int) := of_decide_eq_true (by first | (with_reducible assumption) | assumption)
         have q297 : x8_1 < (l1.length : Int) := of_decide_eq_true (by first | (with_reducible assumption) | assumption)
         obtain ⟨ad297, e297, hx297_0⟩ := Kd.z3 HR1.out x8_1 p297 q297
         obtain rfl : ad296 = ad297 := (by injection e297)
         replace hx297_0 := (HB.out.cell (World.block_lt_of_cell? w _ hx297_0)).trans hx297_0
         replace p297 := eq_true p297
         replace q297 := eq_true q297
         go_wp2
         go_ret2
         exact ⟨_, by first | rfl | (simp [zq, zp] <;> rfl) | (simp [*, zq, zp] <;> rfl), by first | exact Kd.zaK _ _ _ _ _ | exact Kd.zaP _ _ _ _ _ | exact Kd.zaT _ _ _ _ _ | exact Kd.zaO _ _ _ _ _ | exact Kd.zaS _ _ _ _ _, by repeat (first | (with_reducible first | exact HB.out | apply zc | apply za | apply zb | refine zf ?_ GE294.out) | exact HB.out)⟩
        ·rw [if_neg c14] at H
         have c14b0 : decide (1 < (rd l1 x8_1)) = false := decide_eq_false c14
         clear c14
         have H' := am_ H
         clear H
         have p296 : 0 ≤ (x8_1 : Int) := of_decide_eq_true (by first | (with_reducible assumption) | assumption)
         have q296 : x8_1 < (l1.length : Int) := of_decide_eq_true (by first | (with_reducible assumption) | assumption)
         obtain ⟨ad296, e296, hx296_0⟩ := Kd.z3 HR1.out x8_1 p296 q296
         cases e296
         replace hx296_0 := (HB.out.cell (World.block_lt_of_cell? w _ hx296_0)).trans hx296_0
         replace p296 := eq_true p296
         replace q296 := eq_true q296
         have p297 : 0 ≤ (x8_1 : Int) := of_decide_eq_true (by first | (with_reducible assumption) | assumption)
         have q297 : x8_1 < (l1.length : Int) := of_decide_eq_true (by first | (with_reducible assumption) | assumption)
         obtain ⟨ad297, e297, hx297_0⟩ := Kd.z3 HR1.out x8_1 p297 q297
         obtain rfl : ad296 = ad297 := (by injection e297)
         replace hx297_0 := (HB.out.cell (World.block_lt_of_cell? w _ hx297_0)).trans hx297_0
         replace p297 := eq_true p297
         replace q297 := eq_true q297
         go_wp2
         go_roundg k1
         case measure => have := HK1.out; omega
         case rel => exact ⟨(wrap64 (x8_1 + 1)), (by first | rfl | (simp; done) | (simp [*]; done)), H', ⟨by have := HK1.out; omega⟩, ⟨by (with_reducible repeat (first | refine ze ?_ _ | refine zg ?_ | refine zd ?_ _)); exact BK294.out⟩, ⟨by repeat (first | (with_reducible first | exact HB.out | apply zc | apply za | apply zb | refine zf ?_ GE294.out) | exact HB.out)⟩⟩
      ·rw [if_neg c12] at H
       exact absurd H (by simp)
     ·rw [if_neg c11] at H
      have c11b0 : decide (x8_1 < (l1.length : Int)) = false := decide_eq_false c11
      clear c11
      have HC15 := am_ H
      clear H
      go_upto_region 10 with (fail)
      go_cut [46] (fun v46 wc => ∃ (kq : Nat) (x46_14 : Bool), v46 = .bool x46_14 ∧ Aside0 (zv.j1 kq l1 a2 x46_14 l0_0 l0_1 = some (r1, r2)) ∧ Aside0 (kq ≤ k1) ∧ Aside0 (wc.heap[gb294]? = some (.cells #[(.slice A0_0 l0_0.length c0_0), (.slice A0_1 l0_1.length c0_1)] 24 (0, 0))) ∧ Aside0 (Below w.heap.size w wc))
      case first =>
       have H := HC15.out
       clear HC15
       by_cases c16 : a2 < 0
       ·rw [if_pos c16] at H
        have c16b0 : decide (a2 < 0) = true := decide_eq_true c16
        clear c16
        (first | rw [c16b0] | (simp only [zl, zm]; rw [c16b0]) | skip)
        have H' := am_ H
        clear H
        go_wp2
        go_meet
        case rel => exact ⟨_, (true), (by first | rfl | (simp; done) | (simp [*]; done)), H', ⟨by have := HK1.out; first | omega | exact Nat.le_refl _⟩, ⟨by (with_reducible repeat (first | refine ze ?_ _ | refine zg ?_ | refine zd ?_ _)); exact BK294.out⟩, ⟨by repeat (first | (with_reducible first | exact HB.out | apply zc | apply za | apply zb | refine zf ?_ GE294.out) | exact HB.out)⟩⟩
       ·rw [if_neg c16] at H
        have c16b0 : decide (a2 < 0) = false := decide_eq_false c16
        clear c16
        (first | rw [c16b0] | (simp only [zl, zm]; rw [c16b0]) | skip)
        have H' := am_ H
        clear H
        go_wp2
        go_meet
        case rel => exact ⟨_, (decide (a2 > 8)), (by first | rfl | (simp; done) | (simp [*]; done)), H', ⟨by have := HK1.out; first | omega | exact Nat.le_refl _⟩, ⟨by (with_reducible repeat (first | refine ze ?_ _ | refine zg ?_ | refine zd ?_ _)); exact BK294.out⟩, ⟨by repeat (first | (with_reducible first | exact HB.out | apply zc | apply za | apply zb | refine zf ?_ GE294.out) | exact HB.out)⟩⟩
      case rest =>
       clear HC15
       try clear c1
       try clear c2
       try clear p2
       try clear q2
       try clear hx2
       try clear c5
       try clear c5b0
       try clear c5b1
       try clear c6
       try clear c6b0
       try clear c6b1
       try clear c6b2
       try clear p6
       try clear c11
       try clear c11b0
       try clear c12
       try clear c12b0
       try clear c13
       try clear c13b0
       try clear c14
       try clear c14b0
       try clear c16
       try clear c16b0
       try clear hcz10_0
       try clear hcz10_1
       try clear hcz8_0
       try clear hcz8_1
       try clear hfz10_0
       try clear hfz10_1
       try clear hfz8_0
       try clear hfz8_1
       try clear hx296_0
       try clear hx297_0
       try clear p2
       try clear p296
       try clear p297
       try clear q296
       try clear q297
       obtain ⟨kq, x46_14, rfl, HA, HJ14, BK294, HB⟩ := hcut
       cases kq with
       | zero => exact absurd HA.out (by simp [zv.j1])
       | succ kj14 =>
        have H := HA.out
        clear HA
        simp only [zv.j1] at H
        by_cases c17 : x46_14 = true
        ·subst c17
         have H1 : (some (([] : List Int), 1)) = some (r1, r2) := by rw [if_pos rfl] at H; exact H
         clear H
         have H := H1
         clear H1
         simp only [Option.some.injEq, Prod.mk.injEq] at H
         obtain ⟨rfl, rfl⟩ := H
         go_wp2
         go_ret2
         exact ⟨_, by first | rfl | (simp [zq, zp] <;> rfl) | (simp [*, zq, zp] <;> rfl), by first | exact Kd.zaK _ _ _ _ _ | exact Kd.zaP _ _ _ _ _ | exact Kd.zaT _ _ _ _ _ | exact Kd.zaO _ _ _ _ _ | exact Kd.zaS _ _ _ _ _, by repeat (first | (with_reducible first | exact HB.out | apply zc | apply za | apply zb | refine zf ?_ GE294.out) | exact HB.out)⟩
        ·replace c17 := Bool.eq_false_iff.mpr c17
         subst c17
         have H1 : (zv.l1 kj14 l1 a2 ([] : List Int) 0 l0_0 l0_1) = some (r1, r2) := by rw [if_neg (show ¬ (false = true) by decide)] at H; exact H
         clear H
         have H := H1
         clear H1
         have H' := am_ H
         clear H
         go_wp2
         go_loopg [9, 10] kj14 (fun kq v9 v10 w' => ∃ (x9_3 : List Int) (x10_3 : Int), v10 = .int .i64 x10_3 ∧ Aside0 (zv.l1 kq l1 a2 x9_3 x10_3 l0_0 l0_1 = some (r1, r2)) ∧ Aside0 (kq ≤ kj14) ∧ Aside0 (Kd.R (Kd.int .i64) 3 w' w.heap.size (fun _ => True) v9 x9_3) ∧ Aside0 (w'.heap[gb294]? = some (.cells #[(.slice A0_0 l0_0.length c0_0), (.slice A0_1 l0_1.length c0_1)] 24 (0, 0))) ∧ Aside0 (Below w.heap.size w w'))
         case atStart => exact ⟨(([] : List Int)), (0), (by first | rfl | (simp; done) | (simp [*]; done)), H', ⟨Nat.le_refl _⟩, ⟨by first | exact Kd.zaK _ _ _ _ _ | exact Kd.zaP _ _ _ _ _ | exact Kd.zaT _ _ _ _ _ | exact Kd.zaO _ _ _ _ _ | exact Kd.zaS _ _ _ _ _⟩, ⟨by (with_reducible repeat (first | refine ze ?_ _ | refine zg ?_ | refine zd ?_ _)); exact BK294.out⟩, ⟨by repeat (first | (with_reducible first | exact HB.out | apply zc | apply za | apply zb | refine zf ?_ GE294.out) | exact HB.out)⟩⟩
         case round =>
          clear H'
          try clear c1
          try clear c2
          try clear p2
          try clear q2
          try clear hx2
          try clear c5
          try clear c5b0
          try clear c5b1
          try clear c6
          try clear c6b0
          try clear c6b1
          try clear c6b2
          try clear p6
          try clear c11
          try clear c11b0
          try clear c12
          try clear c12b0
          try clear c13
          try clear c13b0
          try clear c14
          try clear c14b0
          try clear c16
          try clear c16b0
          try clear c17
          try clear hcz10_0
          try clear hcz10_1
          try clear hcz8_0
          try clear hcz8_1
          try clear hfz10_0
          try clear hfz10_1
          try clear hfz8_0
          try clear hfz8_1
          try clear hx296_0
          try clear hx297_0
          try clear p2
          try clear p296
          try clear p297
          try clear p6
          try clear q2
          try clear q296
          try clear q297
          obtain ⟨x9_3, x10_3, rfl, HA, HK3, HO_9, BK294, HB⟩ := hrel
          cases gk with
          | zero => exact absurd HA.out (by simp [zv.l1])
          | succ k3 =>
           have H := HA.out
           clear HA
           simp only [zv.l1] at H
           by_cases c18 : x10_3 < (l1.length : Int)
           ·rw [if_pos c18] at H
            have c18b0 : decide (x10_3 < (l1.length : Int)) = true := decide_eq_true c18
            clear c18
            by_cases c19 : 0 ≤ x10_3
            ·rw [if_pos c19] at H
             have c19b0 : decide (0 ≤ x10_3) = true := decide_eq_true c19
             clear c19
             by_cases c20 : x10_3 < (l0_0.length : Int)
             ·rw [if_pos c20] at H
              have c20b0 : decide (x10_3 < (l0_0.length : Int)) = true := decide_eq_true c20
              clear c20
              by_cases c21 : a2 < (rd l0_0 x10_3)
              ·rw [if_pos c21] at H
               have c21b0 : decide (a2 < (rd l0_0 x10_3)) = true := decide_eq_true c21
               clear c21
               simp only [Option.some.injEq, Prod.mk.injEq] at H
               obtain ⟨rfl, rfl⟩ := H
               have hcz22_0 : wr.cell? ⟨gb294, 0, none⟩ = some (.slice A0_0 l0_0.length c0_0) := (zj BK294.out 0).trans rfl
               have hcz22_1 : wr.cell? ⟨gb294, 1, none⟩ = some (.slice A0_1 l0_1.length c0_1) := (zj BK294.out 1).trans rfl
               have hfz22_0 := zi BK294.out 0
               have hfz22_1 := zi BK294.out 1
               have p298 : 0 ≤ (x10_3 : Int) := of_decide_eq_true (by first | (with_reducible assumption) | assumption)
               have q298 : x10_3 < (l0_0.length : Int) := of_decide_eq_true (by first | (with_reducible assumption) | assumption)
               obtain ⟨ad298, e298, hx298_0⟩ := Kd.z3 HR0_0.out x10_3 p298 q298
               cases e298
               replace hx298_0 := (HB.out.cell (World.block_lt_of_cell? w _ hx298_0)).trans hx298_0
               replace p298 := eq_true p298
               replace q298 := eq_true q298
               go_wp2
               go_ret2
               exact ⟨_, by first | rfl | (simp [zq, zp] <;> rfl) | (simp [*, zq, zp] <;> rfl), by first | exact Kd.zaK _ _ _ _ _ | exact Kd.zaP _ _ _ _ _ | exact Kd.zaT _ _ _ _ _ | exact Kd.zaO _ _ _ _ _ | exact Kd.zaS _ _ _ _ _, by repeat (first | (with_reducible first | exact HB.out | apply zc | apply za | apply zb | refine zf ?_ GE294.out) | exact HB.out)⟩
              ·rw [if_neg c21] at H
               have c21b0 : decide (a2 < (rd l0_0 x10_3)) = false := decide_eq_false c21
               clear c21
               by_cases c23 : x10_3 < (l0_1.length : Int)
               ·rw [if_pos c23] at H
                have c23b0 : decide (x10_3 < (l0_1.length : Int)) = true := decide_eq_true c23
                clear c23
                obtain ⟨ji24, hji24⟩ : ∃ j_ : Int, (wrap64 (a2 - (rd l0_0 x10_3))) = j_ := ⟨_, rfl⟩
                replace H : (if 0 ≤ (ji24) then (if 0 ≤ a2 then (if x9_3.length < 17592186044416 then (zv.l1 k3 l1 a2 (x9_3 ++ [wrap64 ((shl .i64 (wrap64 ((wrap64 ((wrap64 (2 * (rd l0_1 x10_3))) + 1)) + (rd l1 x10_3))) (ji24)) - (shl .i64 1 a2))]) (wrap64 (x10_3 + 1)) l0_0 l0_1) else (none)) else (none)) else (none)) = some (r1, r2) := by first | (rw [hji24] at H; exact H) | (simp only [hji24] at H ⊢; exact H)
                have hji24w : (IntKind.i64.wrap (a2 - (rd l0_0 x10_3))) = ji24 := (zl _).trans hji24
                by_cases c25 : 0 ≤ (ji24)
                ·rw [if_pos c25] at H
                 have c25b0 := eq_true c25
                 have c25b1 : decide (0 ≤ (ji24)) = true := decide_eq_true c25
                 clear c25
                 obtain ⟨ji26, hji26⟩ : ∃ j_ : Int, (shl .i64 (wrap64 ((wrap64 ((wrap64 (2 * (rd l0_1 x10_3))) + 1)) + (rd l1 x10_3))) (ji24)) = j_ := ⟨_, rfl⟩
                 replace H : (if 0 ≤ a2 then (if x9_3.length < 17592186044416 then (zv.l1 k3 l1 a2 (x9_3 ++ [wrap64 ((ji26) - (shl .i64 1 a2))]) (wrap64 (x10_3 + 1)) l0_0 l0_1) else (none)) else (none)) = some (r1, r2) := by first | (rw [hji26] at H; exact H) | (simp only [hji26] at H ⊢; exact H)
                 have hji26_ : (IntKind.i64.wrap ((wrap64 ((wrap64 ((wrap64 (2 * (rd l0_1 x10_3))) + 1)) + (rd l1 x10_3))) * 2 ^ min (ji24).toNat 64)) = ji26 := hji26
                 have hji26z : (ji24) ≤ 64 → (IntKind.i64.wrap ((wrap64 ((wrap64 ((wrap64 (2 * (rd l0_1 x10_3))) + 1)) + (rd l1 x10_3))) * 2 ^ (ji24).toNat)) = ji26 := shl_small hji26
                 have hji26y : (wrap64 ((wrap64 ((wrap64 ((wrap64 (2 * (rd l0_1 x10_3))) + 1)) + (rd l1 x10_3))) * 2 ^ min (ji24).toNat 64)) = ji26 := (zl _).symm.trans hji26_
                 have hji26x : (ji24) ≤ 64 → (wrap64 ((wrap64 ((wrap64 ((wrap64 (2 * (rd l0_1 x10_3))) + 1)) + (rd l1 x10_3))) * 2 ^ (ji24).toNat)) = ji26 := fun h_ => (zl _).symm.trans (hji26z h_)
                 by_cases c27 : 0 ≤ a2
                 ·rw [if_pos c27] at H
                  have c27b0 := eq_true c27
                  have c27b1 : decide (0 ≤ a2) = true := decide_eq_true c27
                  clear c27
                  obtain ⟨ji28, hji28⟩ : ∃ j_ : Int, (shl .i64 1 a2) = j_ := ⟨_, rfl⟩
                  replace H : (if x9_3.length < 17592186044416 then (zv.l1 k3 l1 a2 (x9_3 ++ [wrap64 ((ji26) - (ji28))]) (wrap64 (x10_3 + 1)) l0_0 l0_1) else (none)) = some (r1, r2) := by first | (rw [hji28] at H; exact H) | (simp only [hji28] at H ⊢; exact H)
                  have hji28_ : (IntKind.i64.wrap (1 * 2 ^ min a2.toNat 64)) = ji28 := hji28
                  have hji28z : a2 ≤ 64 → (IntKind.i64.wrap (1 * 2 ^ a2.toNat)) = ji28 := shl_small hji28
                  have hji28u : (IntKind.i64.wrap (2 ^ min a2.toNat 64)) = ji28 := by have h_ := hji28_; rw [Int.one_mul] at h_; exact h_
                  have hji28v : a2 ≤ 64 → (IntKind.i64.wrap (2 ^ a2.toNat)) = ji28 := fun hle_ => by have h_ := hji28z hle_; rw [Int.one_mul] at h_; exact h_
                  have hji28y : (wrap64 (1 * 2 ^ min a2.toNat 64)) = ji28 := (zl _).symm.trans hji28_
                  have hji28x : a2 ≤ 64 → (wrap64 (1 * 2 ^ a2.toNat)) = ji28 := fun h_ => (zl _).symm.trans (hji28z h_)
                  by_cases c29 : x9_3.length < 17592186044416
                  ·rw [if_pos c29] at H
                   have LMc29 := am_ c29
                   clear c29
                   obtain ⟨y302, hy302⟩ : ∃ y_ : List Int, y_ = (x9_3 ++ [wrap64 ((ji26) - (ji28))]) := ⟨_, rfl⟩
                   replace H : (zv.l1 k3 l1 a2 y302 (wrap64 (x10_3 + 1)) l0_0 l0_1) = some (r1, r2) := by first | (rw [hy302]; with_reducible exact H) | (have H2_ := (Option.bind_some _ _).symm.trans H; rw [hy302]; with_reducible exact H2_) | (have H2_ := (Option.bind_some _ _).symm.trans H; with_reducible exact H2_) | with_reducible exact H | (rw [hy302]; exact H) | exact H
                   have Ny302 := am_ hy302
                   clear hy302
                   have H' := am_ H
                   clear H
                   have hcz30_0 : wr.cell? ⟨gb294, 0, none⟩ = some (.slice A0_0 l0_0.length c0_0) := (zj BK294.out 0).trans rfl
                   have hcz30_1 : wr.cell? ⟨gb294, 1, none⟩ = some (.slice A0_1 l0_1.length c0_1) := (zj BK294.out 1).trans rfl
                   have hfz30_0 := zi BK294.out 0
                   have hfz30_1 := zi BK294.out 1
                   have p298 : 0 ≤ (x10_3 : Int) := of_decide_eq_true (by first | (with_reducible assumption) | assumption)
                   have q298 : x10_3 < (l0_0.length : Int) := of_decide_eq_true (by first | (with_reducible assumption) | assumption)
                   obtain ⟨ad298, e298, hx298_0⟩ := Kd.z3 HR0_0.out x10_3 p298 q298
                   cases e298
                   replace hx298_0 := (HB.out.cell (World.block_lt_of_cell? w _ hx298_0)).trans hx298_0
                   replace p298 := eq_true p298
                   replace q298 := eq_true q298
                   try go_wp2
                   have n0_ := am_ (Kd.zA HO_9.out)
                   have n1_ := am_ (zg BK294.out)
                   have n2_ := am_ (zb HB.out)
                   clear HO_9
                   clear BK294
                   clear HB
                   have HO_9 := n0_
                   have BK294 := n1_
                   have HB := n2_
                   clear n0_ n1_ n2_
                   have p299 : 0 ≤ (x10_3 : Int) := of_decide_eq_true (by first | (with_reducible assumption) | assumption)
                   have q299 : x10_3 < (l0_1.length : Int) := of_decide_eq_true (by first | (with_reducible assumption) | assumption)
                   obtain ⟨ad299, e299, hx299_0⟩ := Kd.z3 HR0_1.out x10_3 p299 q299
                   have hw299_0 := hx299_0
                   cases e299
                   replace hx299_0 := (HB.out.cell (World.block_lt_of_cell? w _ hx299_0)).trans hx299_0
                   replace p299 := eq_true p299
                   replace q299 := eq_true q299
                   have p300 : 0 ≤ (x10_3 : Int) := of_decide_eq_true (by first | (with_reducible assumption) | assumption)
                   have q300 : x10_3 < (l1.length : Int) := of_decide_eq_true (by first | (with_reducible assumption) | assumption)
                   obtain ⟨ad300, e300, hx300_0⟩ := Kd.z3 HR1.out x10_3 p300 q300
                   have hw300_0 := hx300_0
                   cases e300
                   replace hx300_0 := (HB.out.cell (World.block_lt_of_cell? w _ hx300_0)).trans hx300_0
                   replace p300 := eq_true p300
                   replace q300 := eq_true q300
                   have p301 : 0 ≤ (x10_3 : Int) := of_decide_eq_true (by first | (with_reducible assumption) | assumption)
                   have q301 : x10_3 < (l0_0.length : Int) := of_decide_eq_true (by first | (with_reducible assumption) | assumption)
                   obtain ⟨ad301, e301, hx301_0⟩ := Kd.z3 HR0_0.out x10_3 p301 q301
                   have hw301_0 := hx301_0
                   obtain rfl : ad298 = ad301 := (by injection e301)
                   replace hx301_0 := (HB.out.cell (World.block_lt_of_cell? w _ hx301_0)).trans hx301_0
                   replace p301 := eq_true p301
                   replace q301 := eq_true q301
                   refine zaY (n := 27) (S := fun w' => w'.cell? ⟨gb294, 0, none⟩ = some (.slice (some ad298) l0_0.length c0_0) ∧ w'.cell? ⟨gb294, 1, none⟩ = some (.slice (some ad299) l0_1.length c0_1) ∧ w'.cell? (ad299.add (x10_3).toNat) = some (.int .i64 (rd l0_1 x10_3)) ∧ w'.cell? (ad300.add (x10_3).toNat) = some (.int .i64 (rd l1 x10_3)) ∧ w'.cell? (ad298.add (x10_3).toNat) = some (.int .i64 (rd l0_0 x10_3))) (ds := []) (bl_ 27 0) (by kernel_rfl) rfl rfl ⟨(zj BK294.out 0).trans rfl, (zj BK294.out 1).trans rfl, ((HB.out.cell (World.block_lt_of_cell? w _ hw299_0)).trans hw299_0), ((HB.out.cell (World.block_lt_of_cell? w _ hw300_0)).trans hw300_0), ((HB.out.cell (World.block_lt_of_cell? w _ hw301_0)).trans hw301_0)⟩ (fun hHeld => ?_); refine zav zv.tab18 zv.bits18 (fun HT_ HW_ => ?_)
                   generalize wr.drew = w31 at HO_9 BK294 HB hx299_0 hx300_0 hx301_0 hHeld ⊢
                   refine zz (i := 0) (N := some 60) (v := ?_) (a' := ?_) (bl_ 27 1) rfl rfl (zn HT_.out (by kernel_rfl)) (fun _ _ _ h => h) (Or.inl ⟨by rfl, ?_⟩) ?_ ?_
                   rotate_left
                   ·intro w'
                    go_simp
                    with_reducible rfl
                   rotate_left
                   ·simp only [Act.put, sI_, s0_, s1_, zl, zm]
                    rfl
                   refine zz (i := 1) (N := some 61) (v := ?_) (a' := ?_) (bl_ 27 3) rfl rfl (zn HT_.out (by kernel_rfl)) (fun _ _ _ h => h) (Or.inl ⟨by rfl, ?_⟩) ?_ ?_
                   rotate_left
                   ·intro w'
                    go_simp
                    with_reducible rfl
                   rotate_left
                   ·simp only [Act.put, sI_, s0_, s1_, zl, zm]
                    rfl
                   refine zz (i := 3) (N := some 63) (v := ?_) (a' := ?_) (bl_ 27 11) rfl rfl (zn HT_.out (by kernel_rfl)) (fun _ _ _ h => h) (Or.inl ⟨by rfl, ?_⟩) ?_ ?_
                   rotate_left
                   ·intro w'
                    go_simp
                    with_reducible rfl
                   rotate_left
                   ·simp only [Act.put, sI_, s0_, s1_, zl, zm]
                    rfl
                   refine zz (i := 8) (N := some 68) (v := ?_) (a' := ?_) (bl_ 27 267) rfl rfl (zn HT_.out (by kernel_rfl)) (fun _ _ _ h => h) (Or.inl ⟨by rfl, ?_⟩) ?_ ?_
                   rotate_left
                   ·intro w'
                    go_simp
                    with_reducible rfl
                   rotate_left
                   ·simp only [Act.put, sI_, s0_, s1_, zl, zm]
                    rfl
                   refine zz (i := 9) (N := some 69) (v := ?_) (a' := ?_) (bl_ 27 779) rfl rfl (zn HT_.out (by kernel_rfl)) (fun _ _ _ h => h) (Or.inl ⟨by rfl, ?_⟩) ?_ ?_
                   rotate_left
                   ·intro w'
                    go_simp
                    with_reducible rfl
                   rotate_left
                   ·simp only [Act.put, sI_, s0_, s1_, zl, zm]
                    rfl
                   refine zz (i := 10) (N := some 70) (v := ?_) (a' := ?_) (bl_ 27 1803) rfl rfl (zn HT_.out (by kernel_rfl)) (fun _ _ _ h => h) (Or.inl ⟨by rfl, ?_⟩) ?_ ?_
                   rotate_left
                   ·intro w'
                    go_simp
                    with_reducible rfl
                   rotate_left
                   ·simp only [Act.put, sI_, s0_, s1_, zl, zm]
                    rfl
                   refine zz (i := 13) (N := some 73) (v := ?_) (a' := ?_) (bl_ 27 9995) rfl rfl (zn HT_.out (by kernel_rfl)) (fun _ _ _ h => h) (Or.inl ⟨by rfl, ?_⟩) ?_ ?_
                   rotate_left
                   ·intro w'
                    go_simp
                    with_reducible rfl
                   rotate_left
                   ·simp only [Act.put, sI_, s0_, s1_, zl, zm]
                    rfl
                   refine zz (i := 14) (N := some 74) (v := ?_) (a' := ?_) (bl_ 27 26379) rfl rfl (zn HT_.out (by kernel_rfl)) (fun _ _ _ h => h) (Or.inl ⟨by rfl, ?_⟩) ?_ ?_
                   rotate_left
                   ·intro w'
                    go_simp
                    with_reducible rfl
                   rotate_left
                   ·simp only [Act.put, sI_, s0_, s1_, zl, zm]
                    rfl
                   refine zz (i := 16) (N := some 76) (v := ?_) (a' := ?_) (bl_ 27 91915) rfl rfl (zn HT_.out (by kernel_rfl)) (fun _ _ _ h => h) (Or.inl ⟨by rfl, ?_⟩) ?_ ?_
                   rotate_left
                   ·intro w'
                    go_simp
                    with_reducible rfl
                   rotate_left
                   ·simp only [Act.put, sI_, s0_, s1_, zl, zm]
                    rfl
                   refine zz (i := 21) (N := some 81) (v := ?_) (a' := ?_) (bl_ 27 2189067) rfl rfl (zn HT_.out (by kernel_rfl)) (fun _ _ _ h => h) (Or.inl ⟨by rfl, ?_⟩) ?_ ?_
                   rotate_left
                   ·intro w'
                    go_simp
                    with_reducible rfl
                   rotate_left
                   ·simp only [Act.put, sI_, s0_, s1_, zl, zm]
                    rfl
                   refine zz (i := 22) (N := some 82) (v := ?_) (a' := ?_) (bl_ 27 6383371) rfl rfl (zn HT_.out (by kernel_rfl)) (fun _ _ _ h => h) (Or.inl ⟨by rfl, ?_⟩) ?_ ?_
                   rotate_left
                   ·intro w'
                    go_simp
                    with_reducible rfl
                   rotate_left
                   ·simp only [Act.put, sI_, s0_, s1_, zl, zm]
                    rfl
                   refine zau (i := 2) (N := some 62) (v := ?_) (a' := ?_) (bl_ 27 6383375) rfl rfl (zR HT_.out HW_.out (by kernel_rfl)) (fun _ _ _ h => h) (Or.inl ⟨by rfl, ?_⟩) hHeld ?_ ?_
                   rotate_left
                   ·rintro w' ⟨s0, s1, s2, s3, s4⟩
                    go_simp
                    with_reducible rfl
                   rotate_left
                   ·simp only [Act.put, sI_, s0_, s1_, zl, zm]
                    rfl
                   refine zz (i := 4) (N := some 64) (v := ?_) (a' := ?_) (bl_ 27 6383391) rfl rfl (zn HT_.out (by kernel_rfl)) (fun _ _ _ h => h) (Or.inl ⟨by rfl, ?_⟩) ?_ ?_
                   rotate_left
                   ·intro w'
                    go_simp
                    with_reducible rfl
                   rotate_left
                   ·simp only [Act.put, sI_, s0_, s1_, zl, zm]
                    rfl
                   refine zau (i := 5) (N := some 65) (v := ?_) (a' := ?_) (bl_ 27 6383423) rfl rfl (zR HT_.out HW_.out (by kernel_rfl)) (fun _ _ _ h => h) (Or.inl ⟨by rfl, ?_⟩) hHeld ?_ ?_
                   rotate_left
                   ·rintro w' ⟨s0, s1, s2, s3, s4⟩
                    go_simp
                    with_reducible rfl
                   rotate_left
                   ·simp only [Act.put, sI_, s0_, s1_, zl, zm]
                    rfl
                   refine zz (i := 6) (N := some 66) (v := ?_) (a' := ?_) (bl_ 27 6383487) rfl rfl (zn HT_.out (by kernel_rfl)) (fun _ _ _ h => h) (Or.inl ⟨by rfl, ?_⟩) ?_ ?_
                   rotate_left
                   ·intro w'
                    go_simp
                    with_reducible rfl
                   rotate_left
                   ·simp only [Act.put, sI_, s0_, s1_, zl, zm]
                    rfl
                   refine zz (i := 7) (N := some 67) (v := ?_) (a' := ?_) (bl_ 27 6383615) rfl rfl (zn HT_.out (by kernel_rfl)) (fun _ _ _ h => h) (Or.inl ⟨by rfl, ?_⟩) ?_ ?_
                   rotate_left
                   ·intro w'
                    go_simp
                    with_reducible rfl
                   rotate_left
                   ·simp only [Act.put, sI_, s0_, s1_, zl, zm]
                    rfl
                   refine zau (i := 11) (N := some 71) (v := ?_) (a' := ?_) (bl_ 27 6385663) rfl rfl (zR HT_.out HW_.out (by kernel_rfl)) (fun _ _ _ h => h) (Or.inl ⟨by rfl, ?_⟩) hHeld ?_ ?_
                   rotate_left
                   ·rintro w' ⟨s0, s1, s2, s3, s4⟩
                    go_simp
                    with_reducible rfl
                   rotate_left
                   ·simp only [Act.put, sI_, s0_, s1_, zl, zm]
                    rfl
                   refine zz (i := 12) (N := some 72) (v := ?_) (a' := ?_) (bl_ 27 6389759) rfl rfl (zn HT_.out (by kernel_rfl)) (fun _ _ _ h => h) (Or.inl ⟨by rfl, ?_⟩) ?_ ?_
                   rotate_left
                   ·intro w'
                    go_simp
                    with_reducible rfl
                   rotate_left
                   ·simp only [Act.put, sI_, s0_, s1_, zl, zm]
                    rfl
                   refine zau (i := 15) (N := some 75) (v := ?_) (a' := ?_) (bl_ 27 6422527) rfl rfl (zR HT_.out HW_.out (by kernel_rfl)) (fun _ _ _ h => h) (Or.inl ⟨by rfl, ?_⟩) hHeld ?_ ?_
                   rotate_left
                   ·rintro w' ⟨s0, s1, s2, s3, s4⟩
                    go_simp
                    with_reducible rfl
                   rotate_left
                   ·simp only [Act.put, sI_, s0_, s1_, zl, zm]
                    rfl
                   refine zz (i := 17) (N := some 77) (v := ?_) (a' := ?_) (bl_ 27 6553599) rfl rfl (zn HT_.out (by kernel_rfl)) (fun _ _ _ h => h) (Or.inl ⟨by rfl, ?_⟩) ?_ ?_
                   rotate_left
                   ·intro w'
                    go_simp
                    with_reducible rfl
                   rotate_left
                   ·simp only [Act.put, sI_, s0_, s1_, zl, zm]
                    rfl
                   refine zau (i := 18) (N := some 78) (v := ?_) (a' := ?_) (bl_ 27 6815743) rfl rfl (zR HT_.out HW_.out (by kernel_rfl)) (fun _ _ _ h => h) (Or.inl ⟨by rfl, ?_⟩) hHeld ?_ ?_
                   rotate_left
                   ·rintro w' ⟨s0, s1, s2, s3, s4⟩
                    go_simp
                    with_reducible rfl
                   rotate_left
                   ·simp only [Act.put, sI_, s0_, s1_, zl, zm]
                    rfl
                   refine zz (i := 19) (N := some 79) (v := ?_) (a' := ?_) (bl_ 27 7340031) rfl rfl (zn HT_.out (by kernel_rfl)) (fun _ _ _ h => h) (Or.inl ⟨by rfl, ?_⟩) ?_ ?_
                   rotate_left
                   ·intro w'
                    go_simp
                    with_reducible rfl
                   rotate_left
                   ·simp only [Act.put, sI_, s0_, s1_, zl, zm]
                    rfl
                   refine zz (i := 20) (N := some 80) (v := ?_) (a' := ?_) (bl_ 27 8388607) rfl rfl (zn HT_.out (by kernel_rfl)) (fun _ _ _ h => h) (Or.inl ⟨by rfl, ?_⟩) ?_ ?_
                   rotate_left
                   ·intro w'
                    go_simp
                    with_reducible rfl
                   rotate_left
                   ·simp only [Act.put, sI_, s0_, s1_, zl, zm]
                    rfl
                   refine zz (i := 23) (N := some 83) (v := ?_) (a' := ?_) (bl_ 27 16777215) rfl rfl (zn HT_.out (by kernel_rfl)) (fun _ _ _ h => h) (Or.inl ⟨by rfl, ?_⟩) ?_ ?_
                   rotate_left
                   ·intro w'
                    go_simp
                    with_reducible rfl
                   rotate_left
                   ·simp only [Act.put, sI_, s0_, s1_, zl, zm]
                    rfl
                   refine one_ (i := 24) (N := some 84) (bl_ 27 33554431) rfl rfl (zae HT_.out (by kernel_rfl)) (by decide) (fun K hK => ?_)
                   refine value_ (w1 := ?_) (v := ?_) (by rfl) rfl ?_ ?_
                   rotate_left 2
                   ·go_simp
                    constructor
                    ·rfl
                    ·rfl
                   refine hK.out _ _ ⟨(zj (zd BK294.out _) 0).trans rfl, (zj (zd BK294.out _) 1).trans rfl, (World.cell?_alloc_lt _ _ _ (World.block_lt_of_cell? _ _ (((HB.out.cell (World.block_lt_of_cell? w _ hw299_0)).trans hw299_0)))).trans (((HB.out.cell (World.block_lt_of_cell? w _ hw299_0)).trans hw299_0)), (World.cell?_alloc_lt _ _ _ (World.block_lt_of_cell? _ _ (((HB.out.cell (World.block_lt_of_cell? w _ hw300_0)).trans hw300_0)))).trans (((HB.out.cell (World.block_lt_of_cell? w _ hw300_0)).trans hw300_0)), (World.cell?_alloc_lt _ _ _ (World.block_lt_of_cell? _ _ (((HB.out.cell (World.block_lt_of_cell? w _ hw301_0)).trans hw301_0)))).trans (((HB.out.cell (World.block_lt_of_cell? w _ hw301_0)).trans hw301_0))⟩ (fun hHeld => ?_)
                   clear hK K
                   refine zZ (a' := ?_) ?_ ?_
                   rotate_left
                   ·show Act.put _ (some 84) _ = _
                    simp only [Act.put, sI_, s0_, s1_, zl, zm]
                    rfl
                   refine one_ (i := 25) (N := some 85) (bl_ 27 67108863) rfl rfl (zae HT_.out (by kernel_rfl)) (by decide) (fun K hK => ?_)
                   refine Kd.R_append_step (Kd.int .i64) (w0 := w) w.heap.size (by rfl) (.tmp 60) (.tmp 84) 22 3 (.int .i64 0) 8 rfl Try.underlying22 info3 rfl (by decide) (by omega) u9 x9_3 (wrap64 ((ji26) - (ji28))) [.int .i64 (wrap64 ((ji26) - (ji28)))] (fun _ => True) (fun _ => False) rfl rfl ?aP (fun _ hk => hk.elim) ?aF ?aO ?aB ?aS ?aL ?_
                   (case aP => exact rfl)
                   (case aB => exact (by repeat (first | (with_reducible first | exact HB.out | apply zc | apply za | apply zb | refine zf ?_ GE294.out) | exact HB.out)))
                   (case aF => exact (fun _ _ => trivial))
                   (case aO => exact (by (with_reducible repeat (first | apply Kd.zw | apply Kd.zu | apply Kd.zA)); exact HO_9.out))
                   (case aS => exact (zk (by repeat (first | (with_reducible first | exact HB.out | apply zc | apply za | apply zb | refine zf ?_ GE294.out) | exact HB.out))))
                   (case aL => have := LMc29.out; omega)
                   intro v303 w32 ho hb hg hat
                   rw [← Ny302.out] at ho
                   have n0_ := am_ (zah (g := gb294) (o := .cells #[.slice (some ad298) l0_0.length c0_0, .slice (some ad299) l0_1.length c0_1] 24 (0, 0)) (by (with_reducible repeat (first | refine ze ?_ _ | refine zg ?_ | refine zd ?_ _)); exact BK294.out) hg (Kd.R_ne HO_9.out BK294.out (by decide)))
                   have n1_ := am_ (hb)
                   have n2_ := am_ (ho)
                   clear BK294
                   clear HB
                   clear HO_9
                   have BK294 := n0_
                   have HB := n1_
                   have HO304 := n2_
                   clear n0_ n1_ n2_
                   clear ho hb hg hat
                   refine hK.out _ _ ⟨(zj BK294.out 0).trans rfl, (zj BK294.out 1).trans rfl, ((HB.out.cell (World.block_lt_of_cell? w _ hw299_0)).trans hw299_0), ((HB.out.cell (World.block_lt_of_cell? w _ hw300_0)).trans hw300_0), ((HB.out.cell (World.block_lt_of_cell? w _ hw301_0)).trans hw301_0)⟩ (fun hHeld => ?_)
                   clear hK K
                   refine zZ (a' := ?_) ?_ ?_
                   rotate_left
                   ·show Act.put _ (some 85) _ = _
                    simp only [Act.put, sI_, s0_, s1_, zl, zm]
                    rfl
                   refine zz (i := 26) (N := some 9) (v := ?_) (a' := ?_) (bl_ 27 134217727) rfl rfl (zn HT_.out (by kernel_rfl)) (fun _ _ _ h => h) (Or.inl ⟨by rfl, ?_⟩) ?_ ?_
                   rotate_left
                   ·intro w'
                    go_simp
                    with_reducible rfl
                   rotate_left
                   ·simp only [Act.put, sI_, s0_, s1_, zl, zm]
                    rfl
                   refine done_ (zaL HT_.out (by kernel_rfl)) ?_
                   try go_wp2
                   go_roundg k3
                   case measure => have := HK1.out; have := HJ14.out; have := HK3.out; omega
                   case rel => exact ⟨(y302), (wrap64 (x10_3 + 1)), (by first | rfl | (simp; done) | (simp [*]; done)), H', ⟨by have := HK1.out; have := HJ14.out; have := HK3.out; omega⟩, ⟨by (with_reducible repeat (first | apply Kd.zw | apply Kd.zu | apply Kd.zA)); exact HO304.out⟩, ⟨by (with_reducible repeat (first | refine ze ?_ _ | refine zg ?_ | refine zd ?_ _)); exact BK294.out⟩, ⟨by repeat (first | (with_reducible first | exact HB.out | apply zc | apply za | apply zb | refine zf ?_ GE294.out) | exact HB.out)⟩⟩
                  ·rw [if_neg c29] at H
                   exact absurd H (by simp)
                 ·rw [if_neg c27] at H
                  exact absurd H (by simp)
                ·rw [if_neg c25] at H
                 exact absurd H (by simp)
               ·rw [if_neg c23] at H
                exact absurd H (by simp)
             ·rw [if_neg c20] at H
              exact absurd H (by simp)
            ·rw [if_neg c19] at H
             exact absurd H (by simp)
           ·rw [if_neg c18] at H
            have c18b0 : decide (x10_3 < (l1.length : Int)) = false := decide_eq_false c18
            clear c18
            simp only [Option.some.injEq, Prod.mk.injEq] at H
            obtain ⟨rfl, rfl⟩ := H
            go_wp2
            go_ret2
            exact ⟨_, by first | rfl | (simp [zq, zp] <;> rfl) | (simp [*, zq, zp] <;> rfl), by (with_reducible repeat (first | apply Kd.zw | apply Kd.zu | apply Kd.zA)); exact HO_9.out, by repeat (first | (with_reducible first | exact HB.out | apply zc | apply za | apply zb | refine zf ?_ GE294.out) | exact HB.out)⟩
  ·rw [if_neg c6] at H
   have c6b0 : ((l1.length : Int) == (l0_0.length : Int)) = false := beq_eq_false_iff_ne.mpr c6
   have c6b1 : ((l1.length : Int) != (l0_0.length : Int)) = true := bne_iff_ne.mpr c6
   have c6b2 : (l1.length == l0_0.length) = false := by first | simpa using c6 | (simp at c6 ⊢; omega)
   simp only [Option.some.injEq, Prod.mk.injEq] at H
   obtain ⟨rfl, rfl⟩ := H
   go_enter Try.func22, Try.ntmps22
   go_wp2_with (first | ((with_reducible refine zr (N := 3) rfl ?_); refine zt ?hg (N := 3) ?hd (cs := #[.slice A0_0 l0_0.length c0_0, .slice A0_1 l0_1.length c0_1]) (t := 24) ?hr ?_; (case hd => rfl); (case hg => rfl); (case hr => first | (go_simp; done) | (go_simp; rfl)); intro gb294 hg w33 hbox hb; have n0_ := am_ (zh (by repeat (first | (with_reducible first | exact HB.out | apply zc | apply za | apply zb) | exact HB.out)) hb); have n1_ := am_ (hbox); have n2_ := am_ ((by rw [hg]; exact (zk (by repeat (first | (with_reducible first | exact HB.out | apply zc | apply za | apply zb) | exact HB.out))) : w.heap.size ≤ gb294)); have n3_ := am_ ((by rw [hg]; exact (zk (by repeat (first | (with_reducible first | exact HB.out | apply zc | apply za | apply zb) | exact HB.out))) : w.heap.size ≤ gb294)); clear HB; have HB := n0_; have BK294 := n1_; have GW294 := n2_; have GE294 := n3_; clear n0_ n1_ n2_ n3_; clear hb hbox hg; have hcz34_0 : w33.cell? ⟨gb294, 0, none⟩ = some (.slice A0_0 l0_0.length c0_0) := (zj BK294.out 0).trans rfl; have hcz34_1 : w33.cell? ⟨gb294, 1, none⟩ = some (.slice A0_1 l0_1.length c0_1) := (zj BK294.out 1).trans rfl; have hfz34_0 := zi BK294.out 0; have hfz34_1 := zi BK294.out 1) | ((with_reducible refine zV (f := 18) rfl ?_); refine zaF (some 15) rfl rfl Try.func18 (by kernel_rfl) rfl #[.agg #[.slice A0_0 l0_0.length c0_0, .slice A0_1 l0_1.length c0_1], .int .i64 (l0_0.length : Int)] rfl (by (try simp only [List.map_toArray, List.map_cons, List.map_nil]); first | done | rfl | (simp only [List.length_drop, List.length_take]; rfl)) ?_; (with_reducible refine (zy.calls k _ _ l0_0 _ _ l0_1 (l0_0.length : Int) t295 _ ?side1 ?side2 ?side3 ?side4 A4.out).mono ?_); (case side1 => repeat (first | exact (Kd.zU HR0_0.out HB.out) | (with_reducible refine Kd.zaa ?_ _) | (with_reducible refine Kd.zab ?_ _) | (with_reducible refine Kd.zam ?_))); (case side2 => exact HC0_0.out); (case side3 => repeat (first | exact (Kd.zU HR0_1.out HB.out) | (with_reducible refine Kd.zaa ?_ _) | (with_reducible refine Kd.zab ?_ _) | (with_reducible refine Kd.zam ?_))); (case side4 => exact HC0_1.out); rintro e w35 ⟨rfl, hb⟩; refine ⟨_, rfl, ?_⟩; have n0_ := am_ (zo (g := gb294) (o := .cells #[.slice A0_0 l0_0.length c0_0, .slice A0_1 l0_1.length c0_1] 24 (0, 0)) (by (with_reducible repeat (first | refine ze ?_ _ | refine zg ?_ | refine zd ?_ _)); exact BK294.out) hb); have n1_ := am_ (zh (by repeat (first | (with_reducible first | exact HB.out | apply zc | apply za | apply zb | refine zf ?_ GE294.out) | exact HB.out)) hb); clear BK294; clear HB; have BK294 := n0_; have HB := n1_; clear n0_ n1_; (try clear hb); (try clear hb2); (try clear hk); (try clear hi); have hcz36_0 : w35.cell? ⟨gb294, 0, none⟩ = some (.slice A0_0 l0_0.length c0_0) := (zj BK294.out 0).trans rfl; have hcz36_1 : w35.cell? ⟨gb294, 1, none⟩ = some (.slice A0_1 l0_1.length c0_1) := (zj BK294.out 1).trans rfl; have hfz36_0 := zi BK294.out 0; have hfz36_1 := zi BK294.out 1))
   go_ret2
   exact ⟨_, by first | rfl | (simp [zq, zp] <;> rfl) | (simp [*, zq, zp] <;> rfl), by first | exact Kd.zaK _ _ _ _ _ | exact Kd.zaP _ _ _ _ _ | exact Kd.zaT _ _ _ _ _ | exact Kd.zaO _ _ _ _ _ | exact Kd.zaS _ _ _ _ _, by repeat (first | (with_reducible first | exact HB.out | apply zc | apply za | apply zb | refine zf ?_ GE294.out) | exact HB.out)⟩
 ·rw [if_neg c5] at H
  have c5b0 : (t295 == 0) = false := beq_eq_false_iff_ne.mpr c5
  have c5b1 : (t295 != 0) = true := bne_iff_ne.mpr c5
  simp only [Option.some.injEq, Prod.mk.injEq] at H
  obtain ⟨rfl, rfl⟩ := H
  go_enter Try.func22, Try.ntmps22
  go_wp2_with (first | ((with_reducible refine zr (N := 3) rfl ?_); refine zt ?hg (N := 3) ?hd (cs := #[.slice A0_0 l0_0.length c0_0, .slice A0_1 l0_1.length c0_1]) (t := 24) ?hr ?_; (case hd => rfl); (case hg => rfl); (case hr => first | (go_simp; done) | (go_simp; rfl)); intro gb294 hg w37 hbox hb; have n0_ := am_ (zh (by repeat (first | (with_reducible first | exact HB.out | apply zc | apply za | apply zb) | exact HB.out)) hb); have n1_ := am_ (hbox); have n2_ := am_ ((by rw [hg]; exact (zk (by repeat (first | (with_reducible first | exact HB.out | apply zc | apply za | apply zb) | exact HB.out))) : w.heap.size ≤ gb294)); have n3_ := am_ ((by rw [hg]; exact (zk (by repeat (first | (with_reducible first | exact HB.out | apply zc | apply za | apply zb) | exact HB.out))) : w.heap.size ≤ gb294)); clear HB; have HB := n0_; have BK294 := n1_; have GW294 := n2_; have GE294 := n3_; clear n0_ n1_ n2_ n3_; clear hb hbox hg; have hcz38_0 : w37.cell? ⟨gb294, 0, none⟩ = some (.slice A0_0 l0_0.length c0_0) := (zj BK294.out 0).trans rfl; have hcz38_1 : w37.cell? ⟨gb294, 1, none⟩ = some (.slice A0_1 l0_1.length c0_1) := (zj BK294.out 1).trans rfl; have hfz38_0 := zi BK294.out 0; have hfz38_1 := zi BK294.out 1) | ((with_reducible refine zV (f := 18) rfl ?_); refine zaF (some 15) rfl rfl Try.func18 (by kernel_rfl) rfl #[.agg #[.slice A0_0 l0_0.length c0_0, .slice A0_1 l0_1.length c0_1], .int .i64 (l0_0.length : Int)] rfl (by (try simp only [List.map_toArray, List.map_cons, List.map_nil]); first | done | rfl | (simp only [List.length_drop, List.length_take]; rfl)) ?_; (with_reducible refine (zy.calls k _ _ l0_0 _ _ l0_1 (l0_0.length : Int) t295 _ ?side1 ?side2 ?side3 ?side4 A4.out).mono ?_); (case side1 => repeat (first | exact (Kd.zU HR0_0.out HB.out) | (with_reducible refine Kd.zaa ?_ _) | (with_reducible refine Kd.zab ?_ _) | (with_reducible refine Kd.zam ?_))); (case side2 => exact HC0_0.out); (case side3 => repeat (first | exact (Kd.zU HR0_1.out HB.out) | (with_reducible refine Kd.zaa ?_ _) | (with_reducible refine Kd.zab ?_ _) | (with_reducible refine Kd.zam ?_))); (case side4 => exact HC0_1.out); rintro e w39 ⟨rfl, hb⟩; refine ⟨_, rfl, ?_⟩; have n0_ := am_ (zo (g := gb294) (o := .cells #[.slice A0_0 l0_0.length c0_0, .slice A0_1 l0_1.length c0_1] 24 (0, 0)) (by (with_reducible repeat (first | refine ze ?_ _ | refine zg ?_ | refine zd ?_ _)); exact BK294.out) hb); have n1_ := am_ (zh (by repeat (first | (with_reducible first | exact HB.out | apply zc | apply za | apply zb | refine zf ?_ GE294.out) | exact HB.out)) hb); clear BK294; clear HB; have BK294 := n0_; have HB := n1_; clear n0_ n1_; (try clear hb); (try clear hb2); (try clear hk); (try clear hi)))
  go_ret2
  exact ⟨_, by first | rfl | (simp [zq, zp] <;> rfl) | (simp [*, zq, zp] <;> rfl), by first | exact Kd.zaK _ _ _ _ _ | exact Kd.zaP _ _ _ _ _ | exact Kd.zaT _ _ _ _ _ | exact Kd.zaO _ _ _ _ _ | exact Kd.zaS _ _ _ _ _, by repeat (first | (with_reducible first | exact HB.out | apply zc | apply za | apply zb | refine zf ?_ GE294.out) | exact HB.out)⟩
end Go.Proofs.Ytlidbaejhmamjaa.PB

namespace Go.Proofs.Ytlidbaejhmamjaa.LA
open Go.RowKit Go.Proofs.YtlidbaejhmamjaaW.PrintWords Go.Proofs.YtlidbaejhmamjaaW.PrintLast Go.Proofs.YtlidbaejhmamjaaW.PrintMore Go.Proofs.Ytlidbaejhmamjaa.PB
set_option linter.unusedVariables false
set_option linter.unusedSimpArgs false
section
variable (lv at_ sg : List Int) (d : Int)
theorem refEnds_ev : EvS (fun k => zv.f k lv at_ sg d) (eL lv at_ sg d, eE lv at_ sg d) := by
 unfold zv.f
 refine EvS.bind (refCheck_ev lv at_ _) ?_
 rw [chk_self]
 by_cases hr : Reg lv at_
 ·simp only [if_pos hr, if_true]
  by_cases hl : sg.length = lv.length
  ·simp only [if_pos (show (sg.length : Int) = (lv.length : Int) by omega)]
   have hn := hr.1
   have bad : ¬ EOk lv at_ sg d → EvS (fun k => zv.j1 k sg d true lv at_) (eL lv at_ sg d, eE lv at_ sg d) := fun h => by
    rw [e_bad lv at_ sg d hr hl h]
    exact EvS.done fun k => by simp only [zv.j1]; rfl
   have good : (∀ i : Nat, i < sg.length → -1 ≤ rd sg (i : Nat) ∧ rd sg (i : Nat) ≤ 1) → 0 ≤ d → d ≤ 8 → EvS (fun k => zv.j1 k sg d false lv at_) (eL lv at_ sg d, eE lv at_ sg d) := fun hs d0 d8 => by
    refine EvS.succ (fun k => by simp only [zv.j1]; rfl) ?_
    simp only [Bool.false_eq_true, if_false]
    have key : ∀ m i : Nat, m + i = lv.length → (∀ j : Nat, j < i → rd lv (j : Nat) ≤ d) → EvS (fun k => zv.l1 k sg d (((List.range lv.length).map (eRow lv at_ sg d)).take i) (i : Int) lv at_) (eL lv at_ sg d, eE lv at_ sg d) := by
     intro m
     induction m with
     | zero =>
      intro i hi hall
      rw [List.take_of_length_le (by simp; omega)]
      have hok : EOk lv at_ sg d := ⟨hr, hl, hs, d0, d8, fun j hj => hall j (by omega)⟩
      unfold eL eE
      simp only [if_pos hok]
      exact EvS.done fun k => by simp only [zv.l1]; rw [if_neg (by omega)]
     | succ m ih =>
      intro i hi hall
      by_cases hd : d < rd lv (i : Int)
      ·rw [e_bad lv at_ sg d hr hl (fun h => by have := h.2.2.2.2.2 i (by omega); omega)]
       exact EvS.done fun k => by
        simp only [zv.l1]
        rw [if_pos (by omega), if_pos (by omega), if_pos (by omega), if_pos hd]
      ·refine EvS.succ (fun k => ?_) (ih (i + 1) (by omega) (fun j hj => by
        by_cases hji : j = i
        ·subst hji; omega
        ·exact hall j (by omega)))
       obtain ⟨e1, e2, e3, e4, e5, e6, e7⟩ := one_end d (rd lv (i : Int)) (rd at_ (i : Int)) (rd sg (i : Int)) (hr.2.2 i (by omega)) (hs i (by omega)) (by omega) d0 d8
       simp only [zv.l1]
       rw [if_pos (by omega), if_pos (by omega), if_pos (by omega), if_neg hd, if_pos (by have := hr.2.1; omega), e1, if_pos (by omega), if_pos d0, if_pos (by simp; omega), e2, e3, e5, e7, wnext i (by omega), take_range _ _ (by omega)]
       rfl
    simpa using key lv.length 0 (by omega) (fun j hj => by omega)
   have key : ∀ m i : Nat, m + i = sg.length → (∀ j : Nat, j < i → -1 ≤ rd sg (j : Nat) ∧ rd sg (j : Nat) ≤ 1) → EvS (fun k => zv.l0 k sg d (i : Int) lv at_) (eL lv at_ sg d, eE lv at_ sg d) := by
    intro m
    induction m with
    | zero =>
     intro i hi hall
     obtain rfl : i = sg.length := by omega
     by_cases d0 : d < 0
     ·refine EvS.succ (fun k => ?_) (bad (fun h => by have := h.2.2.2.1; omega))
      simp only [zv.l0]
      rw [if_neg (by omega), if_pos d0]
     ·by_cases d8 : d > 8
      ·refine EvS.succ (fun k => ?_) (bad (fun h => by have := h.2.2.2.2.1; omega))
       simp only [zv.l0]
       rw [if_neg (by omega), if_neg d0, decide_eq_true d8]
      ·refine EvS.succ (fun k => ?_) (good hall (by omega) (by omega))
       simp only [zv.l0]
       rw [if_neg (by omega), if_neg d0, decide_eq_false d8]
    | succ m ih =>
     intro i hi hall
     by_cases s0 : rd sg (i : Int) < -1
     ·rw [e_bad lv at_ sg d hr hl (fun h => by have := h.2.2.1 i (by omega); omega)]
      exact EvS.done fun k => by
       simp only [zv.l0]
       rw [if_pos (by omega), if_pos (by omega), if_pos s0]
     ·by_cases s1 : rd sg (i : Int) > 1
      ·rw [e_bad lv at_ sg d hr hl (fun h => by have := h.2.2.1 i (by omega); omega)]
       exact EvS.done fun k => by
        simp only [zv.l0]
        rw [if_pos (by omega), if_pos (by omega), if_neg s0, if_pos s1]
      ·refine EvS.succ (fun k => ?_) (ih (i + 1) (by omega) (fun j hj => by
        by_cases hji : j = i
        ·subst hji; omega
        ·exact hall j (by omega)))
       simp only [zv.l0]
       rw [if_pos (by omega), if_pos (by omega), if_neg s0, if_neg s1, wnext i (by omega)]
   exact key sg.length 0 (by omega) (fun j hj => by omega)
  ·simp only [if_neg (show ¬ (sg.length : Int) = (lv.length : Int) by omega)]
   unfold eL eE
   simp only [if_neg (show ¬ EOk lv at_ sg d from fun h => hl h.2.1), if_pos hr, if_neg hl]
   exact EvS.pure _
 ·have hn : ¬ EOk lv at_ sg d := fun h => hr h.1
  simp only [if_neg hr, if_neg (show ¬ ((180 : Int) = 0) by decide)]
  unfold eL eE
  simp only [if_neg hn, if_neg hr]
  exact EvS.pure _
end
end Go.Proofs.Ytlidbaejhmamjaa.LA

namespace Go.Proofs.Ytlidbaejhmamjaa.PB
open Go.RowKit Go.Proofs.YtlidbaejhmamjaaW.PrintWords Go.Proofs.YtlidbaejhmamjaaW.PrintLast Go.Proofs.YtlidbaejhmamjaaW.PrintMore
set_option linter.unusedVariables false
instance (es : List Int) : Decidable (AC.I64 es) := by unfold AC.I64; infer_instance
end Go.Proofs.Ytlidbaejhmamjaa.PB

namespace Go.Proofs.Ytlidbaejhmamjaa.LA
open Go.RowKit Go.Proofs.YtlidbaejhmamjaaW.PrintWords Go.Proofs.YtlidbaejhmamjaaW.PrintLast Go.Proofs.YtlidbaejhmamjaaW.PrintMore Go.Proofs.Ytlidbaejhmamjaa.PB
set_option linter.unusedVariables false
set_option linter.unusedSimpArgs false
theorem rd_set (xs : List Int) (i j : Nat) (v : Int) (h : i < xs.length) : rd (xs.set i v) (j : Int) = if i = j then v else rd xs (j : Int) := by
 by_cases hij : i = j
 ·subst hij; rw [if_pos rfl, rd_set_same _ _ _ h]
 ·rw [if_neg hij, rd_set_other _ _ _ _ hij]
theorem fit_half {l a : Int} (h : Fit l a) (h8 : l ≠ 8) (b : Int) (hb : b = 0 ∨ b = 1) : Fit (l + 1) (2 * a + b) := by
 obtain ⟨h0, h1, h2, h3⟩ := h
 refine ⟨by omega, by omega, by omega, ?_⟩
 rw [show (l + 1).toNat = l.toNat + 1 by omega, Int.pow_succ]
 omega
theorem reg_set {lv at_ : List Int} {s : Int} (h : HOk lv at_ s) (b : Int) (hb : b = 0 ∨ b = 1) : Reg (lv.set s.toNat (rd lv s + 1)) (at_.set s.toNat (2 * rd at_ s + b)) := by
 obtain ⟨hr, h0, h1, h8⟩ := h
 obtain ⟨i, rfl⟩ : ∃ i : Nat, s = i := ⟨s.toNat, by omega⟩
 rw [Int.toNat_natCast]
 refine ⟨by simp; exact hr.1, by simp; exact hr.2.1, fun j hj => ?_⟩
 simp only [List.length_set] at hj
 rw [rd_set _ _ _ _ (by omega), rd_set _ _ _ _ (by have := hr.2.1; omega)]
 by_cases hij : i = j
 ·rw [if_pos hij, if_pos hij]
  exact fit_half (hr.2.2 i (by omega)) h8 b hb
 ·rw [if_neg hij, if_neg hij]
  exact hr.2.2 j hj
theorem halve_ok {lv at_ : List Int} {s : Int} (h : HOk lv at_ s) : hE lv at_ s = 0 ∧ Reg (hL lv at_ s) (hA lv at_ s) ∧ Reg (hL lv at_ s) (hB lv at_ s) ∧ (hL lv at_ s).length = lv.length := by
 unfold hE hL hA hB
 simp only [if_pos h]
 have h0 := reg_set h 0 (.inl rfl)
 rw [Int.add_zero] at h0
 exact ⟨trivial, h0, reg_set h 1 (.inr rfl), by simp⟩
theorem halve_bad {lv at_ : List Int} {s : Int} (h : ¬ HOk lv at_ s) : hE lv at_ s ≠ 0 := by
 unfold hE
 rw [if_neg h]
 split <;> decide
section
variable (lv at_ sg : List Int) (d : Int)
theorem eL_ok (h : EOk lv at_ sg d) : eL lv at_ sg d = (List.range lv.length).map (eRow lv at_ sg d) ∧ eE lv at_ sg d = 0 ∧ (eL lv at_ sg d).length = lv.length := by
 unfold eL eE
 simp only [if_pos h]
 exact ⟨trivial, trivial, by simp⟩
end
end Go.Proofs.Ytlidbaejhmamjaa.LA

namespace Go.Proofs.Ytlidbaejhmamjaa.LW
open Go.RowKit Go.Proofs.YtlidbaejhmamjaaW.PrintWords Go.Proofs.YtlidbaejhmamjaaW.PrintLast Go.Proofs.YtlidbaejhmamjaaW.PrintMore Go.Proofs.Ytlidbaejhmamjaa.PB Go.Proofs.Ytlidbaejhmamjaa.LA Go.Proofs.Ytlidbaejhmamjaa.AC
set_option linter.unusedVariables false
set_option linter.unusedSimpArgs false
theorem hL_len (lv at_ : List Int) (s : Int) : (hL lv at_ s).length ≤ 100000 := by
 unfold hL
 split
 ·rename_i h; have := h.1.1; rw [List.length_set]; omega
 ·simp
theorem hA_len (lv at_ : List Int) (s : Int) : (hA lv at_ s).length ≤ 100000 := by
 unfold hA
 split
 ·rename_i h; have := h.1.1; have := h.1.2.1; rw [List.length_set]; omega
 ·simp
theorem hB_len (lv at_ : List Int) (s : Int) : (hB lv at_ s).length ≤ 100000 := by
 unfold hB
 split
 ·rename_i h; have := h.1.1; have := h.1.2.1; rw [List.length_set]; omega
 ·simp
theorem eL_len (lv at_ sg : List Int) (d : Int) : (eL lv at_ sg d).length ≤ 100000 := by
 by_cases h : EOk lv at_ sg d
 ·rw [(eL_ok lv at_ sg d h).2.2]; have := h.1.1; omega
 ·unfold eL; rw [if_neg h]; simp
theorem same_true (a b : List Int) (ha : a.length ≤ 100000) (hb : b.length ≤ 100000) : EvS (fun k => zaM.f k a b a b) true := by
 have := Same_ev a b a b ha hb
 rwa [decide_eq_true rfl, decide_eq_true rfl, Bool.true_and] at this
theorem ints_true (a : List Int) (ha : a.length ≤ 100000) : EvS (fun k => zC.f k a a) true := by
 have := same_ev a a ha
 rwa [decide_eq_true rfl] at this
theorem store_row_step {P : Program} {ops : Array Oper} {o : Oper} {a : Act} {Q : Exit → Act → World → Prop} {Kc : Act → World → Prop} {W : World} (hw : Region.wanted o (yielded ops a.tmps) = true) (ty : TypeId) {p v : Operand} (ho : o.op = .store ty p v) (hN : o.dst = none)
  (g : Nat) (cells : Array Value) (hx : a.eval p = .pointer (some ⟨g, 0, none⟩)) (hy : a.eval v = .agg cells)
  (t : TypeId) (old : Array Value) (hg : W.heap[g]? = some (.cells old t (0, 0))) (hi : (P.info? ty).map (·.size) = some cells.size)
  (hold : old.size = cells.size) (h1 : cells.all (·.oneCell') = true)
  (h : ∀ w', w'.heap[g]? = some (.cells cells t (0, 0)) → W.grownBy w' (some g) → Kc a w') : if Region.wanted o (yielded ops a.tmps) = true then Oper.wp P o a W Kc Q else Kc (a.put none undef) W := by
 rw [if_pos hw]
 refine wp_store_row ty p v ho g cells hx hy t old hg hi hold h1 ?_
 rw [hN]
 exact h _ (setRow_heap W g old cells t (0, 0) hg) (grownBy_setRow W g cells)
theorem halve_c {A0 A1 : Option Addr} {c0 c1 : Nat} {lv at_ : List Int} (s : Int) (w : World) (r0 : Rd w A0 c0 lv) (r1 : Rd w A1 c1 at_) :
  Calls Try.prog 15 #[.agg #[.slice A0 lv.length c0, .slice A1 at_.length c1], .int .i64 s] w fun e w' => ∃ B0 d0 B1 d1 B2 d2 B3 d3, e = .returned (.tuple #[.agg #[.slice B0 (hL lv at_ s).length d0, .slice B1 (hA lv at_ s).length d1], .agg #[.slice B2 (hL lv at_ s).length d2, .slice B3 (hB lv at_ s).length d3], .int .i64 (hE lv at_ s)]) ∧ Rd w' B0 d0 (hL lv at_ s) ∧ Rd w' B1 d1 (hA lv at_ s) ∧ Rd w' B2 d2 (hL lv at_ s) ∧ Rd w' B3 d3 (hB lv at_ s) ∧ Below w.heap.size w w' := by
 obtain ⟨k, h⟩ := (Halve_ev lv at_ s).get
 refine (z2.calls k A0 c0 lv A1 c1 at_ s _ _ _ _ _ w r0.row r0.cap r1.row r1.cap h).mono ?_
 rintro e w' ⟨v0, v1, v2, v3, rfl, h0, h1, h2, h3, hb⟩
 obtain ⟨B0, d0, rfl, q0⟩ := Rd.of_R h0
 obtain ⟨B1, d1, rfl, q1⟩ := Rd.of_R h1
 obtain ⟨B2, d2, rfl, q2⟩ := Rd.of_R h2
 obtain ⟨B3, d3, rfl, q3⟩ := Rd.of_R h3
 exact ⟨B0, d0, B1, d1, B2, d2, B3, d3, rfl, q0, q1, q2, q3, hb⟩
theorem rhalve_c {A0 A1 : Option Addr} {c0 c1 : Nat} {lv at_ : List Int} (s : Int) (w : World) (r0 : Rd w A0 c0 lv) (r1 : Rd w A1 c1 at_) :
  Calls Try.prog 16 #[.agg #[.slice A0 lv.length c0, .slice A1 at_.length c1], .int .i64 s] w fun e w' => ∃ B0 d0 B1 d1 B2 d2 B3 d3, e = .returned (.tuple #[.agg #[.slice B0 (hL lv at_ s).length d0, .slice B1 (hA lv at_ s).length d1], .agg #[.slice B2 (hL lv at_ s).length d2, .slice B3 (hB lv at_ s).length d3], .int .i64 (hE lv at_ s)]) ∧ Rd w' B0 d0 (hL lv at_ s) ∧ Rd w' B1 d1 (hA lv at_ s) ∧ Rd w' B2 d2 (hL lv at_ s) ∧ Rd w' B3 d3 (hB lv at_ s) ∧ Below w.heap.size w w' := by
 obtain ⟨k, h⟩ := (refHalve_ev lv at_ s).get
 refine (zB.calls k A0 c0 lv A1 c1 at_ s _ _ _ _ _ w r0.row r0.cap r1.row r1.cap h).mono ?_
 rintro e w' ⟨v0, v1, v2, v3, rfl, h0, h1, h2, h3, hb⟩
 obtain ⟨B0, d0, rfl, q0⟩ := Rd.of_R h0
 obtain ⟨B1, d1, rfl, q1⟩ := Rd.of_R h1
 obtain ⟨B2, d2, rfl, q2⟩ := Rd.of_R h2
 obtain ⟨B3, d3, rfl, q3⟩ := Rd.of_R h3
 exact ⟨B0, d0, B1, d1, B2, d2, B3, d3, rfl, q0, q1, q2, q3, hb⟩
theorem way_c {A0 A1 : Option Addr} {c0 c1 : Nat} {lv at_ : List Int} (w : World) (r0 : Rd w A0 c0 lv) (r1 : Rd w A1 c1 at_) :
  Calls Try.prog 19 #[.agg #[.slice A0 lv.length c0, .slice A1 at_.length c1]] w fun e w' => e = .returned (.tuple #[.int .i64 (wayN lv at_), .int .i64 (wayE lv at_)]) ∧ Below w.heap.size w w' := by
 obtain ⟨f, h⟩ := (Way_ev lv at_).get
 exact zaz.calls f A0 c0 lv A1 c1 at_ _ _ w r0.row r0.cap r1.row r1.cap h
theorem rway_c {A0 A1 : Option Addr} {c0 c1 : Nat} {lv at_ : List Int} (w : World) (r0 : Rd w A0 c0 lv) (r1 : Rd w A1 c1 at_) :
  Calls Try.prog 20 #[.agg #[.slice A0 lv.length c0, .slice A1 at_.length c1]] w fun e w' => e = .returned (.tuple #[.int .i64 (wayN lv at_), .int .i64 (wayE lv at_)]) ∧ Below w.heap.size w w' := by
 obtain ⟨f, h⟩ := (refWay_ev lv at_).get
 exact zac.calls f A0 c0 lv A1 c1 at_ _ _ w r0.row r0.cap r1.row r1.cap h
theorem ends_c {A0 A1 : Option Addr} {c0 c1 : Nat} {lv at_ : List Int} {A2 : Option Addr} {c2 : Nat} {sg : List Int} (d : Int) (w : World) (r0 : Rd w A0 c0 lv) (r1 : Rd w A1 c1 at_) (r2 : Rd w A2 c2 sg) :
  Calls Try.prog 21 #[.agg #[.slice A0 lv.length c0, .slice A1 at_.length c1], .slice A2 sg.length c2, .int .i64 d] w fun e w' => ∃ B e0, e = .returned (.tuple #[.slice B (eL lv at_ sg d).length e0, .int .i64 (eE lv at_ sg d)]) ∧ Rd w' B e0 (eL lv at_ sg d) ∧ Below w.heap.size w w' := by
 obtain ⟨f, h⟩ := (Ends_ev lv at_ sg d).get
 refine (zF.calls f A0 c0 lv A1 c1 at_ A2 c2 sg d _ _ w r0.row r0.cap r1.row r1.cap r2.row r2.cap h).mono ?_
 rintro e w' ⟨v0, rfl, h0, hb⟩
 obtain ⟨B, e0, rfl, q⟩ := Rd.of_R h0
 exact ⟨B, e0, rfl, q, hb⟩
theorem rends_c {A0 A1 : Option Addr} {c0 c1 : Nat} {lv at_ : List Int} {A2 : Option Addr} {c2 : Nat} {sg : List Int} (d : Int) (w : World) (r0 : Rd w A0 c0 lv) (r1 : Rd w A1 c1 at_) (r2 : Rd w A2 c2 sg) :
  Calls Try.prog 22 #[.agg #[.slice A0 lv.length c0, .slice A1 at_.length c1], .slice A2 sg.length c2, .int .i64 d] w fun e w' => ∃ B e0, e = .returned (.tuple #[.slice B (eL lv at_ sg d).length e0, .int .i64 (eE lv at_ sg d)]) ∧ Rd w' B e0 (eL lv at_ sg d) ∧ Below w.heap.size w w' := by
 obtain ⟨f, h⟩ := (refEnds_ev lv at_ sg d).get
 refine (zv.calls f A0 c0 lv A1 c1 at_ A2 c2 sg d _ _ w r0.row r0.cap r1.row r1.cap r2.row r2.cap h).mono ?_
 rintro e w' ⟨v0, rfl, h0, hb⟩
 obtain ⟨B, e0, rfl, q⟩ := Rd.of_R h0
 exact ⟨B, e0, rfl, q, hb⟩
theorem same_c {A0 A1 B0 B1 : Option Addr} {c0 c1 d0 d1 : Nat} {a b : List Int} (w : World) (r0 : Rd w A0 c0 a) (r1 : Rd w A1 c1 b) (q0 : Rd w B0 d0 a) (q1 : Rd w B1 d1 b) (ha : a.length ≤ 100000) (hb : b.length ≤ 100000) :
  Calls Try.prog 13 #[.agg #[.slice A0 a.length c0, .slice A1 b.length c1], .agg #[.slice B0 a.length d0, .slice B1 b.length d1]] w fun e w' => e = .returned (.bool true) ∧ Below w.heap.size w w' := by
 obtain ⟨f, h⟩ := (same_true a b ha hb).get
 exact zaM.calls f A0 c0 a A1 c1 b B0 d0 a B1 d1 b true w r0.row r0.cap r1.row r1.cap q0.row q0.cap q1.row q1.cap h
theorem ints_c {A0 B0 : Option Addr} {c0 d0 : Nat} {a : List Int} (w : World) (r0 : Rd w A0 c0 a) (q0 : Rd w B0 d0 a) (ha : a.length ≤ 100000) :
  Calls Try.prog 23 #[.slice A0 a.length c0, .slice B0 a.length d0] w fun e w' => e = .returned (.bool true) ∧ Below w.heap.size w w' := by
 obtain ⟨f, h⟩ := (ints_true a ha).get
 refine (zC.calls f A0 c0 a B0 d0 a true w r0.row r0.cap q0.row q0.cap h).mono ?_
 rintro e w' ⟨rfl, hd⟩
 exact ⟨rfl, drawn0_below hd⟩
theorem win_c {A0 A1 : Option Addr} {c0 c1 : Nat} {lv at_ : List Int} {A2 : Option Addr} {c2 : Nat} {es : List Int} (d : Int) (w : World) (r0 : Rd w A0 c0 lv) (r1 : Rd w A1 c1 at_) (r2 : Rd w A2 c2 es) (hi : I64 es) {u : Bool} (hu : decide (Win lv at_ es d) = u) :
  Calls Try.prog 24 #[.agg #[.slice A0 lv.length c0, .slice A1 at_.length c1], .slice A2 es.length c2, .int .i64 d] w fun e w' => e = .returned (.bool u) ∧ Below w.heap.size w w' := by
 rw [← hu]
 exact within_calls A0 c0 lv A1 c1 at_ A2 c2 es d w r0.row r0.cap r1.row r1.cap r2.row r2.cap hi
theorem rwin_c {A0 A1 : Option Addr} {c0 c1 : Nat} {lv at_ : List Int} {A2 : Option Addr} {c2 : Nat} {es : List Int} (d : Int) (w : World) (r0 : Rd w A0 c0 lv) (r1 : Rd w A1 c1 at_) (r2 : Rd w A2 c2 es) (hi : I64 es) {u : Bool} (hu : decide (Win lv at_ es d) = u) :
  Calls Try.prog 25 #[.agg #[.slice A0 lv.length c0, .slice A1 at_.length c1], .slice A2 es.length c2, .int .i64 d] w fun e w' => e = .returned (.bool u) ∧ Below w.heap.size w w' := by
 rw [← hu]
 exact NW.rwithin_calls A0 c0 lv A1 c1 at_ A2 c2 es d w r0.row r0.cap r1.row r1.cap r2.row r2.cap hi
theorem whole_c (k : Int) (w : World) :
  Calls Try.prog 11 #[.int .i64 k] w fun e w' => ∃ B0 d0 B1 d1, e = .returned (.tuple #[.agg #[.slice B0 (wholeL k).length d0, .slice B1 (wholeL k).length d1], .int .i64 (wholeE k)]) ∧ Rd w' B0 d0 (wholeL k) ∧ Rd w' B1 d1 (wholeL k) ∧ Below w.heap.size w w' := by
 obtain ⟨f, h⟩ := (Whole_ev k).get
 refine (zbb.calls f k _ _ _ w h).mono ?_
 rintro e w' ⟨v0, v1, rfl, h0, h1, hb⟩
 obtain ⟨B0, d0, rfl, q0⟩ := Rd.of_R h0
 obtain ⟨B1, d1, rfl, q1⟩ := Rd.of_R h1
 exact ⟨B0, d0, B1, d1, rfl, q0, q1, hb⟩
theorem rwhole_c (k : Int) (w : World) :
  Calls Try.prog 12 #[.int .i64 k] w fun e w' => ∃ B0 d0 B1 d1, e = .returned (.tuple #[.agg #[.slice B0 (wholeL k).length d0, .slice B1 (wholeL k).length d1], .int .i64 (wholeE k)]) ∧ Rd w' B0 d0 (wholeL k) ∧ Rd w' B1 d1 (wholeL k) ∧ Below w.heap.size w w' := by
 obtain ⟨f, h⟩ := (refWhole_ev k).get
 refine (z4.calls f k _ _ _ w h).mono ?_
 rintro e w' ⟨v0, v1, rfl, h0, h1, hb⟩
 obtain ⟨B0, d0, rfl, q0⟩ := Rd.of_R h0
 obtain ⟨B1, d1, rfl, q1⟩ := Rd.of_R h1
 exact ⟨B0, d0, B1, d1, rfl, q0, q1, hb⟩
end Go.Proofs.Ytlidbaejhmamjaa.LW

namespace Go.Proofs.Ytlidbaejhmamjaa.LW
open Go.RowKit Go.Proofs.YtlidbaejhmamjaaW.PrintWords Go.Proofs.YtlidbaejhmamjaaW.PrintLast Go.Proofs.YtlidbaejhmamjaaW.PrintMore Go.Proofs.Ytlidbaejhmamjaa.PB Go.Proofs.Ytlidbaejhmamjaa.LA Go.Proofs.Ytlidbaejhmamjaa.AC
set_option linter.unusedVariables false
set_option linter.unusedSimpArgs false
def plays.T8 : Bool × List (List Nat × List Nat) := (true, [([], []), ([], []), ([], []), ([1, 2], [1, 2]), ([3], [3]), ([4], [4]), ([0, 5], [0, 5]), ([6], [6]), ([7], [7]), ([7], [7]), ([7], [7]), ([], []), ([], []), ([11, 8, 6, 0, 1, 2, 3, 4, 5, 6, 7, 8, 11, 12], [8, 11]), ([12, 9, 13, 0, 1, 2, 3, 4, 5, 6, 7, 8, 9, 11, 12, 13], [9, 12]), ([10, 14, 0, 1, 2, 3, 4, 5, 6, 7, 8, 9, 10, 11, 12, 13, 14], [10])])
def plays.B8 : List Nat := [0, 0, 0, 6, 14, 30, 63, 127, 255, 255, 255, 0, 0, 6655, 15359, 32767]
theorem plays.tab8 : rtab .any (opsOf Try.f5 8) = plays.T8 := by kernel_rfl
theorem plays.bits8 : zaG plays.T8.2 plays.B8 = true := by kernel_rfl
def plays.T9 : Bool × List (List Nat × List Nat) := (true, [([], []), ([], []), ([], []), ([1, 2], [1, 2]), ([3], [3]), ([4], [4]), ([0, 5], [0, 5]), ([6], [6]), ([7], [7]), ([7], [7]), ([7], [7]), ([], []), ([], []), ([11, 8, 6, 0, 1, 2, 3, 4, 5, 6, 7, 8, 11, 12], [8, 11]), ([12, 9, 13, 0, 1, 2, 3, 4, 5, 6, 7, 8, 9, 11, 12, 13], [9, 12]), ([10, 14, 0, 1, 2, 3, 4, 5, 6, 7, 8, 9, 10, 11, 12, 13, 14], [10])])
def plays.B9 : List Nat := [0, 0, 0, 6, 14, 30, 63, 127, 255, 255, 255, 0, 0, 6655, 15359, 32767]
theorem plays.tab9 : rtab .any (opsOf Try.f5 9) = plays.T9 := by kernel_rfl
theorem plays.bits9 : zaG plays.T9.2 plays.B9 = true := by kernel_rfl
def plays.T22 : Bool × List (List Nat × List Nat) := (true, [([], []), ([0], [0]), ([1], [1]), ([2], [2]), ([2], [2]), ([3, 4, 2], [2, 3, 4]), ([2, 5], [2, 5]), ([6, 2], [6]), ([7], [7]), ([7], [7]), ([8, 9, 7], [7, 8, 9]), ([7, 10], [7, 10]), ([11, 7], [11]), ([12], [12]), ([12], [12]), ([13, 14, 12, 12], [12, 13, 14]), ([15, 12], [12, 15]), ([12, 16], [12, 16]), ([17, 15], [17]), ([18], [18]), ([18], [18]), ([18], [18]), ([19, 20, 21, 18, 18], [18, 19, 20, 21]), ([18], [18]), ([18], [18]), ([18], [18]), ([23, 24, 25, 22, 18], [18, 23, 24, 25]), ([22, 26, 18], [18, 22, 26]), ([18, 27], [18, 27])])
def plays.B22 : List Nat := [0, 1, 3, 7, 7, 31, 63, 127, 255, 255, 1023, 2047, 4095, 8191, 8191, 32767, 65535, 131071, 262143, 524287, 524287, 524287, 4194303, 524287, 524287, 524287, 67108863, 134217727, 268435455]
theorem plays.tab22 : rtab .any (opsOf Try.f5 22) = plays.T22 := by kernel_rfl
theorem plays.bits22 : zaG plays.T22.2 plays.B22 = true := by kernel_rfl
set_option maxRecDepth 100000 in
set_option maxHeartbeats 8000000 in
theorem plays_calls (k : Int) (A1' : Option Addr) (c1' : Nat) (l1 : List S52) (A2 : Option Addr) (c2 : Nat) (sg : List Int) (d : Int) (A4 : Option Addr) (c4 : Nat) (es : List Int) (p : Int) (w : World) (hr1 : Kd.C k52 w A1' l1.length l1) (hc1 : l1.length ≤ c1') (r2 : Rd w A2 c2 sg) (r4 : Rd w A4 c4 es) (hi : I64 es) :
  Calls Try.prog 5 #[.int .i64 k, .slice A1' l1.length c1', .slice A2 sg.length c2, .int .i64 d, .slice A4 es.length c4, .int .i64 p] w fun e w' => e = .returned (.bool true) ∧ Below w.heap.size w w' := by
 have hu24 := Try.underlying24
 have hu52 := Try.underlying52
 have HB := am_ (Below.refl w.heap.size w)
 have HT := am_ hr1
 have R_sg := am_ r2
 have R_e := am_ r4
 have HI := am_ hi
 clear hr1 r2 r4 hi
 obtain ⟨G, hG⟩ : ∃ G, wholeE k = G := ⟨_, rfl⟩
 obtain ⟨pl, hpl⟩ : ∃ x, wholeL k = x := ⟨_, rfl⟩
 have C1 := whole_c k
 simp only [hG, hpl] at C1
 have D1 := am_ C1
 have C2 := rwhole_c k
 simp only [hG, hpl] at C2
 have D2 := am_ C2
 clear C1 C2 hG hpl
 go_enter Try.func5, Try.ntmps5
 go_wp2_with fail
 refine (D1.out w).mono ?_
 rintro e_ w1 ⟨A_p0, c_p0, A_p1, c_p1, rfl, h0, h1, hb⟩
 replace R_sg := am_ (R_sg.out.step hb); replace R_e := am_ (R_e.out.step hb); replace HB := am_ (zh HB.out hb)
 have R_p0 := am_ h0
 have R_p1 := am_ h1
 clear hb h0 h1
 go_wp2_with (first
  | ((with_reducible refine zr (N := 13) rfl ?_); refine zt rfl (N := 13) rfl (cs := #[.slice none 0 0, .slice none 0 0]) (t := 24) ?hr ?_; (case hr => first | (go_simp; done) | (go_simp; rfl)); intro g_r hg_ w2 hw_ hb_; have L_r := am_ (show w.heap.size ≤ g_r by have := HB.out.size; omega); replace R_sg := am_ (R_sg.out.step hb_); replace R_e := am_ (R_e.out.step hb_); replace R_p0 := am_ (R_p0.out.step hb_); replace R_p1 := am_ (R_p1.out.step hb_); replace HB := am_ (zh HB.out hb_); have K_r := am_ (show Bx w2 g_r none 0 0 none 0 0 from hw_); clear hg_ hw_ hb_)
  | ((with_reducible refine zJ (t := 24) (p := 13) rfl ?_); refine zD rfl 24 rfl rfl g_r #[.slice A_p0 pl.length c_p0, .slice A_p1 pl.length c_p1] rfl rfl 24 _ K_r.out (info24.trans rfl) rfl (zaA _ _ _ _ _ _) ?_; intro w3 hw_ hg_; replace R_sg := am_ (R_sg.out.put K_r.out hg_); replace R_e := am_ (R_e.out.put K_r.out hg_); replace R_p0 := am_ (R_p0.out.put K_r.out hg_); replace R_p1 := am_ (R_p1.out.put K_r.out hg_); replace HB := am_ (HB.out.grown hg_ HB.out.size (fun k_ hk_ => by cases hk_; exact L_r.out)); replace K_r := am_ (show Bx w3 g_r A_p0 pl.length c_p0 A_p1 pl.length c_p1 from hw_); clear hw_ hg_; have c_r_0 := K_r.out.c0; have c_r_1 := K_r.out.c1)
  | fail)
 refine (D2.out w3).mono ?_
 rintro e_ w4 ⟨A_s0, c_s0, A_s1, c_s1, rfl, h0, h1, hb⟩
 replace R_sg := am_ (R_sg.out.step hb); replace R_e := am_ (R_e.out.step hb); replace R_p0 := am_ (R_p0.out.step hb); replace R_p1 := am_ (R_p1.out.step hb); replace K_r := am_ (K_r.out.step hb); replace HB := am_ (zh HB.out hb)
 have R_s0 := am_ h0
 have R_s1 := am_ h1
 clear hb h0 h1
 clear c_r_0 c_r_1
 go_wp2_with (first
  | ((with_reducible refine zr (N := 15) rfl ?_); refine zt rfl (N := 15) rfl (cs := #[.slice none 0 0, .slice none 0 0]) (t := 24) ?hr ?_; (case hr => first | (go_simp; done) | (go_simp; rfl)); intro g_s hg_ w5 hw_ hb_; have N_s_r := am_ (show g_r ≠ g_s by have := K_r.out.lt; omega); have L_s := am_ (show w.heap.size ≤ g_s by have := HB.out.size; omega); replace R_sg := am_ (R_sg.out.step hb_); replace R_e := am_ (R_e.out.step hb_); replace R_p0 := am_ (R_p0.out.step hb_); replace R_p1 := am_ (R_p1.out.step hb_); replace R_s0 := am_ (R_s0.out.step hb_); replace R_s1 := am_ (R_s1.out.step hb_); replace K_r := am_ (K_r.out.step hb_); replace HB := am_ (zh HB.out hb_); have K_s := am_ (show Bx w5 g_s none 0 0 none 0 0 from hw_); clear hg_ hw_ hb_)
  | ((with_reducible refine zJ (t := 24) (p := 15) rfl ?_); refine zD rfl 24 rfl rfl g_s #[.slice A_s0 pl.length c_s0, .slice A_s1 pl.length c_s1] rfl rfl 24 _ K_s.out (info24.trans rfl) rfl (zaA _ _ _ _ _ _) ?_; intro w6 hw_ hg_; replace R_sg := am_ (R_sg.out.put K_s.out hg_); replace R_e := am_ (R_e.out.put K_s.out hg_); replace R_p0 := am_ (R_p0.out.put K_s.out hg_); replace R_p1 := am_ (R_p1.out.put K_s.out hg_); replace R_s0 := am_ (R_s0.out.put K_s.out hg_); replace R_s1 := am_ (R_s1.out.put K_s.out hg_); replace K_r := am_ (K_r.out.put hg_ N_s_r.out); replace HB := am_ (HB.out.grown hg_ HB.out.size (fun k_ hk_ => by cases hk_; exact L_s.out)); replace K_s := am_ (show Bx w6 g_s A_s0 pl.length c_s0 A_s1 pl.length c_s1 from hw_); clear hw_ hg_; have c_s_0 := K_s.out.c0; have c_s_1 := K_s.out.c1)
  | fail)
 refine (awake_calls w6).mono ?_
 rintro e_ w7 ⟨rfl, hb⟩
 replace R_sg := am_ (R_sg.out.step hb); replace R_e := am_ (R_e.out.step hb); replace R_p0 := am_ (R_p0.out.step hb); replace R_p1 := am_ (R_p1.out.step hb); replace R_s0 := am_ (R_s0.out.step hb); replace R_s1 := am_ (R_s1.out.step hb); replace K_r := am_ (K_r.out.step hb); replace K_s := am_ (K_s.out.step hb); replace HB := am_ (zh HB.out hb)
 clear hb 
 clear c_s_0 c_s_1
 go_wp2_with fail
 go_loopg [17] l1.length (fun m v17 wr => ∃ (x : Int) (lv at_ : List Int) (A0 A1 B0 B1 : Option Addr) (c0 c1 d0 d1 : Nat), v17 = .int .i64 x ∧ Aside0 (0 ≤ x ∧ x + m = l1.length) ∧ Aside0 (Bx wr g_r A0 lv.length c0 A1 at_.length c1) ∧ Aside0 (Bx wr g_s B0 lv.length d0 B1 at_.length d1) ∧ Aside0 (Rd wr A0 c0 lv) ∧ Aside0 (Rd wr A1 c1 at_) ∧ Aside0 (Rd wr B0 d0 lv) ∧ Aside0 (Rd wr B1 d1 at_) ∧ Aside0 (Rd wr A2 c2 sg) ∧ Aside0 (Rd wr A4 c4 es) ∧ Aside0 (Below w.heap.size w wr))
 case atStart => exact ⟨0, pl, pl, A_p0, A_p1, A_s0, A_s1, c_p0, c_p1, c_s0, c_s1, rfl, ⟨by omega⟩, K_r, K_s, R_p0, R_p1, R_s0, R_s1, R_sg, R_e, HB⟩
 case round =>
  clear K_r K_s R_p0 R_p1 R_s0 R_s1 R_sg R_e HB
  obtain ⟨x, lv, at_, A0, A1, B0, B1, c0, c1, d0, d1, rfl, hm, K_r, K_s, R_0, R_1, S_0, S_1, R_sg, R_e, HB⟩ := hrel
  by_cases hx : x < (l1.length : Int)
  ·have hxb : decide (x < (l1.length : Int)) = true := decide_eq_true hx
   by_cases hx4 : x < 40
   ·have hx4b : decide (x < 40) = true := decide_eq_true hx4
    by_cases hg0 : G = 0
    ·have hgb : (G == 0) = true := beq_iff_eq.2 hg0
     obtain ⟨j, rfl⟩ : ∃ j : Nat, x = j := ⟨x.toNat, by have := hm.out; omega⟩
     have hj : j < l1.length := by omega
     have hj0 := eq_true hj
     have hj1 := eq_true hx
     have hj2 := eq_true (show (0 : Int) ≤ (j : Int) by omega)
     obtain ⟨at0, e44, hy0, hy1⟩ := at_T52 (Kd.zU HT.out HB.out) (j : Int) (by omega) hx
     have HYS := am_ (show ∀ W : World, Below w.heap.size w W → W.cell? (at0.add (j * 2)) = some (.int .i64 (rd_T52 l1 (j : Int)).f0) from fun W hW => by
      obtain ⟨at1, e', hy0', hy1'⟩ := at_T52 (Kd.zU HT.out hW) (j : Int) (by omega) hx
      rw [e44] at e'
      cases e'
      rw [Int.toNat_natCast] at hy0'
      exact hy0')
     have HYU := am_ (show ∀ W : World, Below w.heap.size w W → W.cell? ⟨(at0.add (j * 2)).block, (at0.add (j * 2)).off + 1, none⟩ = some (.bool (rd_T52 l1 (j : Int)).f1) from fun W hW => by
      obtain ⟨at1, e', hy0', hy1'⟩ := at_T52 (Kd.zU HT.out hW) (j : Int) (by omega) hx
      rw [e44] at e'
      cases e'
      rw [Int.toNat_natCast] at hy1'
      exact hy1')
     cases e44
     have HJ := am_ (And.intro hx hx4)
     clear hx hx4 hj hg0 hy0 hy1
     generalize (rd_T52 l1 (j : Int)).f0 = s at *
     generalize (rd_T52 l1 (j : Int)).f1 = up at *
     obtain ⟨E, hE_⟩ : ∃ E, hE lv at_ s = E := ⟨_, rfl⟩
     obtain ⟨hl, e1⟩ : ∃ x, hL lv at_ s = x := ⟨_, rfl⟩
     obtain ⟨ha, e2⟩ : ∃ x, hA lv at_ s = x := ⟨_, rfl⟩
     obtain ⟨hbb, e3⟩ : ∃ x, hB lv at_ s = x := ⟨_, rfl⟩
     have N0 := hL_len lv at_ s
     have N1 := hA_len lv at_ s
     have N2 := hB_len lv at_ s
     rw [e1] at N0
     rw [e2] at N1
     rw [e3] at N2
     have C1 := @halve_c A0 A1 c0 c1 lv at_ s
     have C2 := @rhalve_c B0 B1 d0 d1 lv at_ s
     simp only [hE_, e1, e2, e3] at C1 C2
     have HRG := am_ (show E = 0 → Reg hl ha ∧ Reg hl hbb from fun h => by
      have hok : HOk lv at_ s := Classical.byContradiction fun hn => halve_bad hn (hE_.trans h)
      obtain ⟨_, o1, o2, _⟩ := halve_ok hok
      rw [e1, e2] at o1
      rw [e1, e3] at o2
      exact ⟨o1, o2⟩)
     have D3 := am_ C1
     have D4 := am_ C2
     have M0 := am_ N0
     have M1 := am_ N1
     have M2 := am_ N2
     clear C1 C2 N0 N1 N2 e1 e2 e3 hE_
     go_wp2_with fail
     have hb : Below wr.heap.size wr wr.drew := zaH (Below.refl _ _)
     replace R_0 := am_ (R_0.out.step hb); replace R_1 := am_ (R_1.out.step hb); replace S_0 := am_ (S_0.out.step hb); replace S_1 := am_ (S_1.out.step hb); replace R_sg := am_ (R_sg.out.step hb); replace R_e := am_ (R_e.out.step hb); replace K_r := am_ (K_r.out.step hb); replace K_s := am_ (K_s.out.step hb); replace HB := am_ (zh HB.out hb)
     clear hb
     have HY := am_ (show ∀ W : World, Below wr.drew.heap.size wr.drew W → W.cell? (at0.add (j * 2)) = some (.int .i64 s) from fun W hW => HYS.out W (zh HB.out hW))
     refine zaY (n := 16) (S := fun w' => w'.cell? ⟨g_r, 0, none⟩ = some (.slice A0 lv.length c0) ∧ w'.cell? ⟨g_r, 1, none⟩ = some (.slice A1 at_.length c1) ∧ w'.cell? (at0.add (j * 2)) = some (.int .i64 s)) (ds := [13, 14]) (bl_ 16 0) (by kernel_rfl) rfl rfl ⟨K_r.out.c0, K_r.out.c1, HY.out _ (Below.refl _ _)⟩ (fun hHeld => ?_); refine zav plays.tab8 plays.bits8 (fun HT_ HW_ => ?_)
     generalize wr.drew = w8 at R_0 R_1 S_0 S_1 R_sg R_e K_r K_s HY HB hHeld ⊢
     have HX := am_ (Below.refl w8.heap.size w8)
     refine zz (i := 1) (N := some 65) (v := ?_) (a' := ?_) (bl_ 16 2) rfl rfl (zn HT_.out (by kernel_rfl)) (fun _ _ _ h => h) (Or.inl ⟨by rfl, ?_⟩) ?_ ?_; rotate_left; (focus (intro w'; go_simp; first | done | with_reducible rfl)); rotate_left; (focus (simp only [Act.put, sI_, s0_, s1_, zl, zm]; first | done | rfl))
     refine zz (i := 2) (N := some 66) (v := ?_) (a' := ?_) (bl_ 16 6) rfl rfl (zn HT_.out (by kernel_rfl)) (fun _ _ _ h => h) (Or.inl ⟨by rfl, ?_⟩) ?_ ?_; rotate_left; (focus (intro w'; go_simp; first | done | with_reducible rfl)); rotate_left; (focus (simp only [Act.put, sI_, s0_, s1_, zl, zm]; first | done | rfl))
     refine zz (i := 3) (N := some 67) (v := ?_) (a' := ?_) (bl_ 16 14) rfl rfl (zn HT_.out (by kernel_rfl)) (fun _ _ _ h => h) (Or.inl ⟨by rfl, ?_⟩) ?_ ?_; rotate_left; (focus (intro w'; go_simp; first | done | with_reducible rfl)); rotate_left; (focus (simp only [Act.put, sI_, s0_, s1_, zl, zm]; first | done | rfl))
     refine zz (i := 4) (N := some 68) (v := ?_) (a' := ?_) (bl_ 16 30) rfl rfl (zn HT_.out (by kernel_rfl)) (fun _ _ _ h => h) (Or.inl ⟨by rfl, ?_⟩) ?_ ?_; rotate_left; (focus (intro w'; go_simp; first | done | with_reducible rfl)); rotate_left; (focus (simp only [Act.put, sI_, s0_, s1_, zl, zm]; first | done | rfl))
     refine zau (i := 0) (N := some 64) (v := ?_) (a' := ?_) (bl_ 16 31) rfl rfl (zR HT_.out HW_.out (by kernel_rfl)) (fun _ _ _ h => h) (Or.inl ⟨by rfl, ?_⟩) hHeld ?_ ?_; rotate_left; (focus (rintro w' ⟨s0, s1, s2⟩; go_simp; first | done | with_reducible rfl)); rotate_left; (focus (simp only [Act.put, sI_, s0_, s1_, zl, zm]; first | done | rfl))
     refine zau (i := 5) (N := some 69) (v := ?_) (a' := ?_) (bl_ 16 63) rfl rfl (zR HT_.out HW_.out (by kernel_rfl)) (fun _ _ _ h => h) (Or.inl ⟨by rfl, ?_⟩) hHeld ?_ ?_; rotate_left; (focus (rintro w' ⟨s0, s1, s2⟩; go_simp; first | done | with_reducible rfl)); rotate_left; (focus (simp only [Act.put, sI_, s0_, s1_, zl, zm]; first | done | rfl))
     refine join_ (σ := Option Addr × Nat × Option Addr × Nat × Option Addr × Nat × Option Addr × Nat × Nat × Nat) 3 (bl_ 16 8191) (fun s_ => [(70, .tuple #[.agg #[.slice s_.1 hl.length s_.2.1, .slice s_.2.2.1 ha.length s_.2.2.2.1], .agg #[.slice s_.2.2.2.2.1 hl.length s_.2.2.2.2.2.1, .slice s_.2.2.2.2.2.2.1 hbb.length s_.2.2.2.2.2.2.2.1], .int .i64 E]), (63, .tuple #[.agg #[.slice s_.1 hl.length s_.2.1, .slice s_.2.2.1 ha.length s_.2.2.2.1], .agg #[.slice s_.2.2.2.2.1 hl.length s_.2.2.2.2.2.1, .slice s_.2.2.2.2.2.2.1 hbb.length s_.2.2.2.2.2.2.2.1], .int .i64 E]), (71, .agg #[.slice s_.1 hl.length s_.2.1, .slice s_.2.2.1 ha.length s_.2.2.2.1]), (72, .agg #[.slice s_.2.2.2.2.1 hl.length s_.2.2.2.2.2.1, .slice s_.2.2.2.2.2.2.1 hbb.length s_.2.2.2.2.2.2.2.1]), (73, .int .i64 E), (18, .pointer (some ⟨s_.2.2.2.2.2.2.2.2.1, 0, none⟩)), (19, .pointer (some ⟨s_.2.2.2.2.2.2.2.2.2, 0, none⟩))]) (fun s_ w' => (w'.cell? ⟨g_r, 0, none⟩ = some (.slice A0 lv.length c0) ∧ w'.cell? ⟨g_r, 1, none⟩ = some (.slice A1 at_.length c1) ∧ w'.cell? (at0.add (j * 2)) = some (.int .i64 s)) ∧ (Rd w' s_.1 s_.2.1 hl) ∧ (Rd w' s_.2.2.1 s_.2.2.2.1 ha) ∧ (Rd w' s_.2.2.2.2.1 s_.2.2.2.2.2.1 hl) ∧ (Rd w' s_.2.2.2.2.2.2.1 s_.2.2.2.2.2.2.2.1 hbb) ∧ (Bx w' s_.2.2.2.2.2.2.2.2.1 none 0 0 none 0 0) ∧ (Bx w' s_.2.2.2.2.2.2.2.2.2 none 0 0 none 0 0) ∧ (w8.heap.size ≤ s_.2.2.2.2.2.2.2.2.1) ∧ (w8.heap.size ≤ s_.2.2.2.2.2.2.2.2.2) ∧ (s_.2.2.2.2.2.2.2.2.1 ≠ s_.2.2.2.2.2.2.2.2.2) ∧ (Below w8.heap.size w8 w')) ?_ ?_
     rotate_left
     ·intro hJ
      refine three_ (i := 6) (j := 11) (k := 12) (Ni := some 70) (Nj := some 18) (Nk := some 19) (bl_ 16 127) (bl_ 16 2111) (bl_ 16 4159) rfl rfl rfl rfl rfl rfl (three_of HT_.out (by kernel_rfl)) (by decide) (by decide) (by decide) (fun K hK => ?_) (fun K hK => ?_) (fun K hK => ?_)
      ·skip
       refine zbc Try.func15 (by kernel_rfl) rfl #[.agg #[.slice A0 lv.length c0, .slice A1 at_.length c1], .int .i64 s] (by rfl) rfl rfl (by (try simp only [List.map_toArray, List.map_cons, List.map_nil]); first | done | rfl) ?_
       refine (D3.out w8 (R_0.out.step HX.out) (R_1.out.step HX.out)).mono ?_; rintro e_ y0 ⟨A_h0, c_h0, A_ha, c_ha, A_h1, c_h1, A_hb_, c_hb_, rfl, h0, h1, h2, h3, hb⟩; refine ⟨_, rfl, ?_⟩
       replace HX := am_ (zh HX.out hb); have R_h0 := am_ h0; have R_ha := am_ h1; have R_h1 := am_ h2; have R_hb_ := am_ h3; clear hb h0 h1 h2 h3
       refine hK.out _ _ ⟨(K_r.out.step HX.out).c0, (K_r.out.step HX.out).c1, HY.out _ HX.out⟩ (fun hHeld => ?_); clear hK K
       refine zZ (a' := ?_) ?_ ?_; rotate_left; (focus (show Act.put _ (some 70) _ = _; simp only [Act.put, sI_, s0_, s1_, zl, zm]; first | done | rfl))
       refine zz (i := 7) (N := some 63) (v := ?_) (a' := ?_) (bl_ 16 255) rfl rfl (zn HT_.out (by kernel_rfl)) (fun _ _ _ h => h) (Or.inl ⟨by rfl, ?_⟩) ?_ ?_; rotate_left; (focus (intro w'; go_simp; first | done | with_reducible rfl)); rotate_left; (focus (simp only [Act.put, sI_, s0_, s1_, zl, zm]; first | done | rfl))
       refine zz (i := 8) (N := some 71) (v := ?_) (a' := ?_) (bl_ 16 511) rfl rfl (zn HT_.out (by kernel_rfl)) (fun _ _ _ h => h) (Or.inl ⟨by rfl, ?_⟩) ?_ ?_; rotate_left; (focus (intro w'; go_simp; first | done | with_reducible rfl)); rotate_left; (focus (simp only [Act.put, sI_, s0_, s1_, zl, zm]; first | done | rfl))
       refine zz (i := 9) (N := some 72) (v := ?_) (a' := ?_) (bl_ 16 1023) rfl rfl (zn HT_.out (by kernel_rfl)) (fun _ _ _ h => h) (Or.inl ⟨by rfl, ?_⟩) ?_ ?_; rotate_left; (focus (intro w'; go_simp; first | done | with_reducible rfl)); rotate_left; (focus (simp only [Act.put, sI_, s0_, s1_, zl, zm]; first | done | rfl))
       refine zz (i := 10) (N := some 73) (v := ?_) (a' := ?_) (bl_ 16 2047) rfl rfl (zn HT_.out (by kernel_rfl)) (fun _ _ _ h => h) (Or.inl ⟨by rfl, ?_⟩) ?_ ?_; rotate_left; (focus (intro w'; go_simp; first | done | with_reducible rfl)); rotate_left; (focus (simp only [Act.put, sI_, s0_, s1_, zl, zm]; first | done | rfl))
       refine two_ (i := 11) (j := 12) (Ni := some 18) (Nj := some 19) (bl_ 16 4095) (bl_ 16 6143) rfl rfl rfl rfl (two_of HT_.out (by kernel_rfl)) (by decide) (by decide) (fun K hK => ?_) (fun K hK => ?_)
       ·skip
        refine zai ?hg (N := 18) ?hd (cs := #[.slice none 0 0, .slice none 0 0]) (t := 24) ?hr ?_; (case hd => rfl); (case hg => rfl); (case hr => first | (go_simp; done) | (go_simp; rfl)); intro g_a hg y1 hw hb
        have L_a := am_ (show w8.heap.size ≤ g_a by have := HX.out.size; omega); replace R_h0 := am_ (R_h0.out.step hb); replace R_ha := am_ (R_ha.out.step hb); replace R_h1 := am_ (R_h1.out.step hb); replace R_hb_ := am_ (R_hb_.out.step hb); replace HX := am_ (zh HX.out hb); have K_a := am_ (show Bx y1 g_a none 0 0 none 0 0 from hw); clear hg hw hb
        refine hK.out _ _ ⟨(K_r.out.step HX.out).c0, (K_r.out.step HX.out).c1, HY.out _ HX.out⟩ (fun hHeld => ?_); clear hK K
        refine zZ (a' := ?_) ?_ ?_; rotate_left; (focus (show Act.put _ (some 18) _ = _; simp only [Act.put, sI_, s0_, s1_, zl, zm]; first | done | rfl))
        refine one_ (i := 12) (N := some 19) (bl_ 16 8191) rfl rfl (zae HT_.out (by kernel_rfl)) (by decide) (fun K hK => ?_)
        refine zai ?hg (N := 19) ?hd (cs := #[.slice none 0 0, .slice none 0 0]) (t := 24) ?hr ?_; (case hd => rfl); (case hg => rfl); (case hr => first | (go_simp; done) | (go_simp; rfl)); intro g_b hg y2 hw hb
        have NN := am_ (show g_a ≠ g_b by have := K_a.out.lt; omega); have L_b := am_ (show w8.heap.size ≤ g_b by have := HX.out.size; omega); replace R_h0 := am_ (R_h0.out.step hb); replace R_ha := am_ (R_ha.out.step hb); replace R_h1 := am_ (R_h1.out.step hb); replace R_hb_ := am_ (R_hb_.out.step hb); replace K_a := am_ (K_a.out.step hb); replace HX := am_ (zh HX.out hb); have K_b := am_ (show Bx y2 g_b none 0 0 none 0 0 from hw); clear hg hw hb
        refine hK.out _ _ ⟨(K_r.out.step HX.out).c0, (K_r.out.step HX.out).c1, HY.out _ HX.out⟩ (fun hHeld => ?_); clear hK K
        refine zZ (a' := ?_) ?_ ?_; rotate_left; (focus (show Act.put _ (some 19) _ = _; simp only [Act.put, sI_, s0_, s1_, zl, zm]; first | done | rfl))
        exact zZ (by first | (simp only [zY, Act.put, sI_, s0_, s1_]; done) | (simp only [zY, Act.put, sI_, s0_, s1_]; rfl)) (hJ (A_h0, c_h0, A_ha, c_ha, A_h1, c_h1, A_hb_, c_hb_, g_a, g_b) _ ⟨hHeld, R_h0.out, R_ha.out, R_h1.out, R_hb_.out, K_a.out, K_b.out, L_a.out, L_b.out, NN.out, HX.out⟩)
       ·skip
        refine zai ?hg (N := 19) ?hd (cs := #[.slice none 0 0, .slice none 0 0]) (t := 24) ?hr ?_; (case hd => rfl); (case hg => rfl); (case hr => first | (go_simp; done) | (go_simp; rfl)); intro g_b hg y1 hw hb
        have L_b := am_ (show w8.heap.size ≤ g_b by have := HX.out.size; omega); replace R_h0 := am_ (R_h0.out.step hb); replace R_ha := am_ (R_ha.out.step hb); replace R_h1 := am_ (R_h1.out.step hb); replace R_hb_ := am_ (R_hb_.out.step hb); replace HX := am_ (zh HX.out hb); have K_b := am_ (show Bx y1 g_b none 0 0 none 0 0 from hw); clear hg hw hb
        refine hK.out _ _ ⟨(K_r.out.step HX.out).c0, (K_r.out.step HX.out).c1, HY.out _ HX.out⟩ (fun hHeld => ?_); clear hK K
        refine zZ (a' := ?_) ?_ ?_; rotate_left; (focus (show Act.put _ (some 19) _ = _; simp only [Act.put, sI_, s0_, s1_, zl, zm]; first | done | rfl))
        refine one_ (i := 11) (N := some 18) (bl_ 16 8191) rfl rfl (zae HT_.out (by kernel_rfl)) (by decide) (fun K hK => ?_)
        refine zai ?hg (N := 18) ?hd (cs := #[.slice none 0 0, .slice none 0 0]) (t := 24) ?hr ?_; (case hd => rfl); (case hg => rfl); (case hr => first | (go_simp; done) | (go_simp; rfl)); intro g_a hg y2 hw hb
        have NN := am_ (show g_a ≠ g_b by have := K_b.out.lt; omega); have L_a := am_ (show w8.heap.size ≤ g_a by have := HX.out.size; omega); replace R_h0 := am_ (R_h0.out.step hb); replace R_ha := am_ (R_ha.out.step hb); replace R_h1 := am_ (R_h1.out.step hb); replace R_hb_ := am_ (R_hb_.out.step hb); replace K_b := am_ (K_b.out.step hb); replace HX := am_ (zh HX.out hb); have K_a := am_ (show Bx y2 g_a none 0 0 none 0 0 from hw); clear hg hw hb
        refine hK.out _ _ ⟨(K_r.out.step HX.out).c0, (K_r.out.step HX.out).c1, HY.out _ HX.out⟩ (fun hHeld => ?_); clear hK K
        refine zZ (a' := ?_) ?_ ?_; rotate_left; (focus (show Act.put _ (some 18) _ = _; simp only [Act.put, sI_, s0_, s1_, zl, zm]; first | done | rfl))
        exact zZ (by first | (simp only [zY, Act.put, sI_, s0_, s1_]; done) | (simp only [zY, Act.put, sI_, s0_, s1_]; rfl)) (hJ (A_h0, c_h0, A_ha, c_ha, A_h1, c_h1, A_hb_, c_hb_, g_a, g_b) _ ⟨hHeld, R_h0.out, R_ha.out, R_h1.out, R_hb_.out, K_a.out, K_b.out, L_a.out, L_b.out, NN.out, HX.out⟩)
      ·skip
       refine zai ?hg (N := 18) ?hd (cs := #[.slice none 0 0, .slice none 0 0]) (t := 24) ?hr ?_; (case hd => rfl); (case hg => rfl); (case hr => first | (go_simp; done) | (go_simp; rfl)); intro g_a hg y0 hw hb
       have L_a := am_ (show w8.heap.size ≤ g_a by have := HX.out.size; omega); replace HX := am_ (zh HX.out hb); have K_a := am_ (show Bx y0 g_a none 0 0 none 0 0 from hw); clear hg hw hb
       refine hK.out _ _ ⟨(K_r.out.step HX.out).c0, (K_r.out.step HX.out).c1, HY.out _ HX.out⟩ (fun hHeld => ?_); clear hK K
       refine zZ (a' := ?_) ?_ ?_; rotate_left; (focus (show Act.put _ (some 18) _ = _; simp only [Act.put, sI_, s0_, s1_, zl, zm]; first | done | rfl))
       refine two_ (i := 6) (j := 12) (Ni := some 70) (Nj := some 19) (bl_ 16 2175) (bl_ 16 6207) rfl rfl rfl rfl (two_of HT_.out (by kernel_rfl)) (by decide) (by decide) (fun K hK => ?_) (fun K hK => ?_)
       ·skip
        refine zbc Try.func15 (by kernel_rfl) rfl #[.agg #[.slice A0 lv.length c0, .slice A1 at_.length c1], .int .i64 s] (by rfl) rfl rfl (by (try simp only [List.map_toArray, List.map_cons, List.map_nil]); first | done | rfl) ?_
        refine (D3.out y0 (R_0.out.step HX.out) (R_1.out.step HX.out)).mono ?_; rintro e_ y1 ⟨A_h0, c_h0, A_ha, c_ha, A_h1, c_h1, A_hb_, c_hb_, rfl, h0, h1, h2, h3, hb⟩; refine ⟨_, rfl, ?_⟩
        replace K_a := am_ (K_a.out.step hb); replace HX := am_ (zh HX.out hb); have R_h0 := am_ h0; have R_ha := am_ h1; have R_h1 := am_ h2; have R_hb_ := am_ h3; clear hb h0 h1 h2 h3
        refine hK.out _ _ ⟨(K_r.out.step HX.out).c0, (K_r.out.step HX.out).c1, HY.out _ HX.out⟩ (fun hHeld => ?_); clear hK K
        refine zZ (a' := ?_) ?_ ?_; rotate_left; (focus (show Act.put _ (some 70) _ = _; simp only [Act.put, sI_, s0_, s1_, zl, zm]; first | done | rfl))
        refine zz (i := 7) (N := some 63) (v := ?_) (a' := ?_) (bl_ 16 2303) rfl rfl (zn HT_.out (by kernel_rfl)) (fun _ _ _ h => h) (Or.inl ⟨by rfl, ?_⟩) ?_ ?_; rotate_left; (focus (intro w'; go_simp; first | done | with_reducible rfl)); rotate_left; (focus (simp only [Act.put, sI_, s0_, s1_, zl, zm]; first | done | rfl))
        refine zz (i := 8) (N := some 71) (v := ?_) (a' := ?_) (bl_ 16 2559) rfl rfl (zn HT_.out (by kernel_rfl)) (fun _ _ _ h => h) (Or.inl ⟨by rfl, ?_⟩) ?_ ?_; rotate_left; (focus (intro w'; go_simp; first | done | with_reducible rfl)); rotate_left; (focus (simp only [Act.put, sI_, s0_, s1_, zl, zm]; first | done | rfl))
        refine zz (i := 9) (N := some 72) (v := ?_) (a' := ?_) (bl_ 16 3071) rfl rfl (zn HT_.out (by kernel_rfl)) (fun _ _ _ h => h) (Or.inl ⟨by rfl, ?_⟩) ?_ ?_; rotate_left; (focus (intro w'; go_simp; first | done | with_reducible rfl)); rotate_left; (focus (simp only [Act.put, sI_, s0_, s1_, zl, zm]; first | done | rfl))
        refine zz (i := 10) (N := some 73) (v := ?_) (a' := ?_) (bl_ 16 4095) rfl rfl (zn HT_.out (by kernel_rfl)) (fun _ _ _ h => h) (Or.inl ⟨by rfl, ?_⟩) ?_ ?_; rotate_left; (focus (intro w'; go_simp; first | done | with_reducible rfl)); rotate_left; (focus (simp only [Act.put, sI_, s0_, s1_, zl, zm]; first | done | rfl))
        refine one_ (i := 12) (N := some 19) (bl_ 16 8191) rfl rfl (zae HT_.out (by kernel_rfl)) (by decide) (fun K hK => ?_)
        refine zai ?hg (N := 19) ?hd (cs := #[.slice none 0 0, .slice none 0 0]) (t := 24) ?hr ?_; (case hd => rfl); (case hg => rfl); (case hr => first | (go_simp; done) | (go_simp; rfl)); intro g_b hg y2 hw hb
        have NN := am_ (show g_a ≠ g_b by have := K_a.out.lt; omega); have L_b := am_ (show w8.heap.size ≤ g_b by have := HX.out.size; omega); replace K_a := am_ (K_a.out.step hb); replace R_h0 := am_ (R_h0.out.step hb); replace R_ha := am_ (R_ha.out.step hb); replace R_h1 := am_ (R_h1.out.step hb); replace R_hb_ := am_ (R_hb_.out.step hb); replace HX := am_ (zh HX.out hb); have K_b := am_ (show Bx y2 g_b none 0 0 none 0 0 from hw); clear hg hw hb
        refine hK.out _ _ ⟨(K_r.out.step HX.out).c0, (K_r.out.step HX.out).c1, HY.out _ HX.out⟩ (fun hHeld => ?_); clear hK K
        refine zZ (a' := ?_) ?_ ?_; rotate_left; (focus (show Act.put _ (some 19) _ = _; simp only [Act.put, sI_, s0_, s1_, zl, zm]; first | done | rfl))
        exact zZ (by first | (simp only [zY, Act.put, sI_, s0_, s1_]; done) | (simp only [zY, Act.put, sI_, s0_, s1_]; rfl)) (hJ (A_h0, c_h0, A_ha, c_ha, A_h1, c_h1, A_hb_, c_hb_, g_a, g_b) _ ⟨hHeld, R_h0.out, R_ha.out, R_h1.out, R_hb_.out, K_a.out, K_b.out, L_a.out, L_b.out, NN.out, HX.out⟩)
       ·skip
        refine zai ?hg (N := 19) ?hd (cs := #[.slice none 0 0, .slice none 0 0]) (t := 24) ?hr ?_; (case hd => rfl); (case hg => rfl); (case hr => first | (go_simp; done) | (go_simp; rfl)); intro g_b hg y1 hw hb
        have NN := am_ (show g_a ≠ g_b by have := K_a.out.lt; omega); have L_b := am_ (show w8.heap.size ≤ g_b by have := HX.out.size; omega); replace K_a := am_ (K_a.out.step hb); replace HX := am_ (zh HX.out hb); have K_b := am_ (show Bx y1 g_b none 0 0 none 0 0 from hw); clear hg hw hb
        refine hK.out _ _ ⟨(K_r.out.step HX.out).c0, (K_r.out.step HX.out).c1, HY.out _ HX.out⟩ (fun hHeld => ?_); clear hK K
        refine zZ (a' := ?_) ?_ ?_; rotate_left; (focus (show Act.put _ (some 19) _ = _; simp only [Act.put, sI_, s0_, s1_, zl, zm]; first | done | rfl))
        refine one_ (i := 6) (N := some 70) (bl_ 16 6271) rfl rfl (zae HT_.out (by kernel_rfl)) (by decide) (fun K hK => ?_)
        refine zbc Try.func15 (by kernel_rfl) rfl #[.agg #[.slice A0 lv.length c0, .slice A1 at_.length c1], .int .i64 s] (by rfl) rfl rfl (by (try simp only [List.map_toArray, List.map_cons, List.map_nil]); first | done | rfl) ?_
        refine (D3.out y1 (R_0.out.step HX.out) (R_1.out.step HX.out)).mono ?_; rintro e_ y2 ⟨A_h0, c_h0, A_ha, c_ha, A_h1, c_h1, A_hb_, c_hb_, rfl, h0, h1, h2, h3, hb⟩; refine ⟨_, rfl, ?_⟩
        replace K_a := am_ (K_a.out.step hb); replace K_b := am_ (K_b.out.step hb); replace HX := am_ (zh HX.out hb); have R_h0 := am_ h0; have R_ha := am_ h1; have R_h1 := am_ h2; have R_hb_ := am_ h3; clear hb h0 h1 h2 h3
        refine hK.out _ _ ⟨(K_r.out.step HX.out).c0, (K_r.out.step HX.out).c1, HY.out _ HX.out⟩ (fun hHeld => ?_); clear hK K
        refine zZ (a' := ?_) ?_ ?_; rotate_left; (focus (show Act.put _ (some 70) _ = _; simp only [Act.put, sI_, s0_, s1_, zl, zm]; first | done | rfl))
        refine zz (i := 7) (N := some 63) (v := ?_) (a' := ?_) (bl_ 16 6399) rfl rfl (zn HT_.out (by kernel_rfl)) (fun _ _ _ h => h) (Or.inl ⟨by rfl, ?_⟩) ?_ ?_; rotate_left; (focus (intro w'; go_simp; first | done | with_reducible rfl)); rotate_left; (focus (simp only [Act.put, sI_, s0_, s1_, zl, zm]; first | done | rfl))
        refine zz (i := 8) (N := some 71) (v := ?_) (a' := ?_) (bl_ 16 6655) rfl rfl (zn HT_.out (by kernel_rfl)) (fun _ _ _ h => h) (Or.inl ⟨by rfl, ?_⟩) ?_ ?_; rotate_left; (focus (intro w'; go_simp; first | done | with_reducible rfl)); rotate_left; (focus (simp only [Act.put, sI_, s0_, s1_, zl, zm]; first | done | rfl))
        refine zz (i := 9) (N := some 72) (v := ?_) (a' := ?_) (bl_ 16 7167) rfl rfl (zn HT_.out (by kernel_rfl)) (fun _ _ _ h => h) (Or.inl ⟨by rfl, ?_⟩) ?_ ?_; rotate_left; (focus (intro w'; go_simp; first | done | with_reducible rfl)); rotate_left; (focus (simp only [Act.put, sI_, s0_, s1_, zl, zm]; first | done | rfl))
        refine zz (i := 10) (N := some 73) (v := ?_) (a' := ?_) (bl_ 16 8191) rfl rfl (zn HT_.out (by kernel_rfl)) (fun _ _ _ h => h) (Or.inl ⟨by rfl, ?_⟩) ?_ ?_; rotate_left; (focus (intro w'; go_simp; first | done | with_reducible rfl)); rotate_left; (focus (simp only [Act.put, sI_, s0_, s1_, zl, zm]; first | done | rfl))
        exact zZ (by first | (simp only [zY, Act.put, sI_, s0_, s1_]; done) | (simp only [zY, Act.put, sI_, s0_, s1_]; rfl)) (hJ (A_h0, c_h0, A_ha, c_ha, A_h1, c_h1, A_hb_, c_hb_, g_a, g_b) _ ⟨hHeld, R_h0.out, R_ha.out, R_h1.out, R_hb_.out, K_a.out, K_b.out, L_a.out, L_b.out, NN.out, HX.out⟩)
      ·skip
       refine zai ?hg (N := 19) ?hd (cs := #[.slice none 0 0, .slice none 0 0]) (t := 24) ?hr ?_; (case hd => rfl); (case hg => rfl); (case hr => first | (go_simp; done) | (go_simp; rfl)); intro g_b hg y0 hw hb
       have L_b := am_ (show w8.heap.size ≤ g_b by have := HX.out.size; omega); replace HX := am_ (zh HX.out hb); have K_b := am_ (show Bx y0 g_b none 0 0 none 0 0 from hw); clear hg hw hb
       refine hK.out _ _ ⟨(K_r.out.step HX.out).c0, (K_r.out.step HX.out).c1, HY.out _ HX.out⟩ (fun hHeld => ?_); clear hK K
       refine zZ (a' := ?_) ?_ ?_; rotate_left; (focus (show Act.put _ (some 19) _ = _; simp only [Act.put, sI_, s0_, s1_, zl, zm]; first | done | rfl))
       refine two_ (i := 6) (j := 11) (Ni := some 70) (Nj := some 18) (bl_ 16 4223) (bl_ 16 6207) rfl rfl rfl rfl (two_of HT_.out (by kernel_rfl)) (by decide) (by decide) (fun K hK => ?_) (fun K hK => ?_)
       ·skip
        refine zbc Try.func15 (by kernel_rfl) rfl #[.agg #[.slice A0 lv.length c0, .slice A1 at_.length c1], .int .i64 s] (by rfl) rfl rfl (by (try simp only [List.map_toArray, List.map_cons, List.map_nil]); first | done | rfl) ?_
        refine (D3.out y0 (R_0.out.step HX.out) (R_1.out.step HX.out)).mono ?_; rintro e_ y1 ⟨A_h0, c_h0, A_ha, c_ha, A_h1, c_h1, A_hb_, c_hb_, rfl, h0, h1, h2, h3, hb⟩; refine ⟨_, rfl, ?_⟩
        replace K_b := am_ (K_b.out.step hb); replace HX := am_ (zh HX.out hb); have R_h0 := am_ h0; have R_ha := am_ h1; have R_h1 := am_ h2; have R_hb_ := am_ h3; clear hb h0 h1 h2 h3
        refine hK.out _ _ ⟨(K_r.out.step HX.out).c0, (K_r.out.step HX.out).c1, HY.out _ HX.out⟩ (fun hHeld => ?_); clear hK K
        refine zZ (a' := ?_) ?_ ?_; rotate_left; (focus (show Act.put _ (some 70) _ = _; simp only [Act.put, sI_, s0_, s1_, zl, zm]; first | done | rfl))
        refine zz (i := 7) (N := some 63) (v := ?_) (a' := ?_) (bl_ 16 4351) rfl rfl (zn HT_.out (by kernel_rfl)) (fun _ _ _ h => h) (Or.inl ⟨by rfl, ?_⟩) ?_ ?_; rotate_left; (focus (intro w'; go_simp; first | done | with_reducible rfl)); rotate_left; (focus (simp only [Act.put, sI_, s0_, s1_, zl, zm]; first | done | rfl))
        refine zz (i := 8) (N := some 71) (v := ?_) (a' := ?_) (bl_ 16 4607) rfl rfl (zn HT_.out (by kernel_rfl)) (fun _ _ _ h => h) (Or.inl ⟨by rfl, ?_⟩) ?_ ?_; rotate_left; (focus (intro w'; go_simp; first | done | with_reducible rfl)); rotate_left; (focus (simp only [Act.put, sI_, s0_, s1_, zl, zm]; first | done | rfl))
        refine zz (i := 9) (N := some 72) (v := ?_) (a' := ?_) (bl_ 16 5119) rfl rfl (zn HT_.out (by kernel_rfl)) (fun _ _ _ h => h) (Or.inl ⟨by rfl, ?_⟩) ?_ ?_; rotate_left; (focus (intro w'; go_simp; first | done | with_reducible rfl)); rotate_left; (focus (simp only [Act.put, sI_, s0_, s1_, zl, zm]; first | done | rfl))
        refine zz (i := 10) (N := some 73) (v := ?_) (a' := ?_) (bl_ 16 6143) rfl rfl (zn HT_.out (by kernel_rfl)) (fun _ _ _ h => h) (Or.inl ⟨by rfl, ?_⟩) ?_ ?_; rotate_left; (focus (intro w'; go_simp; first | done | with_reducible rfl)); rotate_left; (focus (simp only [Act.put, sI_, s0_, s1_, zl, zm]; first | done | rfl))
        refine one_ (i := 11) (N := some 18) (bl_ 16 8191) rfl rfl (zae HT_.out (by kernel_rfl)) (by decide) (fun K hK => ?_)
        refine zai ?hg (N := 18) ?hd (cs := #[.slice none 0 0, .slice none 0 0]) (t := 24) ?hr ?_; (case hd => rfl); (case hg => rfl); (case hr => first | (go_simp; done) | (go_simp; rfl)); intro g_a hg y2 hw hb
        have NN := am_ (show g_a ≠ g_b by have := K_b.out.lt; omega); have L_a := am_ (show w8.heap.size ≤ g_a by have := HX.out.size; omega); replace K_b := am_ (K_b.out.step hb); replace R_h0 := am_ (R_h0.out.step hb); replace R_ha := am_ (R_ha.out.step hb); replace R_h1 := am_ (R_h1.out.step hb); replace R_hb_ := am_ (R_hb_.out.step hb); replace HX := am_ (zh HX.out hb); have K_a := am_ (show Bx y2 g_a none 0 0 none 0 0 from hw); clear hg hw hb
        refine hK.out _ _ ⟨(K_r.out.step HX.out).c0, (K_r.out.step HX.out).c1, HY.out _ HX.out⟩ (fun hHeld => ?_); clear hK K
        refine zZ (a' := ?_) ?_ ?_; rotate_left; (focus (show Act.put _ (some 18) _ = _; simp only [Act.put, sI_, s0_, s1_, zl, zm]; first | done | rfl))
        exact zZ (by first | (simp only [zY, Act.put, sI_, s0_, s1_]; done) | (simp only [zY, Act.put, sI_, s0_, s1_]; rfl)) (hJ (A_h0, c_h0, A_ha, c_ha, A_h1, c_h1, A_hb_, c_hb_, g_a, g_b) _ ⟨hHeld, R_h0.out, R_ha.out, R_h1.out, R_hb_.out, K_a.out, K_b.out, L_a.out, L_b.out, NN.out, HX.out⟩)
       ·skip
        refine zai ?hg (N := 18) ?hd (cs := #[.slice none 0 0, .slice none 0 0]) (t := 24) ?hr ?_; (case hd => rfl); (case hg => rfl); (case hr => first | (go_simp; done) | (go_simp; rfl)); intro g_a hg y1 hw hb
        have NN := am_ (show g_a ≠ g_b by have := K_b.out.lt; omega); have L_a := am_ (show w8.heap.size ≤ g_a by have := HX.out.size; omega); replace K_b := am_ (K_b.out.step hb); replace HX := am_ (zh HX.out hb); have K_a := am_ (show Bx y1 g_a none 0 0 none 0 0 from hw); clear hg hw hb
        refine hK.out _ _ ⟨(K_r.out.step HX.out).c0, (K_r.out.step HX.out).c1, HY.out _ HX.out⟩ (fun hHeld => ?_); clear hK K
        refine zZ (a' := ?_) ?_ ?_; rotate_left; (focus (show Act.put _ (some 18) _ = _; simp only [Act.put, sI_, s0_, s1_, zl, zm]; first | done | rfl))
        refine one_ (i := 6) (N := some 70) (bl_ 16 6271) rfl rfl (zae HT_.out (by kernel_rfl)) (by decide) (fun K hK => ?_)
        refine zbc Try.func15 (by kernel_rfl) rfl #[.agg #[.slice A0 lv.length c0, .slice A1 at_.length c1], .int .i64 s] (by rfl) rfl rfl (by (try simp only [List.map_toArray, List.map_cons, List.map_nil]); first | done | rfl) ?_
        refine (D3.out y1 (R_0.out.step HX.out) (R_1.out.step HX.out)).mono ?_; rintro e_ y2 ⟨A_h0, c_h0, A_ha, c_ha, A_h1, c_h1, A_hb_, c_hb_, rfl, h0, h1, h2, h3, hb⟩; refine ⟨_, rfl, ?_⟩
        replace K_b := am_ (K_b.out.step hb); replace K_a := am_ (K_a.out.step hb); replace HX := am_ (zh HX.out hb); have R_h0 := am_ h0; have R_ha := am_ h1; have R_h1 := am_ h2; have R_hb_ := am_ h3; clear hb h0 h1 h2 h3
        refine hK.out _ _ ⟨(K_r.out.step HX.out).c0, (K_r.out.step HX.out).c1, HY.out _ HX.out⟩ (fun hHeld => ?_); clear hK K
        refine zZ (a' := ?_) ?_ ?_; rotate_left; (focus (show Act.put _ (some 70) _ = _; simp only [Act.put, sI_, s0_, s1_, zl, zm]; first | done | rfl))
        refine zz (i := 7) (N := some 63) (v := ?_) (a' := ?_) (bl_ 16 6399) rfl rfl (zn HT_.out (by kernel_rfl)) (fun _ _ _ h => h) (Or.inl ⟨by rfl, ?_⟩) ?_ ?_; rotate_left; (focus (intro w'; go_simp; first | done | with_reducible rfl)); rotate_left; (focus (simp only [Act.put, sI_, s0_, s1_, zl, zm]; first | done | rfl))
        refine zz (i := 8) (N := some 71) (v := ?_) (a' := ?_) (bl_ 16 6655) rfl rfl (zn HT_.out (by kernel_rfl)) (fun _ _ _ h => h) (Or.inl ⟨by rfl, ?_⟩) ?_ ?_; rotate_left; (focus (intro w'; go_simp; first | done | with_reducible rfl)); rotate_left; (focus (simp only [Act.put, sI_, s0_, s1_, zl, zm]; first | done | rfl))
        refine zz (i := 9) (N := some 72) (v := ?_) (a' := ?_) (bl_ 16 7167) rfl rfl (zn HT_.out (by kernel_rfl)) (fun _ _ _ h => h) (Or.inl ⟨by rfl, ?_⟩) ?_ ?_; rotate_left; (focus (intro w'; go_simp; first | done | with_reducible rfl)); rotate_left; (focus (simp only [Act.put, sI_, s0_, s1_, zl, zm]; first | done | rfl))
        refine zz (i := 10) (N := some 73) (v := ?_) (a' := ?_) (bl_ 16 8191) rfl rfl (zn HT_.out (by kernel_rfl)) (fun _ _ _ h => h) (Or.inl ⟨by rfl, ?_⟩) ?_ ?_; rotate_left; (focus (intro w'; go_simp; first | done | with_reducible rfl)); rotate_left; (focus (simp only [Act.put, sI_, s0_, s1_, zl, zm]; first | done | rfl))
        exact zZ (by first | (simp only [zY, Act.put, sI_, s0_, s1_]; done) | (simp only [zY, Act.put, sI_, s0_, s1_]; rfl)) (hJ (A_h0, c_h0, A_ha, c_ha, A_h1, c_h1, A_hb_, c_hb_, g_a, g_b) _ ⟨hHeld, R_h0.out, R_ha.out, R_h1.out, R_hb_.out, K_a.out, K_b.out, L_a.out, L_b.out, NN.out, HX.out⟩)
     rintro ⟨A_h0, c_h0, A_ha, c_ha, A_h1, c_h1, A_hb_, c_hb_, g_a, g_b⟩ w9 ⟨hHeld, x0, x1, x2, x3, x4, x5, x6, x7, x8, x9⟩
     clear HX
     have R_h0 := am_ (show Rd w9 A_h0 c_h0 hl from x0)
     have R_ha := am_ (show Rd w9 A_ha c_ha ha from x1)
     have R_h1 := am_ (show Rd w9 A_h1 c_h1 hl from x2)
     have R_hb_ := am_ (show Rd w9 A_hb_ c_hb_ hbb from x3)
     have K_a := am_ (show Bx w9 g_a none 0 0 none 0 0 from x4)
     have K_b := am_ (show Bx w9 g_b none 0 0 none 0 0 from x5)
     have L_a := am_ (show w8.heap.size ≤ g_a from x6)
     have L_b := am_ (show w8.heap.size ≤ g_b from x7)
     have NN := am_ (show g_a ≠ g_b from x8)
     have HX := am_ (show Below w8.heap.size w8 w9 from x9)
     clear x0 x1 x2 x3 x4 x5 x6 x7 x8 x9
     have hb := HX.out
     have N_a_r := am_ (show g_r ≠ g_a by have := K_r.out.lt; have := L_a.out; omega)
     have N_b_r := am_ (show g_r ≠ g_b by have := K_r.out.lt; have := L_b.out; omega)
     have N_a_s := am_ (show g_s ≠ g_a by have := K_s.out.lt; have := L_a.out; omega)
     have N_b_s := am_ (show g_s ≠ g_b by have := K_s.out.lt; have := L_b.out; omega)
     have N_b_a := am_ NN.out
     replace L_a := am_ (Nat.le_trans HB.out.size L_a.out)
     replace L_b := am_ (Nat.le_trans HB.out.size L_b.out)
     replace R_0 := am_ (R_0.out.step hb); replace R_1 := am_ (R_1.out.step hb); replace S_0 := am_ (S_0.out.step hb); replace S_1 := am_ (S_1.out.step hb); replace R_sg := am_ (R_sg.out.step hb); replace R_e := am_ (R_e.out.step hb); replace K_r := am_ (K_r.out.step hb); replace K_s := am_ (K_s.out.step hb); replace HB := am_ (zh HB.out hb)
     clear hb HX NN HY
     refine zZ (a' := ?_) ?_ ?_; rotate_left; (focus (simp only [zY, Act.put, sI_, s0_, s1_]; first | done | rfl))
     refine last_ (i := 13) (N := none) (bl_ 16 16383) rfl rfl (zae HT_.out (by kernel_rfl)) (by decide) (fun K hK => ?_)
     refine store_row_step (by rfl) 24 rfl rfl g_a #[.slice A_h0 hl.length c_h0, .slice A_ha ha.length c_ha] rfl rfl 24 _ K_a.out (info24.trans rfl) rfl (zaA _ _ _ _ _ _) ?_; intro w10 hw_ hg_
     replace R_0 := am_ (R_0.out.put K_a.out hg_); replace R_1 := am_ (R_1.out.put K_a.out hg_); replace S_0 := am_ (S_0.out.put K_a.out hg_); replace S_1 := am_ (S_1.out.put K_a.out hg_); replace R_sg := am_ (R_sg.out.put K_a.out hg_); replace R_e := am_ (R_e.out.put K_a.out hg_); replace R_h0 := am_ (R_h0.out.put K_a.out hg_); replace R_ha := am_ (R_ha.out.put K_a.out hg_); replace R_h1 := am_ (R_h1.out.put K_a.out hg_); replace R_hb_ := am_ (R_hb_.out.put K_a.out hg_); replace K_r := am_ (K_r.out.put hg_ N_a_r.out); replace K_s := am_ (K_s.out.put hg_ N_a_s.out); replace K_b := am_ (K_b.out.put hg_ N_b_a.out.symm); replace HB := am_ (HB.out.grown hg_ HB.out.size (fun k_ hk_ => by cases hk_; exact L_a.out)); replace K_a := am_ (show Bx w10 g_a A_h0 hl.length c_h0 A_ha ha.length c_ha from hw_); clear hw_ hg_
     refine hK.out _ _ ?_; clear hK K
     refine last_ (i := 14) (N := none) (bl_ 16 32767) rfl rfl (zae HT_.out (by kernel_rfl)) (by decide) (fun K hK => ?_)
     refine store_row_step (by rfl) 24 rfl rfl g_b #[.slice A_h1 hl.length c_h1, .slice A_hb_ hbb.length c_hb_] rfl rfl 24 _ K_b.out (info24.trans rfl) rfl (zaA _ _ _ _ _ _) ?_; intro w11 hw_ hg_
     replace R_0 := am_ (R_0.out.put K_b.out hg_); replace R_1 := am_ (R_1.out.put K_b.out hg_); replace S_0 := am_ (S_0.out.put K_b.out hg_); replace S_1 := am_ (S_1.out.put K_b.out hg_); replace R_sg := am_ (R_sg.out.put K_b.out hg_); replace R_e := am_ (R_e.out.put K_b.out hg_); replace R_h0 := am_ (R_h0.out.put K_b.out hg_); replace R_ha := am_ (R_ha.out.put K_b.out hg_); replace R_h1 := am_ (R_h1.out.put K_b.out hg_); replace R_hb_ := am_ (R_hb_.out.put K_b.out hg_); replace K_r := am_ (K_r.out.put hg_ N_b_r.out); replace K_s := am_ (K_s.out.put hg_ N_b_s.out); replace K_a := am_ (K_a.out.put hg_ N_b_a.out); replace HB := am_ (HB.out.grown hg_ HB.out.size (fun k_ hk_ => by cases hk_; exact L_b.out)); replace K_b := am_ (show Bx w11 g_b A_h1 hl.length c_h1 A_hb_ hbb.length c_hb_ from hw_); clear hw_ hg_
     refine hK.out _ _ ?_; clear hK K
     refine zz (i := 15) (N := some 20) (v := ?_) (a' := ?_) (bl_ 16 65535) rfl rfl (zn HT_.out (by kernel_rfl)) (fun _ _ _ h => h) (Or.inl ⟨by rfl, ?_⟩) ?_ ?_; rotate_left; (focus (intro w'; go_simp; first | done | with_reducible rfl)); rotate_left; (focus (simp only [Act.put, sI_, s0_, s1_, zl, zm]; first | done | rfl))
     refine done_ (zaL HT_.out (by kernel_rfl)) ?_
     go_wp2_with fail
     have hb : Below w11.heap.size w11 w11.drew := zaH (Below.refl _ _)
     replace R_0 := am_ (R_0.out.step hb); replace R_1 := am_ (R_1.out.step hb); replace S_0 := am_ (S_0.out.step hb); replace S_1 := am_ (S_1.out.step hb); replace R_sg := am_ (R_sg.out.step hb); replace R_e := am_ (R_e.out.step hb); replace R_h0 := am_ (R_h0.out.step hb); replace R_ha := am_ (R_ha.out.step hb); replace R_h1 := am_ (R_h1.out.step hb); replace R_hb_ := am_ (R_hb_.out.step hb); replace K_r := am_ (K_r.out.step hb); replace K_s := am_ (K_s.out.step hb); replace K_a := am_ (K_a.out.step hb); replace K_b := am_ (K_b.out.step hb); replace HB := am_ (zh HB.out hb)
     clear hb
     have HY := am_ (show ∀ W : World, Below w11.drew.heap.size w11.drew W → W.cell? (at0.add (j * 2)) = some (.int .i64 s) from fun W hW => HYS.out W (zh HB.out hW))
     refine zaY (n := 16) (S := fun w' => w'.cell? ⟨g_s, 0, none⟩ = some (.slice B0 lv.length d0) ∧ w'.cell? ⟨g_s, 1, none⟩ = some (.slice B1 at_.length d1) ∧ w'.cell? (at0.add (j * 2)) = some (.int .i64 s)) (ds := [13, 14]) (bl_ 16 0) (by kernel_rfl) rfl rfl ⟨K_s.out.c0, K_s.out.c1, HY.out _ (Below.refl _ _)⟩ (fun hHeld => ?_); refine zav plays.tab9 plays.bits9 (fun HT_ HW_ => ?_)
     generalize w11.drew = w12 at R_0 R_1 S_0 S_1 R_sg R_e R_h0 R_ha R_h1 R_hb_ K_r K_s K_a K_b HY HB hHeld ⊢
     have HX := am_ (Below.refl w12.heap.size w12)
     refine zz (i := 1) (N := some 76) (v := ?_) (a' := ?_) (bl_ 16 2) rfl rfl (zn HT_.out (by kernel_rfl)) (fun _ _ _ h => h) (Or.inl ⟨by rfl, ?_⟩) ?_ ?_; rotate_left; (focus (intro w'; go_simp; first | done | with_reducible rfl)); rotate_left; (focus (simp only [Act.put, sI_, s0_, s1_, zl, zm]; first | done | rfl))
     refine zz (i := 2) (N := some 77) (v := ?_) (a' := ?_) (bl_ 16 6) rfl rfl (zn HT_.out (by kernel_rfl)) (fun _ _ _ h => h) (Or.inl ⟨by rfl, ?_⟩) ?_ ?_; rotate_left; (focus (intro w'; go_simp; first | done | with_reducible rfl)); rotate_left; (focus (simp only [Act.put, sI_, s0_, s1_, zl, zm]; first | done | rfl))
     refine zz (i := 3) (N := some 78) (v := ?_) (a' := ?_) (bl_ 16 14) rfl rfl (zn HT_.out (by kernel_rfl)) (fun _ _ _ h => h) (Or.inl ⟨by rfl, ?_⟩) ?_ ?_; rotate_left; (focus (intro w'; go_simp; first | done | with_reducible rfl)); rotate_left; (focus (simp only [Act.put, sI_, s0_, s1_, zl, zm]; first | done | rfl))
     refine zz (i := 4) (N := some 79) (v := ?_) (a' := ?_) (bl_ 16 30) rfl rfl (zn HT_.out (by kernel_rfl)) (fun _ _ _ h => h) (Or.inl ⟨by rfl, ?_⟩) ?_ ?_; rotate_left; (focus (intro w'; go_simp; first | done | with_reducible rfl)); rotate_left; (focus (simp only [Act.put, sI_, s0_, s1_, zl, zm]; first | done | rfl))
     refine zau (i := 0) (N := some 75) (v := ?_) (a' := ?_) (bl_ 16 31) rfl rfl (zR HT_.out HW_.out (by kernel_rfl)) (fun _ _ _ h => h) (Or.inl ⟨by rfl, ?_⟩) hHeld ?_ ?_; rotate_left; (focus (rintro w' ⟨s0, s1, s2⟩; go_simp; first | done | with_reducible rfl)); rotate_left; (focus (simp only [Act.put, sI_, s0_, s1_, zl, zm]; first | done | rfl))
     refine zau (i := 5) (N := some 80) (v := ?_) (a' := ?_) (bl_ 16 63) rfl rfl (zR HT_.out HW_.out (by kernel_rfl)) (fun _ _ _ h => h) (Or.inl ⟨by rfl, ?_⟩) hHeld ?_ ?_; rotate_left; (focus (rintro w' ⟨s0, s1, s2⟩; go_simp; first | done | with_reducible rfl)); rotate_left; (focus (simp only [Act.put, sI_, s0_, s1_, zl, zm]; first | done | rfl))
     refine join_ (σ := Option Addr × Nat × Option Addr × Nat × Option Addr × Nat × Option Addr × Nat × Nat × Nat) 3 (bl_ 16 8191) (fun s_ => [(81, .tuple #[.agg #[.slice s_.1 hl.length s_.2.1, .slice s_.2.2.1 ha.length s_.2.2.2.1], .agg #[.slice s_.2.2.2.2.1 hl.length s_.2.2.2.2.2.1, .slice s_.2.2.2.2.2.2.1 hbb.length s_.2.2.2.2.2.2.2.1], .int .i64 E]), (74, .tuple #[.agg #[.slice s_.1 hl.length s_.2.1, .slice s_.2.2.1 ha.length s_.2.2.2.1], .agg #[.slice s_.2.2.2.2.1 hl.length s_.2.2.2.2.2.1, .slice s_.2.2.2.2.2.2.1 hbb.length s_.2.2.2.2.2.2.2.1], .int .i64 E]), (82, .agg #[.slice s_.1 hl.length s_.2.1, .slice s_.2.2.1 ha.length s_.2.2.2.1]), (83, .agg #[.slice s_.2.2.2.2.1 hl.length s_.2.2.2.2.2.1, .slice s_.2.2.2.2.2.2.1 hbb.length s_.2.2.2.2.2.2.2.1]), (84, .int .i64 E), (21, .pointer (some ⟨s_.2.2.2.2.2.2.2.2.1, 0, none⟩)), (22, .pointer (some ⟨s_.2.2.2.2.2.2.2.2.2, 0, none⟩))]) (fun s_ w' => (w'.cell? ⟨g_s, 0, none⟩ = some (.slice B0 lv.length d0) ∧ w'.cell? ⟨g_s, 1, none⟩ = some (.slice B1 at_.length d1) ∧ w'.cell? (at0.add (j * 2)) = some (.int .i64 s)) ∧ (Rd w' s_.1 s_.2.1 hl) ∧ (Rd w' s_.2.2.1 s_.2.2.2.1 ha) ∧ (Rd w' s_.2.2.2.2.1 s_.2.2.2.2.2.1 hl) ∧ (Rd w' s_.2.2.2.2.2.2.1 s_.2.2.2.2.2.2.2.1 hbb) ∧ (Bx w' s_.2.2.2.2.2.2.2.2.1 none 0 0 none 0 0) ∧ (Bx w' s_.2.2.2.2.2.2.2.2.2 none 0 0 none 0 0) ∧ (w12.heap.size ≤ s_.2.2.2.2.2.2.2.2.1) ∧ (w12.heap.size ≤ s_.2.2.2.2.2.2.2.2.2) ∧ (s_.2.2.2.2.2.2.2.2.1 ≠ s_.2.2.2.2.2.2.2.2.2) ∧ (Below w12.heap.size w12 w')) ?_ ?_
     rotate_left
     ·intro hJ
      refine three_ (i := 6) (j := 11) (k := 12) (Ni := some 81) (Nj := some 21) (Nk := some 22) (bl_ 16 127) (bl_ 16 2111) (bl_ 16 4159) rfl rfl rfl rfl rfl rfl (three_of HT_.out (by kernel_rfl)) (by decide) (by decide) (by decide) (fun K hK => ?_) (fun K hK => ?_) (fun K hK => ?_)
      ·skip
       refine zbc Try.func16 (by kernel_rfl) rfl #[.agg #[.slice B0 lv.length d0, .slice B1 at_.length d1], .int .i64 s] (by rfl) rfl rfl (by (try simp only [List.map_toArray, List.map_cons, List.map_nil]); first | done | rfl) ?_
       refine (D4.out w12 (S_0.out.step HX.out) (S_1.out.step HX.out)).mono ?_; rintro e_ y0 ⟨A_q0, c_q0, A_qa, c_qa, A_q1, c_q1, A_qb, c_qb, rfl, h0, h1, h2, h3, hb⟩; refine ⟨_, rfl, ?_⟩
       replace HX := am_ (zh HX.out hb); have R_q0 := am_ h0; have R_qa := am_ h1; have R_q1 := am_ h2; have R_qb := am_ h3; clear hb h0 h1 h2 h3
       refine hK.out _ _ ⟨(K_s.out.step HX.out).c0, (K_s.out.step HX.out).c1, HY.out _ HX.out⟩ (fun hHeld => ?_); clear hK K
       refine zZ (a' := ?_) ?_ ?_; rotate_left; (focus (show Act.put _ (some 81) _ = _; simp only [Act.put, sI_, s0_, s1_, zl, zm]; first | done | rfl))
       refine zz (i := 7) (N := some 74) (v := ?_) (a' := ?_) (bl_ 16 255) rfl rfl (zn HT_.out (by kernel_rfl)) (fun _ _ _ h => h) (Or.inl ⟨by rfl, ?_⟩) ?_ ?_; rotate_left; (focus (intro w'; go_simp; first | done | with_reducible rfl)); rotate_left; (focus (simp only [Act.put, sI_, s0_, s1_, zl, zm]; first | done | rfl))
       refine zz (i := 8) (N := some 82) (v := ?_) (a' := ?_) (bl_ 16 511) rfl rfl (zn HT_.out (by kernel_rfl)) (fun _ _ _ h => h) (Or.inl ⟨by rfl, ?_⟩) ?_ ?_; rotate_left; (focus (intro w'; go_simp; first | done | with_reducible rfl)); rotate_left; (focus (simp only [Act.put, sI_, s0_, s1_, zl, zm]; first | done | rfl))
       refine zz (i := 9) (N := some 83) (v := ?_) (a' := ?_) (bl_ 16 1023) rfl rfl (zn HT_.out (by kernel_rfl)) (fun _ _ _ h => h) (Or.inl ⟨by rfl, ?_⟩) ?_ ?_; rotate_left; (focus (intro w'; go_simp; first | done | with_reducible rfl)); rotate_left; (focus (simp only [Act.put, sI_, s0_, s1_, zl, zm]; first | done | rfl))
       refine zz (i := 10) (N := some 84) (v := ?_) (a' := ?_) (bl_ 16 2047) rfl rfl (zn HT_.out (by kernel_rfl)) (fun _ _ _ h => h) (Or.inl ⟨by rfl, ?_⟩) ?_ ?_; rotate_left; (focus (intro w'; go_simp; first | done | with_reducible rfl)); rotate_left; (focus (simp only [Act.put, sI_, s0_, s1_, zl, zm]; first | done | rfl))
       refine two_ (i := 11) (j := 12) (Ni := some 21) (Nj := some 22) (bl_ 16 4095) (bl_ 16 6143) rfl rfl rfl rfl (two_of HT_.out (by kernel_rfl)) (by decide) (by decide) (fun K hK => ?_) (fun K hK => ?_)
       ·skip
        refine zai ?hg (N := 21) ?hd (cs := #[.slice none 0 0, .slice none 0 0]) (t := 24) ?hr ?_; (case hd => rfl); (case hg => rfl); (case hr => first | (go_simp; done) | (go_simp; rfl)); intro g_q hg y1 hw hb
        have L_q := am_ (show w12.heap.size ≤ g_q by have := HX.out.size; omega); replace R_q0 := am_ (R_q0.out.step hb); replace R_qa := am_ (R_qa.out.step hb); replace R_q1 := am_ (R_q1.out.step hb); replace R_qb := am_ (R_qb.out.step hb); replace HX := am_ (zh HX.out hb); have K_q := am_ (show Bx y1 g_q none 0 0 none 0 0 from hw); clear hg hw hb
        refine hK.out _ _ ⟨(K_s.out.step HX.out).c0, (K_s.out.step HX.out).c1, HY.out _ HX.out⟩ (fun hHeld => ?_); clear hK K
        refine zZ (a' := ?_) ?_ ?_; rotate_left; (focus (show Act.put _ (some 21) _ = _; simp only [Act.put, sI_, s0_, s1_, zl, zm]; first | done | rfl))
        refine one_ (i := 12) (N := some 22) (bl_ 16 8191) rfl rfl (zae HT_.out (by kernel_rfl)) (by decide) (fun K hK => ?_)
        refine zai ?hg (N := 22) ?hd (cs := #[.slice none 0 0, .slice none 0 0]) (t := 24) ?hr ?_; (case hd => rfl); (case hg => rfl); (case hr => first | (go_simp; done) | (go_simp; rfl)); intro g_t hg y2 hw hb
        have NN := am_ (show g_q ≠ g_t by have := K_q.out.lt; omega); have L_t := am_ (show w12.heap.size ≤ g_t by have := HX.out.size; omega); replace R_q0 := am_ (R_q0.out.step hb); replace R_qa := am_ (R_qa.out.step hb); replace R_q1 := am_ (R_q1.out.step hb); replace R_qb := am_ (R_qb.out.step hb); replace K_q := am_ (K_q.out.step hb); replace HX := am_ (zh HX.out hb); have K_t := am_ (show Bx y2 g_t none 0 0 none 0 0 from hw); clear hg hw hb
        refine hK.out _ _ ⟨(K_s.out.step HX.out).c0, (K_s.out.step HX.out).c1, HY.out _ HX.out⟩ (fun hHeld => ?_); clear hK K
        refine zZ (a' := ?_) ?_ ?_; rotate_left; (focus (show Act.put _ (some 22) _ = _; simp only [Act.put, sI_, s0_, s1_, zl, zm]; first | done | rfl))
        exact zZ (by first | (simp only [zY, Act.put, sI_, s0_, s1_]; done) | (simp only [zY, Act.put, sI_, s0_, s1_]; rfl)) (hJ (A_q0, c_q0, A_qa, c_qa, A_q1, c_q1, A_qb, c_qb, g_q, g_t) _ ⟨hHeld, R_q0.out, R_qa.out, R_q1.out, R_qb.out, K_q.out, K_t.out, L_q.out, L_t.out, NN.out, HX.out⟩)
       ·skip
        refine zai ?hg (N := 22) ?hd (cs := #[.slice none 0 0, .slice none 0 0]) (t := 24) ?hr ?_; (case hd => rfl); (case hg => rfl); (case hr => first | (go_simp; done) | (go_simp; rfl)); intro g_t hg y1 hw hb
        have L_t := am_ (show w12.heap.size ≤ g_t by have := HX.out.size; omega); replace R_q0 := am_ (R_q0.out.step hb); replace R_qa := am_ (R_qa.out.step hb); replace R_q1 := am_ (R_q1.out.step hb); replace R_qb := am_ (R_qb.out.step hb); replace HX := am_ (zh HX.out hb); have K_t := am_ (show Bx y1 g_t none 0 0 none 0 0 from hw); clear hg hw hb
        refine hK.out _ _ ⟨(K_s.out.step HX.out).c0, (K_s.out.step HX.out).c1, HY.out _ HX.out⟩ (fun hHeld => ?_); clear hK K
        refine zZ (a' := ?_) ?_ ?_; rotate_left; (focus (show Act.put _ (some 22) _ = _; simp only [Act.put, sI_, s0_, s1_, zl, zm]; first | done | rfl))
        refine one_ (i := 11) (N := some 21) (bl_ 16 8191) rfl rfl (zae HT_.out (by kernel_rfl)) (by decide) (fun K hK => ?_)
        refine zai ?hg (N := 21) ?hd (cs := #[.slice none 0 0, .slice none 0 0]) (t := 24) ?hr ?_; (case hd => rfl); (case hg => rfl); (case hr => first | (go_simp; done) | (go_simp; rfl)); intro g_q hg y2 hw hb
        have NN := am_ (show g_q ≠ g_t by have := K_t.out.lt; omega); have L_q := am_ (show w12.heap.size ≤ g_q by have := HX.out.size; omega); replace R_q0 := am_ (R_q0.out.step hb); replace R_qa := am_ (R_qa.out.step hb); replace R_q1 := am_ (R_q1.out.step hb); replace R_qb := am_ (R_qb.out.step hb); replace K_t := am_ (K_t.out.step hb); replace HX := am_ (zh HX.out hb); have K_q := am_ (show Bx y2 g_q none 0 0 none 0 0 from hw); clear hg hw hb
        refine hK.out _ _ ⟨(K_s.out.step HX.out).c0, (K_s.out.step HX.out).c1, HY.out _ HX.out⟩ (fun hHeld => ?_); clear hK K
        refine zZ (a' := ?_) ?_ ?_; rotate_left; (focus (show Act.put _ (some 21) _ = _; simp only [Act.put, sI_, s0_, s1_, zl, zm]; first | done | rfl))
        exact zZ (by first | (simp only [zY, Act.put, sI_, s0_, s1_]; done) | (simp only [zY, Act.put, sI_, s0_, s1_]; rfl)) (hJ (A_q0, c_q0, A_qa, c_qa, A_q1, c_q1, A_qb, c_qb, g_q, g_t) _ ⟨hHeld, R_q0.out, R_qa.out, R_q1.out, R_qb.out, K_q.out, K_t.out, L_q.out, L_t.out, NN.out, HX.out⟩)
      ·skip
       refine zai ?hg (N := 21) ?hd (cs := #[.slice none 0 0, .slice none 0 0]) (t := 24) ?hr ?_; (case hd => rfl); (case hg => rfl); (case hr => first | (go_simp; done) | (go_simp; rfl)); intro g_q hg y0 hw hb
       have L_q := am_ (show w12.heap.size ≤ g_q by have := HX.out.size; omega); replace HX := am_ (zh HX.out hb); have K_q := am_ (show Bx y0 g_q none 0 0 none 0 0 from hw); clear hg hw hb
       refine hK.out _ _ ⟨(K_s.out.step HX.out).c0, (K_s.out.step HX.out).c1, HY.out _ HX.out⟩ (fun hHeld => ?_); clear hK K
       refine zZ (a' := ?_) ?_ ?_; rotate_left; (focus (show Act.put _ (some 21) _ = _; simp only [Act.put, sI_, s0_, s1_, zl, zm]; first | done | rfl))
       refine two_ (i := 6) (j := 12) (Ni := some 81) (Nj := some 22) (bl_ 16 2175) (bl_ 16 6207) rfl rfl rfl rfl (two_of HT_.out (by kernel_rfl)) (by decide) (by decide) (fun K hK => ?_) (fun K hK => ?_)
       ·skip
        refine zbc Try.func16 (by kernel_rfl) rfl #[.agg #[.slice B0 lv.length d0, .slice B1 at_.length d1], .int .i64 s] (by rfl) rfl rfl (by (try simp only [List.map_toArray, List.map_cons, List.map_nil]); first | done | rfl) ?_
        refine (D4.out y0 (S_0.out.step HX.out) (S_1.out.step HX.out)).mono ?_; rintro e_ y1 ⟨A_q0, c_q0, A_qa, c_qa, A_q1, c_q1, A_qb, c_qb, rfl, h0, h1, h2, h3, hb⟩; refine ⟨_, rfl, ?_⟩
        replace K_q := am_ (K_q.out.step hb); replace HX := am_ (zh HX.out hb); have R_q0 := am_ h0; have R_qa := am_ h1; have R_q1 := am_ h2; have R_qb := am_ h3; clear hb h0 h1 h2 h3
        refine hK.out _ _ ⟨(K_s.out.step HX.out).c0, (K_s.out.step HX.out).c1, HY.out _ HX.out⟩ (fun hHeld => ?_); clear hK K
        refine zZ (a' := ?_) ?_ ?_; rotate_left; (focus (show Act.put _ (some 81) _ = _; simp only [Act.put, sI_, s0_, s1_, zl, zm]; first | done | rfl))
        refine zz (i := 7) (N := some 74) (v := ?_) (a' := ?_) (bl_ 16 2303) rfl rfl (zn HT_.out (by kernel_rfl)) (fun _ _ _ h => h) (Or.inl ⟨by rfl, ?_⟩) ?_ ?_; rotate_left; (focus (intro w'; go_simp; first | done | with_reducible rfl)); rotate_left; (focus (simp only [Act.put, sI_, s0_, s1_, zl, zm]; first | done | rfl))
        refine zz (i := 8) (N := some 82) (v := ?_) (a' := ?_) (bl_ 16 2559) rfl rfl (zn HT_.out (by kernel_rfl)) (fun _ _ _ h => h) (Or.inl ⟨by rfl, ?_⟩) ?_ ?_; rotate_left; (focus (intro w'; go_simp; first | done | with_reducible rfl)); rotate_left; (focus (simp only [Act.put, sI_, s0_, s1_, zl, zm]; first | done | rfl))
        refine zz (i := 9) (N := some 83) (v := ?_) (a' := ?_) (bl_ 16 3071) rfl rfl (zn HT_.out (by kernel_rfl)) (fun _ _ _ h => h) (Or.inl ⟨by rfl, ?_⟩) ?_ ?_; rotate_left; (focus (intro w'; go_simp; first | done | with_reducible rfl)); rotate_left; (focus (simp only [Act.put, sI_, s0_, s1_, zl, zm]; first | done | rfl))
        refine zz (i := 10) (N := some 84) (v := ?_) (a' := ?_) (bl_ 16 4095) rfl rfl (zn HT_.out (by kernel_rfl)) (fun _ _ _ h => h) (Or.inl ⟨by rfl, ?_⟩) ?_ ?_; rotate_left; (focus (intro w'; go_simp; first | done | with_reducible rfl)); rotate_left; (focus (simp only [Act.put, sI_, s0_, s1_, zl, zm]; first | done | rfl))
        refine one_ (i := 12) (N := some 22) (bl_ 16 8191) rfl rfl (zae HT_.out (by kernel_rfl)) (by decide) (fun K hK => ?_)
        refine zai ?hg (N := 22) ?hd (cs := #[.slice none 0 0, .slice none 0 0]) (t := 24) ?hr ?_; (case hd => rfl); (case hg => rfl); (case hr => first | (go_simp; done) | (go_simp; rfl)); intro g_t hg y2 hw hb
        have NN := am_ (show g_q ≠ g_t by have := K_q.out.lt; omega); have L_t := am_ (show w12.heap.size ≤ g_t by have := HX.out.size; omega); replace K_q := am_ (K_q.out.step hb); replace R_q0 := am_ (R_q0.out.step hb); replace R_qa := am_ (R_qa.out.step hb); replace R_q1 := am_ (R_q1.out.step hb); replace R_qb := am_ (R_qb.out.step hb); replace HX := am_ (zh HX.out hb); have K_t := am_ (show Bx y2 g_t none 0 0 none 0 0 from hw); clear hg hw hb
        refine hK.out _ _ ⟨(K_s.out.step HX.out).c0, (K_s.out.step HX.out).c1, HY.out _ HX.out⟩ (fun hHeld => ?_); clear hK K
        refine zZ (a' := ?_) ?_ ?_; rotate_left; (focus (show Act.put _ (some 22) _ = _; simp only [Act.put, sI_, s0_, s1_, zl, zm]; first | done | rfl))
        exact zZ (by first | (simp only [zY, Act.put, sI_, s0_, s1_]; done) | (simp only [zY, Act.put, sI_, s0_, s1_]; rfl)) (hJ (A_q0, c_q0, A_qa, c_qa, A_q1, c_q1, A_qb, c_qb, g_q, g_t) _ ⟨hHeld, R_q0.out, R_qa.out, R_q1.out, R_qb.out, K_q.out, K_t.out, L_q.out, L_t.out, NN.out, HX.out⟩)
       ·skip
        refine zai ?hg (N := 22) ?hd (cs := #[.slice none 0 0, .slice none 0 0]) (t := 24) ?hr ?_; (case hd => rfl); (case hg => rfl); (case hr => first | (go_simp; done) | (go_simp; rfl)); intro g_t hg y1 hw hb
        have NN := am_ (show g_q ≠ g_t by have := K_q.out.lt; omega); have L_t := am_ (show w12.heap.size ≤ g_t by have := HX.out.size; omega); replace K_q := am_ (K_q.out.step hb); replace HX := am_ (zh HX.out hb); have K_t := am_ (show Bx y1 g_t none 0 0 none 0 0 from hw); clear hg hw hb
        refine hK.out _ _ ⟨(K_s.out.step HX.out).c0, (K_s.out.step HX.out).c1, HY.out _ HX.out⟩ (fun hHeld => ?_); clear hK K
        refine zZ (a' := ?_) ?_ ?_; rotate_left; (focus (show Act.put _ (some 22) _ = _; simp only [Act.put, sI_, s0_, s1_, zl, zm]; first | done | rfl))
        refine one_ (i := 6) (N := some 81) (bl_ 16 6271) rfl rfl (zae HT_.out (by kernel_rfl)) (by decide) (fun K hK => ?_)
        refine zbc Try.func16 (by kernel_rfl) rfl #[.agg #[.slice B0 lv.length d0, .slice B1 at_.length d1], .int .i64 s] (by rfl) rfl rfl (by (try simp only [List.map_toArray, List.map_cons, List.map_nil]); first | done | rfl) ?_
        refine (D4.out y1 (S_0.out.step HX.out) (S_1.out.step HX.out)).mono ?_; rintro e_ y2 ⟨A_q0, c_q0, A_qa, c_qa, A_q1, c_q1, A_qb, c_qb, rfl, h0, h1, h2, h3, hb⟩; refine ⟨_, rfl, ?_⟩
        replace K_q := am_ (K_q.out.step hb); replace K_t := am_ (K_t.out.step hb); replace HX := am_ (zh HX.out hb); have R_q0 := am_ h0; have R_qa := am_ h1; have R_q1 := am_ h2; have R_qb := am_ h3; clear hb h0 h1 h2 h3
        refine hK.out _ _ ⟨(K_s.out.step HX.out).c0, (K_s.out.step HX.out).c1, HY.out _ HX.out⟩ (fun hHeld => ?_); clear hK K
        refine zZ (a' := ?_) ?_ ?_; rotate_left; (focus (show Act.put _ (some 81) _ = _; simp only [Act.put, sI_, s0_, s1_, zl, zm]; first | done | rfl))
        refine zz (i := 7) (N := some 74) (v := ?_) (a' := ?_) (bl_ 16 6399) rfl rfl (zn HT_.out (by kernel_rfl)) (fun _ _ _ h => h) (Or.inl ⟨by rfl, ?_⟩) ?_ ?_; rotate_left; (focus (intro w'; go_simp; first | done | with_reducible rfl)); rotate_left; (focus (simp only [Act.put, sI_, s0_, s1_, zl, zm]; first | done | rfl))
        refine zz (i := 8) (N := some 82) (v := ?_) (a' := ?_) (bl_ 16 6655) rfl rfl (zn HT_.out (by kernel_rfl)) (fun _ _ _ h => h) (Or.inl ⟨by rfl, ?_⟩) ?_ ?_; rotate_left; (focus (intro w'; go_simp; first | done | with_reducible rfl)); rotate_left; (focus (simp only [Act.put, sI_, s0_, s1_, zl, zm]; first | done | rfl))
        refine zz (i := 9) (N := some 83) (v := ?_) (a' := ?_) (bl_ 16 7167) rfl rfl (zn HT_.out (by kernel_rfl)) (fun _ _ _ h => h) (Or.inl ⟨by rfl, ?_⟩) ?_ ?_; rotate_left; (focus (intro w'; go_simp; first | done | with_reducible rfl)); rotate_left; (focus (simp only [Act.put, sI_, s0_, s1_, zl, zm]; first | done | rfl))
        refine zz (i := 10) (N := some 84) (v := ?_) (a' := ?_) (bl_ 16 8191) rfl rfl (zn HT_.out (by kernel_rfl)) (fun _ _ _ h => h) (Or.inl ⟨by rfl, ?_⟩) ?_ ?_; rotate_left; (focus (intro w'; go_simp; first | done | with_reducible rfl)); rotate_left; (focus (simp only [Act.put, sI_, s0_, s1_, zl, zm]; first | done | rfl))
        exact zZ (by first | (simp only [zY, Act.put, sI_, s0_, s1_]; done) | (simp only [zY, Act.put, sI_, s0_, s1_]; rfl)) (hJ (A_q0, c_q0, A_qa, c_qa, A_q1, c_q1, A_qb, c_qb, g_q, g_t) _ ⟨hHeld, R_q0.out, R_qa.out, R_q1.out, R_qb.out, K_q.out, K_t.out, L_q.out, L_t.out, NN.out, HX.out⟩)
      ·skip
       refine zai ?hg (N := 22) ?hd (cs := #[.slice none 0 0, .slice none 0 0]) (t := 24) ?hr ?_; (case hd => rfl); (case hg => rfl); (case hr => first | (go_simp; done) | (go_simp; rfl)); intro g_t hg y0 hw hb
       have L_t := am_ (show w12.heap.size ≤ g_t by have := HX.out.size; omega); replace HX := am_ (zh HX.out hb); have K_t := am_ (show Bx y0 g_t none 0 0 none 0 0 from hw); clear hg hw hb
       refine hK.out _ _ ⟨(K_s.out.step HX.out).c0, (K_s.out.step HX.out).c1, HY.out _ HX.out⟩ (fun hHeld => ?_); clear hK K
       refine zZ (a' := ?_) ?_ ?_; rotate_left; (focus (show Act.put _ (some 22) _ = _; simp only [Act.put, sI_, s0_, s1_, zl, zm]; first | done | rfl))
       refine two_ (i := 6) (j := 11) (Ni := some 81) (Nj := some 21) (bl_ 16 4223) (bl_ 16 6207) rfl rfl rfl rfl (two_of HT_.out (by kernel_rfl)) (by decide) (by decide) (fun K hK => ?_) (fun K hK => ?_)
       ·skip
        refine zbc Try.func16 (by kernel_rfl) rfl #[.agg #[.slice B0 lv.length d0, .slice B1 at_.length d1], .int .i64 s] (by rfl) rfl rfl (by (try simp only [List.map_toArray, List.map_cons, List.map_nil]); first | done | rfl) ?_
        refine (D4.out y0 (S_0.out.step HX.out) (S_1.out.step HX.out)).mono ?_; rintro e_ y1 ⟨A_q0, c_q0, A_qa, c_qa, A_q1, c_q1, A_qb, c_qb, rfl, h0, h1, h2, h3, hb⟩; refine ⟨_, rfl, ?_⟩
        replace K_t := am_ (K_t.out.step hb); replace HX := am_ (zh HX.out hb); have R_q0 := am_ h0; have R_qa := am_ h1; have R_q1 := am_ h2; have R_qb := am_ h3; clear hb h0 h1 h2 h3
        refine hK.out _ _ ⟨(K_s.out.step HX.out).c0, (K_s.out.step HX.out).c1, HY.out _ HX.out⟩ (fun hHeld => ?_); clear hK K
        refine zZ (a' := ?_) ?_ ?_; rotate_left; (focus (show Act.put _ (some 81) _ = _; simp only [Act.put, sI_, s0_, s1_, zl, zm]; first | done | rfl))
        refine zz (i := 7) (N := some 74) (v := ?_) (a' := ?_) (bl_ 16 4351) rfl rfl (zn HT_.out (by kernel_rfl)) (fun _ _ _ h => h) (Or.inl ⟨by rfl, ?_⟩) ?_ ?_; rotate_left; (focus (intro w'; go_simp; first | done | with_reducible rfl)); rotate_left; (focus (simp only [Act.put, sI_, s0_, s1_, zl, zm]; first | done | rfl))
        refine zz (i := 8) (N := some 82) (v := ?_) (a' := ?_) (bl_ 16 4607) rfl rfl (zn HT_.out (by kernel_rfl)) (fun _ _ _ h => h) (Or.inl ⟨by rfl, ?_⟩) ?_ ?_; rotate_left; (focus (intro w'; go_simp; first | done | with_reducible rfl)); rotate_left; (focus (simp only [Act.put, sI_, s0_, s1_, zl, zm]; first | done | rfl))
        refine zz (i := 9) (N := some 83) (v := ?_) (a' := ?_) (bl_ 16 5119) rfl rfl (zn HT_.out (by kernel_rfl)) (fun _ _ _ h => h) (Or.inl ⟨by rfl, ?_⟩) ?_ ?_; rotate_left; (focus (intro w'; go_simp; first | done | with_reducible rfl)); rotate_left; (focus (simp only [Act.put, sI_, s0_, s1_, zl, zm]; first | done | rfl))
        refine zz (i := 10) (N := some 84) (v := ?_) (a' := ?_) (bl_ 16 6143) rfl rfl (zn HT_.out (by kernel_rfl)) (fun _ _ _ h => h) (Or.inl ⟨by rfl, ?_⟩) ?_ ?_; rotate_left; (focus (intro w'; go_simp; first | done | with_reducible rfl)); rotate_left; (focus (simp only [Act.put, sI_, s0_, s1_, zl, zm]; first | done | rfl))
        refine one_ (i := 11) (N := some 21) (bl_ 16 8191) rfl rfl (zae HT_.out (by kernel_rfl)) (by decide) (fun K hK => ?_)
        refine zai ?hg (N := 21) ?hd (cs := #[.slice none 0 0, .slice none 0 0]) (t := 24) ?hr ?_; (case hd => rfl); (case hg => rfl); (case hr => first | (go_simp; done) | (go_simp; rfl)); intro g_q hg y2 hw hb
        have NN := am_ (show g_q ≠ g_t by have := K_t.out.lt; omega); have L_q := am_ (show w12.heap.size ≤ g_q by have := HX.out.size; omega); replace K_t := am_ (K_t.out.step hb); replace R_q0 := am_ (R_q0.out.step hb); replace R_qa := am_ (R_qa.out.step hb); replace R_q1 := am_ (R_q1.out.step hb); replace R_qb := am_ (R_qb.out.step hb); replace HX := am_ (zh HX.out hb); have K_q := am_ (show Bx y2 g_q none 0 0 none 0 0 from hw); clear hg hw hb
        refine hK.out _ _ ⟨(K_s.out.step HX.out).c0, (K_s.out.step HX.out).c1, HY.out _ HX.out⟩ (fun hHeld => ?_); clear hK K
        refine zZ (a' := ?_) ?_ ?_; rotate_left; (focus (show Act.put _ (some 21) _ = _; simp only [Act.put, sI_, s0_, s1_, zl, zm]; first | done | rfl))
        exact zZ (by first | (simp only [zY, Act.put, sI_, s0_, s1_]; done) | (simp only [zY, Act.put, sI_, s0_, s1_]; rfl)) (hJ (A_q0, c_q0, A_qa, c_qa, A_q1, c_q1, A_qb, c_qb, g_q, g_t) _ ⟨hHeld, R_q0.out, R_qa.out, R_q1.out, R_qb.out, K_q.out, K_t.out, L_q.out, L_t.out, NN.out, HX.out⟩)
       ·skip
        refine zai ?hg (N := 21) ?hd (cs := #[.slice none 0 0, .slice none 0 0]) (t := 24) ?hr ?_; (case hd => rfl); (case hg => rfl); (case hr => first | (go_simp; done) | (go_simp; rfl)); intro g_q hg y1 hw hb
        have NN := am_ (show g_q ≠ g_t by have := K_t.out.lt; omega); have L_q := am_ (show w12.heap.size ≤ g_q by have := HX.out.size; omega); replace K_t := am_ (K_t.out.step hb); replace HX := am_ (zh HX.out hb); have K_q := am_ (show Bx y1 g_q none 0 0 none 0 0 from hw); clear hg hw hb
        refine hK.out _ _ ⟨(K_s.out.step HX.out).c0, (K_s.out.step HX.out).c1, HY.out _ HX.out⟩ (fun hHeld => ?_); clear hK K
        refine zZ (a' := ?_) ?_ ?_; rotate_left; (focus (show Act.put _ (some 21) _ = _; simp only [Act.put, sI_, s0_, s1_, zl, zm]; first | done | rfl))
        refine one_ (i := 6) (N := some 81) (bl_ 16 6271) rfl rfl (zae HT_.out (by kernel_rfl)) (by decide) (fun K hK => ?_)
        refine zbc Try.func16 (by kernel_rfl) rfl #[.agg #[.slice B0 lv.length d0, .slice B1 at_.length d1], .int .i64 s] (by rfl) rfl rfl (by (try simp only [List.map_toArray, List.map_cons, List.map_nil]); first | done | rfl) ?_
        refine (D4.out y1 (S_0.out.step HX.out) (S_1.out.step HX.out)).mono ?_; rintro e_ y2 ⟨A_q0, c_q0, A_qa, c_qa, A_q1, c_q1, A_qb, c_qb, rfl, h0, h1, h2, h3, hb⟩; refine ⟨_, rfl, ?_⟩
        replace K_t := am_ (K_t.out.step hb); replace K_q := am_ (K_q.out.step hb); replace HX := am_ (zh HX.out hb); have R_q0 := am_ h0; have R_qa := am_ h1; have R_q1 := am_ h2; have R_qb := am_ h3; clear hb h0 h1 h2 h3
        refine hK.out _ _ ⟨(K_s.out.step HX.out).c0, (K_s.out.step HX.out).c1, HY.out _ HX.out⟩ (fun hHeld => ?_); clear hK K
        refine zZ (a' := ?_) ?_ ?_; rotate_left; (focus (show Act.put _ (some 81) _ = _; simp only [Act.put, sI_, s0_, s1_, zl, zm]; first | done | rfl))
        refine zz (i := 7) (N := some 74) (v := ?_) (a' := ?_) (bl_ 16 6399) rfl rfl (zn HT_.out (by kernel_rfl)) (fun _ _ _ h => h) (Or.inl ⟨by rfl, ?_⟩) ?_ ?_; rotate_left; (focus (intro w'; go_simp; first | done | with_reducible rfl)); rotate_left; (focus (simp only [Act.put, sI_, s0_, s1_, zl, zm]; first | done | rfl))
        refine zz (i := 8) (N := some 82) (v := ?_) (a' := ?_) (bl_ 16 6655) rfl rfl (zn HT_.out (by kernel_rfl)) (fun _ _ _ h => h) (Or.inl ⟨by rfl, ?_⟩) ?_ ?_; rotate_left; (focus (intro w'; go_simp; first | done | with_reducible rfl)); rotate_left; (focus (simp only [Act.put, sI_, s0_, s1_, zl, zm]; first | done | rfl))
        refine zz (i := 9) (N := some 83) (v := ?_) (a' := ?_) (bl_ 16 7167) rfl rfl (zn HT_.out (by kernel_rfl)) (fun _ _ _ h => h) (Or.inl ⟨by rfl, ?_⟩) ?_ ?_; rotate_left; (focus (intro w'; go_simp; first | done | with_reducible rfl)); rotate_left; (focus (simp only [Act.put, sI_, s0_, s1_, zl, zm]; first | done | rfl))
        refine zz (i := 10) (N := some 84) (v := ?_) (a' := ?_) (bl_ 16 8191) rfl rfl (zn HT_.out (by kernel_rfl)) (fun _ _ _ h => h) (Or.inl ⟨by rfl, ?_⟩) ?_ ?_; rotate_left; (focus (intro w'; go_simp; first | done | with_reducible rfl)); rotate_left; (focus (simp only [Act.put, sI_, s0_, s1_, zl, zm]; first | done | rfl))
        exact zZ (by first | (simp only [zY, Act.put, sI_, s0_, s1_]; done) | (simp only [zY, Act.put, sI_, s0_, s1_]; rfl)) (hJ (A_q0, c_q0, A_qa, c_qa, A_q1, c_q1, A_qb, c_qb, g_q, g_t) _ ⟨hHeld, R_q0.out, R_qa.out, R_q1.out, R_qb.out, K_q.out, K_t.out, L_q.out, L_t.out, NN.out, HX.out⟩)
     rintro ⟨A_q0, c_q0, A_qa, c_qa, A_q1, c_q1, A_qb, c_qb, g_q, g_t⟩ w13 ⟨hHeld, x0, x1, x2, x3, x4, x5, x6, x7, x8, x9⟩
     clear HX
     have R_q0 := am_ (show Rd w13 A_q0 c_q0 hl from x0)
     have R_qa := am_ (show Rd w13 A_qa c_qa ha from x1)
     have R_q1 := am_ (show Rd w13 A_q1 c_q1 hl from x2)
     have R_qb := am_ (show Rd w13 A_qb c_qb hbb from x3)
     have K_q := am_ (show Bx w13 g_q none 0 0 none 0 0 from x4)
     have K_t := am_ (show Bx w13 g_t none 0 0 none 0 0 from x5)
     have L_q := am_ (show w12.heap.size ≤ g_q from x6)
     have L_t := am_ (show w12.heap.size ≤ g_t from x7)
     have NN := am_ (show g_q ≠ g_t from x8)
     have HX := am_ (show Below w12.heap.size w12 w13 from x9)
     clear x0 x1 x2 x3 x4 x5 x6 x7 x8 x9
     have hb := HX.out
     have N_q_r := am_ (show g_r ≠ g_q by have := K_r.out.lt; have := L_q.out; omega)
     have N_t_r := am_ (show g_r ≠ g_t by have := K_r.out.lt; have := L_t.out; omega)
     have N_q_s := am_ (show g_s ≠ g_q by have := K_s.out.lt; have := L_q.out; omega)
     have N_t_s := am_ (show g_s ≠ g_t by have := K_s.out.lt; have := L_t.out; omega)
     have N_q_a := am_ (show g_a ≠ g_q by have := K_a.out.lt; have := L_q.out; omega)
     have N_t_a := am_ (show g_a ≠ g_t by have := K_a.out.lt; have := L_t.out; omega)
     have N_q_b := am_ (show g_b ≠ g_q by have := K_b.out.lt; have := L_q.out; omega)
     have N_t_b := am_ (show g_b ≠ g_t by have := K_b.out.lt; have := L_t.out; omega)
     have N_t_q := am_ NN.out
     replace L_q := am_ (Nat.le_trans HB.out.size L_q.out)
     replace L_t := am_ (Nat.le_trans HB.out.size L_t.out)
     replace R_0 := am_ (R_0.out.step hb); replace R_1 := am_ (R_1.out.step hb); replace S_0 := am_ (S_0.out.step hb); replace S_1 := am_ (S_1.out.step hb); replace R_sg := am_ (R_sg.out.step hb); replace R_e := am_ (R_e.out.step hb); replace R_h0 := am_ (R_h0.out.step hb); replace R_ha := am_ (R_ha.out.step hb); replace R_h1 := am_ (R_h1.out.step hb); replace R_hb_ := am_ (R_hb_.out.step hb); replace K_r := am_ (K_r.out.step hb); replace K_s := am_ (K_s.out.step hb); replace K_a := am_ (K_a.out.step hb); replace K_b := am_ (K_b.out.step hb); replace HB := am_ (zh HB.out hb)
     clear hb HX NN HY
     refine zZ (a' := ?_) ?_ ?_; rotate_left; (focus (simp only [zY, Act.put, sI_, s0_, s1_]; first | done | rfl))
     refine last_ (i := 13) (N := none) (bl_ 16 16383) rfl rfl (zae HT_.out (by kernel_rfl)) (by decide) (fun K hK => ?_)
     refine store_row_step (by rfl) 24 rfl rfl g_q #[.slice A_q0 hl.length c_q0, .slice A_qa ha.length c_qa] rfl rfl 24 _ K_q.out (info24.trans rfl) rfl (zaA _ _ _ _ _ _) ?_; intro w14 hw_ hg_
     replace R_0 := am_ (R_0.out.put K_q.out hg_); replace R_1 := am_ (R_1.out.put K_q.out hg_); replace S_0 := am_ (S_0.out.put K_q.out hg_); replace S_1 := am_ (S_1.out.put K_q.out hg_); replace R_sg := am_ (R_sg.out.put K_q.out hg_); replace R_e := am_ (R_e.out.put K_q.out hg_); replace R_h0 := am_ (R_h0.out.put K_q.out hg_); replace R_ha := am_ (R_ha.out.put K_q.out hg_); replace R_h1 := am_ (R_h1.out.put K_q.out hg_); replace R_hb_ := am_ (R_hb_.out.put K_q.out hg_); replace R_q0 := am_ (R_q0.out.put K_q.out hg_); replace R_qa := am_ (R_qa.out.put K_q.out hg_); replace R_q1 := am_ (R_q1.out.put K_q.out hg_); replace R_qb := am_ (R_qb.out.put K_q.out hg_); replace K_r := am_ (K_r.out.put hg_ N_q_r.out); replace K_s := am_ (K_s.out.put hg_ N_q_s.out); replace K_a := am_ (K_a.out.put hg_ N_q_a.out); replace K_b := am_ (K_b.out.put hg_ N_q_b.out); replace K_t := am_ (K_t.out.put hg_ N_t_q.out.symm); replace HB := am_ (HB.out.grown hg_ HB.out.size (fun k_ hk_ => by cases hk_; exact L_q.out)); replace K_q := am_ (show Bx w14 g_q A_q0 hl.length c_q0 A_qa ha.length c_qa from hw_); clear hw_ hg_
     refine hK.out _ _ ?_; clear hK K
     refine last_ (i := 14) (N := none) (bl_ 16 32767) rfl rfl (zae HT_.out (by kernel_rfl)) (by decide) (fun K hK => ?_)
     refine store_row_step (by rfl) 24 rfl rfl g_t #[.slice A_q1 hl.length c_q1, .slice A_qb hbb.length c_qb] rfl rfl 24 _ K_t.out (info24.trans rfl) rfl (zaA _ _ _ _ _ _) ?_; intro w15 hw_ hg_
     replace R_0 := am_ (R_0.out.put K_t.out hg_); replace R_1 := am_ (R_1.out.put K_t.out hg_); replace S_0 := am_ (S_0.out.put K_t.out hg_); replace S_1 := am_ (S_1.out.put K_t.out hg_); replace R_sg := am_ (R_sg.out.put K_t.out hg_); replace R_e := am_ (R_e.out.put K_t.out hg_); replace R_h0 := am_ (R_h0.out.put K_t.out hg_); replace R_ha := am_ (R_ha.out.put K_t.out hg_); replace R_h1 := am_ (R_h1.out.put K_t.out hg_); replace R_hb_ := am_ (R_hb_.out.put K_t.out hg_); replace R_q0 := am_ (R_q0.out.put K_t.out hg_); replace R_qa := am_ (R_qa.out.put K_t.out hg_); replace R_q1 := am_ (R_q1.out.put K_t.out hg_); replace R_qb := am_ (R_qb.out.put K_t.out hg_); replace K_r := am_ (K_r.out.put hg_ N_t_r.out); replace K_s := am_ (K_s.out.put hg_ N_t_s.out); replace K_a := am_ (K_a.out.put hg_ N_t_a.out); replace K_b := am_ (K_b.out.put hg_ N_t_b.out); replace K_q := am_ (K_q.out.put hg_ N_t_q.out); replace HB := am_ (HB.out.grown hg_ HB.out.size (fun k_ hk_ => by cases hk_; exact L_t.out)); replace K_t := am_ (show Bx w15 g_t A_q1 hl.length c_q1 A_qb hbb.length c_qb from hw_); clear hw_ hg_
     refine hK.out _ _ ?_; clear hK K
     refine zz (i := 15) (N := some 23) (v := ?_) (a' := ?_) (bl_ 16 65535) rfl rfl (zn HT_.out (by kernel_rfl)) (fun _ _ _ h => h) (Or.inl ⟨by rfl, ?_⟩) ?_ ?_; rotate_left; (focus (intro w'; go_simp; first | done | with_reducible rfl)); rotate_left; (focus (simp only [Act.put, sI_, s0_, s1_, zl, zm]; first | done | rfl))
     refine done_ (zaL HT_.out (by kernel_rfl)) ?_
     have c_a_0 := K_a.out.c0
     have c_q_0 := K_q.out.c0
     have c_a_1 := K_a.out.c1
     have c_q_1 := K_q.out.c1
     go_wp2_with fail
     refine (same_c w15 R_h0.out R_ha.out R_q0.out R_qa.out M0.out M1.out).mono ?_
     rintro e_ w16 ⟨rfl, hb⟩
     replace R_0 := am_ (R_0.out.step hb); replace R_1 := am_ (R_1.out.step hb); replace S_0 := am_ (S_0.out.step hb); replace S_1 := am_ (S_1.out.step hb); replace R_sg := am_ (R_sg.out.step hb); replace R_e := am_ (R_e.out.step hb); replace R_h0 := am_ (R_h0.out.step hb); replace R_ha := am_ (R_ha.out.step hb); replace R_h1 := am_ (R_h1.out.step hb); replace R_hb_ := am_ (R_hb_.out.step hb); replace R_q0 := am_ (R_q0.out.step hb); replace R_qa := am_ (R_qa.out.step hb); replace R_q1 := am_ (R_q1.out.step hb); replace R_qb := am_ (R_qb.out.step hb); replace K_r := am_ (K_r.out.step hb); replace K_s := am_ (K_s.out.step hb); replace K_a := am_ (K_a.out.step hb); replace K_b := am_ (K_b.out.step hb); replace K_q := am_ (K_q.out.step hb); replace K_t := am_ (K_t.out.step hb); replace HB := am_ (zh HB.out hb)
     clear hb 
     clear c_a_0 c_a_1 c_q_0 c_q_1
     have c_b_0 := K_b.out.c0
     have c_t_0 := K_t.out.c0
     have c_b_1 := K_b.out.c1
     have c_t_1 := K_t.out.c1
     go_wp2_with fail
     refine (same_c w16 R_h1.out R_hb_.out R_q1.out R_qb.out M0.out M2.out).mono ?_
     rintro e_ w17 ⟨rfl, hb⟩
     replace R_0 := am_ (R_0.out.step hb); replace R_1 := am_ (R_1.out.step hb); replace S_0 := am_ (S_0.out.step hb); replace S_1 := am_ (S_1.out.step hb); replace R_sg := am_ (R_sg.out.step hb); replace R_e := am_ (R_e.out.step hb); replace R_h0 := am_ (R_h0.out.step hb); replace R_ha := am_ (R_ha.out.step hb); replace R_h1 := am_ (R_h1.out.step hb); replace R_hb_ := am_ (R_hb_.out.step hb); replace R_q0 := am_ (R_q0.out.step hb); replace R_qa := am_ (R_qa.out.step hb); replace R_q1 := am_ (R_q1.out.step hb); replace R_qb := am_ (R_qb.out.step hb); replace K_r := am_ (K_r.out.step hb); replace K_s := am_ (K_s.out.step hb); replace K_a := am_ (K_a.out.step hb); replace K_b := am_ (K_b.out.step hb); replace K_q := am_ (K_q.out.step hb); replace K_t := am_ (K_t.out.step hb); replace HB := am_ (zh HB.out hb)
     clear hb 
     clear c_b_0 c_b_1 c_t_0 c_t_1
     by_cases hE0 : E = 0
     ·have heb : (E != 0) = false := by rw [hE0]; rfl
      have HRR := am_ (HRG.out hE0)
      clear hE0
      cases up
      ·have hupT : True := trivial
       have c_a_0 := K_a.out.c0
       have c_a_1 := K_a.out.c1
       go_wp2_with (first
  | ((with_reducible refine zJ (t := 24) (p := 13) rfl ?_); refine zD rfl 24 rfl rfl g_r #[.slice A_h0 hl.length c_h0, .slice A_ha ha.length c_ha] rfl rfl 24 _ K_r.out (info24.trans rfl) rfl (zaA _ _ _ _ _ _) ?_; intro w18 hw_ hg_; replace R_0 := am_ (R_0.out.put K_r.out hg_); replace R_1 := am_ (R_1.out.put K_r.out hg_); replace S_0 := am_ (S_0.out.put K_r.out hg_); replace S_1 := am_ (S_1.out.put K_r.out hg_); replace R_sg := am_ (R_sg.out.put K_r.out hg_); replace R_e := am_ (R_e.out.put K_r.out hg_); replace R_h0 := am_ (R_h0.out.put K_r.out hg_); replace R_ha := am_ (R_ha.out.put K_r.out hg_); replace R_h1 := am_ (R_h1.out.put K_r.out hg_); replace R_hb_ := am_ (R_hb_.out.put K_r.out hg_); replace R_q0 := am_ (R_q0.out.put K_r.out hg_); replace R_qa := am_ (R_qa.out.put K_r.out hg_); replace R_q1 := am_ (R_q1.out.put K_r.out hg_); replace R_qb := am_ (R_qb.out.put K_r.out hg_); replace K_s := am_ (K_s.out.put hg_ N_s_r.out.symm); replace K_a := am_ (K_a.out.put hg_ N_a_r.out.symm); replace K_b := am_ (K_b.out.put hg_ N_b_r.out.symm); replace K_q := am_ (K_q.out.put hg_ N_q_r.out.symm); replace K_t := am_ (K_t.out.put hg_ N_t_r.out.symm); replace HB := am_ (HB.out.grown hg_ HB.out.size (fun k_ hk_ => by cases hk_; exact L_r.out)); replace K_r := am_ (show Bx w18 g_r A_h0 hl.length c_h0 A_ha ha.length c_ha from hw_); clear hw_ hg_; have c_r_0 := K_r.out.c0; have c_r_1 := K_r.out.c1; have c_q_0 := K_q.out.c0; have c_q_1 := K_q.out.c1)
  | ((with_reducible refine zJ (t := 24) (p := 15) rfl ?_); refine zD rfl 24 rfl rfl g_s #[.slice A_q0 hl.length c_q0, .slice A_qa ha.length c_qa] rfl rfl 24 _ K_s.out (info24.trans rfl) rfl (zaA _ _ _ _ _ _) ?_; intro w19 hw_ hg_; replace R_0 := am_ (R_0.out.put K_s.out hg_); replace R_1 := am_ (R_1.out.put K_s.out hg_); replace S_0 := am_ (S_0.out.put K_s.out hg_); replace S_1 := am_ (S_1.out.put K_s.out hg_); replace R_sg := am_ (R_sg.out.put K_s.out hg_); replace R_e := am_ (R_e.out.put K_s.out hg_); replace R_h0 := am_ (R_h0.out.put K_s.out hg_); replace R_ha := am_ (R_ha.out.put K_s.out hg_); replace R_h1 := am_ (R_h1.out.put K_s.out hg_); replace R_hb_ := am_ (R_hb_.out.put K_s.out hg_); replace R_q0 := am_ (R_q0.out.put K_s.out hg_); replace R_qa := am_ (R_qa.out.put K_s.out hg_); replace R_q1 := am_ (R_q1.out.put K_s.out hg_); replace R_qb := am_ (R_qb.out.put K_s.out hg_); replace K_r := am_ (K_r.out.put hg_ N_s_r.out); replace K_a := am_ (K_a.out.put hg_ N_a_s.out.symm); replace K_b := am_ (K_b.out.put hg_ N_b_s.out.symm); replace K_q := am_ (K_q.out.put hg_ N_q_s.out.symm); replace K_t := am_ (K_t.out.put hg_ N_t_s.out.symm); replace HB := am_ (HB.out.grown hg_ HB.out.size (fun k_ hk_ => by cases hk_; exact L_s.out)); replace K_s := am_ (show Bx w19 g_s A_q0 hl.length c_q0 A_qa ha.length c_qa from hw_); clear hw_ hg_; have c_s_0 := K_s.out.c0; have c_s_1 := K_s.out.c1; have hyu := HYU.out _ HB.out; have c_r_0 := K_r.out.c0; have c_r_1 := K_r.out.c1)
  | fail)
       clear R_h1 R_hb_ R_q1 R_qb R_0 R_1 S_0 S_1 K_a K_b K_q K_t
       have HW := HRR.out.1
       obtain ⟨wn, hwn⟩ : ∃ C, wayN hl ha = C := ⟨_, rfl⟩
       have hwe : wayE hl ha = 0 := by unfold wayE; rw [if_pos HW]
       obtain ⟨ee, hee⟩ : ∃ C, eE hl ha sg d = C := ⟨_, rfl⟩
       obtain ⟨el, hel⟩ : ∃ C, eL hl ha sg d = C := ⟨_, rfl⟩
       have M3 := am_ (show el.length ≤ 100000 by rw [← hel]; exact eL_len hl ha sg d)
       obtain ⟨u, hu⟩ : ∃ u, decide (Win hl ha es p) = u := ⟨_, rfl⟩
       have HU := am_ hu
       have C1 := @way_c A_h0 A_ha c_h0 c_ha hl ha
       simp only [hwn, hwe] at C1
       have D5 := am_ C1
       clear C1
       have C1 := @rway_c A_q0 A_qa c_q0 c_qa hl ha
       simp only [hwn, hwe] at C1
       have D6 := am_ C1
       clear C1
       have C1 := @ends_c A_h0 A_ha c_h0 c_ha hl ha A2 c2 sg d
       simp only [hel, hee] at C1
       have D7 := am_ C1
       clear C1
       have C1 := @rends_c A_q0 A_qa c_q0 c_qa hl ha A2 c2 sg d
       simp only [hel, hee] at C1
       have D8 := am_ C1
       clear C1
       clear hu hwn hwe hee hel HW
       refine (D5.out w19 R_h0.out R_ha.out).mono ?_
       rintro e_ w20 ⟨rfl, hb⟩
       replace R_sg := am_ (R_sg.out.step hb); replace R_e := am_ (R_e.out.step hb); replace R_h0 := am_ (R_h0.out.step hb); replace R_ha := am_ (R_ha.out.step hb); replace R_q0 := am_ (R_q0.out.step hb); replace R_qa := am_ (R_qa.out.step hb); replace K_r := am_ (K_r.out.step hb); replace K_s := am_ (K_s.out.step hb); replace HB := am_ (zh HB.out hb)
       clear hb 
       clear c_r_0 c_r_1
       have c_s_0 := K_s.out.c0
       have c_s_1 := K_s.out.c1
       go_wp2_with fail
       refine (D6.out w20 R_q0.out R_qa.out).mono ?_
       rintro e_ w21 ⟨rfl, hb⟩
       replace R_sg := am_ (R_sg.out.step hb); replace R_e := am_ (R_e.out.step hb); replace R_h0 := am_ (R_h0.out.step hb); replace R_ha := am_ (R_ha.out.step hb); replace R_q0 := am_ (R_q0.out.step hb); replace R_qa := am_ (R_qa.out.step hb); replace K_r := am_ (K_r.out.step hb); replace K_s := am_ (K_s.out.step hb); replace HB := am_ (zh HB.out hb)
       clear hb 
       clear c_s_0 c_s_1
       have c_r_0 := K_r.out.c0
       have c_r_1 := K_r.out.c1
       go_wp2_with fail
       refine (D7.out w21 R_h0.out R_ha.out R_sg.out).mono ?_
       rintro e_ w22 ⟨A_el, c_el, rfl, h0, hb⟩
       replace R_sg := am_ (R_sg.out.step hb); replace R_e := am_ (R_e.out.step hb); replace R_h0 := am_ (R_h0.out.step hb); replace R_ha := am_ (R_ha.out.step hb); replace R_q0 := am_ (R_q0.out.step hb); replace R_qa := am_ (R_qa.out.step hb); replace K_r := am_ (K_r.out.step hb); replace K_s := am_ (K_s.out.step hb); replace HB := am_ (zh HB.out hb)
       have R_el := am_ h0
       clear hb h0
       clear c_r_0 c_r_1
       have c_s_0 := K_s.out.c0
       have c_s_1 := K_s.out.c1
       go_wp2_with fail
       refine (D8.out w22 R_q0.out R_qa.out R_sg.out).mono ?_
       rintro e_ w23 ⟨A_fl, c_fl, rfl, h0, hb⟩
       replace R_sg := am_ (R_sg.out.step hb); replace R_e := am_ (R_e.out.step hb); replace R_h0 := am_ (R_h0.out.step hb); replace R_ha := am_ (R_ha.out.step hb); replace R_q0 := am_ (R_q0.out.step hb); replace R_qa := am_ (R_qa.out.step hb); replace R_el := am_ (R_el.out.step hb); replace K_r := am_ (K_r.out.step hb); replace K_s := am_ (K_s.out.step hb); replace HB := am_ (zh HB.out hb)
       have R_fl := am_ h0
       clear hb h0
       clear c_s_0 c_s_1
       go_wp2_with fail
       have hb : Below w23.heap.size w23 w23.drew := zaH (Below.refl _ _)
       replace R_sg := am_ (R_sg.out.step hb); replace R_e := am_ (R_e.out.step hb); replace R_h0 := am_ (R_h0.out.step hb); replace R_ha := am_ (R_ha.out.step hb); replace R_q0 := am_ (R_q0.out.step hb); replace R_qa := am_ (R_qa.out.step hb); replace R_el := am_ (R_el.out.step hb); replace R_fl := am_ (R_fl.out.step hb); replace K_r := am_ (K_r.out.step hb); replace K_s := am_ (K_s.out.step hb); replace HB := am_ (zh HB.out hb)
       clear hb
       refine zaY (n := 29) (S := fun w' => w'.cell? ⟨g_r, 0, none⟩ = some (.slice A_h0 hl.length c_h0) ∧ w'.cell? ⟨g_r, 1, none⟩ = some (.slice A_ha ha.length c_ha) ∧ w'.cell? ⟨g_s, 0, none⟩ = some (.slice A_q0 hl.length c_q0) ∧ w'.cell? ⟨g_s, 1, none⟩ = some (.slice A_qa ha.length c_qa)) (ds := []) (bl_ 29 0) (by kernel_rfl) rfl rfl ⟨K_r.out.c0, K_r.out.c1, K_s.out.c0, K_s.out.c1⟩ (fun hHeld => ?_); refine zav plays.tab22 plays.bits22 (fun HT_ HW_ => ?_)
       generalize w23.drew = w24 at R_sg R_e R_h0 R_ha R_q0 R_qa R_el R_fl K_r K_s HB hHeld ⊢
       refine zz (i := 0) (N := some 135) (v := ?_) (a' := ?_) (bl_ 29 1) rfl rfl (zn HT_.out (by kernel_rfl)) (fun _ _ _ h => h) (Or.inl ⟨by rfl, ?_⟩) ?_ ?_; rotate_left; (focus (intro w'; go_simp; first | done | with_reducible rfl)); rotate_left; (focus (simp only [Act.put, sI_, s0_, s1_, zl, zm]; first | done | rfl))
       refine zz (i := 1) (N := some 136) (v := ?_) (a' := ?_) (bl_ 29 3) rfl rfl (zn HT_.out (by kernel_rfl)) (fun _ _ _ h => h) (Or.inl ⟨by rfl, ?_⟩) ?_ ?_; rotate_left; (focus (intro w'; go_simp; first | done | with_reducible rfl)); rotate_left; (focus (simp only [Act.put, sI_, s0_, s1_, zl, zm]; first | done | rfl))
       refine zz (i := 2) (N := some 137) (v := ?_) (a' := ?_) (bl_ 29 7) rfl rfl (zn HT_.out (by kernel_rfl)) (fun _ _ _ h => h) (Or.inl ⟨by rfl, ?_⟩) ?_ ?_; rotate_left; (focus (intro w'; go_simp; first | done | with_reducible rfl)); rotate_left; (focus (simp only [Act.put, sI_, s0_, s1_, zl, zm]; first | done | rfl))
       refine zz (i := 3) (N := some 138) (v := ?_) (a' := ?_) (bl_ 29 15) rfl rfl (zn HT_.out (by kernel_rfl)) (fun _ _ _ h => h) (Or.inl ⟨by rfl, ?_⟩) ?_ ?_; rotate_left; (focus (intro w'; go_simp; first | done | with_reducible rfl)); rotate_left; (focus (simp only [Act.put, sI_, s0_, s1_, zl, zm]; first | done | rfl))
       refine zz (i := 4) (N := some 139) (v := ?_) (a' := ?_) (bl_ 29 31) rfl rfl (zn HT_.out (by kernel_rfl)) (fun _ _ _ h => h) (Or.inl ⟨by rfl, ?_⟩) ?_ ?_; rotate_left; (focus (intro w'; go_simp; first | done | with_reducible rfl)); rotate_left; (focus (simp only [Act.put, sI_, s0_, s1_, zl, zm]; first | done | rfl))
       refine zz (i := 5) (N := some 140) (v := ?_) (a' := ?_) (bl_ 29 63) rfl rfl (zn HT_.out (by kernel_rfl)) (fun _ _ _ h => h) (Or.inl ⟨by rfl, ?_⟩) ?_ ?_; rotate_left; (focus (intro w'; go_simp; first | done | with_reducible rfl)); rotate_left; (focus (simp only [Act.put, sI_, s0_, s1_, zl, zm]; first | done | rfl))
       refine zz (i := 6) (N := some 141) (v := ?_) (a' := ?_) (bl_ 29 127) rfl rfl (zn HT_.out (by kernel_rfl)) (fun _ _ _ h => h) (Or.inl ⟨by rfl, ?_⟩) ?_ ?_; rotate_left; (focus (intro w'; go_simp; first | done | with_reducible rfl)); rotate_left; (focus (simp only [Act.put, sI_, s0_, s1_, zl, zm]; first | done | rfl))
       refine zz (i := 7) (N := some 142) (v := ?_) (a' := ?_) (bl_ 29 255) rfl rfl (zn HT_.out (by kernel_rfl)) (fun _ _ _ h => h) (Or.inl ⟨by rfl, ?_⟩) ?_ ?_; rotate_left; (focus (intro w'; go_simp; first | done | with_reducible rfl)); rotate_left; (focus (simp only [Act.put, sI_, s0_, s1_, zl, zm]; first | done | rfl))
       refine zz (i := 8) (N := some 143) (v := ?_) (a' := ?_) (bl_ 29 511) rfl rfl (zn HT_.out (by kernel_rfl)) (fun _ _ _ h => h) (Or.inl ⟨by rfl, ?_⟩) ?_ ?_; rotate_left; (focus (intro w'; go_simp; first | done | with_reducible rfl)); rotate_left; (focus (simp only [Act.put, sI_, s0_, s1_, zl, zm]; first | done | rfl))
       refine zz (i := 9) (N := some 144) (v := ?_) (a' := ?_) (bl_ 29 1023) rfl rfl (zn HT_.out (by kernel_rfl)) (fun _ _ _ h => h) (Or.inl ⟨by rfl, ?_⟩) ?_ ?_; rotate_left; (focus (intro w'; go_simp; first | done | with_reducible rfl)); rotate_left; (focus (simp only [Act.put, sI_, s0_, s1_, zl, zm]; first | done | rfl))
       refine zz (i := 10) (N := some 145) (v := ?_) (a' := ?_) (bl_ 29 2047) rfl rfl (zn HT_.out (by kernel_rfl)) (fun _ _ _ h => h) (Or.inl ⟨by rfl, ?_⟩) ?_ ?_; rotate_left; (focus (intro w'; go_simp; first | done | with_reducible rfl)); rotate_left; (focus (simp only [Act.put, sI_, s0_, s1_, zl, zm]; first | done | rfl))
       refine zz (i := 11) (N := some 146) (v := ?_) (a' := ?_) (bl_ 29 4095) rfl rfl (zn HT_.out (by kernel_rfl)) (fun _ _ _ h => h) (Or.inl ⟨by rfl, ?_⟩) ?_ ?_; rotate_left; (focus (intro w'; go_simp; first | done | with_reducible rfl)); rotate_left; (focus (simp only [Act.put, sI_, s0_, s1_, zl, zm]; first | done | rfl))
       refine zz (i := 12) (N := some 147) (v := ?_) (a' := ?_) (bl_ 29 8191) rfl rfl (zn HT_.out (by kernel_rfl)) (fun _ _ _ h => h) (Or.inl ⟨by rfl, ?_⟩) ?_ ?_; rotate_left; (focus (intro w'; go_simp; first | done | with_reducible rfl)); rotate_left; (focus (simp only [Act.put, sI_, s0_, s1_, zl, zm]; first | done | rfl))
       refine zz (i := 13) (N := some 148) (v := ?_) (a' := ?_) (bl_ 29 16383) rfl rfl (zn HT_.out (by kernel_rfl)) (fun _ _ _ h => h) (Or.inl ⟨by rfl, ?_⟩) ?_ ?_; rotate_left; (focus (intro w'; go_simp; first | done | with_reducible rfl)); rotate_left; (focus (simp only [Act.put, sI_, s0_, s1_, zl, zm]; first | done | rfl))
       refine zz (i := 14) (N := some 149) (v := ?_) (a' := ?_) (bl_ 29 32767) rfl rfl (zn HT_.out (by kernel_rfl)) (fun _ _ _ h => h) (Or.inl ⟨by rfl, ?_⟩) ?_ ?_; rotate_left; (focus (intro w'; go_simp; first | done | with_reducible rfl)); rotate_left; (focus (simp only [Act.put, sI_, s0_, s1_, zl, zm]; first | done | rfl))
       refine one_ (i := 15) (N := some 150) (bl_ 29 65535) rfl rfl (zae HT_.out (by kernel_rfl)) (by decide) (fun K hK => ?_)
       refine zbc Try.func23 (by kernel_rfl) rfl #[.slice A_el el.length c_el, .slice A_fl el.length c_fl] (by rfl) rfl rfl (by (try simp only [List.map_toArray, List.map_cons, List.map_nil]); first | done | rfl) ?_
       refine (ints_c w24 R_el.out R_fl.out M3.out).mono ?_
       rintro e_ w25 ⟨rfl, hb⟩
       refine ⟨_, rfl, ?_⟩
       replace R_sg := am_ (R_sg.out.step hb); replace R_e := am_ (R_e.out.step hb); replace R_h0 := am_ (R_h0.out.step hb); replace R_ha := am_ (R_ha.out.step hb); replace R_q0 := am_ (R_q0.out.step hb); replace R_qa := am_ (R_qa.out.step hb); replace R_el := am_ (R_el.out.step hb); replace R_fl := am_ (R_fl.out.step hb); replace K_r := am_ (K_r.out.step hb); replace K_s := am_ (K_s.out.step hb); replace HB := am_ (zh HB.out hb)
       clear hb 
       refine hK.out _ _ ⟨K_r.out.c0, K_r.out.c1, K_s.out.c0, K_s.out.c1⟩ (fun hHeld => ?_); clear hK K
       refine zZ (a' := ?_) ?_ ?_; rotate_left; (focus (show Act.put _ (some 150) _ = _; simp only [Act.put, sI_, s0_, s1_, zl, zm]; first | done | rfl))
       refine zz (i := 16) (N := some 151) (v := ?_) (a' := ?_) (bl_ 29 131071) rfl rfl (zn HT_.out (by kernel_rfl)) (fun _ _ _ h => h) (Or.inl ⟨by rfl, ?_⟩) ?_ ?_; rotate_left; (focus (intro w'; go_simp; first | done | with_reducible rfl)); rotate_left; (focus (simp only [Act.put, sI_, s0_, s1_, zl, zm]; first | done | rfl))
       refine zz (i := 17) (N := some 152) (v := ?_) (a' := ?_) (bl_ 29 262143) rfl rfl (zn HT_.out (by kernel_rfl)) (fun _ _ _ h => h) (Or.inl ⟨by rfl, ?_⟩) ?_ ?_; rotate_left; (focus (intro w'; go_simp; first | done | with_reducible rfl)); rotate_left; (focus (simp only [Act.put, sI_, s0_, s1_, zl, zm]; first | done | rfl))
       refine zz (i := 18) (N := some 153) (v := ?_) (a' := ?_) (bl_ 29 524287) rfl rfl (zn HT_.out (by kernel_rfl)) (fun _ _ _ h => h) (Or.inl ⟨by rfl, ?_⟩) ?_ ?_; rotate_left; (focus (intro w'; go_simp; first | done | with_reducible rfl)); rotate_left; (focus (simp only [Act.put, sI_, s0_, s1_, zl, zm]; first | done | rfl))
       refine zz (i := 20) (N := some 155) (v := ?_) (a' := ?_) (bl_ 29 1572863) rfl rfl (zn HT_.out (by kernel_rfl)) (fun _ _ _ h => h) (Or.inl ⟨by rfl, ?_⟩) ?_ ?_; rotate_left; (focus (intro w'; go_simp; first | done | with_reducible rfl)); rotate_left; (focus (simp only [Act.put, sI_, s0_, s1_, zl, zm]; first | done | rfl))
       refine zz (i := 21) (N := some 156) (v := ?_) (a' := ?_) (bl_ 29 3670015) rfl rfl (zn HT_.out (by kernel_rfl)) (fun _ _ _ h => h) (Or.inl ⟨by rfl, ?_⟩) ?_ ?_; rotate_left; (focus (intro w'; go_simp; first | done | with_reducible rfl)); rotate_left; (focus (simp only [Act.put, sI_, s0_, s1_, zl, zm]; first | done | rfl))
       refine zz (i := 24) (N := some 159) (v := ?_) (a' := ?_) (bl_ 29 20447231) rfl rfl (zn HT_.out (by kernel_rfl)) (fun _ _ _ h => h) (Or.inl ⟨by rfl, ?_⟩) ?_ ?_; rotate_left; (focus (intro w'; go_simp; first | done | with_reducible rfl)); rotate_left; (focus (simp only [Act.put, sI_, s0_, s1_, zl, zm]; first | done | rfl))
       refine zz (i := 25) (N := some 160) (v := ?_) (a' := ?_) (bl_ 29 54001663) rfl rfl (zn HT_.out (by kernel_rfl)) (fun _ _ _ h => h) (Or.inl ⟨by rfl, ?_⟩) ?_ ?_; rotate_left; (focus (intro w'; go_simp; first | done | with_reducible rfl)); rotate_left; (focus (simp only [Act.put, sI_, s0_, s1_, zl, zm]; first | done | rfl))
       refine zau (i := 19) (N := some 154) (v := ?_) (a' := ?_) (bl_ 29 54525951) rfl rfl (zR HT_.out HW_.out (by kernel_rfl)) (fun _ _ _ h => h) (Or.inl ⟨by rfl, ?_⟩) hHeld ?_ ?_; rotate_left; (focus (rintro w' ⟨s0, s1, s2, s3⟩; go_simp; first | done | with_reducible rfl)); rotate_left; (focus (simp only [Act.put, sI_, s0_, s1_, zl, zm]; first | done | rfl))
       refine zau (i := 23) (N := some 158) (v := ?_) (a' := ?_) (bl_ 29 62914559) rfl rfl (zR HT_.out HW_.out (by kernel_rfl)) (fun _ _ _ h => h) (Or.inl ⟨by rfl, ?_⟩) hHeld ?_ ?_; rotate_left; (focus (rintro w' ⟨s0, s1, s2, s3⟩; go_simp; first | done | with_reducible rfl)); rotate_left; (focus (simp only [Act.put, sI_, s0_, s1_, zl, zm]; first | done | rfl))
       refine one_ (i := 22) (N := some 157) (bl_ 29 67108863) rfl rfl (zae HT_.out (by kernel_rfl)) (by decide) (fun K hK => ?_)
       refine zbc Try.func24 (by kernel_rfl) rfl #[.agg #[.slice A_h0 hl.length c_h0, .slice A_ha ha.length c_ha], .slice A4 es.length c4, .int .i64 p] (by rfl) rfl rfl (by (try simp only [List.map_toArray, List.map_cons, List.map_nil]); first | done | rfl) ?_
       refine (win_c p w25 R_h0.out R_ha.out R_e.out HI.out HU.out).mono ?_
       rintro e_ w26 ⟨rfl, hb⟩
       refine ⟨_, rfl, ?_⟩
       replace R_sg := am_ (R_sg.out.step hb); replace R_e := am_ (R_e.out.step hb); replace R_h0 := am_ (R_h0.out.step hb); replace R_ha := am_ (R_ha.out.step hb); replace R_q0 := am_ (R_q0.out.step hb); replace R_qa := am_ (R_qa.out.step hb); replace R_el := am_ (R_el.out.step hb); replace R_fl := am_ (R_fl.out.step hb); replace K_r := am_ (K_r.out.step hb); replace K_s := am_ (K_s.out.step hb); replace HB := am_ (zh HB.out hb)
       clear hb 
       refine hK.out _ _ ⟨K_r.out.c0, K_r.out.c1, K_s.out.c0, K_s.out.c1⟩ (fun hHeld => ?_); clear hK K
       refine zZ (a' := ?_) ?_ ?_; rotate_left; (focus (show Act.put _ (some 157) _ = _; simp only [Act.put, sI_, s0_, s1_, zl, zm]; first | done | rfl))
       refine one_ (i := 26) (N := some 161) (bl_ 29 134217727) rfl rfl (zae HT_.out (by kernel_rfl)) (by decide) (fun K hK => ?_)
       refine zbc Try.func25 (by kernel_rfl) rfl #[.agg #[.slice A_q0 hl.length c_q0, .slice A_qa ha.length c_qa], .slice A4 es.length c4, .int .i64 p] (by rfl) rfl rfl (by (try simp only [List.map_toArray, List.map_cons, List.map_nil]); first | done | rfl) ?_
       refine (rwin_c p w26 R_q0.out R_qa.out R_e.out HI.out HU.out).mono ?_
       rintro e_ w27 ⟨rfl, hb⟩
       refine ⟨_, rfl, ?_⟩
       replace R_sg := am_ (R_sg.out.step hb); replace R_e := am_ (R_e.out.step hb); replace R_h0 := am_ (R_h0.out.step hb); replace R_ha := am_ (R_ha.out.step hb); replace R_q0 := am_ (R_q0.out.step hb); replace R_qa := am_ (R_qa.out.step hb); replace R_el := am_ (R_el.out.step hb); replace R_fl := am_ (R_fl.out.step hb); replace K_r := am_ (K_r.out.step hb); replace K_s := am_ (K_s.out.step hb); replace HB := am_ (zh HB.out hb)
       clear hb 
       refine hK.out _ _ ⟨K_r.out.c0, K_r.out.c1, K_s.out.c0, K_s.out.c1⟩ (fun hHeld => ?_); clear hK K
       refine zZ (a' := ?_) ?_ ?_; rotate_left; (focus (show Act.put _ (some 161) _ = _; simp only [Act.put, sI_, s0_, s1_, zl, zm]; first | done | rfl))
       refine zz (i := 27) (N := some 162) (v := ?_) (a' := ?_) (bl_ 29 268435455) rfl rfl (zn HT_.out (by kernel_rfl)) (fun _ _ _ h => h) (Or.inl ⟨by rfl, ?_⟩) ?_ ?_; rotate_left; (focus (intro w'; go_simp; first | done | with_reducible rfl)); rotate_left; (focus (simp only [Act.put, sI_, s0_, s1_, zl, zm]; first | done | rfl))
       refine zz (i := 28) (N := some 163) (v := ?_) (a' := ?_) (bl_ 29 536870911) rfl rfl (zn HT_.out (by kernel_rfl)) (fun _ _ _ h => h) (Or.inl ⟨by rfl, ?_⟩) ?_ ?_; rotate_left; (focus (intro w'; go_simp; first | done | with_reducible rfl)); rotate_left; (focus (simp only [Act.put, sI_, s0_, s1_, zl, zm]; first | done | rfl))
       refine done_ (zaL HT_.out (by kernel_rfl)) ?_
       go_wp2_with fail
       go_roundg (gk - 1)
       case measure => have := hm.out; have := HJ.out; omega
       case rel => exact ⟨(j : Int) + 1, hl, ha, A_h0, A_ha, A_q0, A_qa, c_h0, c_ha, c_q0, c_qa, by rw [show wrap64 ((j : Int) + 1) = (j : Int) + 1 from w64 _ (by omega) (by have := HJ.out; omega)], ⟨by have := hm.out; have := HJ.out; omega⟩, K_r, K_s, R_h0, R_ha, R_q0, R_qa, R_sg, R_e, HB⟩
      ·have hupT : True := trivial
       have c_a_0 := K_a.out.c0
       have c_a_1 := K_a.out.c1
       go_wp2_with (first
  | ((with_reducible refine zJ (t := 24) (p := 13) rfl ?_); refine zD rfl 24 rfl rfl g_r #[.slice A_h0 hl.length c_h0, .slice A_ha ha.length c_ha] rfl rfl 24 _ K_r.out (info24.trans rfl) rfl (zaA _ _ _ _ _ _) ?_; intro w18 hw_ hg_; replace R_0 := am_ (R_0.out.put K_r.out hg_); replace R_1 := am_ (R_1.out.put K_r.out hg_); replace S_0 := am_ (S_0.out.put K_r.out hg_); replace S_1 := am_ (S_1.out.put K_r.out hg_); replace R_sg := am_ (R_sg.out.put K_r.out hg_); replace R_e := am_ (R_e.out.put K_r.out hg_); replace R_h0 := am_ (R_h0.out.put K_r.out hg_); replace R_ha := am_ (R_ha.out.put K_r.out hg_); replace R_h1 := am_ (R_h1.out.put K_r.out hg_); replace R_hb_ := am_ (R_hb_.out.put K_r.out hg_); replace R_q0 := am_ (R_q0.out.put K_r.out hg_); replace R_qa := am_ (R_qa.out.put K_r.out hg_); replace R_q1 := am_ (R_q1.out.put K_r.out hg_); replace R_qb := am_ (R_qb.out.put K_r.out hg_); replace K_s := am_ (K_s.out.put hg_ N_s_r.out.symm); replace K_a := am_ (K_a.out.put hg_ N_a_r.out.symm); replace K_b := am_ (K_b.out.put hg_ N_b_r.out.symm); replace K_q := am_ (K_q.out.put hg_ N_q_r.out.symm); replace K_t := am_ (K_t.out.put hg_ N_t_r.out.symm); replace HB := am_ (HB.out.grown hg_ HB.out.size (fun k_ hk_ => by cases hk_; exact L_r.out)); replace K_r := am_ (show Bx w18 g_r A_h0 hl.length c_h0 A_ha ha.length c_ha from hw_); clear hw_ hg_; have c_r_0 := K_r.out.c0; have c_r_1 := K_r.out.c1; have c_q_0 := K_q.out.c0; have c_q_1 := K_q.out.c1)
  | ((with_reducible refine zJ (t := 24) (p := 15) rfl ?_); refine zD rfl 24 rfl rfl g_s #[.slice A_q0 hl.length c_q0, .slice A_qa ha.length c_qa] rfl rfl 24 _ K_s.out (info24.trans rfl) rfl (zaA _ _ _ _ _ _) ?_; intro w19 hw_ hg_; replace R_0 := am_ (R_0.out.put K_s.out hg_); replace R_1 := am_ (R_1.out.put K_s.out hg_); replace S_0 := am_ (S_0.out.put K_s.out hg_); replace S_1 := am_ (S_1.out.put K_s.out hg_); replace R_sg := am_ (R_sg.out.put K_s.out hg_); replace R_e := am_ (R_e.out.put K_s.out hg_); replace R_h0 := am_ (R_h0.out.put K_s.out hg_); replace R_ha := am_ (R_ha.out.put K_s.out hg_); replace R_h1 := am_ (R_h1.out.put K_s.out hg_); replace R_hb_ := am_ (R_hb_.out.put K_s.out hg_); replace R_q0 := am_ (R_q0.out.put K_s.out hg_); replace R_qa := am_ (R_qa.out.put K_s.out hg_); replace R_q1 := am_ (R_q1.out.put K_s.out hg_); replace R_qb := am_ (R_qb.out.put K_s.out hg_); replace K_r := am_ (K_r.out.put hg_ N_s_r.out); replace K_a := am_ (K_a.out.put hg_ N_a_s.out.symm); replace K_b := am_ (K_b.out.put hg_ N_b_s.out.symm); replace K_q := am_ (K_q.out.put hg_ N_q_s.out.symm); replace K_t := am_ (K_t.out.put hg_ N_t_s.out.symm); replace HB := am_ (HB.out.grown hg_ HB.out.size (fun k_ hk_ => by cases hk_; exact L_s.out)); replace K_s := am_ (show Bx w19 g_s A_q0 hl.length c_q0 A_qa ha.length c_qa from hw_); clear hw_ hg_; have c_s_0 := K_s.out.c0; have c_s_1 := K_s.out.c1; have hyu := HYU.out _ HB.out; have c_b_0 := K_b.out.c0; have c_b_1 := K_b.out.c1)
  | ((with_reducible refine zJ (t := 24) (p := 13) rfl ?_); refine zD rfl 24 rfl rfl g_r #[.slice A_h1 hl.length c_h1, .slice A_hb_ hbb.length c_hb_] rfl rfl 24 _ K_r.out (info24.trans rfl) rfl (zaA _ _ _ _ _ _) ?_; intro w20 hw_ hg_; replace R_0 := am_ (R_0.out.put K_r.out hg_); replace R_1 := am_ (R_1.out.put K_r.out hg_); replace S_0 := am_ (S_0.out.put K_r.out hg_); replace S_1 := am_ (S_1.out.put K_r.out hg_); replace R_sg := am_ (R_sg.out.put K_r.out hg_); replace R_e := am_ (R_e.out.put K_r.out hg_); replace R_h0 := am_ (R_h0.out.put K_r.out hg_); replace R_ha := am_ (R_ha.out.put K_r.out hg_); replace R_h1 := am_ (R_h1.out.put K_r.out hg_); replace R_hb_ := am_ (R_hb_.out.put K_r.out hg_); replace R_q0 := am_ (R_q0.out.put K_r.out hg_); replace R_qa := am_ (R_qa.out.put K_r.out hg_); replace R_q1 := am_ (R_q1.out.put K_r.out hg_); replace R_qb := am_ (R_qb.out.put K_r.out hg_); replace K_s := am_ (K_s.out.put hg_ N_s_r.out.symm); replace K_a := am_ (K_a.out.put hg_ N_a_r.out.symm); replace K_b := am_ (K_b.out.put hg_ N_b_r.out.symm); replace K_q := am_ (K_q.out.put hg_ N_q_r.out.symm); replace K_t := am_ (K_t.out.put hg_ N_t_r.out.symm); replace HB := am_ (HB.out.grown hg_ HB.out.size (fun k_ hk_ => by cases hk_; exact L_r.out)); replace K_r := am_ (show Bx w20 g_r A_h1 hl.length c_h1 A_hb_ hbb.length c_hb_ from hw_); clear hw_ hg_; have c_r_0 := K_r.out.c0; have c_r_1 := K_r.out.c1; have c_t_0 := K_t.out.c0; have c_t_1 := K_t.out.c1)
  | ((with_reducible refine zJ (t := 24) (p := 15) rfl ?_); refine zD rfl 24 rfl rfl g_s #[.slice A_q1 hl.length c_q1, .slice A_qb hbb.length c_qb] rfl rfl 24 _ K_s.out (info24.trans rfl) rfl (zaA _ _ _ _ _ _) ?_; intro w21 hw_ hg_; replace R_0 := am_ (R_0.out.put K_s.out hg_); replace R_1 := am_ (R_1.out.put K_s.out hg_); replace S_0 := am_ (S_0.out.put K_s.out hg_); replace S_1 := am_ (S_1.out.put K_s.out hg_); replace R_sg := am_ (R_sg.out.put K_s.out hg_); replace R_e := am_ (R_e.out.put K_s.out hg_); replace R_h0 := am_ (R_h0.out.put K_s.out hg_); replace R_ha := am_ (R_ha.out.put K_s.out hg_); replace R_h1 := am_ (R_h1.out.put K_s.out hg_); replace R_hb_ := am_ (R_hb_.out.put K_s.out hg_); replace R_q0 := am_ (R_q0.out.put K_s.out hg_); replace R_qa := am_ (R_qa.out.put K_s.out hg_); replace R_q1 := am_ (R_q1.out.put K_s.out hg_); replace R_qb := am_ (R_qb.out.put K_s.out hg_); replace K_r := am_ (K_r.out.put hg_ N_s_r.out); replace K_a := am_ (K_a.out.put hg_ N_a_s.out.symm); replace K_b := am_ (K_b.out.put hg_ N_b_s.out.symm); replace K_q := am_ (K_q.out.put hg_ N_q_s.out.symm); replace K_t := am_ (K_t.out.put hg_ N_t_s.out.symm); replace HB := am_ (HB.out.grown hg_ HB.out.size (fun k_ hk_ => by cases hk_; exact L_s.out)); replace K_s := am_ (show Bx w21 g_s A_q1 hl.length c_q1 A_qb hbb.length c_qb from hw_); clear hw_ hg_; have c_s_0 := K_s.out.c0; have c_s_1 := K_s.out.c1; have c_r_0 := K_r.out.c0; have c_r_1 := K_r.out.c1)
  | fail)
       clear R_h0 R_ha R_q0 R_qa R_0 R_1 S_0 S_1 K_a K_b K_q K_t
       have HW := HRR.out.2
       obtain ⟨wn, hwn⟩ : ∃ C, wayN hl hbb = C := ⟨_, rfl⟩
       have hwe : wayE hl hbb = 0 := by unfold wayE; rw [if_pos HW]
       obtain ⟨ee, hee⟩ : ∃ C, eE hl hbb sg d = C := ⟨_, rfl⟩
       obtain ⟨el, hel⟩ : ∃ C, eL hl hbb sg d = C := ⟨_, rfl⟩
       have M3 := am_ (show el.length ≤ 100000 by rw [← hel]; exact eL_len hl hbb sg d)
       obtain ⟨u, hu⟩ : ∃ u, decide (Win hl hbb es p) = u := ⟨_, rfl⟩
       have HU := am_ hu
       have C1 := @way_c A_h1 A_hb_ c_h1 c_hb_ hl hbb
       simp only [hwn, hwe] at C1
       have D5 := am_ C1
       clear C1
       have C1 := @rway_c A_q1 A_qb c_q1 c_qb hl hbb
       simp only [hwn, hwe] at C1
       have D6 := am_ C1
       clear C1
       have C1 := @ends_c A_h1 A_hb_ c_h1 c_hb_ hl hbb A2 c2 sg d
       simp only [hel, hee] at C1
       have D7 := am_ C1
       clear C1
       have C1 := @rends_c A_q1 A_qb c_q1 c_qb hl hbb A2 c2 sg d
       simp only [hel, hee] at C1
       have D8 := am_ C1
       clear C1
       clear hu hwn hwe hee hel HW
       refine (D5.out w21 R_h1.out R_hb_.out).mono ?_
       rintro e_ w22 ⟨rfl, hb⟩
       replace R_sg := am_ (R_sg.out.step hb); replace R_e := am_ (R_e.out.step hb); replace R_h1 := am_ (R_h1.out.step hb); replace R_hb_ := am_ (R_hb_.out.step hb); replace R_q1 := am_ (R_q1.out.step hb); replace R_qb := am_ (R_qb.out.step hb); replace K_r := am_ (K_r.out.step hb); replace K_s := am_ (K_s.out.step hb); replace HB := am_ (zh HB.out hb)
       clear hb 
       clear c_r_0 c_r_1
       have c_s_0 := K_s.out.c0
       have c_s_1 := K_s.out.c1
       go_wp2_with fail
       refine (D6.out w22 R_q1.out R_qb.out).mono ?_
       rintro e_ w23 ⟨rfl, hb⟩
       replace R_sg := am_ (R_sg.out.step hb); replace R_e := am_ (R_e.out.step hb); replace R_h1 := am_ (R_h1.out.step hb); replace R_hb_ := am_ (R_hb_.out.step hb); replace R_q1 := am_ (R_q1.out.step hb); replace R_qb := am_ (R_qb.out.step hb); replace K_r := am_ (K_r.out.step hb); replace K_s := am_ (K_s.out.step hb); replace HB := am_ (zh HB.out hb)
       clear hb 
       clear c_s_0 c_s_1
       have c_r_0 := K_r.out.c0
       have c_r_1 := K_r.out.c1
       go_wp2_with fail
       refine (D7.out w23 R_h1.out R_hb_.out R_sg.out).mono ?_
       rintro e_ w24 ⟨A_el, c_el, rfl, h0, hb⟩
       replace R_sg := am_ (R_sg.out.step hb); replace R_e := am_ (R_e.out.step hb); replace R_h1 := am_ (R_h1.out.step hb); replace R_hb_ := am_ (R_hb_.out.step hb); replace R_q1 := am_ (R_q1.out.step hb); replace R_qb := am_ (R_qb.out.step hb); replace K_r := am_ (K_r.out.step hb); replace K_s := am_ (K_s.out.step hb); replace HB := am_ (zh HB.out hb)
       have R_el := am_ h0
       clear hb h0
       clear c_r_0 c_r_1
       have c_s_0 := K_s.out.c0
       have c_s_1 := K_s.out.c1
       go_wp2_with fail
       refine (D8.out w24 R_q1.out R_qb.out R_sg.out).mono ?_
       rintro e_ w25 ⟨A_fl, c_fl, rfl, h0, hb⟩
       replace R_sg := am_ (R_sg.out.step hb); replace R_e := am_ (R_e.out.step hb); replace R_h1 := am_ (R_h1.out.step hb); replace R_hb_ := am_ (R_hb_.out.step hb); replace R_q1 := am_ (R_q1.out.step hb); replace R_qb := am_ (R_qb.out.step hb); replace R_el := am_ (R_el.out.step hb); replace K_r := am_ (K_r.out.step hb); replace K_s := am_ (K_s.out.step hb); replace HB := am_ (zh HB.out hb)
       have R_fl := am_ h0
       clear hb h0
       clear c_s_0 c_s_1
       go_wp2_with fail
       have hb : Below w25.heap.size w25 w25.drew := zaH (Below.refl _ _)
       replace R_sg := am_ (R_sg.out.step hb); replace R_e := am_ (R_e.out.step hb); replace R_h1 := am_ (R_h1.out.step hb); replace R_hb_ := am_ (R_hb_.out.step hb); replace R_q1 := am_ (R_q1.out.step hb); replace R_qb := am_ (R_qb.out.step hb); replace R_el := am_ (R_el.out.step hb); replace R_fl := am_ (R_fl.out.step hb); replace K_r := am_ (K_r.out.step hb); replace K_s := am_ (K_s.out.step hb); replace HB := am_ (zh HB.out hb)
       clear hb
       refine zaY (n := 29) (S := fun w' => w'.cell? ⟨g_r, 0, none⟩ = some (.slice A_h1 hl.length c_h1) ∧ w'.cell? ⟨g_r, 1, none⟩ = some (.slice A_hb_ hbb.length c_hb_) ∧ w'.cell? ⟨g_s, 0, none⟩ = some (.slice A_q1 hl.length c_q1) ∧ w'.cell? ⟨g_s, 1, none⟩ = some (.slice A_qb hbb.length c_qb)) (ds := []) (bl_ 29 0) (by kernel_rfl) rfl rfl ⟨K_r.out.c0, K_r.out.c1, K_s.out.c0, K_s.out.c1⟩ (fun hHeld => ?_); refine zav plays.tab22 plays.bits22 (fun HT_ HW_ => ?_)
       generalize w25.drew = w26 at R_sg R_e R_h1 R_hb_ R_q1 R_qb R_el R_fl K_r K_s HB hHeld ⊢
       refine zz (i := 0) (N := some 135) (v := ?_) (a' := ?_) (bl_ 29 1) rfl rfl (zn HT_.out (by kernel_rfl)) (fun _ _ _ h => h) (Or.inl ⟨by rfl, ?_⟩) ?_ ?_; rotate_left; (focus (intro w'; go_simp; first | done | with_reducible rfl)); rotate_left; (focus (simp only [Act.put, sI_, s0_, s1_, zl, zm]; first | done | rfl))
       refine zz (i := 1) (N := some 136) (v := ?_) (a' := ?_) (bl_ 29 3) rfl rfl (zn HT_.out (by kernel_rfl)) (fun _ _ _ h => h) (Or.inl ⟨by rfl, ?_⟩) ?_ ?_; rotate_left; (focus (intro w'; go_simp; first | done | with_reducible rfl)); rotate_left; (focus (simp only [Act.put, sI_, s0_, s1_, zl, zm]; first | done | rfl))
       refine zz (i := 2) (N := some 137) (v := ?_) (a' := ?_) (bl_ 29 7) rfl rfl (zn HT_.out (by kernel_rfl)) (fun _ _ _ h => h) (Or.inl ⟨by rfl, ?_⟩) ?_ ?_; rotate_left; (focus (intro w'; go_simp; first | done | with_reducible rfl)); rotate_left; (focus (simp only [Act.put, sI_, s0_, s1_, zl, zm]; first | done | rfl))
       refine zz (i := 3) (N := some 138) (v := ?_) (a' := ?_) (bl_ 29 15) rfl rfl (zn HT_.out (by kernel_rfl)) (fun _ _ _ h => h) (Or.inl ⟨by rfl, ?_⟩) ?_ ?_; rotate_left; (focus (intro w'; go_simp; first | done | with_reducible rfl)); rotate_left; (focus (simp only [Act.put, sI_, s0_, s1_, zl, zm]; first | done | rfl))
       refine zz (i := 4) (N := some 139) (v := ?_) (a' := ?_) (bl_ 29 31) rfl rfl (zn HT_.out (by kernel_rfl)) (fun _ _ _ h => h) (Or.inl ⟨by rfl, ?_⟩) ?_ ?_; rotate_left; (focus (intro w'; go_simp; first | done | with_reducible rfl)); rotate_left; (focus (simp only [Act.put, sI_, s0_, s1_, zl, zm]; first | done | rfl))
       refine zz (i := 5) (N := some 140) (v := ?_) (a' := ?_) (bl_ 29 63) rfl rfl (zn HT_.out (by kernel_rfl)) (fun _ _ _ h => h) (Or.inl ⟨by rfl, ?_⟩) ?_ ?_; rotate_left; (focus (intro w'; go_simp; first | done | with_reducible rfl)); rotate_left; (focus (simp only [Act.put, sI_, s0_, s1_, zl, zm]; first | done | rfl))
       refine zz (i := 6) (N := some 141) (v := ?_) (a' := ?_) (bl_ 29 127) rfl rfl (zn HT_.out (by kernel_rfl)) (fun _ _ _ h => h) (Or.inl ⟨by rfl, ?_⟩) ?_ ?_; rotate_left; (focus (intro w'; go_simp; first | done | with_reducible rfl)); rotate_left; (focus (simp only [Act.put, sI_, s0_, s1_, zl, zm]; first | done | rfl))
       refine zz (i := 7) (N := some 142) (v := ?_) (a' := ?_) (bl_ 29 255) rfl rfl (zn HT_.out (by kernel_rfl)) (fun _ _ _ h => h) (Or.inl ⟨by rfl, ?_⟩) ?_ ?_; rotate_left; (focus (intro w'; go_simp; first | done | with_reducible rfl)); rotate_left; (focus (simp only [Act.put, sI_, s0_, s1_, zl, zm]; first | done | rfl))
       refine zz (i := 8) (N := some 143) (v := ?_) (a' := ?_) (bl_ 29 511) rfl rfl (zn HT_.out (by kernel_rfl)) (fun _ _ _ h => h) (Or.inl ⟨by rfl, ?_⟩) ?_ ?_; rotate_left; (focus (intro w'; go_simp; first | done | with_reducible rfl)); rotate_left; (focus (simp only [Act.put, sI_, s0_, s1_, zl, zm]; first | done | rfl))
       refine zz (i := 9) (N := some 144) (v := ?_) (a' := ?_) (bl_ 29 1023) rfl rfl (zn HT_.out (by kernel_rfl)) (fun _ _ _ h => h) (Or.inl ⟨by rfl, ?_⟩) ?_ ?_; rotate_left; (focus (intro w'; go_simp; first | done | with_reducible rfl)); rotate_left; (focus (simp only [Act.put, sI_, s0_, s1_, zl, zm]; first | done | rfl))
       refine zz (i := 10) (N := some 145) (v := ?_) (a' := ?_) (bl_ 29 2047) rfl rfl (zn HT_.out (by kernel_rfl)) (fun _ _ _ h => h) (Or.inl ⟨by rfl, ?_⟩) ?_ ?_; rotate_left; (focus (intro w'; go_simp; first | done | with_reducible rfl)); rotate_left; (focus (simp only [Act.put, sI_, s0_, s1_, zl, zm]; first | done | rfl))
       refine zz (i := 11) (N := some 146) (v := ?_) (a' := ?_) (bl_ 29 4095) rfl rfl (zn HT_.out (by kernel_rfl)) (fun _ _ _ h => h) (Or.inl ⟨by rfl, ?_⟩) ?_ ?_; rotate_left; (focus (intro w'; go_simp; first | done | with_reducible rfl)); rotate_left; (focus (simp only [Act.put, sI_, s0_, s1_, zl, zm]; first | done | rfl))
       refine zz (i := 12) (N := some 147) (v := ?_) (a' := ?_) (bl_ 29 8191) rfl rfl (zn HT_.out (by kernel_rfl)) (fun _ _ _ h => h) (Or.inl ⟨by rfl, ?_⟩) ?_ ?_; rotate_left; (focus (intro w'; go_simp; first | done | with_reducible rfl)); rotate_left; (focus (simp only [Act.put, sI_, s0_, s1_, zl, zm]; first | done | rfl))
       refine zz (i := 13) (N := some 148) (v := ?_) (a' := ?_) (bl_ 29 16383) rfl rfl (zn HT_.out (by kernel_rfl)) (fun _ _ _ h => h) (Or.inl ⟨by rfl, ?_⟩) ?_ ?_; rotate_left; (focus (intro w'; go_simp; first | done | with_reducible rfl)); rotate_left; (focus (simp only [Act.put, sI_, s0_, s1_, zl, zm]; first | done | rfl))
       refine zz (i := 14) (N := some 149) (v := ?_) (a' := ?_) (bl_ 29 32767) rfl rfl (zn HT_.out (by kernel_rfl)) (fun _ _ _ h => h) (Or.inl ⟨by rfl, ?_⟩) ?_ ?_; rotate_left; (focus (intro w'; go_simp; first | done | with_reducible rfl)); rotate_left; (focus (simp only [Act.put, sI_, s0_, s1_, zl, zm]; first | done | rfl))
       refine one_ (i := 15) (N := some 150) (bl_ 29 65535) rfl rfl (zae HT_.out (by kernel_rfl)) (by decide) (fun K hK => ?_)
       refine zbc Try.func23 (by kernel_rfl) rfl #[.slice A_el el.length c_el, .slice A_fl el.length c_fl] (by rfl) rfl rfl (by (try simp only [List.map_toArray, List.map_cons, List.map_nil]); first | done | rfl) ?_
       refine (ints_c w26 R_el.out R_fl.out M3.out).mono ?_
       rintro e_ w27 ⟨rfl, hb⟩
       refine ⟨_, rfl, ?_⟩
       replace R_sg := am_ (R_sg.out.step hb); replace R_e := am_ (R_e.out.step hb); replace R_h1 := am_ (R_h1.out.step hb); replace R_hb_ := am_ (R_hb_.out.step hb); replace R_q1 := am_ (R_q1.out.step hb); replace R_qb := am_ (R_qb.out.step hb); replace R_el := am_ (R_el.out.step hb); replace R_fl := am_ (R_fl.out.step hb); replace K_r := am_ (K_r.out.step hb); replace K_s := am_ (K_s.out.step hb); replace HB := am_ (zh HB.out hb)
       clear hb 
       refine hK.out _ _ ⟨K_r.out.c0, K_r.out.c1, K_s.out.c0, K_s.out.c1⟩ (fun hHeld => ?_); clear hK K
       refine zZ (a' := ?_) ?_ ?_; rotate_left; (focus (show Act.put _ (some 150) _ = _; simp only [Act.put, sI_, s0_, s1_, zl, zm]; first | done | rfl))
       refine zz (i := 16) (N := some 151) (v := ?_) (a' := ?_) (bl_ 29 131071) rfl rfl (zn HT_.out (by kernel_rfl)) (fun _ _ _ h => h) (Or.inl ⟨by rfl, ?_⟩) ?_ ?_; rotate_left; (focus (intro w'; go_simp; first | done | with_reducible rfl)); rotate_left; (focus (simp only [Act.put, sI_, s0_, s1_, zl, zm]; first | done | rfl))
       refine zz (i := 17) (N := some 152) (v := ?_) (a' := ?_) (bl_ 29 262143) rfl rfl (zn HT_.out (by kernel_rfl)) (fun _ _ _ h => h) (Or.inl ⟨by rfl, ?_⟩) ?_ ?_; rotate_left; (focus (intro w'; go_simp; first | done | with_reducible rfl)); rotate_left; (focus (simp only [Act.put, sI_, s0_, s1_, zl, zm]; first | done | rfl))
       refine zz (i := 18) (N := some 153) (v := ?_) (a' := ?_) (bl_ 29 524287) rfl rfl (zn HT_.out (by kernel_rfl)) (fun _ _ _ h => h) (Or.inl ⟨by rfl, ?_⟩) ?_ ?_; rotate_left; (focus (intro w'; go_simp; first | done | with_reducible rfl)); rotate_left; (focus (simp only [Act.put, sI_, s0_, s1_, zl, zm]; first | done | rfl))
       refine zz (i := 20) (N := some 155) (v := ?_) (a' := ?_) (bl_ 29 1572863) rfl rfl (zn HT_.out (by kernel_rfl)) (fun _ _ _ h => h) (Or.inl ⟨by rfl, ?_⟩) ?_ ?_; rotate_left; (focus (intro w'; go_simp; first | done | with_reducible rfl)); rotate_left; (focus (simp only [Act.put, sI_, s0_, s1_, zl, zm]; first | done | rfl))
       refine zz (i := 21) (N := some 156) (v := ?_) (a' := ?_) (bl_ 29 3670015) rfl rfl (zn HT_.out (by kernel_rfl)) (fun _ _ _ h => h) (Or.inl ⟨by rfl, ?_⟩) ?_ ?_; rotate_left; (focus (intro w'; go_simp; first | done | with_reducible rfl)); rotate_left; (focus (simp only [Act.put, sI_, s0_, s1_, zl, zm]; first | done | rfl))
       refine zz (i := 24) (N := some 159) (v := ?_) (a' := ?_) (bl_ 29 20447231) rfl rfl (zn HT_.out (by kernel_rfl)) (fun _ _ _ h => h) (Or.inl ⟨by rfl, ?_⟩) ?_ ?_; rotate_left; (focus (intro w'; go_simp; first | done | with_reducible rfl)); rotate_left; (focus (simp only [Act.put, sI_, s0_, s1_, zl, zm]; first | done | rfl))
       refine zz (i := 25) (N := some 160) (v := ?_) (a' := ?_) (bl_ 29 54001663) rfl rfl (zn HT_.out (by kernel_rfl)) (fun _ _ _ h => h) (Or.inl ⟨by rfl, ?_⟩) ?_ ?_; rotate_left; (focus (intro w'; go_simp; first | done | with_reducible rfl)); rotate_left; (focus (simp only [Act.put, sI_, s0_, s1_, zl, zm]; first | done | rfl))
       refine zau (i := 19) (N := some 154) (v := ?_) (a' := ?_) (bl_ 29 54525951) rfl rfl (zR HT_.out HW_.out (by kernel_rfl)) (fun _ _ _ h => h) (Or.inl ⟨by rfl, ?_⟩) hHeld ?_ ?_; rotate_left; (focus (rintro w' ⟨s0, s1, s2, s3⟩; go_simp; first | done | with_reducible rfl)); rotate_left; (focus (simp only [Act.put, sI_, s0_, s1_, zl, zm]; first | done | rfl))
       refine zau (i := 23) (N := some 158) (v := ?_) (a' := ?_) (bl_ 29 62914559) rfl rfl (zR HT_.out HW_.out (by kernel_rfl)) (fun _ _ _ h => h) (Or.inl ⟨by rfl, ?_⟩) hHeld ?_ ?_; rotate_left; (focus (rintro w' ⟨s0, s1, s2, s3⟩; go_simp; first | done | with_reducible rfl)); rotate_left; (focus (simp only [Act.put, sI_, s0_, s1_, zl, zm]; first | done | rfl))
       refine one_ (i := 22) (N := some 157) (bl_ 29 67108863) rfl rfl (zae HT_.out (by kernel_rfl)) (by decide) (fun K hK => ?_)
       refine zbc Try.func24 (by kernel_rfl) rfl #[.agg #[.slice A_h1 hl.length c_h1, .slice A_hb_ hbb.length c_hb_], .slice A4 es.length c4, .int .i64 p] (by rfl) rfl rfl (by (try simp only [List.map_toArray, List.map_cons, List.map_nil]); first | done | rfl) ?_
       refine (win_c p w27 R_h1.out R_hb_.out R_e.out HI.out HU.out).mono ?_
       rintro e_ w28 ⟨rfl, hb⟩
       refine ⟨_, rfl, ?_⟩
       replace R_sg := am_ (R_sg.out.step hb); replace R_e := am_ (R_e.out.step hb); replace R_h1 := am_ (R_h1.out.step hb); replace R_hb_ := am_ (R_hb_.out.step hb); replace R_q1 := am_ (R_q1.out.step hb); replace R_qb := am_ (R_qb.out.step hb); replace R_el := am_ (R_el.out.step hb); replace R_fl := am_ (R_fl.out.step hb); replace K_r := am_ (K_r.out.step hb); replace K_s := am_ (K_s.out.step hb); replace HB := am_ (zh HB.out hb)
       clear hb 
       refine hK.out _ _ ⟨K_r.out.c0, K_r.out.c1, K_s.out.c0, K_s.out.c1⟩ (fun hHeld => ?_); clear hK K
       refine zZ (a' := ?_) ?_ ?_; rotate_left; (focus (show Act.put _ (some 157) _ = _; simp only [Act.put, sI_, s0_, s1_, zl, zm]; first | done | rfl))
       refine one_ (i := 26) (N := some 161) (bl_ 29 134217727) rfl rfl (zae HT_.out (by kernel_rfl)) (by decide) (fun K hK => ?_)
       refine zbc Try.func25 (by kernel_rfl) rfl #[.agg #[.slice A_q1 hl.length c_q1, .slice A_qb hbb.length c_qb], .slice A4 es.length c4, .int .i64 p] (by rfl) rfl rfl (by (try simp only [List.map_toArray, List.map_cons, List.map_nil]); first | done | rfl) ?_
       refine (rwin_c p w28 R_q1.out R_qb.out R_e.out HI.out HU.out).mono ?_
       rintro e_ w29 ⟨rfl, hb⟩
       refine ⟨_, rfl, ?_⟩
       replace R_sg := am_ (R_sg.out.step hb); replace R_e := am_ (R_e.out.step hb); replace R_h1 := am_ (R_h1.out.step hb); replace R_hb_ := am_ (R_hb_.out.step hb); replace R_q1 := am_ (R_q1.out.step hb); replace R_qb := am_ (R_qb.out.step hb); replace R_el := am_ (R_el.out.step hb); replace R_fl := am_ (R_fl.out.step hb); replace K_r := am_ (K_r.out.step hb); replace K_s := am_ (K_s.out.step hb); replace HB := am_ (zh HB.out hb)
       clear hb 
       refine hK.out _ _ ⟨K_r.out.c0, K_r.out.c1, K_s.out.c0, K_s.out.c1⟩ (fun hHeld => ?_); clear hK K
       refine zZ (a' := ?_) ?_ ?_; rotate_left; (focus (show Act.put _ (some 161) _ = _; simp only [Act.put, sI_, s0_, s1_, zl, zm]; first | done | rfl))
       refine zz (i := 27) (N := some 162) (v := ?_) (a' := ?_) (bl_ 29 268435455) rfl rfl (zn HT_.out (by kernel_rfl)) (fun _ _ _ h => h) (Or.inl ⟨by rfl, ?_⟩) ?_ ?_; rotate_left; (focus (intro w'; go_simp; first | done | with_reducible rfl)); rotate_left; (focus (simp only [Act.put, sI_, s0_, s1_, zl, zm]; first | done | rfl))
       refine zz (i := 28) (N := some 163) (v := ?_) (a' := ?_) (bl_ 29 536870911) rfl rfl (zn HT_.out (by kernel_rfl)) (fun _ _ _ h => h) (Or.inl ⟨by rfl, ?_⟩) ?_ ?_; rotate_left; (focus (intro w'; go_simp; first | done | with_reducible rfl)); rotate_left; (focus (simp only [Act.put, sI_, s0_, s1_, zl, zm]; first | done | rfl))
       refine done_ (zaL HT_.out (by kernel_rfl)) ?_
       go_wp2_with fail
       go_roundg (gk - 1)
       case measure => have := hm.out; have := HJ.out; omega
       case rel => exact ⟨(j : Int) + 1, hl, hbb, A_h1, A_hb_, A_q1, A_qb, c_h1, c_hb_, c_q1, c_qb, by rw [show wrap64 ((j : Int) + 1) = (j : Int) + 1 from w64 _ (by omega) (by have := HJ.out; omega)], ⟨by have := hm.out; have := HJ.out; omega⟩, K_r, K_s, R_h1, R_hb_, R_q1, R_qb, R_sg, R_e, HB⟩
     ·have heb : (E != 0) = true := bne_iff_ne.2 hE0
      clear hE0
      go_wp2_with fail
      go_roundg (gk - 1)
      case measure => have := hm.out; have := HJ.out; omega
      case rel => exact ⟨(j : Int) + 1, lv, at_, A0, A1, B0, B1, c0, c1, d0, d1, by rw [show wrap64 ((j : Int) + 1) = (j : Int) + 1 from w64 _ (by omega) (by have := HJ.out; omega)], ⟨by have := hm.out; have := HJ.out; omega⟩, K_r, K_s, R_0, R_1, S_0, S_1, R_sg, R_e, HB⟩
    ·have hgb : (G == 0) = false := beq_eq_false_iff_ne.2 hg0
     clear hx hx4 hg0
     go_wp2_with fail
     go_ret
     exact ⟨by first | done | rfl, HB.out⟩
   ·have hx4b : decide (x < 40) = false := decide_eq_false hx4
    clear hx hx4
    go_wp2_with fail
    go_ret
    exact ⟨by first | done | rfl, HB.out⟩
  ·have hxb : decide (x < (l1.length : Int)) = false := decide_eq_false hx
   clear hx
   go_wp2_with fail
   go_ret
   exact ⟨by first | done | rfl, HB.out⟩
end Go.Proofs.Ytlidbaejhmamjaa.LW

namespace Go.Proofs.Ytlidbaejhmamjaa.LW
open Go.RowKit Go.ChangeShapes Go.WideShapes Go.Proofs.YtlidbaejhmamjaaW.PrintWords Go.Proofs.YtlidbaejhmamjaaW.PrintLast Go.Proofs.YtlidbaejhmamjaaW.PrintMore Go.Proofs.Ytlidbaejhmamjaa.PB Go.Proofs.Ytlidbaejhmamjaa.LA Go.Proofs.Ytlidbaejhmamjaa.AC
set_option linter.unusedVariables false
set_option linter.unusedSimpArgs false
section
variable {H : Type} {enc : TypeId × Value → H} {W : World} {base : Nat} {spare : Nat → Bool} {held : Bool}
theorem wf_i64 {n : Int} (h : (Lit.int .i64 n).wf = true) : -9223372036854775808 ≤ n ∧ n < 9223372036854775808 := by
 simp [Lit.wf, IntKind.min, IntKind.max, IntKind.signed, IntKind.bits] at h
 omega
theorem ints_of_trod {fuel : Nat} {v : Value} {x : DataW H × List MemPlace} (h : DataW.trod enc Try.prog W base spare held fuel 22 [v] = some x) : ∃ A c xs, v = .slice A xs.length c ∧ Rd W A c xs ∧ I64 xs := by
 rcases open_ints Try.underlying22 Try.underlying3 (by kernel_rfl) h with ⟨hcs, _⟩ | ⟨a, len, cap, zs, hcs, _, hl, hm, hz, _, hcell, hwz⟩
 ·obtain rfl := (List.cons.inj hcs).1
  exact ⟨none, 0, [], rfl, ⟨Kd.C_nil _ _, Nat.le_refl _⟩, fun x hx => by simp at hx⟩
 ·obtain rfl := (List.cons.inj hcs).1
  have hlz : len ≤ zs.length := by rw [hz]; split <;> omega
  have hlen : (zs.take len).length = len := by rw [List.length_take]; omega
  refine ⟨some a, cap, zs.take len, by rw [hlen], ⟨⟨rfl, by rw [hlen]; simp [maxLen] at hm; omega, fun _ => ⟨a, rfl, fun j p hj => ⟨[.int .i64 p], rfl, rfl, fun i u hu => ?_⟩⟩⟩, by rw [hlen]; exact hl⟩, fun x hx => wf_i64 (hwz x (List.mem_of_mem_take hx))⟩
  cases i with
  | succ i => cases hu
  | zero =>
   obtain rfl := Option.some.inj hu
   have hj2 : j < (zs.take len).length := by
    rcases Nat.lt_or_ge j (zs.take len).length with h1 | h1
    ·exact h1
    ·rw [List.getElem?_eq_none h1] at hj; cases hj
   have hj3 : zs[j]? = some p := by
    rw [List.getElem?_take] at hj
    split at hj
    ·exact hj
    ·cases hj
   have := hcell j (by omega)
   rw [List.getD_eq_getElem?_getD, hj3] at this
   show W.cell? (a.add (j * 1 + 0)) = _
   rw [Nat.mul_one, Nat.add_zero]
   exact this
theorem turns_of_trod {fuel : Nat} {v : Value} {x : DataW H × List MemPlace} (h : DataW.trod enc Try.prog W base spare held fuel 50 [v] = some x) : ∃ (A : Option Addr) (c : Nat) (xs : List S52), v = .slice A xs.length c ∧ xs.length ≤ c ∧ Kd.C k52 W A xs.length xs := by
 rcases Deep.open_slice_pairs Try.underlying50 Try.underlying52 (by kernel_rfl) rfl rfl (by kernel_rfl) (by kernel_rfl) h with ⟨hcs, _⟩ | ⟨a, len, cap, m, n, V0, V1, D0, D1, P0, P1, hcs, _, hl, hm, hmm, _, hcell⟩
 ·obtain rfl := (List.cons.inj hcs).1
  exact ⟨none, 0, [], rfl, Nat.le_refl _, Kd.C_nil _ _⟩
 ·obtain rfl := (List.cons.inj hcs).1
  have hlm : len ≤ m := by rw [hmm]; split <;> omega
  have each : ∀ i, i < len → ∃ q : Int × Bool, W.cell? (a.add (i * 2)) = some (.int .i64 q.1) ∧ W.cell? (a.add (i * 2 + 1)) = some (.bool q.2) := by
   intro i hi
   obtain ⟨h0, h1, t0, t1⟩ := hcell i (by omega)
   obtain ⟨z, e0, _, _⟩ := DataW.trod_int Try.underlying3 t0
   obtain ⟨b, e1, _⟩ := DataW.trod_bool Try.underlying4 t1
   obtain e0 := (List.cons.inj e0).1
   obtain e1 := (List.cons.inj e1).1
   exact ⟨(z, b), by rw [h0, e0], by rw [h1, e1]⟩
  obtain ⟨q, hq⟩ := Deep.choose_lt each
  have hlen : ((List.range len).map fun i => (⟨(q i).1, (q i).2⟩ : S52)).length = len := by simp
  refine ⟨some a, cap, (List.range len).map fun i => ⟨(q i).1, (q i).2⟩, by rw [hlen], by rw [hlen]; exact hl, ⟨rfl, by rw [hlen]; simp [maxLen] at hm; omega, fun _ => ⟨a, rfl, fun j p hj => ⟨[.int .i64 p.f0, .bool p.f1], rfl, k52_mk _ _, fun i u hu => ?_⟩⟩⟩⟩
  have hj2 : j < len := by
   rcases Nat.lt_or_ge j len with h1 | h1
   ·exact h1
   ·rw [List.getElem?_eq_none (by rw [hlen]; exact h1)] at hj; cases hj
  have hp : p = ⟨(q j).1, (q j).2⟩ := by
   rw [List.getElem?_map, List.getElem?_range hj2] at hj
   exact (Option.some.inj hj).symm
  subst hp
  match i with
  | 0 => obtain rfl := Option.some.inj hu; exact (hq j hj2).1
  | 1 => obtain rfl := Option.some.inj hu; exact (hq j hj2).2
  | i + 2 => cases hu
end
end Go.Proofs.Ytlidbaejhmamjaa.LW
