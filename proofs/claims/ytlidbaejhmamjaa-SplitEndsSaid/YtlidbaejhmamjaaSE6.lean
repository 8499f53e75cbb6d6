/- Part 6 of the proof of SplitEnds: what the functions below it compute, each shown by a walk or by plain reasoning; no condition of its own. -/
import Derived.Test.YtlidbaejhmamjaaSE5
import Derived.Test.YtlidbaejhmamjaaSE4
import Derived.Deep.SlicePairs
import Derived.Lib.SmallJoins
import Derived.ChangeSlices
import Derived.ProofKit
namespace Go.Proofs.Ytlidbaejhmamjaa.LA
open Go.RowKit Go.Proofs.YtlidbaejhmamjaaW.PrintWords Go.Proofs.YtlidbaejhmamjaaW.PrintLast Go.Proofs.YtlidbaejhmamjaaW.PrintMore Go.Proofs.Ytlidbaejhmamjaa.PB
set_option linter.unusedVariables false
set_option linter.unusedSimpArgs false
/-- A point of one symbol's part, in parts of 2 to the depth. -/
def endv (d l a s : Int) : Int := (2 * a + 1 + s) * 2 ^ (d - l).toNat - 2 ^ d.toNat
def EOk (lv at_ sg : List Int) (d : Int) : Prop := Reg lv at_ ∧ sg.length = lv.length ∧ (∀ i, i < sg.length → -1 ≤ rd sg (i : Nat) ∧ rd sg (i : Nat) ≤ 1) ∧ 0 ≤ d ∧ d ≤ 8 ∧ ∀ i, i < lv.length → rd lv (i : Nat) ≤ d
instance (lv at_ sg : List Int) (d : Int) : Decidable (EOk lv at_ sg d) := by unfold EOk; infer_instance
def eE (lv at_ sg : List Int) (d : Int) : Int := if EOk lv at_ sg d then 0 else if Reg lv at_ then (if sg.length = lv.length then 1 else 63) else 180
def eRow (lv at_ sg : List Int) (d : Int) (i : Nat) : Int := endv d (rd lv (i : Nat)) (rd at_ (i : Nat)) (rd sg (i : Nat))
def eL (lv at_ sg : List Int) (d : Int) : List Int := if EOk lv at_ sg d then (List.range lv.length).map (eRow lv at_ sg d) else []
theorem pow_256 (n : Nat) (h : n ≤ 8) : (0 : Int) < 2 ^ n ∧ (2 : Int) ^ n ≤ 256 := by
  have h4 : (2 : Int) ^ n ≤ 2 ^ 8 := by
    have := Nat.pow_le_pow_right (n := 2) (by decide) h
    exact_mod_cast this
  have e : (2 : Int) ^ 8 = 256 := by decide
  exact ⟨Int.pow_pos (by decide), by omega⟩
theorem mul_256 (x : Int) (n : Nat) (h : n ≤ 8) (h0 : -1000 ≤ x) (h1 : x ≤ 1000) : -256000 ≤ x * 2 ^ n ∧ x * 2 ^ n ≤ 256000 := by
  obtain ⟨p0, p1⟩ := pow_256 n h
  generalize (2 : Int) ^ n = P at *
  have a1 : x * P ≤ 1000 * P := Int.mul_le_mul_of_nonneg_right h1 (by omega)
  have a2 : -1000 * P ≤ x * P := Int.mul_le_mul_of_nonneg_right h0 (by omega)
  omega
theorem shl_eq (x n : Int) (h0 : 0 ≤ n) (h8 : n ≤ 8) (x0 : -1000 ≤ x) (x1 : x ≤ 1000) : shl .i64 x n = x * 2 ^ n.toNat := by
  obtain ⟨m, rfl⟩ : ∃ m : Nat, n = m := ⟨n.toNat, by omega⟩
  show IntKind.i64.wrap (x * 2 ^ min (m : Int).toNat 64) = _
  rw [Int.toNat_natCast, Nat.min_eq_left (by omega), i64_w, w64]
  · have := (mul_256 x m (by omega) x0 x1).1; omega
  · have := (mul_256 x m (by omega) x0 x1).2; omega
theorem Max_ev (l : List Int) (h : 0 < l.length) (hn : l.length ≤ 256) : ∃ m, EvS (fun k => slices_Max_int_int.f k l) m ∧ (∀ i : Nat, i < l.length → rd l (i : Nat) ≤ m) ∧ ∃ i : Nat, i < l.length ∧ rd l (i : Nat) = m := by
  have key : ∀ n (i : Nat) (x : Int), n + i = l.length → 0 < i → (∀ j : Nat, j < i → rd l (j : Nat) ≤ x) → (∃ j : Nat, j < i ∧ rd l (j : Nat) = x) →
      ∃ m, EvS (fun k => slices_Max_int_int.l0 k l x (i : Int)) m ∧ (∀ i : Nat, i < l.length → rd l (i : Nat) ≤ m) ∧ ∃ i : Nat, i < l.length ∧ rd l (i : Nat) = m := by
    intro n
    induction n with
    | zero =>
      intro i x hi _ h1 h2
      obtain rfl : i = l.length := by omega
      exact ⟨x, EvS.done fun k => by simp only [slices_Max_int_int.l0]; rw [if_neg (by omega)], h1, h2⟩
    | succ n ih =>
      intro i x hi hp h1 h2
      obtain ⟨m, hm, hm1, hm2⟩ := ih (i + 1) (mx x (rd l (i : Int))) (by omega) (by omega) (fun j hj => by
        unfold mx
        by_cases hji : j = i
        · subst hji; split <;> omega
        · have := h1 j (by omega); split <;> omega) (by
        unfold mx
        split
        · exact ⟨i, by omega, rfl⟩
        · obtain ⟨j, hj, e⟩ := h2; exact ⟨j, by omega, e⟩)
      refine ⟨m, EvS.succ (fun k => ?_) hm, hm1, hm2⟩
      simp only [slices_Max_int_int.l0]
      rw [if_pos (by omega), if_pos (by omega), wnext i (by omega)]
  have one : ∀ j : Nat, j < 1 → rd l (j : Nat) ≤ rd l 0 := fun j hj => by
    have : j = 0 := by omega
    subst this
    exact Int.le_refl _
  obtain ⟨m, hm, r⟩ := key (l.length - 1) 1 (rd l 0) (by omega) (by omega) one ⟨0, by omega, rfl⟩
  refine ⟨m, ?_, r⟩
  unfold slices_Max_int_int.f
  simp only [if_neg (show ¬ (l.length : Int) < 1 by omega)]
  refine EvS.succ (fun k => ?_) hm
  simp only [slices_Max_int_int.j0]
  rw [if_pos (by omega)]
  rfl
section
variable (lv at_ sg : List Int) (d : Int)
theorem e_bad (hr : Reg lv at_) (hl : sg.length = lv.length) (h : ¬ EOk lv at_ sg d) : (eL lv at_ sg d, eE lv at_ sg d) = ([], 1) := by
  unfold eL eE
  rw [if_neg h, if_neg h, if_pos hr, if_pos hl]
/-- One point of the list, as the program reckons it. -/
theorem one_end (l a s : Int) (hf : Fit l a) (hs : -1 ≤ s ∧ s ≤ 1) (hl : l ≤ d) (d0 : 0 ≤ d) (d8 : d ≤ 8) :
    wrap64 (d - l) = d - l ∧ wrap64 (wrap64 (wrap64 (2 * a) + 1) + s) = 2 * a + 1 + s ∧ shl .i64 (2 * a + 1 + s) (d - l) = (2 * a + 1 + s) * 2 ^ (d - l).toNat ∧ shl .i64 (-1) d = -2 ^ d.toNat ∧ shl .i64 1 d = 2 ^ d.toNat ∧
      wrap64 (-2 ^ d.toNat + (2 * a + 1 + s) * 2 ^ (d - l).toNat) = endv d l a s ∧ wrap64 ((2 * a + 1 + s) * 2 ^ (d - l).toNat - 2 ^ d.toNat) = endv d l a s := by
  have ha := fit_at hf
  have h0 := hf.1
  have p := pow_256 d.toNat (by omega)
  have q := mul_256 (2 * a + 1 + s) (d - l).toNat (by omega) (by omega) (by omega)
  refine ⟨w64 _ (by omega) (by omega), ?_, shl_eq _ _ (by omega) (by omega) (by omega) (by omega), ?_, ?_, ?_, ?_⟩
  · rw [w64 (2 * a) (by omega) (by omega), w64 (2 * a + 1) (by omega) (by omega), w64 _ (by omega) (by omega)]
  · rw [shl_eq _ _ d0 d8 (by omega) (by omega)]; omega
  · rw [shl_eq _ _ d0 d8 (by omega) (by omega)]; omega
  · unfold endv; rw [w64 _ (by omega) (by omega)]; omega
  · unfold endv; rw [w64 _ (by omega) (by omega)]
theorem Ends_ev : EvS (fun k => split_Ends.f k lv at_ sg d) (eL lv at_ sg d, eE lv at_ sg d) := by
  unfold split_Ends.f
  refine EvS.bind (Check_ev lv at_ _) ?_
  rw [chk_self]
  by_cases hr : Reg lv at_
  · simp only [if_pos hr, if_true]
    by_cases hl : sg.length = lv.length
    · simp only [if_pos (show (sg.length : Int) = (lv.length : Int) by omega)]
      have hn := hr.1
      have bad : ¬ EOk lv at_ sg d → EvS (fun k => split_Ends.j1 k sg d true lv at_) (eL lv at_ sg d, eE lv at_ sg d) := fun h => by
        rw [e_bad lv at_ sg d hr hl h]
        exact EvS.done fun k => by simp only [split_Ends.j1]; rfl
      have good : EOk lv at_ sg d → EvS (fun k => split_Ends.j1 k sg d false lv at_) (eL lv at_ sg d, eE lv at_ sg d) := fun h => by
        unfold eL eE
        simp only [if_pos h]
        refine EvS.succ (fun k => by simp only [split_Ends.j1]; rfl) ?_
        simp only [Bool.false_eq_true, if_false, if_pos (show 0 ≤ (sg.length : Int) by omega), Int.toNat_natCast, if_pos (show sg.length ≤ 35184372088832 by omega)]
        refine EvS.bind (parts_ev lv at_ hr.2.1 hr.1) ?_
        rw [pz_length lv at_ hr.2.1]
        have key : ∀ m i : Nat, m + i = lv.length → EvS (fun k => split_Ends.l1 k sg d (((List.range lv.length).map (eRow lv at_ sg d)).take i ++ List.replicate (lv.length - i) 0) (pz lv at_) (lv.length : Int) (i : Int)) ((List.range lv.length).map (eRow lv at_ sg d), 0) := by
          intro m
          induction m with
          | zero =>
            intro i hi
            rw [List.take_of_length_le (by simp; omega), show lv.length - i = 0 by omega]
            exact EvS.done fun k => by simp only [split_Ends.l1]; rw [if_neg (by omega)]; simp
          | succ m ih =>
            intro i hi
            refine EvS.succ (fun k => ?_) (ih (i + 1) (by omega))
            have hp := pz_rd lv at_ i (by omega) (by have := hr.2.1; omega)
            obtain ⟨e1, e2, e3, e4, e5, e6, e7⟩ := one_end d (rd lv (i : Int)) (rd at_ (i : Int)) (rd sg (i : Int)) (hr.2.2 i (by omega)) (h.2.2.1 i (by omega)) (h.2.2.2.2.2 i (by omega)) h.2.2.2.1 h.2.2.2.2.1
            have hs := set_step ((List.range lv.length).map (eRow lv at_ sg d)) i (by simp; omega)
            simp only [List.length_map, List.length_range, List.getElem_map, List.getElem_range] at hs
            simp only [split_Ends.l1, hp]
            rw [if_pos (by omega), if_pos (by omega), if_pos (by rw [pz_length lv at_ hr.2.1]; omega), if_pos h.2.2.2.1, if_pos (by omega), e1, if_pos (by have := h.2.2.2.2.2 i (by omega); omega), if_pos (by simp; omega), e2, e3, e4, e6, wnext i (by omega), Int.toNat_natCast]
            rw [← hs]
            rfl
        have := key lv.length 0 (by omega)
        rw [hl]
        simpa using this
      have key : ∀ m i : Nat, m + i = sg.length → (∀ j : Nat, j < i → -1 ≤ rd sg (j : Nat) ∧ rd sg (j : Nat) ≤ 1) → EvS (fun k => split_Ends.l0 k sg d sg (sg.length : Int) (i : Int) lv at_) (eL lv at_ sg d, eE lv at_ sg d) := by
        intro m
        induction m with
        | zero =>
          intro i hi hall
          obtain rfl : i = sg.length := by omega
          by_cases d0 : d < 0
          · refine EvS.succ (fun k => ?_) (bad (fun h => by have := h.2.2.2.1; omega))
            simp only [split_Ends.l0]
            rw [if_neg (by omega), if_pos d0]
          · by_cases d8 : d > 8
            · refine EvS.succ (fun k => ?_) (bad (fun h => by have := h.2.2.2.2.1; omega))
              simp only [split_Ends.l0]
              rw [if_neg (by omega), if_neg d0, if_pos d8]
            · by_cases hz : (lv.length : Int) > 0
              · refine EvS.succ (fun k => by simp only [split_Ends.l0]; rw [if_neg (by omega), if_neg d0, if_neg d8, if_pos hz]) ?_
                obtain ⟨x, hx, hx1, i, hi1, hx2⟩ := Max_ev lv (by omega) hn
                refine EvS.bind hx ?_
                by_cases hd : d < x
                · rw [decide_eq_true hd]
                  exact bad (fun h => by have := h.2.2.2.2.2 i hi1; omega)
                · rw [decide_eq_false hd]
                  exact good ⟨hr, hl, hall, by omega, by omega, fun i hi => by have := hx1 i hi; omega⟩
              · refine EvS.succ (fun k => ?_) (good ⟨hr, hl, hall, by omega, by omega, fun i hi => by omega⟩)
                simp only [split_Ends.l0]
                rw [if_neg (by omega), if_neg d0, if_neg d8, if_neg hz]
        | succ m ih =>
          intro i hi hall
          by_cases s0 : rd sg (i : Int) < -1
          · rw [e_bad lv at_ sg d hr hl (fun h => by have := h.2.2.1 i (by omega); omega)]
            exact EvS.done fun k => by
              simp only [split_Ends.l0]
              rw [if_pos (by omega), if_pos (by omega), if_pos (by omega), if_pos s0]
          · by_cases s1 : rd sg (i : Int) > 1
            · rw [e_bad lv at_ sg d hr hl (fun h => by have := h.2.2.1 i (by omega); omega)]
              exact EvS.done fun k => by
                simp only [split_Ends.l0]
                rw [if_pos (by omega), if_pos (by omega), if_pos (by omega), if_neg s0, if_pos s1]
            · refine EvS.succ (fun k => ?_) (ih (i + 1) (by omega) (fun j hj => by
                by_cases hji : j = i
                · subst hji; omega
                · exact hall j (by omega)))
              simp only [split_Ends.l0]
              rw [if_pos (by omega), if_pos (by omega), if_pos (by omega), if_neg s0, if_neg s1, wnext i (by omega)]
      exact key sg.length 0 (by omega) (fun j hj => by omega)
    · simp only [if_neg (show ¬ (sg.length : Int) = (lv.length : Int) by omega)]
      unfold eL eE
      simp only [if_neg (show ¬ EOk lv at_ sg d from fun h => hl h.2.1), if_pos hr, if_neg hl]
      exact EvS.pure _
  · have hn : ¬ EOk lv at_ sg d := fun h => hr h.1
    simp only [if_neg hr, if_neg (show ¬ ((180 : Int) = 0) by decide)]
    unfold eL eE
    simp only [if_neg hn, if_neg hr]
    exact EvS.pure _
end
end Go.Proofs.Ytlidbaejhmamjaa.LA

namespace Go.Proofs.Ytlidbaejhmamjaa.LA
open Go.RowKit Go.Proofs.YtlidbaejhmamjaaW.PrintWords Go.Proofs.YtlidbaejhmamjaaW.PrintLast Go.Proofs.YtlidbaejhmamjaaW.PrintMore Go.Proofs.Ytlidbaejhmamjaa.PB
set_option linter.unusedVariables false
set_option linter.unusedSimpArgs false
theorem rd_set (xs : List Int) (i j : Nat) (v : Int) (h : i < xs.length) : rd (xs.set i v) (j : Int) = if i = j then v else rd xs (j : Int) := by
  by_cases hij : i = j
  · subst hij; rw [if_pos rfl, rd_set_same _ _ _ h]
  · rw [if_neg hij, rd_set_other _ _ _ _ hij]
theorem fit_half {l a : Int} (h : Fit l a) (h8 : l ≠ 8) (b : Int) (hb : b = 0 ∨ b = 1) : Fit (l + 1) (2 * a + b) := by
  obtain ⟨h0, h1, h2, h3⟩ := h
  refine ⟨by omega, by omega, by omega, ?_⟩
  rw [show (l + 1).toNat = l.toNat + 1 by omega, Int.pow_succ]
  omega
theorem reg_set {lv at_ : List Int} {s : Int} (h : HOk lv at_ s) (b : Int) (hb : b = 0 ∨ b = 1) : Reg (lv.set s.toNat (rd lv s + 1)) (at_.set s.toNat (2 * rd at_ s + b)) := by
  obtain ⟨hr, h0, h1, h8⟩ := h
  obtain ⟨i, rfl⟩ : ∃ i : Nat, s = i := ⟨s.toNat, by omega⟩
  rw [Int.toNat_natCast]
  refine ⟨by simp; exact hr.1, by simp; exact hr.2.1, fun j hj => ?_⟩
  simp only [List.length_set] at hj
  rw [rd_set _ _ _ _ (by omega), rd_set _ _ _ _ (by have := hr.2.1; omega)]
  by_cases hij : i = j
  · rw [if_pos hij, if_pos hij]
    exact fit_half (hr.2.2 i (by omega)) h8 b hb
  · rw [if_neg hij, if_neg hij]
    exact hr.2.2 j hj
theorem halve_ok {lv at_ : List Int} {s : Int} (h : HOk lv at_ s) : hE lv at_ s = 0 ∧ Reg (hL lv at_ s) (hA lv at_ s) ∧ Reg (hL lv at_ s) (hB lv at_ s) ∧ (hL lv at_ s).length = lv.length := by
  unfold hE hL hA hB
  simp only [if_pos h]
  have h0 := reg_set h 0 (.inl rfl)
  rw [Int.add_zero] at h0
  exact ⟨trivial, h0, reg_set h 1 (.inr rfl), by simp⟩
theorem halve_bad {lv at_ : List Int} {s : Int} (h : ¬ HOk lv at_ s) : hE lv at_ s ≠ 0 := by
  unfold hE
  rw [if_neg h]
  split <;> decide
theorem whole_reg (k : Int) (h0 : 0 ≤ k) (h1 : k ≤ 256) : wholeE k = 0 ∧ Reg (wholeL k) (wholeL k) ∧ ((wholeL k).length : Int) = k := by
  unfold wholeE wholeL
  simp only [if_pos (And.intro h0 h1)]
  refine ⟨trivial, ⟨by simp; omega, rfl, fun i hi => ?_⟩, by simp; omega⟩
  have : rd (List.replicate k.toNat 0) (i : Int) = 0 := by rw [rd_nat _ _ hi]; simp
  rw [this]
  exact ⟨by decide, by decide, by decide, by decide⟩
theorem powsplit (a b : Nat) (h : a ≤ b) : (2 : Int) ^ b = 2 ^ a * 2 ^ (b - a) := by rw [← Int.pow_add]; congr 1; omega
theorem endv_nn (l a s d : Int) (hf : Fit l a) (hs : -1 ≤ s ∧ s ≤ 1) (hl : l ≤ d) (d8 : d ≤ 8) :
    0 ≤ (2 * a + 1 + s) * 2 ^ (d - l).toNat ∧ (2 * a + 1 + s) * 2 ^ (d - l).toNat ≤ 2 * 2 ^ d.toNat := by
  obtain ⟨h0, h1, h2, h3⟩ := hf
  have e := powsplit l.toNat d.toNat (by omega)
  rw [show d.toNat - l.toNat = (d - l).toNat by omega] at e
  have p : (0 : Int) < 2 ^ (d - l).toNat := Int.pow_pos (by decide)
  generalize (2 : Int) ^ (d - l).toNat = P at *
  generalize (2 : Int) ^ l.toNat = Q at *
  rw [e]
  have a1 : (2 * a + 1 + s) * P ≤ (2 * Q) * P := Int.mul_le_mul_of_nonneg_right (by omega) (by omega)
  have a0 : 0 ≤ (2 * a + 1 + s) * P := Int.mul_nonneg (by omega) (by omega)
  rw [Int.mul_assoc] at a1
  exact ⟨a0, a1⟩
theorem endv_bound (l a s d : Int) (hf : Fit l a) (hs : -1 ≤ s ∧ s ≤ 1) (hl : l ≤ d) (d8 : d ≤ 8) : -256 ≤ endv d l a s ∧ endv d l a s ≤ 256 := by
  have := endv_nn l a s d hf hs hl d8
  have p := pow_256 d.toNat (by omega)
  unfold endv
  omega
theorem endv_deeper (l a s d : Int) (h0 : 0 ≤ l) (hl : l ≤ d) (d8 : d ≤ 8) : endv d l a s * 2 ^ (8 - d).toNat = endv 8 l a s := by
  unfold endv
  rw [Int.sub_mul, Int.mul_assoc, ← Int.pow_add, ← Int.pow_add]
  congr 3 <;> omega
theorem endv_in (l a s d : Int) (hf : Fit l a) (hs : -1 ≤ s ∧ s ≤ 1) (hl : l ≤ d) (d8 : d ≤ 8) : AC.InP d (endv d l a s) l a := by
  obtain ⟨h0, h1, h2, h3⟩ := hf
  unfold AC.InP endv
  have e1 : ((2 * a + 1 + s) * 2 ^ (d - l).toNat - 2 ^ d.toNat) * 2 ^ (62 - d.toNat) = (2 * a + 1 + s) * 2 ^ (62 - l.toNat) - 2 ^ 62 := by
    rw [Int.sub_mul, Int.mul_assoc, ← Int.pow_add, ← Int.pow_add, show (d - l).toNat + (62 - d.toNat) = 62 - l.toNat by omega, show d.toNat + (62 - d.toNat) = 62 by omega]
  have e2 := powsplit l.toNat 62 (by omega)
  rw [e1, Int.sub_mul, Int.sub_mul, ← e2]
  have p : (0 : Int) < 2 ^ (62 - l.toNat) := Int.pow_pos (by decide)
  generalize (2 : Int) ^ (62 - l.toNat) = P at *
  have a1 : (2 * a) * P ≤ (2 * a + 1 + s) * P := Int.mul_le_mul_of_nonneg_right (by omega) (by omega)
  have a2 : (2 * a + 1 + s) * P ≤ (2 * a + 2) * P := Int.mul_le_mul_of_nonneg_right (by omega) (by omega)
  generalize (2 : Int) ^ 62 = Z at *
  exact ⟨by omega, by omega⟩
section
variable (lv at_ sg : List Int) (d : Int)
theorem eL_ok (h : EOk lv at_ sg d) : eL lv at_ sg d = (List.range lv.length).map (eRow lv at_ sg d) ∧ eE lv at_ sg d = 0 ∧ (eL lv at_ sg d).length = lv.length := by
  unfold eL eE
  simp only [if_pos h]
  exact ⟨trivial, trivial, by simp⟩
theorem eL_rd (h : EOk lv at_ sg d) (i : Nat) (hi : i < lv.length) : rd (eL lv at_ sg d) (i : Int) = endv d (rd lv (i : Nat)) (rd at_ (i : Nat)) (rd sg (i : Nat)) := by
  rw [rd_nat _ _ (by rw [(eL_ok lv at_ sg d h).2.2]; exact hi)]
  simp only [(eL_ok lv at_ sg d h).1, List.getElem_map, List.getElem_range]
  rfl
theorem eOk_8 (h : EOk lv at_ sg d) : EOk lv at_ sg 8 := by
  obtain ⟨h0, h1, h2, h3, h4, h5⟩ := h
  exact ⟨h0, h1, h2, by decide, by decide, fun i hi => by have := h5 i hi; omega⟩
theorem eL_i64 (h : EOk lv at_ sg d) : AC.I64 (eL lv at_ sg d) := by
  intro x hx
  obtain ⟨i, hi, rfl⟩ := List.mem_iff_getElem.1 hx
  have hi2 : i < lv.length := by rw [(eL_ok lv at_ sg d h).2.2] at hi; exact hi
  rw [← rd_nat _ _ hi, eL_rd lv at_ sg d h i hi2]
  have := endv_bound _ _ _ d (h.1.2.2 i hi2) (h.2.2.1 i (by have := h.2.1; omega)) (h.2.2.2.2.2 i hi2) h.2.2.2.2.1
  omega
theorem eL_win (h : EOk lv at_ sg d) : AC.Win lv at_ (eL lv at_ sg d) d := by
  refine ⟨h.1, (eL_ok lv at_ sg d h).2.2, h.2.2.2.1, by have := h.2.2.2.2.1; omega, fun i hi => ?_⟩
  rw [eL_rd lv at_ sg d h i hi]
  exact endv_in _ _ _ d (h.1.2.2 i hi) (h.2.2.1 i (by have := h.2.1; omega)) (h.2.2.2.2.2 i hi) h.2.2.2.2.1
theorem within_some (es : List Int) (hi : AC.I64 es) : split_Within.f lv at_ es d = some (decide (AC.Win lv at_ es d)) := by
  unfold split_Within.f
  rw [if_pos hi]
end
end Go.Proofs.Ytlidbaejhmamjaa.LA

namespace Go.Proofs.Ytlidbaejhmamjaa.LA
open Go.RowKit Go.Proofs.YtlidbaejhmamjaaW.PrintWords Go.Proofs.YtlidbaejhmamjaaW.PrintLast Go.Proofs.YtlidbaejhmamjaaW.PrintMore Go.Proofs.Ytlidbaejhmamjaa.PB
set_option linter.unusedVariables false
set_option linter.unusedSimpArgs false
section
variable (lv at_ sg : List Int) (d : Int)
theorem ends_loop (k : Int) (h : EOk lv at_ sg d) (hk : (lv.length : Int) = k) : EvS (fun f => ambitlaw18_SplitEnds.l1 f k d (eL lv at_ sg d) (eL lv at_ sg 8) 0) true := by
  have h8 := eOk_8 lv at_ sg d h
  have key : ∀ m i : Nat, m + i = lv.length → EvS (fun f => ambitlaw18_SplitEnds.l1 f k d (eL lv at_ sg d) (eL lv at_ sg 8) (i : Int)) true := by
    intro m
    induction m with
    | zero =>
      intro i hi
      exact EvS.done fun f => by simp only [ambitlaw18_SplitEnds.l1]; rw [if_neg (by omega)]; rfl
    | succ m ih =>
      intro i hi
      refine EvS.succ (fun f => ?_) (ih (i + 1) (by omega))
      have hb := endv_bound _ _ _ d (h.1.2.2 i (by omega)) (h.2.2.1 i (by have := h.2.1; omega)) (h.2.2.2.2.2 i (by omega)) h.2.2.2.2.1
      have hd := h.2.2.2.2.1
      have hd0 := h.2.2.2.1
      have hn := h.1.1
      simp only [ambitlaw18_SplitEnds.l1]
      rw [if_pos (by omega), if_pos (by omega), if_pos (by rw [(eL_ok lv at_ sg d h).2.2]; omega), w64 (8 - d) (by omega) (by omega), if_pos (by omega), if_pos (by rw [(eL_ok lv at_ sg 8 h8).2.2]; omega), eL_rd lv at_ sg d h i (by omega), eL_rd lv at_ sg 8 h8 i (by omega), shl_eq _ _ (by omega) (by omega) (by omega) (by omega), endv_deeper _ _ _ d (h.1.2.2 i (by omega)).1 (h.2.2.2.2.2 i (by omega)) hd, if_pos rfl, wnext i (by omega)]
  exact key lv.length 0 (by omega)
end
theorem SplitEnds_pure (k : Int) (turns : List S52) (sg : List Int) (d : Int) : ∃ f, ambitlaw18_SplitEnds.f f k turns sg d = some true := by
  refine EvS.get (v := true) ?_
  unfold ambitlaw18_SplitEnds.f
  have stop : EvS (fun f => ambitlaw18_SplitEnds.j0 f k turns sg d true) true := EvS.done fun f => by simp only [ambitlaw18_SplitEnds.j0]; rfl
  by_cases h0 : k < 0
  · simp only [if_pos h0]; exact stop
  · simp only [if_neg h0]
    by_cases h1 : k > 40
    · simp only [decide_eq_true h1]; exact stop
    · simp only [decide_eq_false h1]
      refine EvS.succ (fun f => by simp only [ambitlaw18_SplitEnds.j0]; rfl) ?_
      simp only [Bool.false_eq_true, if_false]
      refine EvS.bind (Whole_ev k) ?_
      obtain ⟨w0, w1, w2⟩ := whole_reg k (by omega) (by omega)
      simp only [w0, if_true]
      have fin : ∀ (i : Int) (lv at_ : List Int), Reg lv at_ → (lv.length : Int) = k → EvS (fun f => ambitlaw18_SplitEnds.j2 f k turns sg d i false lv at_) true := by
        intro i lv at_ hr hl
        refine EvS.succ (fun f => by simp only [ambitlaw18_SplitEnds.j2]; rfl) ?_
        simp only [Bool.false_eq_true, if_false]
        refine EvS.bind (Ends_ev lv at_ sg d) ?_
        by_cases hok : EOk lv at_ sg d
        · have h8 := eOk_8 lv at_ sg d hok
          simp only [(eL_ok lv at_ sg d hok).2.1, if_true]
          refine EvS.bind (Ends_ev lv at_ sg 8) ?_
          have e1 : ((eL lv at_ sg d).length : Int) = k := by rw [(eL_ok lv at_ sg d hok).2.2]; exact hl
          have e2 : ((eL lv at_ sg 8).length : Int) = k := by rw [(eL_ok lv at_ sg 8 h8).2.2]; exact hl
          simp only [(eL_ok lv at_ sg 8 h8).2.1, if_true, if_neg (show ¬ d < 0 by have := hok.2.2.2.1; omega), if_neg (show ¬ d > 8 by have := hok.2.2.2.2.1; omega), if_pos e1, if_pos e2, within_some lv at_ d _ (eL_i64 lv at_ sg d hok), decide_eq_true (eL_win lv at_ sg d hok), Option.bind_some]
          exact ends_loop lv at_ sg d k hok hl
        · have : eE lv at_ sg d ≠ 0 := by
            unfold eE
            rw [if_neg hok]
            by_cases a1 : Reg lv at_
            · rw [if_pos a1]
              by_cases a2 : sg.length = lv.length
              · rw [if_pos a2]; decide
              · rw [if_neg a2]; decide
            · rw [if_neg a1]; decide
          simp only [if_neg this]
          exact EvS.pure true
      have key : ∀ m (i : Nat) (lv at_ : List Int), m + i = 40 → Reg lv at_ → (lv.length : Int) = k → EvS (fun f => ambitlaw18_SplitEnds.l0 f k turns sg d (i : Int) lv at_) true := by
        intro m
        induction m with
        | zero =>
          intro i lv at_ hi hr hl
          have : decide ((i : Int) < 40) = false := decide_eq_false (by omega)
          by_cases hlen : (i : Int) < (turns.length : Int)
          · exact EvS.succ (fun f => by simp only [ambitlaw18_SplitEnds.l0]; rw [if_pos hlen, this]) (fin i lv at_ hr hl)
          · exact EvS.succ (fun f => by simp only [ambitlaw18_SplitEnds.l0]; rw [if_neg hlen]) (fin i lv at_ hr hl)
        | succ m ih =>
          intro i lv at_ hi hr hl
          by_cases hlen : (i : Int) < (turns.length : Int)
          · have : decide ((i : Int) < 40) = true := decide_eq_true (by omega)
            refine EvS.succ (fun f => by simp only [ambitlaw18_SplitEnds.l0]; rw [if_pos hlen, this]) ?_
            refine EvS.succ (fun f => by simp only [ambitlaw18_SplitEnds.j2]; rfl) ?_
            simp only [if_true, if_pos hlen, if_pos (show (0 : Int) ≤ (i : Int) by omega)]
            refine EvS.bind (Halve_ev lv at_ _) ?_
            generalize (rd_T52 turns (i : Int)).f0 = s
            generalize (rd_T52 turns (i : Int)).f1 = b
            by_cases hok : HOk lv at_ s
            · obtain ⟨e0, e1, e2, e3⟩ := halve_ok hok
              simp only [e0, if_true]
              cases b with
              | true =>
                refine EvS.succ (fun f => ?_) (ih (i + 1) _ _ (by omega) e2 (by omega))
                simp only [ambitlaw18_SplitEnds.j3, if_true, wnext i (by omega)]
              | false =>
                refine EvS.succ (fun f => ?_) (ih (i + 1) _ _ (by omega) e1 (by omega))
                simp only [ambitlaw18_SplitEnds.j3, if_true, Bool.false_eq_true, if_false, wnext i (by omega)]
            · have e0 := halve_bad hok
              simp only [if_neg e0]
              refine EvS.succ (fun f => ?_) (ih (i + 1) _ _ (by omega) hr hl)
              simp only [ambitlaw18_SplitEnds.j3, if_neg e0, Bool.false_eq_true, if_false, wnext i (by omega)]
          · exact EvS.succ (fun f => by simp only [ambitlaw18_SplitEnds.l0]; rw [if_neg hlen]) (fin i lv at_ hr hl)
      exact key 40 0 _ _ (by omega) w1 w2
end Go.Proofs.Ytlidbaejhmamjaa.LA

namespace Go.Proofs.Ytlidbaejhmamjaa.LW
open Go.RowKit Go.ChangeShapes Go.WideShapes Go.Proofs.YtlidbaejhmamjaaW.PrintWords Go.Proofs.YtlidbaejhmamjaaW.PrintLast Go.Proofs.YtlidbaejhmamjaaW.PrintMore Go.Proofs.Ytlidbaejhmamjaa.PB Go.Proofs.Ytlidbaejhmamjaa.LA Go.Proofs.Ytlidbaejhmamjaa.AC
set_option linter.unusedVariables false
set_option linter.unusedSimpArgs false
section
variable {H : Type} {enc : TypeId × Value → H} {W : World} {base : Nat} {spare : Nat → Bool} {held : Bool}
theorem wf_i64 {n : Int} (h : (Lit.int .i64 n).wf = true) : -9223372036854775808 ≤ n ∧ n < 9223372036854775808 := by
  simp [Lit.wf, IntKind.min, IntKind.max, IntKind.signed, IntKind.bits] at h
  omega
theorem ints_of_trod {fuel : Nat} {v : Value} {x : DataW H × List MemPlace} (h : DataW.trod enc Try.prog W base spare held fuel 22 [v] = some x) : ∃ A c xs, v = .slice A xs.length c ∧ Rd W A c xs ∧ I64 xs := by
  rcases open_ints Try.underlying22 Try.underlying3 (by kernel_rfl) h with ⟨hcs, _⟩ | ⟨a, len, cap, zs, hcs, _, hl, hm, hz, _, hcell, hwz⟩
  · obtain rfl := (List.cons.inj hcs).1
    exact ⟨none, 0, [], rfl, ⟨Kd.C_nil _ _, Nat.le_refl _⟩, fun x hx => by simp at hx⟩
  · obtain rfl := (List.cons.inj hcs).1
    have hlz : len ≤ zs.length := by rw [hz]; split <;> omega
    have hlen : (zs.take len).length = len := by rw [List.length_take]; omega
    refine ⟨some a, cap, zs.take len, by rw [hlen], ⟨⟨rfl, by rw [hlen]; simp [maxLen] at hm; omega, fun _ => ⟨a, rfl, fun j p hj => ⟨[.int .i64 p], rfl, rfl, fun i u hu => ?_⟩⟩⟩, by rw [hlen]; exact hl⟩, fun x hx => wf_i64 (hwz x (List.mem_of_mem_take hx))⟩
    cases i with
    | succ i => cases hu
    | zero =>
      obtain rfl := Option.some.inj hu
      have hj2 : j < (zs.take len).length := by
        rcases Nat.lt_or_ge j (zs.take len).length with h1 | h1
        · exact h1
        · rw [List.getElem?_eq_none h1] at hj; cases hj
      have hj3 : zs[j]? = some p := by
        rw [List.getElem?_take] at hj
        split at hj
        · exact hj
        · cases hj
      have := hcell j (by omega)
      rw [List.getD_eq_getElem?_getD, hj3] at this
      show W.cell? (a.add (j * 1 + 0)) = _
      rw [Nat.mul_one, Nat.add_zero]
      exact this
theorem turns_of_trod {fuel : Nat} {v : Value} {x : DataW H × List MemPlace} (h : DataW.trod enc Try.prog W base spare held fuel 50 [v] = some x) : ∃ (A : Option Addr) (c : Nat) (xs : List S52), v = .slice A xs.length c ∧ xs.length ≤ c ∧ Kd.C k52 W A xs.length xs := by
  rcases Deep.open_slice_pairs Try.underlying50 Try.underlying52 (by kernel_rfl) rfl rfl (by kernel_rfl) (by kernel_rfl) h with ⟨hcs, _⟩ | ⟨a, len, cap, m, n, V0, V1, D0, D1, P0, P1, hcs, _, hl, hm, hmm, _, hcell⟩
  · obtain rfl := (List.cons.inj hcs).1
    exact ⟨none, 0, [], rfl, Nat.le_refl _, Kd.C_nil _ _⟩
  · obtain rfl := (List.cons.inj hcs).1
    have hlm : len ≤ m := by rw [hmm]; split <;> omega
    have each : ∀ i, i < len → ∃ q : Int × Bool, W.cell? (a.add (i * 2)) = some (.int .i64 q.1) ∧ W.cell? (a.add (i * 2 + 1)) = some (.bool q.2) := by
      intro i hi
      obtain ⟨h0, h1, t0, t1⟩ := hcell i (by omega)
      obtain ⟨z, e0, _, _⟩ := DataW.trod_int Try.underlying3 t0
      obtain ⟨b, e1, _⟩ := DataW.trod_bool Try.underlying4 t1
      obtain e0 := (List.cons.inj e0).1
      obtain e1 := (List.cons.inj e1).1
      exact ⟨(z, b), by rw [h0, e0], by rw [h1, e1]⟩
    obtain ⟨q, hq⟩ := Deep.choose_lt each
    have hlen : ((List.range len).map fun i => (⟨(q i).1, (q i).2⟩ : S52)).length = len := by simp
    refine ⟨some a, cap, (List.range len).map fun i => ⟨(q i).1, (q i).2⟩, by rw [hlen], by rw [hlen]; exact hl, ⟨rfl, by rw [hlen]; simp [maxLen] at hm; omega, fun _ => ⟨a, rfl, fun j p hj => ⟨[.int .i64 p.f0, .bool p.f1], rfl, k52_mk _ _, fun i u hu => ?_⟩⟩⟩⟩
    have hj2 : j < len := by
      rcases Nat.lt_or_ge j len with h1 | h1
      · exact h1
      · rw [List.getElem?_eq_none (by rw [hlen]; exact h1)] at hj; cases hj
    have hp : p = ⟨(q j).1, (q j).2⟩ := by
      rw [List.getElem?_map, List.getElem?_range hj2] at hj
      exact (Option.some.inj hj).symm
    subst hp
    match i with
    | 0 => obtain rfl := Option.some.inj hu; exact (hq j hj2).1
    | 1 => obtain rfl := Option.some.inj hu; exact (hq j hj2).2
    | i + 2 => cases hu
end
end Go.Proofs.Ytlidbaejhmamjaa.LW
