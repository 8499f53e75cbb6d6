/- Part 4 of the proof of SplitEnds: what the functions below it compute, each shown by a walk or by plain reasoning; no condition of its own. -/
import Derived.Test.YtlidbaejhmamjaaSE1
import Derived.Test.YtlidbaejhmamjaaSE3
namespace Go.Proofs.Ytlidbaejhmamjaa.PB
open Go.RowKit Go.Proofs.YtlidbaejhmamjaaW.PrintWords Go.Proofs.YtlidbaejhmamjaaW.PrintLast Go.Proofs.YtlidbaejhmamjaaW.PrintMore
attribute [local go_sem] max2_int min2_int max_two min_two max_three min_three max_four min_four   -- for this text's walks alone
set_option linter.unusedVariables false
set_option linter.unusedSimpArgs false
mutual
def split_Ends.l0 : Nat → List Int → Int → List Int → Int → Int → List Int → List Int → Option (List Int × Int)
  | 0, _, _, _, _, _, _, _ => none
  | k + 1, x1, x2, x25, x26, x27, x187000, x187001 => if x27 < x26 then (if 0 ≤ x27 then (if x27 < (x25.length : Int) then (if (rd x25 x27) < (-1) then (some (([] : List Int), 1)) else (if (rd x25 x27) > 1 then (some (([] : List Int), 1)) else (split_Ends.l0 k x1 x2 x25 x26 (wrap64 (x27 + 1)) x187000 x187001))) else (none)) else (none)) else (if x2 < 0 then (split_Ends.j1 k x1 x2 true x187000 x187001) else (if x2 > 8 then (split_Ends.j1 k x1 x2 true x187000 x187001) else (if (x187000.length : Int) > 0 then ((slices_Max_int_int.f k x187000).bind fun t189 => (split_Ends.j1 k x1 x2 (decide (x2 < t189)) x187000 x187001)) else (split_Ends.j1 k x1 x2 false x187000 x187001))))
def split_Ends.j1 : Nat → List Int → Int → Bool → List Int → List Int → Option (List Int × Int)
  | 0, _, _, _, _, _ => none
  | k + 1, x1, x2, x56, x187000, x187001 => if x56 = true then (some (([] : List Int), 1)) else (if 0 ≤ (x1.length : Int) then (if ((x1.length : Int) : Int).toNat ≤ 35184372088832 then ((split_parts.f k x187000 x187001).bind fun t193 => (split_Ends.l1 k x1 x2 (List.replicate ((x1.length : Int) : Int).toNat 0) t193 (t193.length : Int) 0)) else (none)) else (none))
def split_Ends.l1 : Nat → List Int → Int → List Int → List (S90) → Int → Int → Option (List Int × Int)
  | 0, _, _, _, _, _, _ => none
  | k + 1, x1, x2, x10, x61, x62, x63 => if x63 < x62 then (if 0 ≤ x63 then (if x63 < (x61.length : Int) then (if 0 ≤ x2 then (if x63 < (x1.length : Int) then (if 0 ≤ (wrap64 (x2 - ((rd_T90 x61 x63).f0))) then (if x63 < (x10.length : Int) then (split_Ends.l1 k x1 x2 (x10.set (x63 : Int).toNat (wrap64 ((shl .i64 (-1) x2) + (shl .i64 (wrap64 ((wrap64 ((wrap64 (2 * ((rd_T90 x61 x63).f1))) + 1)) + (rd x1 x63))) (wrap64 (x2 - ((rd_T90 x61 x63).f0))))))) x61 x62 (wrap64 (x63 + 1))) else (none)) else (none)) else (none)) else (none)) else (none)) else (none)) else (some (x10, 0))
end
def split_Ends.f (k : Nat) (l0_0 : List Int) (l0_1 : List Int) (l1 : List Int) (a2 : Int) : Option (List Int × Int) := (split_Check.f k l0_0 l0_1 (l0_0.length : Int)).bind fun t187 => (if t187 = 0 then (if (l1.length : Int) = (l0_0.length : Int) then (split_Ends.l0 k l1 a2 l1 (l1.length : Int) 0 l0_0 l0_1) else (some (([] : List Int), 63))) else (some (([] : List Int), 180)))
def split_Ends.T17 : Bool × List (List Nat × List Nat) := (true, [([], []), ([], []), ([], []), ([2], [2]), ([], []), ([4], [4]), ([5], [5]), ([6], [6]), ([], []), ([], []), ([8, 9], [8, 9]), ([10], [10]), ([7, 11], [7, 11]), ([], []), ([], []), ([14], [14]), ([13, 15], [13, 15]), ([12, 16], [12, 16]), ([3, 17], [3, 17]), ([0, 1, 0, 1, 2, 3, 4, 5, 6, 7, 8, 9, 10, 11, 12, 13, 14, 15, 16, 17, 18], [0, 1]), ([19, 18, 0, 1, 2, 3, 4, 5, 6, 7, 8, 9, 10, 11, 12, 13, 14, 15, 16, 17, 18], [18, 19])])
def split_Ends.B17 : List Nat := [0, 0, 0, 4, 0, 16, 48, 112, 0, 0, 768, 1792, 4080, 0, 0, 16384, 57344, 131056, 262140, 524287, 1048575]
theorem split_Ends.tab17 : rtab .any (opsOf Try.f21 17) = split_Ends.T17 := by kernel_rfl
theorem split_Ends.bits17 : waitsOk split_Ends.T17.2 split_Ends.B17 = true := by kernel_rfl
set_option maxHeartbeats 3000000 in
set_option maxRecDepth 100000 in
theorem split_Ends.calls (k : Nat) (A0_0 : Option Addr) (c0_0 : Nat) (l0_0 : List Int) (A0_1 : Option Addr) (c0_1 : Nat) (l0_1 : List Int) (A1 : Option Addr) (c1 : Nat) (l1 : List Int) (a2 : Int) (r1 : List Int) (r2 : Int) (w : World) (hr0_0 : Kd.C (Kd.int .i64) w A0_0 l0_0.length l0_0) (hc0_0 : l0_0.length ≤ c0_0) (hr0_1 : Kd.C (Kd.int .i64) w A0_1 l0_1.length l0_1) (hc0_1 : l0_1.length ≤ c0_1) (hr1 : Kd.C (Kd.int .i64) w A1 l1.length l1) (hc1 : l1.length ≤ c1) (h : split_Ends.f k l0_0 l0_1 l1 a2 = some (r1, r2)) :
    Calls Try.prog 21 #[.agg #[.slice A0_0 l0_0.length c0_0, .slice A0_1 l0_1.length c0_1], .slice A1 l1.length c1, .int .i64 a2] w fun e w' => ∃ v0_ : Value, e = .returned (.tuple #[v0_, .int .i64 r2]) ∧ Kd.R (Kd.int .i64) 3 w' w.heap.size (fun _ => True) v0_ r1 ∧ Below w.heap.size w w' := by
  have hu24 := Try.underlying24
  have hu90 := Try.underlying90
  have HR0_0 := Aside0.mk hr0_0
  have HC0_0 := Aside0.mk hc0_0
  clear hr0_0 hc0_0
  have HR0_1 := Aside0.mk hr0_1
  have HC0_1 := Aside0.mk hc0_1
  clear hr0_1 hc0_1
  have HR1 := Aside0.mk hr1
  have HC1 := Aside0.mk hc1
  clear hr1 hc1
  have HB := Aside0.mk (Below.refl w.heap.size w)
  have H : ((split_Check.f k l0_0 l0_1 (l0_0.length : Int)).bind fun t187 => (if t187 = 0 then (if (l1.length : Int) = (l0_0.length : Int) then (split_Ends.l0 k l1 a2 l1 (l1.length : Int) 0 l0_0 l0_1) else (some (([] : List Int), 63))) else (some (([] : List Int), 180)))) = some (r1, r2) := h
  clear h
  replace H := Option.bind_eq_some_iff.mp H
  obtain ⟨t187, A40, H⟩ := H
  replace H : (if t187 = 0 then (if (l1.length : Int) = (l0_0.length : Int) then (split_Ends.l0 k l1 a2 l1 (l1.length : Int) 0 l0_0 l0_1) else (some (([] : List Int), 63))) else (some (([] : List Int), 180))) = some (r1, r2) := H
  have A4 := Aside0.mk A40
  clear A40
  by_cases c5 : t187 = 0
  · rw [if_pos c5] at H
    have c5b0 : (t187 == 0) = true := beq_iff_eq.mpr c5
    have c5b1 : (t187 != 0) = false := bne_eq_false_iff_eq.mpr c5
    clear c5
    by_cases c6 : (l1.length : Int) = (l0_0.length : Int)
    · rw [if_pos c6] at H
      have c6b0 : ((l1.length : Int) == (l0_0.length : Int)) = true := beq_iff_eq.mpr c6
      have c6b1 : ((l1.length : Int) != (l0_0.length : Int)) = false := bne_eq_false_iff_eq.mpr c6
      have c6b2 : (l1.length == l0_0.length) = true := by first | simpa using c6 | (simp at c6 ⊢; omega)
      clear c6
      have H' := Aside0.mk H
      clear H
      go_enter Try.func21, Try.ntmps21
      go_wp2_with (first | ((with_reducible refine gate_dst (N := 3) rfl ?_); (try (refine gate_guard (by rfl) ?_; dsimp only)); refine box_event ?hg (N := 3) ?hd (cs := #[.slice A0_0 l0_0.length c0_0, .slice A0_1 l0_1.length c0_1]) (t := 24) ?hr ?_; (case hd => rfl); (case hg => rfl); (case hr => first | (go_simp; done) | (go_simp; rfl)); intro gb186 hg w7 hbox hb; have n0_ := Aside0.mk (below_step (by repeat (first | (with_reducible first | exact HB.out | apply below_alloc | apply pw_below_drewN | apply below_drew1) | exact HB.out)) hb); have n1_ := Aside0.mk (hbox); have n2_ := Aside0.mk ((by rw [hg]; exact (below_size (by repeat (first | (with_reducible first | exact HB.out | apply below_alloc | apply pw_below_drewN | apply below_drew1) | exact HB.out))) : w.heap.size ≤ gb186)); have n3_ := Aside0.mk ((by rw [hg]; exact (below_size (by repeat (first | (with_reducible first | exact HB.out | apply below_alloc | apply pw_below_drewN | apply below_drew1) | exact HB.out))) : w.heap.size ≤ gb186)); clear HB; have HB := n0_; have BK186 := n1_; have GW186 := n2_; have GE186 := n3_; clear n0_ n1_ n2_ n3_; clear hb hbox hg; have hcz8_0 : w7.cell? ⟨gb186, 0, none⟩ = some (.slice A0_0 l0_0.length c0_0) := (blk_cell BK186.out 0).trans rfl; have hcz8_1 : w7.cell? ⟨gb186, 1, none⟩ = some (.slice A0_1 l0_1.length c0_1) := (blk_cell BK186.out 1).trans rfl; have hfz8_0 := blk_frozen BK186.out 0; have hfz8_1 := blk_frozen BK186.out 1) | ((with_reducible refine gate_callee (f := 17) rfl ?_); refine goesL_ (some 17) rfl rfl Try.func17 (by kernel_rfl) rfl #[.agg #[.slice A0_0 l0_0.length c0_0, .slice A0_1 l0_1.length c0_1], .int .i64 (l0_0.length : Int)] rfl (by (try simp only [List.map_toArray, List.map_cons, List.map_nil]); first | done | rfl | (simp only [List.length_drop, List.length_take]; rfl)) ?_; (with_reducible refine (split_Check.calls k _ _ l0_0 _ _ l0_1 (l0_0.length : Int) t187 _ ?side1 ?side2 ?side3 ?side4 A4.out).mono ?_); (case side1 => repeat (first | exact (Kd.C_below HR0_0.out HB.out) | (with_reducible refine Kd.C_alloc ?_ _) | (with_reducible refine Kd.C_drewN ?_ _) | (with_reducible refine Kd.C_drew ?_))); (case side2 => exact HC0_0.out); (case side3 => repeat (first | exact (Kd.C_below HR0_1.out HB.out) | (with_reducible refine Kd.C_alloc ?_ _) | (with_reducible refine Kd.C_drewN ?_ _) | (with_reducible refine Kd.C_drew ?_))); (case side4 => exact HC0_1.out); rintro e w9 ⟨rfl, hb⟩; refine ⟨_, rfl, ?_⟩; have n0_ := Aside0.mk (blk_below (g := gb186) (o := .cells #[.slice A0_0 l0_0.length c0_0, .slice A0_1 l0_1.length c0_1] 24 (0, 0)) (by (with_reducible repeat (first | refine blk_drewN ?_ _ | refine blk_drew ?_ | refine blk_alloc ?_ _)); exact BK186.out) hb); have n1_ := Aside0.mk (below_step (by repeat (first | (with_reducible first | exact HB.out | apply below_alloc | apply pw_below_drewN | apply below_drew1 | refine below_set ?_ GE186.out) | exact HB.out)) hb); clear BK186; clear HB; have BK186 := n0_; have HB := n1_; clear n0_ n1_; (try clear hb); (try clear hb2); (try clear hk); (try clear hi); have hcz10_0 : w9.cell? ⟨gb186, 0, none⟩ = some (.slice A0_0 l0_0.length c0_0) := (blk_cell BK186.out 0).trans rfl; have hcz10_1 : w9.cell? ⟨gb186, 1, none⟩ = some (.slice A0_1 l0_1.length c0_1) := (blk_cell BK186.out 1).trans rfl; have hfz10_0 := blk_frozen BK186.out 0; have hfz10_1 := blk_frozen BK186.out 1))
      go_loopg [27] k (fun kq v27 w' => ∃ (x27_1 : Int), v27 = .int .i64 x27_1 ∧ Aside0 (split_Ends.l0 kq l1 a2 l1 (l1.length : Int) x27_1 l0_0 l0_1 = some (r1, r2)) ∧ Aside0 (kq ≤ k) ∧ Aside0 (w'.heap[gb186]? = some (.cells #[(.slice A0_0 l0_0.length c0_0), (.slice A0_1 l0_1.length c0_1)] 24 (0, 0))) ∧ Aside0 (Below w.heap.size w w'))
      case atStart => exact ⟨(0), (by first | rfl | (simp; done) | (simp [*]; done)), H', ⟨Nat.le_refl _⟩, ⟨by (with_reducible repeat (first | refine blk_drewN ?_ _ | refine blk_drew ?_ | refine blk_alloc ?_ _)); exact BK186.out⟩, ⟨by repeat (first | (with_reducible first | exact HB.out | apply below_alloc | apply pw_below_drewN | apply below_drew1 | refine below_set ?_ GE186.out) | exact HB.out)⟩⟩
      case round =>
        clear H'
        try clear c1
        try clear c2
        try clear p2
        try clear c5
        try clear c5b0
        try clear c5b1
        try clear c6
        try clear c6b0
        try clear c6b1
        try clear c6b2
        try clear hcz10_0
        try clear hcz10_1
        try clear hcz8_0
        try clear hcz8_1
        try clear hfz10_0
        try clear hfz10_1
        try clear hfz8_0
        try clear hfz8_1
        obtain ⟨x27_1, rfl, HA, HK1, BK186, HB⟩ := hrel
        cases gk with
        | zero => exact absurd HA.out (by simp [split_Ends.l0])
        | succ k1 =>
          have H := HA.out
          clear HA
          simp only [split_Ends.l0] at H
          by_cases c11 : x27_1 < (l1.length : Int)
          · rw [if_pos c11] at H
            have c11b0 : decide (x27_1 < (l1.length : Int)) = true := decide_eq_true c11
            clear c11
            by_cases c12 : 0 ≤ x27_1
            · rw [if_pos c12] at H
              have c12b0 : decide (0 ≤ x27_1) = true := decide_eq_true c12
              clear c12
              by_cases c13 : x27_1 < (l1.length : Int)
              · rw [if_pos c13] at H
                have c13b0 : decide (x27_1 < (l1.length : Int)) = true := decide_eq_true c13
                clear c13
                by_cases c14 : (rd l1 x27_1) < (-1)
                · rw [if_pos c14] at H
                  have c14b0 : decide ((rd l1 x27_1) < (-1)) = true := decide_eq_true c14
                  clear c14
                  simp only [Option.some.injEq, Prod.mk.injEq] at H
                  obtain ⟨rfl, rfl⟩ := H
                  have p188 : 0 ≤ (x27_1 : Int) := of_decide_eq_true (by first | (with_reducible assumption) | assumption)
                  have q188 : x27_1 < (l1.length : Int) := of_decide_eq_true (by first | (with_reducible assumption) | assumption)
                  obtain ⟨ad188, e188, hx188_0⟩ := Kd.at_int HR1.out x27_1 p188 q188
                  cases e188
                  replace hx188_0 := (HB.out.cell (World.block_lt_of_cell? w _ hx188_0)).trans hx188_0
                  replace p188 := eq_true p188
                  replace q188 := eq_true q188
                  go_wp2
                  go_ret2
                  exact ⟨_, by first | rfl | (simp [errW_none, errW_some] <;> rfl) | (simp [*, errW_none, errW_some] <;> rfl), by first | exact Kd.R_nil _ _ _ _ _ | exact Kd.N_nil _ _ _ _ _ | exact Kd.V_nil _ _ _ _ _ | exact Kd.Q_nil _ _ _ _ _ | exact Kd.S_nil _ _ _ _ _, by repeat (first | (with_reducible first | exact HB.out | apply below_alloc | apply pw_below_drewN | apply below_drew1 | refine below_set ?_ GE186.out) | exact HB.out)⟩
                · rw [if_neg c14] at H
                  have c14b0 : decide ((rd l1 x27_1) < (-1)) = false := decide_eq_false c14
                  clear c14
                  by_cases c15 : (rd l1 x27_1) > 1
                  · rw [if_pos c15] at H
                    have c15b0 : decide (1 < (rd l1 x27_1)) = true := decide_eq_true c15
                    clear c15
                    simp only [Option.some.injEq, Prod.mk.injEq] at H
                    obtain ⟨rfl, rfl⟩ := H
                    have p188 : 0 ≤ (x27_1 : Int) := of_decide_eq_true (by first | (with_reducible assumption) | assumption)
                    have q188 : x27_1 < (l1.length : Int) := of_decide_eq_true (by first | (with_reducible assumption) | assumption)
                    obtain ⟨ad188, e188, hx188_0⟩ := Kd.at_int HR1.out x27_1 p188 q188
                    cases e188
                    replace hx188_0 := (HB.out.cell (World.block_lt_of_cell? w _ hx188_0)).trans hx188_0
                    replace p188 := eq_true p188
                    replace q188 := eq_true q188
                    go_wp2
                    go_ret2
                    exact ⟨_, by first | rfl | (simp [errW_none, errW_some] <;> rfl) | (simp [*, errW_none, errW_some] <;> rfl), by first | exact Kd.R_nil _ _ _ _ _ | exact Kd.N_nil _ _ _ _ _ | exact Kd.V_nil _ _ _ _ _ | exact Kd.Q_nil _ _ _ _ _ | exact Kd.S_nil _ _ _ _ _, by repeat (first | (with_reducible first | exact HB.out | apply below_alloc | apply pw_below_drewN | apply below_drew1 | refine below_set ?_ GE186.out) | exact HB.out)⟩
                  · rw [if_neg c15] at H
                    have c15b0 : decide (1 < (rd l1 x27_1)) = false := decide_eq_false c15
                    clear c15
                    have H' := Aside0.mk H
                    clear H
                    have p188 : 0 ≤ (x27_1 : Int) := of_decide_eq_true (by first | (with_reducible assumption) | assumption)
                    have q188 : x27_1 < (l1.length : Int) := of_decide_eq_true (by first | (with_reducible assumption) | assumption)
                    obtain ⟨ad188, e188, hx188_0⟩ := Kd.at_int HR1.out x27_1 p188 q188
                    cases e188
                    replace hx188_0 := (HB.out.cell (World.block_lt_of_cell? w _ hx188_0)).trans hx188_0
                    replace p188 := eq_true p188
                    replace q188 := eq_true q188
                    go_wp2
                    go_roundg k1
                    case measure => have := HK1.out; omega
                    case rel => exact ⟨(wrap64 (x27_1 + 1)), (by first | rfl | (simp; done) | (simp [*]; done)), H', ⟨by have := HK1.out; omega⟩, ⟨by (with_reducible repeat (first | refine blk_drewN ?_ _ | refine blk_drew ?_ | refine blk_alloc ?_ _)); exact BK186.out⟩, ⟨by repeat (first | (with_reducible first | exact HB.out | apply below_alloc | apply pw_below_drewN | apply below_drew1 | refine below_set ?_ GE186.out) | exact HB.out)⟩⟩
              · rw [if_neg c13] at H
                exact absurd H (by simp)
            · rw [if_neg c12] at H
              exact absurd H (by simp)
          · rw [if_neg c11] at H
            have c11b0 : decide (x27_1 < (l1.length : Int)) = false := decide_eq_false c11
            clear c11
            have HC16 := Aside0.mk H
            clear H
            go_upto_region 11 with (fail)
            go_cut [56] (fun v56 wc => ∃ (kq : Nat) (x56_15 : Bool), v56 = .bool x56_15 ∧ Aside0 (split_Ends.j1 kq l1 a2 x56_15 l0_0 l0_1 = some (r1, r2)) ∧ Aside0 (kq ≤ k1) ∧ Aside0 (wc.heap[gb186]? = some (.cells #[(.slice A0_0 l0_0.length c0_0), (.slice A0_1 l0_1.length c0_1)] 24 (0, 0))) ∧ Aside0 (Below w.heap.size w wc))
            case first =>
              have H := HC16.out
              clear HC16
              by_cases c17 : a2 < 0
              · rw [if_pos c17] at H
                have c17b0 : decide (a2 < 0) = true := decide_eq_true c17
                clear c17
                (first | rw [c17b0] | (simp only [i64_w, i32_w]; rw [c17b0]) | skip)
                have H' := Aside0.mk H
                clear H
                go_wp2
                go_meet
                case rel => exact ⟨_, (true), (by first | rfl | (simp; done) | (simp [*]; done)), H', ⟨by have := HK1.out; first | omega | exact Nat.le_refl _⟩, ⟨by (with_reducible repeat (first | refine blk_drewN ?_ _ | refine blk_drew ?_ | refine blk_alloc ?_ _)); exact BK186.out⟩, ⟨by repeat (first | (with_reducible first | exact HB.out | apply below_alloc | apply pw_below_drewN | apply below_drew1 | refine below_set ?_ GE186.out) | exact HB.out)⟩⟩
              · rw [if_neg c17] at H
                have c17b0 : decide (a2 < 0) = false := decide_eq_false c17
                clear c17
                (first | rw [c17b0] | (simp only [i64_w, i32_w]; rw [c17b0]) | skip)
                by_cases c18 : a2 > 8
                · rw [if_pos c18] at H
                  have c18b0 : decide (8 < a2) = true := decide_eq_true c18
                  clear c18
                  have H' := Aside0.mk H
                  clear H
                  go_wp2
                  go_meet
                  case rel => exact ⟨_, (true), (by first | rfl | (simp; done) | (simp [*]; done)), H', ⟨by have := HK1.out; first | omega | exact Nat.le_refl _⟩, ⟨by (with_reducible repeat (first | refine blk_drewN ?_ _ | refine blk_drew ?_ | refine blk_alloc ?_ _)); exact BK186.out⟩, ⟨by repeat (first | (with_reducible first | exact HB.out | apply below_alloc | apply pw_below_drewN | apply below_drew1 | refine below_set ?_ GE186.out) | exact HB.out)⟩⟩
                · rw [if_neg c18] at H
                  have c18b0 : decide (8 < a2) = false := decide_eq_false c18
                  clear c18
                  by_cases c19 : (l0_0.length : Int) > 0
                  · rw [if_pos c19] at H
                    have c19b0 : decide (0 < (l0_0.length : Int)) = true := decide_eq_true c19
                    have c19b1 : decide (0 < l0_0.length) = true := decide_eq_true (by omega)
                    clear c19
                    replace H := Option.bind_eq_some_iff.mp H
                    obtain ⟨t189, A200, H⟩ := H
                    replace H : (split_Ends.j1 k1 l1 a2 (decide (a2 < t189)) l0_0 l0_1) = some (r1, r2) := H
                    have A20 := Aside0.mk A200
                    clear A200
                    have H' := Aside0.mk H
                    clear H
                    have hcz21_0 : wr.cell? ⟨gb186, 0, none⟩ = some (.slice A0_0 l0_0.length c0_0) := (blk_cell BK186.out 0).trans rfl
                    have hcz21_1 : wr.cell? ⟨gb186, 1, none⟩ = some (.slice A0_1 l0_1.length c0_1) := (blk_cell BK186.out 1).trans rfl
                    have hfz21_0 := blk_frozen BK186.out 0
                    have hfz21_1 := blk_frozen BK186.out 1
                    go_wp2_with (first | (go_at_call 41; (with_reducible refine (slices_Max_int_int.calls k1 _ _ l0_0 t189 _ ?side1 ?side2 A20.out).mono ?_); (case side1 => repeat (first | exact (Kd.C_below HR0_0.out HB.out) | (with_reducible refine Kd.C_alloc ?_ _) | (with_reducible refine Kd.C_drewN ?_ _) | (with_reducible refine Kd.C_drew ?_))); (case side2 => exact HC0_0.out); rintro e w22 ⟨rfl, hb⟩; have n0_ := Aside0.mk (blk_below (g := gb186) (o := .cells #[.slice A0_0 l0_0.length c0_0, .slice A0_1 l0_1.length c0_1] 24 (0, 0)) (by (with_reducible repeat (first | refine blk_drewN ?_ _ | refine blk_drew ?_ | refine blk_alloc ?_ _)); exact BK186.out) hb); have n1_ := Aside0.mk (below_step (by repeat (first | (with_reducible first | exact HB.out | apply below_alloc | apply pw_below_drewN | apply below_drew1 | refine below_set ?_ GE186.out) | exact HB.out)) hb); clear BK186; clear HB; have BK186 := n0_; have HB := n1_; clear n0_ n1_; (try clear hb); (try clear hb2); (try clear hk); (try clear hi)))
                    go_meet
                    case rel => exact ⟨_, (decide (a2 < t189)), (by first | rfl | (simp; done) | (simp [*]; done)), H', ⟨by have := HK1.out; first | omega | exact Nat.le_refl _⟩, ⟨by (with_reducible repeat (first | refine blk_drewN ?_ _ | refine blk_drew ?_ | refine blk_alloc ?_ _)); exact BK186.out⟩, ⟨by repeat (first | (with_reducible first | exact HB.out | apply below_alloc | apply pw_below_drewN | apply below_drew1 | refine below_set ?_ GE186.out) | exact HB.out)⟩⟩
                  · rw [if_neg c19] at H
                    have c19b0 : decide (0 < (l0_0.length : Int)) = false := decide_eq_false c19
                    have c19b1 : decide (0 < l0_0.length) = false := decide_eq_false (by omega)
                    clear c19
                    have H' := Aside0.mk H
                    clear H
                    have hcz23_0 : wr.cell? ⟨gb186, 0, none⟩ = some (.slice A0_0 l0_0.length c0_0) := (blk_cell BK186.out 0).trans rfl
                    have hcz23_1 : wr.cell? ⟨gb186, 1, none⟩ = some (.slice A0_1 l0_1.length c0_1) := (blk_cell BK186.out 1).trans rfl
                    have hfz23_0 := blk_frozen BK186.out 0
                    have hfz23_1 := blk_frozen BK186.out 1
                    go_wp2
                    go_meet
                    case rel => exact ⟨_, (false), (by first | rfl | (simp; done) | (simp [*]; done)), H', ⟨by have := HK1.out; first | omega | exact Nat.le_refl _⟩, ⟨by (with_reducible repeat (first | refine blk_drewN ?_ _ | refine blk_drew ?_ | refine blk_alloc ?_ _)); exact BK186.out⟩, ⟨by repeat (first | (with_reducible first | exact HB.out | apply below_alloc | apply pw_below_drewN | apply below_drew1 | refine below_set ?_ GE186.out) | exact HB.out)⟩⟩
            case rest =>
              clear HC16
              try clear c1
              try clear p1
              try clear q1
              try clear hx1
              try clear c2
              try clear p2
              try clear c5
              try clear c5b0
              try clear c5b1
              try clear c6
              try clear c6b0
              try clear c6b1
              try clear c6b2
              try clear p6
              try clear c11
              try clear c11b0
              try clear c12
              try clear c12b0
              try clear c13
              try clear c13b0
              try clear c14
              try clear c14b0
              try clear c15
              try clear c15b0
              try clear c17
              try clear c17b0
              try clear c18
              try clear c18b0
              try clear p18
              try clear q18
              try clear hx18
              try clear c19
              try clear c19b0
              try clear c19b1
              try clear c21
              try clear hcz10_0
              try clear hcz10_1
              try clear hcz21_0
              try clear hcz21_1
              try clear hcz23_0
              try clear hcz23_1
              try clear hcz8_0
              try clear hcz8_1
              try clear hfz10_0
              try clear hfz10_1
              try clear hfz21_0
              try clear hfz21_1
              try clear hfz23_0
              try clear hfz23_1
              try clear hfz8_0
              try clear hfz8_1
              try clear hx188_0
              try clear p188
              try clear p2
              try clear q188
              obtain ⟨kq, x56_15, rfl, HA, HJ15, BK186, HB⟩ := hcut
              cases kq with
              | zero => exact absurd HA.out (by simp [split_Ends.j1])
              | succ kj15 =>
                have H := HA.out
                clear HA
                simp only [split_Ends.j1] at H
                by_cases c24 : x56_15 = true
                · subst c24
                  have H1 : (some (([] : List Int), 1)) = some (r1, r2) := by rw [if_pos rfl] at H; exact H
                  clear H
                  have H := H1
                  clear H1
                  simp only [Option.some.injEq, Prod.mk.injEq] at H
                  obtain ⟨rfl, rfl⟩ := H
                  go_wp2
                  go_ret2
                  exact ⟨_, by first | rfl | (simp [errW_none, errW_some] <;> rfl) | (simp [*, errW_none, errW_some] <;> rfl), by first | exact Kd.R_nil _ _ _ _ _ | exact Kd.N_nil _ _ _ _ _ | exact Kd.V_nil _ _ _ _ _ | exact Kd.Q_nil _ _ _ _ _ | exact Kd.S_nil _ _ _ _ _, by repeat (first | (with_reducible first | exact HB.out | apply below_alloc | apply pw_below_drewN | apply below_drew1 | refine below_set ?_ GE186.out) | exact HB.out)⟩
                · replace c24 := Bool.eq_false_iff.mpr c24
                  subst c24
                  have H1 : (if 0 ≤ (l1.length : Int) then (if ((l1.length : Int) : Int).toNat ≤ 35184372088832 then ((split_parts.f kj15 l0_0 l0_1).bind fun t193 => (split_Ends.l1 kj15 l1 a2 (List.replicate ((l1.length : Int) : Int).toNat 0) t193 (t193.length : Int) 0)) else (none)) else (none)) = some (r1, r2) := by rw [if_neg (show ¬ (false = true) by decide)] at H; exact H
                  clear H
                  have H := H1
                  clear H1
                  by_cases c25 : 0 ≤ (l1.length : Int)
                  · rw [if_pos c25] at H
                    have c25b0 := eq_true c25
                    have c25b1 : decide (0 ≤ (l1.length : Int)) = true := decide_eq_true c25
                    clear c25
                    by_cases c26 : ((l1.length : Int) : Int).toNat ≤ 35184372088832
                    · rw [if_pos c26] at H
                      have c26b0 := eq_true c26
                      have c26b1 : decide (((l1.length : Int) : Int).toNat ≤ 35184372088832) = true := decide_eq_true c26
                      clear c26
                      obtain ⟨y190, hy190⟩ : ∃ y_ : List Int, y_ = (List.replicate ((l1.length : Int) : Int).toNat 0) := ⟨_, rfl⟩
                      replace H : ((split_parts.f kj15 l0_0 l0_1).bind fun t193 => (split_Ends.l1 kj15 l1 a2 y190 t193 (t193.length : Int) 0)) = some (r1, r2) := by first | (rw [hy190]; with_reducible exact H) | (have H2_ := (Option.bind_some _ _).symm.trans H; rw [hy190]; with_reducible exact H2_) | (have H2_ := (Option.bind_some _ _).symm.trans H; with_reducible exact H2_) | with_reducible exact H | (rw [hy190]; exact H) | exact H
                      have Ny190 := Aside0.mk hy190
                      clear hy190
                      replace H := Option.bind_eq_some_iff.mp H
                      obtain ⟨t193, A270, H⟩ := H
                      replace H : (split_Ends.l1 kj15 l1 a2 y190 t193 (t193.length : Int) 0) = some (r1, r2) := H
                      have A27 := Aside0.mk A270
                      clear A270
                      have H' := Aside0.mk H
                      clear H
                      go_wp2_with (first | ((with_reducible refine gate_dst (N := 59) rfl ?_); (try (refine gate_guard (by rfl) ?_; dsimp only)); refine Kd.R_make (Kd.int .i64) _ 3 rfl (N := 59) rfl 22 _ _ rfl (l1.length : Int) rfl rfl Try.underlying22 (.int .i64 0) 8 info3 rfl (by decide) (by omega) 0 (ok := fun _ => True) (okp := fun _ => True) rfl (fun _ hk => hk) trivial (of_decide_eq_true (by first | (with_reducible assumption) | assumption)) (Nat.le_trans (Nat.mul_le_mul_right _ (of_decide_eq_true (by first | (with_reducible assumption) | assumption) : (l1.length : Int).toNat ≤ 35184372088832)) (by omega)) (Below.refl _ _) (Nat.le_refl _) ?_; intro v191 w28 ho29 hb hg_ hnew_; clear hg_ hnew_; (first | rw [← Ny190.out] at ho29 | (simp only [Int.reduceToNat] at ho29; rw [← Ny190.out] at ho29)); have n0_ := Aside0.mk (Kd.R_lower ho29 (below_size (by repeat (first | (with_reducible first | exact HB.out | apply below_alloc | apply pw_below_drewN | apply below_drew1 | refine below_set ?_ GE186.out) | exact HB.out)))); have n1_ := Aside0.mk (blk_below (g := gb186) (o := .cells #[.slice A0_0 l0_0.length c0_0, .slice A0_1 l0_1.length c0_1] 24 (0, 0)) (by (with_reducible repeat (first | refine blk_drewN ?_ _ | refine blk_drew ?_ | refine blk_alloc ?_ _)); exact BK186.out) hb); have n2_ := Aside0.mk (below_step (by repeat (first | (with_reducible first | exact HB.out | apply below_alloc | apply pw_below_drewN | apply below_drew1 | refine below_set ?_ GE186.out) | exact HB.out)) hb); clear BK186; clear HB; have HO192 := n0_; have BK186 := n1_; have HB := n2_; clear n0_ n1_ n2_; clear hb ho29; have hcz30_0 : w28.cell? ⟨gb186, 0, none⟩ = some (.slice A0_0 l0_0.length c0_0) := (blk_cell BK186.out 0).trans rfl; have hcz30_1 : w28.cell? ⟨gb186, 1, none⟩ = some (.slice A0_1 l0_1.length c0_1) := (blk_cell BK186.out 1).trans rfl; have hfz30_0 := blk_frozen BK186.out 0; have hfz30_1 := blk_frozen BK186.out 1) | ((with_reducible refine gate_callee (f := 39) rfl ?_); refine goesL_ (some 61) rfl rfl Try.func39 (by kernel_rfl) rfl #[.agg #[.slice A0_0 l0_0.length c0_0, .slice A0_1 l0_1.length c0_1]] rfl (by (try simp only [List.map_toArray, List.map_cons, List.map_nil]); first | done | rfl | (simp only [List.length_drop, List.length_take]; rfl)) ?_; (with_reducible refine (split_parts.calls kj15 _ _ l0_0 _ _ l0_1 t193 _ ?side1 ?side2 ?side3 ?side4 A27.out).mono ?_); (case side1 => repeat (first | exact (Kd.C_below HR0_0.out HB.out) | (with_reducible refine Kd.C_alloc ?_ _) | (with_reducible refine Kd.C_drewN ?_ _) | (with_reducible refine Kd.C_drew ?_))); (case side2 => exact HC0_0.out); (case side3 => repeat (first | exact (Kd.C_below HR0_1.out HB.out) | (with_reducible refine Kd.C_alloc ?_ _) | (with_reducible refine Kd.C_drewN ?_ _) | (with_reducible refine Kd.C_drew ?_))); (case side4 => exact HC0_1.out); rintro e w31 ⟨v194, rfl, ho0, hb⟩; refine ⟨_, rfl, ?_⟩; have n0_ := Aside0.mk (Kd.R_below (by (with_reducible repeat (first | apply Kd.R_alloc | apply Kd.R_drewN | apply Kd.R_drew)); exact HO192.out) hb); have n1_ := Aside0.mk (Kd.R_lower ho0 (below_size (by repeat (first | (with_reducible first | exact HB.out | apply below_alloc | apply pw_below_drewN | apply below_drew1 | refine below_set ?_ GE186.out) | exact HB.out)))); have n2_ := Aside0.mk (blk_below (g := gb186) (o := .cells #[.slice A0_0 l0_0.length c0_0, .slice A0_1 l0_1.length c0_1] 24 (0, 0)) (by (with_reducible repeat (first | refine blk_drewN ?_ _ | refine blk_drew ?_ | refine blk_alloc ?_ _)); exact BK186.out) hb); have n3_ := Aside0.mk (below_step (by repeat (first | (with_reducible first | exact HB.out | apply below_alloc | apply pw_below_drewN | apply below_drew1 | refine below_set ?_ GE186.out) | exact HB.out)) hb); clear HO192; clear BK186; clear HB; have HO192 := n0_; have HO195 := n1_; have BK186 := n2_; have HB := n3_; clear n0_ n1_ n2_ n3_; (try clear hb); (try clear hb2); (try clear hk); (try clear hi); (try clear ho0); obtain ⟨Ao32, co32, eo32⟩ := Kd.R_slice HO195.out; subst eo32))
                      go_loopg [63] kj15 (fun kq v63 w' => ∃ (x10_3 : List Int) (x63_3 : Int), v63 = .int .i64 x63_3 ∧ Aside0 (split_Ends.l1 kq l1 a2 x10_3 t193 (t193.length : Int) x63_3 = some (r1, r2)) ∧ Aside0 (kq ≤ kj15) ∧ Aside0 (Kd.R (Kd.int .i64) 3 w' w.heap.size (fun _ => True) v191 x10_3) ∧ Aside0 (Kd.R k90 90 w' w.heap.size (fun _ => True) (.slice Ao32 t193.length co32) t193) ∧ Aside0 (w'.heap[gb186]? = some (.cells #[(.slice A0_0 l0_0.length c0_0), (.slice A0_1 l0_1.length c0_1)] 24 (0, 0))) ∧ Aside0 (Below w.heap.size w w'))
                      case atStart => exact ⟨(y190), (0), (by first | rfl | (simp; done) | (simp [*]; done)), H', ⟨Nat.le_refl _⟩, ⟨by (with_reducible repeat (first | apply Kd.R_alloc | apply Kd.R_drewN | apply Kd.R_drew)); exact HO192.out⟩, ⟨by (with_reducible repeat (first | apply Kd.R_alloc | apply Kd.R_drewN | apply Kd.R_drew)); exact HO195.out⟩, ⟨by (with_reducible repeat (first | refine blk_drewN ?_ _ | refine blk_drew ?_ | refine blk_alloc ?_ _)); exact BK186.out⟩, ⟨by repeat (first | (with_reducible first | exact HB.out | apply below_alloc | apply pw_below_drewN | apply below_drew1 | refine below_set ?_ GE186.out) | exact HB.out)⟩⟩
                      case round =>
                        clear H'
                        try clear c1
                        try clear p1
                        try clear q1
                        try clear hx1
                        try clear c2
                        try clear p2
                        try clear c3
                        try clear c5
                        try clear c5b0
                        try clear c5b1
                        try clear c6
                        try clear c6b0
                        try clear c6b1
                        try clear c6b2
                        try clear p6
                        try clear c11
                        try clear c11b0
                        try clear c12
                        try clear c12b0
                        try clear c13
                        try clear c13b0
                        try clear c14
                        try clear c14b0
                        try clear c15
                        try clear c15b0
                        try clear c17
                        try clear c17b0
                        try clear c18
                        try clear c18b0
                        try clear p18
                        try clear q18
                        try clear hx18
                        try clear c19
                        try clear c19b0
                        try clear c19b1
                        try clear c21
                        try clear c24
                        try clear c25
                        try clear c25b0
                        try clear c25b1
                        try clear c26
                        try clear c26b0
                        try clear c26b1
                        try clear hcz10_0
                        try clear hcz10_1
                        try clear hcz21_0
                        try clear hcz21_1
                        try clear hcz23_0
                        try clear hcz23_1
                        try clear hcz30_0
                        try clear hcz30_1
                        try clear hcz8_0
                        try clear hcz8_1
                        try clear hfz10_0
                        try clear hfz10_1
                        try clear hfz21_0
                        try clear hfz21_1
                        try clear hfz23_0
                        try clear hfz23_1
                        try clear hfz30_0
                        try clear hfz30_1
                        try clear hfz8_0
                        try clear hfz8_1
                        try clear hx188_0
                        try clear p1
                        try clear p18
                        try clear p188
                        try clear p2
                        try clear p6
                        try clear q1
                        try clear q18
                        try clear q188
                        obtain ⟨x10_3, x63_3, rfl, HA, HK3, HO_10, HO_61, BK186, HB⟩ := hrel
                        cases gk with
                        | zero => exact absurd HA.out (by simp [split_Ends.l1])
                        | succ k3 =>
                          have H := HA.out
                          clear HA
                          simp only [split_Ends.l1] at H
                          by_cases c33 : x63_3 < (t193.length : Int)
                          · rw [if_pos c33] at H
                            have c33b0 : decide (x63_3 < (t193.length : Int)) = true := decide_eq_true c33
                            clear c33
                            by_cases c34 : 0 ≤ x63_3
                            · rw [if_pos c34] at H
                              have c34b0 : decide (0 ≤ x63_3) = true := decide_eq_true c34
                              clear c34
                              by_cases c35 : x63_3 < (t193.length : Int)
                              · rw [if_pos c35] at H
                                have c35b0 : decide (x63_3 < (t193.length : Int)) = true := decide_eq_true c35
                                clear c35
                                by_cases c36 : 0 ≤ a2
                                · rw [if_pos c36] at H
                                  have c36b0 := eq_true c36
                                  have c36b1 : decide (0 ≤ a2) = true := decide_eq_true c36
                                  clear c36
                                  obtain ⟨ji37, hji37⟩ : ∃ j_ : Int, (shl .i64 (-1) a2) = j_ := ⟨_, rfl⟩
                                  replace H : (if x63_3 < (l1.length : Int) then (if 0 ≤ (wrap64 (a2 - ((rd_T90 t193 x63_3).f0))) then (if x63_3 < (x10_3.length : Int) then (split_Ends.l1 k3 l1 a2 (x10_3.set (x63_3 : Int).toNat (wrap64 ((ji37) + (shl .i64 (wrap64 ((wrap64 ((wrap64 (2 * ((rd_T90 t193 x63_3).f1))) + 1)) + (rd l1 x63_3))) (wrap64 (a2 - ((rd_T90 t193 x63_3).f0))))))) t193 (t193.length : Int) (wrap64 (x63_3 + 1))) else (none)) else (none)) else (none)) = some (r1, r2) := by first | (rw [hji37] at H; exact H) | (simp only [hji37] at H ⊢; exact H)
                                  have hji37_ : (IntKind.i64.wrap ((-1) * 2 ^ min a2.toNat 64)) = ji37 := hji37
                                  have hji37z : a2 ≤ 64 → (IntKind.i64.wrap ((-1) * 2 ^ a2.toNat)) = ji37 := shl_small hji37
                                  have hji37y : (wrap64 ((-1) * 2 ^ min a2.toNat 64)) = ji37 := (i64_w _).symm.trans hji37_
                                  have hji37n : wrap64 (-2 ^ min a2.toNat 64) = ji37 := by have h_ := hji37y; rw [Int.neg_mul, Int.one_mul] at h_; exact h_
                                  have hji37x : a2 ≤ 64 → (wrap64 ((-1) * 2 ^ a2.toNat)) = ji37 := fun h_ => (i64_w _).symm.trans (hji37z h_)
                                  by_cases c38 : x63_3 < (l1.length : Int)
                                  · rw [if_pos c38] at H
                                    have c38b0 : decide (x63_3 < (l1.length : Int)) = true := decide_eq_true c38
                                    clear c38
                                    obtain ⟨ji39, hji39⟩ : ∃ j_ : Int, (wrap64 (a2 - ((rd_T90 t193 x63_3).f0))) = j_ := ⟨_, rfl⟩
                                    replace H : (if 0 ≤ (ji39) then (if x63_3 < (x10_3.length : Int) then (split_Ends.l1 k3 l1 a2 (x10_3.set (x63_3 : Int).toNat (wrap64 ((ji37) + (shl .i64 (wrap64 ((wrap64 ((wrap64 (2 * ((rd_T90 t193 x63_3).f1))) + 1)) + (rd l1 x63_3))) (ji39))))) t193 (t193.length : Int) (wrap64 (x63_3 + 1))) else (none)) else (none)) = some (r1, r2) := by first | (rw [hji39] at H; exact H) | (simp only [hji39] at H ⊢; exact H)
                                    have hji39w : (IntKind.i64.wrap (a2 - ((rd_T90 t193 x63_3).f0))) = ji39 := (i64_w _).trans hji39
                                    by_cases c40 : 0 ≤ (ji39)
                                    · rw [if_pos c40] at H
                                      have c40b0 := eq_true c40
                                      have c40b1 : decide (0 ≤ (ji39)) = true := decide_eq_true c40
                                      clear c40
                                      obtain ⟨ji41, hji41⟩ : ∃ j_ : Int, (shl .i64 (wrap64 ((wrap64 ((wrap64 (2 * ((rd_T90 t193 x63_3).f1))) + 1)) + (rd l1 x63_3))) (ji39)) = j_ := ⟨_, rfl⟩
                                      replace H : (if x63_3 < (x10_3.length : Int) then (split_Ends.l1 k3 l1 a2 (x10_3.set (x63_3 : Int).toNat (wrap64 ((ji37) + (ji41)))) t193 (t193.length : Int) (wrap64 (x63_3 + 1))) else (none)) = some (r1, r2) := by first | (rw [hji41] at H; exact H) | (simp only [hji41] at H ⊢; exact H)
                                      have hji41_ : (IntKind.i64.wrap ((wrap64 ((wrap64 ((wrap64 (2 * ((rd_T90 t193 x63_3).f1))) + 1)) + (rd l1 x63_3))) * 2 ^ min (ji39).toNat 64)) = ji41 := hji41
                                      have hji41z : (ji39) ≤ 64 → (IntKind.i64.wrap ((wrap64 ((wrap64 ((wrap64 (2 * ((rd_T90 t193 x63_3).f1))) + 1)) + (rd l1 x63_3))) * 2 ^ (ji39).toNat)) = ji41 := shl_small hji41
                                      have hji41y : (wrap64 ((wrap64 ((wrap64 ((wrap64 (2 * ((rd_T90 t193 x63_3).f1))) + 1)) + (rd l1 x63_3))) * 2 ^ min (ji39).toNat 64)) = ji41 := (i64_w _).symm.trans hji41_
                                      have hji41x : (ji39) ≤ 64 → (wrap64 ((wrap64 ((wrap64 ((wrap64 (2 * ((rd_T90 t193 x63_3).f1))) + 1)) + (rd l1 x63_3))) * 2 ^ (ji39).toNat)) = ji41 := fun h_ => (i64_w _).symm.trans (hji41z h_)
                                      by_cases c42 : x63_3 < (x10_3.length : Int)
                                      · rw [if_pos c42] at H
                                        have c42b0 : decide (x63_3 < (x10_3.length : Int)) = true := decide_eq_true c42
                                        clear c42
                                        obtain ⟨y199, hy199⟩ : ∃ y_ : List Int, y_ = (x10_3.set (x63_3 : Int).toNat (wrap64 ((ji37) + (ji41)))) := ⟨_, rfl⟩
                                        replace H : (split_Ends.l1 k3 l1 a2 y199 t193 (t193.length : Int) (wrap64 (x63_3 + 1))) = some (r1, r2) := by first | (rw [hy199]; with_reducible exact H) | (have H2_ := (Option.bind_some _ _).symm.trans H; rw [hy199]; with_reducible exact H2_) | (have H2_ := (Option.bind_some _ _).symm.trans H; with_reducible exact H2_) | with_reducible exact H | (rw [hy199]; exact H) | exact H
                                        have Ny199 := Aside0.mk hy199
                                        clear hy199
                                        have H' := Aside0.mk H
                                        clear H
                                        have p196 : 0 ≤ (x63_3 : Int) := of_decide_eq_true (by first | (with_reducible assumption) | assumption)
                                        have q196 : x63_3 < (t193.length : Int) := of_decide_eq_true (by first | (with_reducible assumption) | assumption)
                                        obtain ⟨ad196, e196, hx196_0, hx196_1⟩ := at_T90 (Kd.R_reads' HO_61.out).2.2 x63_3 p196 q196
                                        cases e196
                                        replace p196 := eq_true p196
                                        replace q196 := eq_true q196
                                        try go_wp2_with (first | ((with_reducible refine gate_dst (N := 12) rfl ?_); (try (refine gate_guard (by rfl) ?_; dsimp only)); refine box_event ?hg (N := 12) ?hd (cs := #[.int .i64 0, .int .i64 0]) (t := 90) ?hr ?_; (case hd => rfl); (case hg => rfl); (case hr => first | (go_simp; done) | (go_simp; rfl)); intro gb197 hg w44 hbox hb; have n0_ := Aside0.mk (Kd.R_below (by (with_reducible repeat (first | apply Kd.R_alloc | apply Kd.R_drewN | apply Kd.R_drew)); exact HO_10.out) hb); have n1_ := Aside0.mk (Kd.R_below (Kd.R_elderB (by (with_reducible repeat (first | apply Kd.R_alloc | apply Kd.R_drewN | apply Kd.R_drew)); exact HO_61.out) gb197 (Nat.le_of_eq hg.symm)) hb); have n2_ := Aside0.mk (blk_below (g := gb186) (o := .cells #[.slice A0_0 l0_0.length c0_0, .slice A0_1 l0_1.length c0_1] 24 (0, 0)) (by (with_reducible repeat (first | refine blk_drewN ?_ _ | refine blk_drew ?_ | refine blk_alloc ?_ _)); exact BK186.out) hb); have n3_ := Aside0.mk (below_step (by repeat (first | (with_reducible first | exact HB.out | apply below_alloc | apply pw_below_drewN | apply below_drew1 | refine below_set ?_ GE186.out) | exact HB.out)) hb); have n4_ := Aside0.mk (hbox); have n5_ := Aside0.mk ((by rw [hg]; exact (below_size (by repeat (first | (with_reducible first | exact HB.out | apply below_alloc | apply pw_below_drewN | apply below_drew1 | refine below_set ?_ GE186.out) | exact HB.out))) : w.heap.size ≤ gb197)); have n6_ := Aside0.mk ((by rw [hg]; exact (below_size (by repeat (first | (with_reducible first | exact HB.out | apply below_alloc | apply pw_below_drewN | apply below_drew1 | refine below_set ?_ GE186.out) | exact HB.out))) : w.heap.size ≤ gb197)); have n7_ := Aside0.mk ((by rw [hg]; exact Nat.ne_of_lt (blk_lt (g := gb186) (o := .cells #[.slice A0_0 l0_0.length c0_0, .slice A0_1 l0_1.length c0_1] 24 (0, 0)) (by (with_reducible repeat (first | refine blk_drewN ?_ _ | refine blk_drew ?_ | refine blk_alloc ?_ _)); exact BK186.out)) : gb186 ≠ gb197)); have n8_ := Aside0.mk ((by rw [hg]; exact Nat.ne_of_gt (blk_lt (g := gb186) (o := .cells #[.slice A0_0 l0_0.length c0_0, .slice A0_1 l0_1.length c0_1] 24 (0, 0)) (by (with_reducible repeat (first | refine blk_drewN ?_ _ | refine blk_drew ?_ | refine blk_alloc ?_ _)); exact BK186.out)) : gb197 ≠ gb186)); clear HO_10; clear HO_61; clear BK186; clear HB; have HO_10 := n0_; have HO_61 := n1_; have BK186 := n2_; have HB := n3_; have BK197 := n4_; have GW197 := n5_; have GE197 := n6_; have NB186_197 := n7_; have NB197_186 := n8_; clear n0_ n1_ n2_ n3_ n4_ n5_ n6_ n7_ n8_; clear hb hbox hg; have hnb45 := NB197_186.out; have hnc45 := NB186_197.out; have hcz46_0 : w44.cell? ⟨gb197, 0, none⟩ = some (.int .i64 0) := (blk_cell BK197.out 0).trans rfl; have hcz46_1 : w44.cell? ⟨gb197, 1, none⟩ = some (.int .i64 0) := (blk_cell BK197.out 1).trans rfl; have hfz46_0 := blk_frozen BK197.out 0; have hfz46_1 := blk_frozen BK197.out 1))
                                        have n0_ : Aside0 (Kd.R (Kd.int .i64) 3 ((w44.setCell ⟨gb197, 0, none⟩ (.int .i64 ((rd_T90 t193 x63_3).f0))).setCell ⟨gb197, 1, none⟩ (.int .i64 ((rd_T90 t193 x63_3).f1))) w.heap.size (fun _ => True) v191 x10_3) := ⟨by (with_reducible repeat (first | apply Kd.R_alloc | apply Kd.R_drewN | apply Kd.R_drew)); exact Kd.R_mono (Kd.R_far (p := ⟨gb197, 1, none⟩) (Kd.R_far (p := ⟨gb197, 0, none⟩) (Kd.R_types HO_10.out BK197.out (by decide)) (fun _ hk => hk.2) (.int .i64 ((rd_T90 t193 x63_3).f0))) (fun _ hk => hk.2) (.int .i64 ((rd_T90 t193 x63_3).f1))) (fun _ hk => trivial)⟩
                                        have n1_ : Aside0 (Kd.R k90 90 ((w44.setCell ⟨gb197, 0, none⟩ (.int .i64 ((rd_T90 t193 x63_3).f0))).setCell ⟨gb197, 1, none⟩ (.int .i64 ((rd_T90 t193 x63_3).f1))) w.heap.size (fun k_ => k_ ≠ gb197) (.slice (some ad196) t193.length co32) t193) := ⟨by (with_reducible repeat (first | apply Kd.R_alloc | apply Kd.R_drewN | apply Kd.R_drew)); exact Kd.R_mono (Kd.R_far (p := ⟨gb197, 1, none⟩) (Kd.R_far (p := ⟨gb197, 0, none⟩) (Kd.R_mono HO_61.out (fun k_ hk => (⟨hk, hk.2⟩ : _ ∧ k_ ≠ gb197))) (fun _ hk => hk.2) (.int .i64 ((rd_T90 t193 x63_3).f0))) (fun _ hk => hk.2) (.int .i64 ((rd_T90 t193 x63_3).f1))) (fun _ hk => hk.1.2)⟩
                                        have n2_ : Aside0 (((w44.setCell ⟨gb197, 0, none⟩ (.int .i64 ((rd_T90 t193 x63_3).f0))).setCell ⟨gb197, 1, none⟩ (.int .i64 ((rd_T90 t193 x63_3).f1))).heap[gb186]? = some (.cells #[.slice A0_0 l0_0.length c0_0, .slice A0_1 l0_1.length c0_1] 24 (0, 0))) := ⟨by (with_reducible repeat (first | refine blk_drewN ?_ _ | refine blk_drew ?_ | refine blk_alloc ?_ _)); refine blk_far ?_ NB186_197.out _; (with_reducible repeat (first | refine blk_drewN ?_ _ | refine blk_drew ?_ | refine blk_alloc ?_ _)); refine blk_far ?_ NB186_197.out _; (with_reducible repeat (first | refine blk_drewN ?_ _ | refine blk_drew ?_ | refine blk_alloc ?_ _)); exact BK186.out⟩
                                        have n3_ : Aside0 (((w44.setCell ⟨gb197, 0, none⟩ (.int .i64 ((rd_T90 t193 x63_3).f0))).setCell ⟨gb197, 1, none⟩ (.int .i64 ((rd_T90 t193 x63_3).f1))).heap[gb197]? = some (.cells #[.int .i64 ((rd_T90 t193 x63_3).f0), .int .i64 ((rd_T90 t193 x63_3).f1)] 90 (0, 0))) := ⟨by (with_reducible repeat (first | refine blk_drewN ?_ _ | refine blk_drew ?_ | refine blk_alloc ?_ _)); refine blk_put (cs := #[.int .i64 ((rd_T90 t193 x63_3).f0), .int .i64 0]) ?_ 1 _ rfl; (with_reducible repeat (first | refine blk_drewN ?_ _ | refine blk_drew ?_ | refine blk_alloc ?_ _)); refine blk_put (cs := #[.int .i64 0, .int .i64 0]) ?_ 0 _ rfl; (with_reducible repeat (first | refine blk_drewN ?_ _ | refine blk_drew ?_ | refine blk_alloc ?_ _)); exact BK197.out⟩
                                        have n4_ : Aside0 (Below w.heap.size w ((w44.setCell ⟨gb197, 0, none⟩ (.int .i64 ((rd_T90 t193 x63_3).f0))).setCell ⟨gb197, 1, none⟩ (.int .i64 ((rd_T90 t193 x63_3).f1)))) := ⟨by repeat (first | (with_reducible first | exact HB.out | apply below_alloc | apply pw_below_drewN | apply below_drew1 | refine below_set ?_ GE186.out | refine below_set ?_ GE197.out) | exact HB.out)⟩
                                        (try clear HO_10)
                                        (try clear HO_61)
                                        (try clear BK186)
                                        (try clear BK197)
                                        (try clear HB)
                                        generalize ((w44.setCell ⟨gb197, 0, none⟩ (.int .i64 ((rd_T90 t193 x63_3).f0))).setCell ⟨gb197, 1, none⟩ (.int .i64 ((rd_T90 t193 x63_3).f1))) = w47 at n0_ n1_ n2_ n3_ n4_ ⊢
                                        have HO_10 := n0_
                                        have HO_61 := n1_
                                        have BK186 := n2_
                                        have BK197 := n3_
                                        have HB := n4_
                                        clear n0_ n1_ n2_ n3_ n4_
                                        have n0_ := Aside0.mk (Kd.R_drew HO_10.out)
                                        have n1_ := Aside0.mk (Kd.R_drew HO_61.out)
                                        have n2_ := Aside0.mk (blk_drew BK186.out)
                                        have n3_ := Aside0.mk (blk_drew BK197.out)
                                        have n4_ := Aside0.mk (below_drew1 HB.out)
                                        clear HO_10
                                        clear HO_61
                                        clear BK186
                                        clear BK197
                                        clear HB
                                        have HO_10 := n0_
                                        have HO_61 := n1_
                                        have BK186 := n2_
                                        have BK197 := n3_
                                        have HB := n4_
                                        clear n0_ n1_ n2_ n3_ n4_
                                        have p198 : 0 ≤ (x63_3 : Int) := of_decide_eq_true (by first | (with_reducible assumption) | assumption)
                                        have q198 : x63_3 < (l1.length : Int) := of_decide_eq_true (by first | (with_reducible assumption) | assumption)
                                        obtain ⟨ad198, e198, hx198_0⟩ := Kd.at_int HR1.out x63_3 p198 q198
                                        have hw198_0 := hx198_0
                                        cases e198
                                        replace hx198_0 := (HB.out.cell (World.block_lt_of_cell? w _ hx198_0)).trans hx198_0
                                        replace p198 := eq_true p198
                                        replace q198 := eq_true q198
                                        have p43 : 0 ≤ (x63_3 : Int) := of_decide_eq_true (by first | (with_reducible assumption) | assumption)
                                        have q43 : (x63_3 : Int) < ((x10_3.length : Int) : Int) := of_decide_eq_true (by first | (with_reducible assumption) | assumption)
                                        obtain ⟨go43, co43, eo43, gb43, gl43, cl43, HG43⟩ := Kd.R_form HO_10.out (by omega)
                                        (first | cases eo43 | (injection eo43 with ea_ en_ ec_; (first | subst ea_ | (injection ea_ with ea_; subst ea_)); subst ec_; clear en_))
                                        have GB43 := Aside0.mk gb43
                                        have GG43 := Aside0.mk HG43
                                        clear gb43 gl43 HG43
                                        obtain ⟨hx43_0, hf43_0⟩ := Kd.R_celln 0 HO_10.out (x63_3 : Int) p43 q43
                                        replace p43 := eq_true p43
                                        replace q43 := eq_true q43
                                        have HP49 := Kd.R_putn HO_10.out (x63_3 : Int) (wrap64 ((ji37) + (ji41)))
                                        rw [← Ny199.out] at HP49
                                        have HQ49 := Aside0.mk HP49
                                        clear HP49
                                        refine start_ (n := 21) (S := fun w' => w'.cell? ⟨gb197, 0, none⟩ = some (.int .i64 ((rd_T90 t193 x63_3).f0)) ∧ w'.cell? ⟨gb197, 1, none⟩ = some (.int .i64 ((rd_T90 t193 x63_3).f1)) ∧ w'.cell? (ad198.add (x63_3).toNat) = some (.int .i64 (rd l1 x63_3))) (ds := [20]) #[false, false, false, false, false, false, false, false, false, false, false, false, false, false, false, false, false, false, false, false, false] (by kernel_rfl) rfl rfl ⟨(blk_cell BK197.out 0).trans rfl, (blk_cell BK197.out 1).trans rfl, ((HB.out.cell (World.block_lt_of_cell? w _ hw198_0)).trans hw198_0)⟩ (fun hHeld => ?_); refine with_tabW split_Ends.tab17 split_Ends.bits17 (fun HT_ HW_ => ?_)
                                        generalize w47.drew = w48 at HO_10 HO_61 BK186 BK197 HB GG43 HQ49 hf43_0 hx198_0 hx43_0 hHeld ⊢
                                        refine pure_ (i := 0) (N := some 68) (v := ?_) (a' := ?_) #[true, false, false, false, false, false, false, false, false, false, false, false, false, false, false, false, false, false, false, false, false] rfl rfl (any_of HT_.out (by kernel_rfl)) (fun _ _ _ h => h) (Or.inl ⟨by rfl, ?_⟩) ?_ ?_
                                        rotate_left
                                        · intro w'
                                          go_simp
                                          with_reducible rfl
                                        rotate_left
                                        · simp only [Act.put, List.setIfInBounds_toArray, List.set_cons_zero, List.set_cons_succ, i64_w, i32_w]
                                          rfl
                                        refine pure_ (i := 1) (N := some 69) (v := ?_) (a' := ?_) #[true, true, false, false, false, false, false, false, false, false, false, false, false, false, false, false, false, false, false, false, false] rfl rfl (any_of HT_.out (by kernel_rfl)) (fun _ _ _ h => h) (Or.inl ⟨by rfl, ?_⟩) ?_ ?_
                                        rotate_left
                                        · intro w'
                                          go_simp
                                          with_reducible rfl
                                        rotate_left
                                        · simp only [Act.put, List.setIfInBounds_toArray, List.set_cons_zero, List.set_cons_succ, i64_w, i32_w]
                                          rfl
                                        refine pure_ (i := 2) (N := some 70) (v := ?_) (a' := ?_) #[true, true, true, false, false, false, false, false, false, false, false, false, false, false, false, false, false, false, false, false, false] rfl rfl (any_of HT_.out (by kernel_rfl)) (fun _ _ _ h => h) (Or.inl ⟨by rfl, ?_⟩) ?_ ?_
                                        rotate_left
                                        · intro w'
                                          go_simp
                                          with_reducible rfl
                                        rotate_left
                                        · simp only [Act.put, List.setIfInBounds_toArray, List.set_cons_zero, List.set_cons_succ, i64_w, i32_w]
                                          rfl
                                        refine pure_ (i := 3) (N := some 71) (v := ?_) (a' := ?_) #[true, true, true, true, false, false, false, false, false, false, false, false, false, false, false, false, false, false, false, false, false] rfl rfl (any_of HT_.out (by kernel_rfl)) (fun _ _ _ h => h) (Or.inl ⟨by rfl, ?_⟩) ?_ ?_
                                        rotate_left
                                        · intro w'
                                          go_simp
                                          with_reducible rfl
                                        rotate_left
                                        · simp only [Act.put, List.setIfInBounds_toArray, List.set_cons_zero, List.set_cons_succ, i64_w, i32_w]
                                          rfl
                                        refine pure_ (i := 4) (N := some 72) (v := ?_) (a' := ?_) #[true, true, true, true, true, false, false, false, false, false, false, false, false, false, false, false, false, false, false, false, false] rfl rfl (any_of HT_.out (by kernel_rfl)) (fun _ _ _ h => h) (Or.inl ⟨by rfl, ?_⟩) ?_ ?_
                                        rotate_left
                                        · intro w'
                                          go_simp
                                          with_reducible rfl
                                        rotate_left
                                        · simp only [Act.put, List.setIfInBounds_toArray, List.set_cons_zero, List.set_cons_succ, i64_w, i32_w]
                                          rfl
                                        refine pure_ (i := 8) (N := some 76) (v := ?_) (a' := ?_) #[true, true, true, true, true, false, false, false, true, false, false, false, false, false, false, false, false, false, false, false, false] rfl rfl (any_of HT_.out (by kernel_rfl)) (fun _ _ _ h => h) (Or.inl ⟨by rfl, ?_⟩) ?_ ?_
                                        rotate_left
                                        · intro w'
                                          go_simp
                                          with_reducible rfl
                                        rotate_left
                                        · simp only [Act.put, List.setIfInBounds_toArray, List.set_cons_zero, List.set_cons_succ, i64_w, i32_w]
                                          rfl
                                        refine pure_ (i := 9) (N := some 77) (v := ?_) (a' := ?_) #[true, true, true, true, true, false, false, false, true, true, false, false, false, false, false, false, false, false, false, false, false] rfl rfl (any_of HT_.out (by kernel_rfl)) (fun _ _ _ h => h) (Or.inl ⟨by rfl, ?_⟩) ?_ ?_
                                        rotate_left
                                        · intro w'
                                          go_simp
                                          with_reducible rfl
                                        rotate_left
                                        · simp only [Act.put, List.setIfInBounds_toArray, List.set_cons_zero, List.set_cons_succ, i64_w, i32_w]
                                          rfl
                                        refine pure_ (i := 10) (N := some 78) (v := ?_) (a' := ?_) #[true, true, true, true, true, false, false, false, true, true, true, false, false, false, false, false, false, false, false, false, false] rfl rfl (any_of HT_.out (by kernel_rfl)) (fun _ _ _ h => h) (Or.inl ⟨by rfl, ?_⟩) ?_ ?_
                                        rotate_left
                                        · intro w'
                                          go_simp
                                          with_reducible rfl
                                        rotate_left
                                        · simp only [Act.put, List.setIfInBounds_toArray, List.set_cons_zero, List.set_cons_succ, i64_w, i32_w]
                                          rfl
                                        refine pure_ (i := 13) (N := some 81) (v := ?_) (a' := ?_) #[true, true, true, true, true, false, false, false, true, true, true, false, false, true, false, false, false, false, false, false, false] rfl rfl (any_of HT_.out (by kernel_rfl)) (fun _ _ _ h => h) (Or.inl ⟨by rfl, ?_⟩) ?_ ?_
                                        rotate_left
                                        · intro w'
                                          go_simp
                                          with_reducible rfl
                                        rotate_left
                                        · simp only [Act.put, List.setIfInBounds_toArray, List.set_cons_zero, List.set_cons_succ, i64_w, i32_w]
                                          rfl
                                        refine pure_ (i := 14) (N := some 82) (v := ?_) (a' := ?_) #[true, true, true, true, true, false, false, false, true, true, true, false, false, true, true, false, false, false, false, false, false] rfl rfl (any_of HT_.out (by kernel_rfl)) (fun _ _ _ h => h) (Or.inl ⟨by rfl, ?_⟩) ?_ ?_
                                        rotate_left
                                        · intro w'
                                          go_simp
                                          with_reducible rfl
                                        rotate_left
                                        · simp only [Act.put, List.setIfInBounds_toArray, List.set_cons_zero, List.set_cons_succ, i64_w, i32_w]
                                          rfl
                                        refine take_ (i := 5) (N := some 73) (v := ?_) (a' := ?_) #[true, true, true, true, true, true, false, false, true, true, true, false, false, true, true, false, false, false, false, false, false] rfl rfl (take_ofW HT_.out HW_.out (by kernel_rfl)) (fun _ _ _ h => h) (Or.inl ⟨by rfl, ?_⟩) hHeld ?_ ?_
                                        rotate_left
                                        · rintro w' ⟨s0, s1, s2⟩
                                          go_simp
                                          with_reducible rfl
                                        rotate_left
                                        · simp only [Act.put, List.setIfInBounds_toArray, List.set_cons_zero, List.set_cons_succ, i64_w, i32_w]
                                          rfl
                                        refine pure_ (i := 6) (N := some 74) (v := ?_) (a' := ?_) #[true, true, true, true, true, true, true, false, true, true, true, false, false, true, true, false, false, false, false, false, false] rfl rfl (any_of HT_.out (by kernel_rfl)) (fun _ _ _ h => h) (Or.inl ⟨by rfl, ?_⟩) ?_ ?_
                                        rotate_left
                                        · intro w'
                                          go_simp
                                          with_reducible rfl
                                        rotate_left
                                        · simp only [Act.put, List.setIfInBounds_toArray, List.set_cons_zero, List.set_cons_succ, i64_w, i32_w]
                                          rfl
                                        refine pure_ (i := 7) (N := some 75) (v := ?_) (a' := ?_) #[true, true, true, true, true, true, true, true, true, true, true, false, false, true, true, false, false, false, false, false, false] rfl rfl (any_of HT_.out (by kernel_rfl)) (fun _ _ _ h => h) (Or.inl ⟨by rfl, ?_⟩) ?_ ?_
                                        rotate_left
                                        · intro w'
                                          go_simp
                                          with_reducible rfl
                                        rotate_left
                                        · simp only [Act.put, List.setIfInBounds_toArray, List.set_cons_zero, List.set_cons_succ, i64_w, i32_w]
                                          rfl
                                        refine take_ (i := 11) (N := some 79) (v := ?_) (a' := ?_) #[true, true, true, true, true, true, true, true, true, true, true, true, false, true, true, false, false, false, false, false, false] rfl rfl (take_ofW HT_.out HW_.out (by kernel_rfl)) (fun _ _ _ h => h) (Or.inl ⟨by rfl, ?_⟩) hHeld ?_ ?_
                                        rotate_left
                                        · rintro w' ⟨s0, s1, s2⟩
                                          go_simp
                                          with_reducible rfl
                                        rotate_left
                                        · simp only [Act.put, List.setIfInBounds_toArray, List.set_cons_zero, List.set_cons_succ, i64_w, i32_w]
                                          rfl
                                        refine pure_ (i := 12) (N := some 80) (v := ?_) (a' := ?_) #[true, true, true, true, true, true, true, true, true, true, true, true, true, true, true, false, false, false, false, false, false] rfl rfl (any_of HT_.out (by kernel_rfl)) (fun _ _ _ h => h) (Or.inl ⟨by rfl, ?_⟩) ?_ ?_
                                        rotate_left
                                        · intro w'
                                          go_simp
                                          with_reducible rfl
                                        rotate_left
                                        · simp only [Act.put, List.setIfInBounds_toArray, List.set_cons_zero, List.set_cons_succ, i64_w, i32_w]
                                          rfl
                                        refine take_ (i := 15) (N := some 83) (v := ?_) (a' := ?_) #[true, true, true, true, true, true, true, true, true, true, true, true, true, true, true, true, false, false, false, false, false] rfl rfl (take_ofW HT_.out HW_.out (by kernel_rfl)) (fun _ _ _ h => h) (Or.inl ⟨by rfl, ?_⟩) hHeld ?_ ?_
                                        rotate_left
                                        · rintro w' ⟨s0, s1, s2⟩
                                          go_simp
                                          with_reducible rfl
                                        rotate_left
                                        · simp only [Act.put, List.setIfInBounds_toArray, List.set_cons_zero, List.set_cons_succ, i64_w, i32_w]
                                          rfl
                                        refine pure_ (i := 16) (N := some 84) (v := ?_) (a' := ?_) #[true, true, true, true, true, true, true, true, true, true, true, true, true, true, true, true, true, false, false, false, false] rfl rfl (any_of HT_.out (by kernel_rfl)) (fun _ _ _ h => h) (Or.inl ⟨by rfl, ?_⟩) ?_ ?_
                                        rotate_left
                                        · intro w'
                                          go_simp
                                          with_reducible rfl
                                        rotate_left
                                        · simp only [Act.put, List.setIfInBounds_toArray, List.set_cons_zero, List.set_cons_succ, i64_w, i32_w]
                                          rfl
                                        refine pure_ (i := 17) (N := some 85) (v := ?_) (a' := ?_) #[true, true, true, true, true, true, true, true, true, true, true, true, true, true, true, true, true, true, false, false, false] rfl rfl (any_of HT_.out (by kernel_rfl)) (fun _ _ _ h => h) (Or.inl ⟨by rfl, ?_⟩) ?_ ?_
                                        rotate_left
                                        · intro w'
                                          go_simp
                                          with_reducible rfl
                                        rotate_left
                                        · simp only [Act.put, List.setIfInBounds_toArray, List.set_cons_zero, List.set_cons_succ, i64_w, i32_w]
                                          rfl
                                        refine pure_ (i := 18) (N := some 86) (v := ?_) (a' := ?_) #[true, true, true, true, true, true, true, true, true, true, true, true, true, true, true, true, true, true, true, false, false] rfl rfl (any_of HT_.out (by kernel_rfl)) (fun _ _ _ h => h) (Or.inl ⟨by rfl, ?_⟩) ?_ ?_
                                        rotate_left
                                        · intro w'
                                          go_simp
                                          with_reducible rfl
                                        rotate_left
                                        · simp only [Act.put, List.setIfInBounds_toArray, List.set_cons_zero, List.set_cons_succ, i64_w, i32_w]
                                          rfl
                                        refine pure_ (i := 19) (N := some 87) (v := ?_) (a' := ?_) #[true, true, true, true, true, true, true, true, true, true, true, true, true, true, true, true, true, true, true, true, false] rfl rfl (any_of HT_.out (by kernel_rfl)) (fun _ _ _ h => h) (Or.inl ⟨by rfl, ?_⟩) ?_ ?_
                                        rotate_left
                                        · intro w'
                                          go_simp
                                          with_reducible rfl
                                        rotate_left
                                        · simp only [Act.put, List.setIfInBounds_toArray, List.set_cons_zero, List.set_cons_succ, i64_w, i32_w]
                                          rfl
                                        refine last_ (i := 20) (N := none) #[true, true, true, true, true, true, true, true, true, true, true, true, true, true, true, true, true, true, true, true, true] rfl rfl (one_of HT_.out (by kernel_rfl)) (by decide) (fun K hK => ?_)
                                        refine skip_ (w1 := ?_) (by rfl) rfl ?_ ?_
                                        rotate_left
                                        · go_simp
                                          rfl
                                        refine hK.out _ _ ?_
                                        clear hK K
                                        refine done_ (done_of HT_.out (by kernel_rfl)) ?_
                                        try go_wp2
                                        go_roundg k3
                                        case measure => have := HK1.out; have := HJ15.out; have := HK3.out; omega
                                        case rel => exact ⟨(y199), (wrap64 (x63_3 + 1)), (by first | rfl | (simp; done) | (simp [*]; done)), H', ⟨by have := HK1.out; have := HJ15.out; have := HK3.out; omega⟩, ⟨by (with_reducible repeat (first | apply Kd.R_alloc | apply Kd.R_drewN | apply Kd.R_drew)); exact HQ49.out⟩, ⟨by (with_reducible repeat (first | apply Kd.R_alloc | apply Kd.R_drewN | apply Kd.R_drew)); exact Kd.R_mono (Kd.R_far (p := ⟨go43, (x63_3 : Int).toNat, none⟩) (Kd.R_types HO_61.out GG43.out (by decide)) (fun _ hk => hk.2) (.int .i64 (wrap64 ((ji37) + (ji41))))) (fun _ hk => trivial)⟩, ⟨by (with_reducible repeat (first | refine blk_drewN ?_ _ | refine blk_drew ?_ | refine blk_alloc ?_ _)); refine blk_far ?_ (by have h_ := Kd.R_ne HO_10.out BK186.out (by decide); intro e_; exact h_ (by rw [e_]; rfl)) _; (with_reducible repeat (first | refine blk_drewN ?_ _ | refine blk_drew ?_ | refine blk_alloc ?_ _)); exact BK186.out⟩, ⟨by repeat (first | (with_reducible first | exact HB.out | apply below_alloc | apply pw_below_drewN | apply below_drew1 | refine below_set ?_ GB43.out | refine below_set ?_ GE186.out | refine below_set ?_ GE197.out) | exact HB.out)⟩⟩
                                      · rw [if_neg c42] at H
                                        exact absurd H (by simp)
                                    · rw [if_neg c40] at H
                                      exact absurd H (by simp)
                                  · rw [if_neg c38] at H
                                    exact absurd H (by simp)
                                · rw [if_neg c36] at H
                                  exact absurd H (by simp)
                              · rw [if_neg c35] at H
                                exact absurd H (by simp)
                            · rw [if_neg c34] at H
                              exact absurd H (by simp)
                          · rw [if_neg c33] at H
                            have c33b0 : decide (x63_3 < (t193.length : Int)) = false := decide_eq_false c33
                            clear c33
                            simp only [Option.some.injEq, Prod.mk.injEq] at H
                            obtain ⟨rfl, rfl⟩ := H
                            go_wp2
                            go_ret2
                            exact ⟨_, by first | rfl | (simp [errW_none, errW_some] <;> rfl) | (simp [*, errW_none, errW_some] <;> rfl), by (with_reducible repeat (first | apply Kd.R_alloc | apply Kd.R_drewN | apply Kd.R_drew)); exact HO_10.out, by repeat (first | (with_reducible first | exact HB.out | apply below_alloc | apply pw_below_drewN | apply below_drew1 | refine below_set ?_ GE186.out) | exact HB.out)⟩
                    · rw [if_neg c26] at H
                      exact absurd H (by simp)
                  · rw [if_neg c25] at H
                    exact absurd H (by simp)
    · rw [if_neg c6] at H
      have c6b0 : ((l1.length : Int) == (l0_0.length : Int)) = false := beq_eq_false_iff_ne.mpr c6
      have c6b1 : ((l1.length : Int) != (l0_0.length : Int)) = true := bne_iff_ne.mpr c6
      have c6b2 : (l1.length == l0_0.length) = false := by first | simpa using c6 | (simp at c6 ⊢; omega)
      simp only [Option.some.injEq, Prod.mk.injEq] at H
      obtain ⟨rfl, rfl⟩ := H
      go_enter Try.func21, Try.ntmps21
      go_wp2_with (first | ((with_reducible refine gate_dst (N := 3) rfl ?_); (try (refine gate_guard (by rfl) ?_; dsimp only)); refine box_event ?hg (N := 3) ?hd (cs := #[.slice A0_0 l0_0.length c0_0, .slice A0_1 l0_1.length c0_1]) (t := 24) ?hr ?_; (case hd => rfl); (case hg => rfl); (case hr => first | (go_simp; done) | (go_simp; rfl)); intro gb186 hg w50 hbox hb; have n0_ := Aside0.mk (below_step (by repeat (first | (with_reducible first | exact HB.out | apply below_alloc | apply pw_below_drewN | apply below_drew1) | exact HB.out)) hb); have n1_ := Aside0.mk (hbox); have n2_ := Aside0.mk ((by rw [hg]; exact (below_size (by repeat (first | (with_reducible first | exact HB.out | apply below_alloc | apply pw_below_drewN | apply below_drew1) | exact HB.out))) : w.heap.size ≤ gb186)); have n3_ := Aside0.mk ((by rw [hg]; exact (below_size (by repeat (first | (with_reducible first | exact HB.out | apply below_alloc | apply pw_below_drewN | apply below_drew1) | exact HB.out))) : w.heap.size ≤ gb186)); clear HB; have HB := n0_; have BK186 := n1_; have GW186 := n2_; have GE186 := n3_; clear n0_ n1_ n2_ n3_; clear hb hbox hg; have hcz51_0 : w50.cell? ⟨gb186, 0, none⟩ = some (.slice A0_0 l0_0.length c0_0) := (blk_cell BK186.out 0).trans rfl; have hcz51_1 : w50.cell? ⟨gb186, 1, none⟩ = some (.slice A0_1 l0_1.length c0_1) := (blk_cell BK186.out 1).trans rfl; have hfz51_0 := blk_frozen BK186.out 0; have hfz51_1 := blk_frozen BK186.out 1) | ((with_reducible refine gate_callee (f := 17) rfl ?_); refine goesL_ (some 17) rfl rfl Try.func17 (by kernel_rfl) rfl #[.agg #[.slice A0_0 l0_0.length c0_0, .slice A0_1 l0_1.length c0_1], .int .i64 (l0_0.length : Int)] rfl (by (try simp only [List.map_toArray, List.map_cons, List.map_nil]); first | done | rfl | (simp only [List.length_drop, List.length_take]; rfl)) ?_; (with_reducible refine (split_Check.calls k _ _ l0_0 _ _ l0_1 (l0_0.length : Int) t187 _ ?side1 ?side2 ?side3 ?side4 A4.out).mono ?_); (case side1 => repeat (first | exact (Kd.C_below HR0_0.out HB.out) | (with_reducible refine Kd.C_alloc ?_ _) | (with_reducible refine Kd.C_drewN ?_ _) | (with_reducible refine Kd.C_drew ?_))); (case side2 => exact HC0_0.out); (case side3 => repeat (first | exact (Kd.C_below HR0_1.out HB.out) | (with_reducible refine Kd.C_alloc ?_ _) | (with_reducible refine Kd.C_drewN ?_ _) | (with_reducible refine Kd.C_drew ?_))); (case side4 => exact HC0_1.out); rintro e w52 ⟨rfl, hb⟩; refine ⟨_, rfl, ?_⟩; have n0_ := Aside0.mk (blk_below (g := gb186) (o := .cells #[.slice A0_0 l0_0.length c0_0, .slice A0_1 l0_1.length c0_1] 24 (0, 0)) (by (with_reducible repeat (first | refine blk_drewN ?_ _ | refine blk_drew ?_ | refine blk_alloc ?_ _)); exact BK186.out) hb); have n1_ := Aside0.mk (below_step (by repeat (first | (with_reducible first | exact HB.out | apply below_alloc | apply pw_below_drewN | apply below_drew1 | refine below_set ?_ GE186.out) | exact HB.out)) hb); clear BK186; clear HB; have BK186 := n0_; have HB := n1_; clear n0_ n1_; (try clear hb); (try clear hb2); (try clear hk); (try clear hi); have hcz53_0 : w52.cell? ⟨gb186, 0, none⟩ = some (.slice A0_0 l0_0.length c0_0) := (blk_cell BK186.out 0).trans rfl; have hcz53_1 : w52.cell? ⟨gb186, 1, none⟩ = some (.slice A0_1 l0_1.length c0_1) := (blk_cell BK186.out 1).trans rfl; have hfz53_0 := blk_frozen BK186.out 0; have hfz53_1 := blk_frozen BK186.out 1))
      go_ret2
      exact ⟨_, by first | rfl | (simp [errW_none, errW_some] <;> rfl) | (simp [*, errW_none, errW_some] <;> rfl), by first | exact Kd.R_nil _ _ _ _ _ | exact Kd.N_nil _ _ _ _ _ | exact Kd.V_nil _ _ _ _ _ | exact Kd.Q_nil _ _ _ _ _ | exact Kd.S_nil _ _ _ _ _, by repeat (first | (with_reducible first | exact HB.out | apply below_alloc | apply pw_below_drewN | apply below_drew1 | refine below_set ?_ GE186.out) | exact HB.out)⟩
  · rw [if_neg c5] at H
    have c5b0 : (t187 == 0) = false := beq_eq_false_iff_ne.mpr c5
    have c5b1 : (t187 != 0) = true := bne_iff_ne.mpr c5
    simp only [Option.some.injEq, Prod.mk.injEq] at H
    obtain ⟨rfl, rfl⟩ := H
    go_enter Try.func21, Try.ntmps21
    go_wp2_with (first | ((with_reducible refine gate_dst (N := 3) rfl ?_); (try (refine gate_guard (by rfl) ?_; dsimp only)); refine box_event ?hg (N := 3) ?hd (cs := #[.slice A0_0 l0_0.length c0_0, .slice A0_1 l0_1.length c0_1]) (t := 24) ?hr ?_; (case hd => rfl); (case hg => rfl); (case hr => first | (go_simp; done) | (go_simp; rfl)); intro gb186 hg w54 hbox hb; have n0_ := Aside0.mk (below_step (by repeat (first | (with_reducible first | exact HB.out | apply below_alloc | apply pw_below_drewN | apply below_drew1) | exact HB.out)) hb); have n1_ := Aside0.mk (hbox); have n2_ := Aside0.mk ((by rw [hg]; exact (below_size (by repeat (first | (with_reducible first | exact HB.out | apply below_alloc | apply pw_below_drewN | apply below_drew1) | exact HB.out))) : w.heap.size ≤ gb186)); have n3_ := Aside0.mk ((by rw [hg]; exact (below_size (by repeat (first | (with_reducible first | exact HB.out | apply below_alloc | apply pw_below_drewN | apply below_drew1) | exact HB.out))) : w.heap.size ≤ gb186)); clear HB; have HB := n0_; have BK186 := n1_; have GW186 := n2_; have GE186 := n3_; clear n0_ n1_ n2_ n3_; clear hb hbox hg; have hcz55_0 : w54.cell? ⟨gb186, 0, none⟩ = some (.slice A0_0 l0_0.length c0_0) := (blk_cell BK186.out 0).trans rfl; have hcz55_1 : w54.cell? ⟨gb186, 1, none⟩ = some (.slice A0_1 l0_1.length c0_1) := (blk_cell BK186.out 1).trans rfl; have hfz55_0 := blk_frozen BK186.out 0; have hfz55_1 := blk_frozen BK186.out 1) | ((with_reducible refine gate_callee (f := 17) rfl ?_); refine goesL_ (some 17) rfl rfl Try.func17 (by kernel_rfl) rfl #[.agg #[.slice A0_0 l0_0.length c0_0, .slice A0_1 l0_1.length c0_1], .int .i64 (l0_0.length : Int)] rfl (by (try simp only [List.map_toArray, List.map_cons, List.map_nil]); first | done | rfl | (simp only [List.length_drop, List.length_take]; rfl)) ?_; (with_reducible refine (split_Check.calls k _ _ l0_0 _ _ l0_1 (l0_0.length : Int) t187 _ ?side1 ?side2 ?side3 ?side4 A4.out).mono ?_); (case side1 => repeat (first | exact (Kd.C_below HR0_0.out HB.out) | (with_reducible refine Kd.C_alloc ?_ _) | (with_reducible refine Kd.C_drewN ?_ _) | (with_reducible refine Kd.C_drew ?_))); (case side2 => exact HC0_0.out); (case side3 => repeat (first | exact (Kd.C_below HR0_1.out HB.out) | (with_reducible refine Kd.C_alloc ?_ _) | (with_reducible refine Kd.C_drewN ?_ _) | (with_reducible refine Kd.C_drew ?_))); (case side4 => exact HC0_1.out); rintro e w56 ⟨rfl, hb⟩; refine ⟨_, rfl, ?_⟩; have n0_ := Aside0.mk (blk_below (g := gb186) (o := .cells #[.slice A0_0 l0_0.length c0_0, .slice A0_1 l0_1.length c0_1] 24 (0, 0)) (by (with_reducible repeat (first | refine blk_drewN ?_ _ | refine blk_drew ?_ | refine blk_alloc ?_ _)); exact BK186.out) hb); have n1_ := Aside0.mk (below_step (by repeat (first | (with_reducible first | exact HB.out | apply below_alloc | apply pw_below_drewN | apply below_drew1 | refine below_set ?_ GE186.out) | exact HB.out)) hb); clear BK186; clear HB; have BK186 := n0_; have HB := n1_; clear n0_ n1_; (try clear hb); (try clear hb2); (try clear hk); (try clear hi)))
    go_ret2
    exact ⟨_, by first | rfl | (simp [errW_none, errW_some] <;> rfl) | (simp [*, errW_none, errW_some] <;> rfl), by first | exact Kd.R_nil _ _ _ _ _ | exact Kd.N_nil _ _ _ _ _ | exact Kd.V_nil _ _ _ _ _ | exact Kd.Q_nil _ _ _ _ _ | exact Kd.S_nil _ _ _ _ _, by repeat (first | (with_reducible first | exact HB.out | apply below_alloc | apply pw_below_drewN | apply below_drew1 | refine below_set ?_ GE186.out) | exact HB.out)⟩
end Go.Proofs.Ytlidbaejhmamjaa.PB

namespace Go.Proofs.Ytlidbaejhmamjaa.PB
open Go.RowKit Go.Proofs.YtlidbaejhmamjaaW.PrintWords Go.Proofs.YtlidbaejhmamjaaW.PrintLast Go.Proofs.YtlidbaejhmamjaaW.PrintMore
attribute [local go_sem] max2_int min2_int max_two min_two max_three min_three max_four min_four   -- for this text's walks alone
set_option linter.unusedVariables false
set_option linter.unusedSimpArgs false
def ambitref18_SameInts.l0 : Nat → List Int → List Int → Int → Option (Bool)
  | 0, _, _, _ => none
  | k + 1, x0, x1, x5 => if x5 < (x0.length : Int) then (if 0 ≤ x5 then (if x5 < (x1.length : Int) then (if (rd x0 x5) = (rd x1 x5) then (ambitref18_SameInts.l0 k x0 x1 (wrap64 (x5 + 1))) else (some false)) else (none)) else (none)) else (some true)
def ambitref18_SameInts.f (k : Nat) (l0 : List Int) (l1 : List Int) : Option (Bool) := if (l0.length : Int) = (l1.length : Int) then (ambitref18_SameInts.l0 k l0 l1 0) else (some false)
set_option maxHeartbeats 8000000 in
set_option maxRecDepth 100000 in
theorem ambitref18_SameInts.calls (k : Nat) (A0 : Option Addr) (c0 : Nat) (l0 : List Int) (A1 : Option Addr) (c1 : Nat) (l1 : List Int) (r : Bool) (w : World) (hr0 : Kd.C (Kd.int .i64) w A0 l0.length l0) (hc0 : l0.length ≤ c0) (hr1 : Kd.C (Kd.int .i64) w A1 l1.length l1) (hc1 : l1.length ≤ c1) (h : ambitref18_SameInts.f k l0 l1 = some r) :
    Calls Try.prog 23 #[.slice A0 l0.length c0, .slice A1 l1.length c1] w fun e w' => e = .returned (.bool r) ∧ Drawn0 w w' := by
  have HR0 := Aside0.mk hr0
  have HC0 := Aside0.mk hc0
  clear hr0 hc0
  have HR1 := Aside0.mk hr1
  have HC1 := Aside0.mk hc1
  clear hr1 hc1
  have H : (if (l0.length : Int) = (l1.length : Int) then (ambitref18_SameInts.l0 k l0 l1 0) else (some false)) = some r := h
  clear h
  by_cases c3 : (l0.length : Int) = (l1.length : Int)
  · rw [if_pos c3] at H
    have c3b0 : ((l0.length : Int) == (l1.length : Int)) = true := beq_iff_eq.mpr c3
    have c3b1 : ((l0.length : Int) != (l1.length : Int)) = false := bne_eq_false_iff_eq.mpr c3
    have c3b2 : (l0.length == l1.length) = true := by first | simpa using c3 | (simp at c3 ⊢; omega)
    clear c3
    have H' := Aside0.mk H
    clear H
    go_enter Try.func23, Try.ntmps23
    go_wp2
    repeat (go_quiet (fail); try go_wp2)
    go_loopg [5] k (fun kq v5 w' => ∃ (x5_1 : Int), v5 = .int .i64 x5_1 ∧ Aside0 (ambitref18_SameInts.l0 kq l0 l1 x5_1 = some r) ∧ Aside0 (kq ≤ k) ∧ Drawn0 w w')
    case atStart => exact ⟨(0), (by first | rfl | (simp; done) | (simp [*]; done)), H', ⟨Nat.le_refl _⟩, by repeat (first | exact Drawn0.refl _ | apply Drawn0.step)⟩
    case round =>
      clear H'
      try clear c1
      try clear c2
      try clear p2
      try clear c3
      try clear c3b0
      try clear c3b1
      try clear c3b2
      obtain ⟨x5_1, rfl, HA, HK1, ⟨m1, rfl⟩⟩ := hrel
      cases gk with
      | zero => exact absurd HA.out (by simp [ambitref18_SameInts.l0])
      | succ k1 =>
        have H := HA.out
        clear HA
        simp only [ambitref18_SameInts.l0] at H
        by_cases c4 : x5_1 < (l0.length : Int)
        · rw [if_pos c4] at H
          have c4b0 : decide (x5_1 < (l0.length : Int)) = true := decide_eq_true c4
          clear c4
          by_cases c5 : 0 ≤ x5_1
          · rw [if_pos c5] at H
            have c5b0 : decide (0 ≤ x5_1) = true := decide_eq_true c5
            clear c5
            by_cases c6 : x5_1 < (l1.length : Int)
            · rw [if_pos c6] at H
              have c6b0 : decide (x5_1 < (l1.length : Int)) = true := decide_eq_true c6
              clear c6
              by_cases c7 : (rd l0 x5_1) = (rd l1 x5_1)
              · rw [if_pos c7] at H
                have c7b0 : ((rd l0 x5_1) == (rd l1 x5_1)) = true := beq_iff_eq.mpr c7
                have c7b1 : ((rd l0 x5_1) != (rd l1 x5_1)) = false := bne_eq_false_iff_eq.mpr c7
                clear c7
                have H' := Aside0.mk H
                clear H
                have p133 : 0 ≤ (x5_1 : Int) := of_decide_eq_true (by first | (with_reducible assumption) | assumption)
                have q133 : x5_1 < (l0.length : Int) := of_decide_eq_true (by first | (with_reducible assumption) | assumption)
                obtain ⟨ad133, e133, hx133_0⟩ := Kd.at_int HR0.out x5_1 p133 q133
                cases e133
                replace p133 := eq_true p133
                replace q133 := eq_true q133
                have p134 : 0 ≤ (x5_1 : Int) := of_decide_eq_true (by first | (with_reducible assumption) | assumption)
                have q134 : x5_1 < (l1.length : Int) := of_decide_eq_true (by first | (with_reducible assumption) | assumption)
                obtain ⟨ad134, e134, hx134_0⟩ := Kd.at_int HR1.out x5_1 p134 q134
                cases e134
                replace p134 := eq_true p134
                replace q134 := eq_true q134
                go_wp2
                repeat (go_quiet (fail); try go_wp2)
                go_roundg k1
                case measure => have := HK1.out; omega
                case rel => exact ⟨(wrap64 (x5_1 + 1)), (by first | rfl | (simp; done) | (simp [*]; done)), H', ⟨by have := HK1.out; omega⟩, by repeat (first | exact Drawn0.refl _ | apply Drawn0.step)⟩
              · rw [if_neg c7] at H
                have c7b0 : ((rd l0 x5_1) == (rd l1 x5_1)) = false := beq_eq_false_iff_ne.mpr c7
                have c7b1 : ((rd l0 x5_1) != (rd l1 x5_1)) = true := bne_iff_ne.mpr c7
                obtain rfl := Option.some.inj H
                have p133 : 0 ≤ (x5_1 : Int) := of_decide_eq_true (by first | (with_reducible assumption) | assumption)
                have q133 : x5_1 < (l0.length : Int) := of_decide_eq_true (by first | (with_reducible assumption) | assumption)
                obtain ⟨ad133, e133, hx133_0⟩ := Kd.at_int HR0.out x5_1 p133 q133
                cases e133
                replace p133 := eq_true p133
                replace q133 := eq_true q133
                have p134 : 0 ≤ (x5_1 : Int) := of_decide_eq_true (by first | (with_reducible assumption) | assumption)
                have q134 : x5_1 < (l1.length : Int) := of_decide_eq_true (by first | (with_reducible assumption) | assumption)
                obtain ⟨ad134, e134, hx134_0⟩ := Kd.at_int HR1.out x5_1 p134 q134
                cases e134
                replace p134 := eq_true p134
                replace q134 := eq_true q134
                go_wp2
                repeat (go_quiet (fail); try go_wp2)
                go_ret
                exact ⟨by first | rfl | (simp; done) | (simp [*]; done), by repeat (first | exact Drawn0.refl _ | apply Drawn0.step)⟩
            · rw [if_neg c6] at H
              exact absurd H (by simp)
          · rw [if_neg c5] at H
            exact absurd H (by simp)
        · rw [if_neg c4] at H
          have c4b0 : decide (x5_1 < (l0.length : Int)) = false := decide_eq_false c4
          clear c4
          obtain rfl := Option.some.inj H
          go_wp2
          repeat (go_quiet (fail); try go_wp2)
          go_ret
          exact ⟨by first | rfl | (simp; done) | (simp [*]; done), by repeat (first | exact Drawn0.refl _ | apply Drawn0.step)⟩
  · rw [if_neg c3] at H
    have c3b0 : ((l0.length : Int) == (l1.length : Int)) = false := beq_eq_false_iff_ne.mpr c3
    have c3b1 : ((l0.length : Int) != (l1.length : Int)) = true := bne_iff_ne.mpr c3
    have c3b2 : (l0.length == l1.length) = false := by first | simpa using c3 | (simp at c3 ⊢; omega)
    obtain rfl := Option.some.inj H
    go_enter Try.func23, Try.ntmps23
    go_wp2
    repeat (go_quiet (fail); try go_wp2)
    go_ret
    exact ⟨by first | rfl | (simp; done) | (simp [*]; done), by repeat (first | exact Drawn0.refl _ | apply Drawn0.step)⟩
end Go.Proofs.Ytlidbaejhmamjaa.PB

namespace Go.Proofs.Ytlidbaejhmamjaa.LW
open Go.RowKit Go.Proofs.YtlidbaejhmamjaaW.PrintWords Go.Proofs.YtlidbaejhmamjaaW.PrintLast Go.Proofs.YtlidbaejhmamjaaW.PrintMore Go.Proofs.Ytlidbaejhmamjaa.PB Go.Proofs.Ytlidbaejhmamjaa.LA Go.Proofs.Ytlidbaejhmamjaa.AC
set_option linter.unusedVariables false
set_option linter.unusedSimpArgs false
/-- A row of whole numbers that is read. -/
structure Rd (w : World) (A : Option Addr) (c : Nat) (xs : List Int) : Prop where
  row : Kd.C (Kd.int .i64) w A xs.length xs
  cap : xs.length ≤ c
/-- A region's box. -/
def Bx (w : World) (g : Nat) (A0 : Option Addr) (n0 c0 : Nat) (A1 : Option Addr) (n1 c1 : Nat) : Prop := w.heap[g]? = some (.cells #[.slice A0 n0 c0, .slice A1 n1 c1] 24 (0, 0))
theorem Rd.step {w w' : World} {A : Option Addr} {c : Nat} {xs : List Int} (h : Rd w A c xs) (hb : Below w.heap.size w w') : Rd w' A c xs := ⟨Kd.C_below h.row hb, h.cap⟩
theorem Rd.of_R {w : World} {base : Nat} {ok : Nat → Prop} {v : Value} {xs : List Int} (h : Kd.R (Kd.int .i64) 3 w base ok v xs) : ∃ A c, v = .slice A xs.length c ∧ Rd w A c xs := by
  obtain ⟨A, c, rfl⟩ := Kd.R_slice h
  have := Kd.R_reads' h
  exact ⟨A, c, rfl, this.2.2, this.2.1⟩
theorem Rd.put {w w' : World} {A : Option Addr} {c : Nat} {xs : List Int} (h : Rd w A c xs) {g : Nat} {A0 A1 : Option Addr} {n0 c0 n1 c1 : Nat} (hk : Bx w g A0 n0 c0 A1 n1 c1) (hg : w.grownBy w' (some g)) : Rd w' A c xs := by
  refine ⟨⟨h.row.1, h.row.2.1, fun hn => ?_⟩, h.cap⟩
  obtain ⟨ad, e, hc⟩ := h.row.2.2 hn
  refine ⟨ad, e, fun j p hj => ?_⟩
  obtain ⟨cs, hs, hr, hcell⟩ := hc j p hj
  refine ⟨cs, hs, hr, fun i u hu => ?_⟩
  have hold := hcell i u hu
  have hu2 : u = .int .i64 p := by
    have hr2 : cs = [Value.int .i64 p] := hr
    subst hr2
    cases i with
    | zero => exact (Option.some.inj hu).symm
    | succ i => cases hu
  by_cases hb : (ad.add (j * (Kd.int .i64).sz + i)).block = g
  · exfalso
    unfold World.cell? at hold
    rw [hb, hk, hu2] at hold
    simp only at hold
    split at hold
    · cases hold
    · generalize (ad.add (j * (Kd.int .i64).sz + i)).off = o at hold
      match o with
      | 0 => simp at hold
      | 1 => simp at hold
      | o + 2 => simp at hold
  · rw [World.cell?_of_block (w := w) (hg.block _ (by
      unfold World.cell? at hold
      split at hold
      · rename_i h1; exact blk_lt h1
      · cases hold) (fun e => hb (Option.some.inj e)))]
    exact hold
theorem Bx.step {w w' : World} {g : Nat} {A0 A1 : Option Addr} {n0 c0 n1 c1 : Nat} (h : Bx w g A0 n0 c0 A1 n1 c1) (hb : Below w.heap.size w w') : Bx w' g A0 n0 c0 A1 n1 c1 := blk_below h hb
theorem Bx.put {w w' : World} {g g' : Nat} {A0 A1 : Option Addr} {n0 c0 n1 c1 : Nat} (h : Bx w g A0 n0 c0 A1 n1 c1) (hg : w.grownBy w' (some g')) (hne : g ≠ g') : Bx w' g A0 n0 c0 A1 n1 c1 := grown_blk hg h (fun e => hne (Option.some.inj e))
theorem Bx.lt {w : World} {g : Nat} {A0 A1 : Option Addr} {n0 c0 n1 c1 : Nat} (h : Bx w g A0 n0 c0 A1 n1 c1) : g < w.heap.size := blk_lt h
theorem Bx.c0 {w : World} {g : Nat} {A0 A1 : Option Addr} {n0 c0 n1 c1 : Nat} (h : Bx w g A0 n0 c0 A1 n1 c1) : w.cell? ⟨g, 0, none⟩ = some (.slice A0 n0 c0) := (blk_cell h 0).trans rfl
theorem Bx.c1 {w : World} {g : Nat} {A0 A1 : Option Addr} {n0 c0 n1 c1 : Nat} (h : Bx w g A0 n0 c0 A1 n1 c1) : w.cell? ⟨g, 1, none⟩ = some (.slice A1 n1 c1) := (blk_cell h 1).trans rfl
theorem info24 : (Try.prog.info? 24).map (·.size) = some 2 := by kernel_rfl
theorem slices_one (A0 A1 : Option Addr) (n0 c0 n1 c1 : Nat) : (#[Value.slice A0 n0 c0, .slice A1 n1 c1] : Array Value).all (·.oneCell') = true := by simp [Value.oneCell']
theorem awake_vals : ∃ (p0 p1 a0 a1 b0 b1 l y1 y2 y3 y4 y5 : List Int), split_Whole.f 40 2 = some (p0, p1, 0) ∧ split_Halve.f 40 p0 p1 1 = some (a0, a1, b0, b1, 0) ∧ split_Way.f 40 b0 b1 = some (1, 0) ∧ split_Ends.f 40 b0 b1 y1 1 = some (l, 0) ∧
    ambitref18_SameInts.f 40 l y2 = some true ∧ split_Check.f 40 p0 p1 2 = some 0 ∧ decide (Win a0 a1 y3 0) = true ∧ decide (Win b0 b1 y4 0) = false ∧ ambitref18_SameInts.f 40 b1 y5 = some true ∧
    y1 = [1, -1] ∧ y2 = [2, 0] ∧ y3 = [0, -1] ∧ y4 = [0, -1] ∧ y5 = [0, 1] :=
  ⟨[0, 0], [0, 0], [0, 1], [0, 0], [0, 1], [0, 1], [2, 0], _, _, _, _, _, by kernel_rfl, by kernel_rfl, by kernel_rfl, by kernel_rfl, by kernel_rfl, by kernel_rfl, by decide +kernel, by decide +kernel, by kernel_rfl, rfl, rfl, rfl, rfl, rfl⟩
end Go.Proofs.Ytlidbaejhmamjaa.LW

namespace Go.Proofs.Ytlidbaejhmamjaa.LW
open Go.RowKit Go.Proofs.YtlidbaejhmamjaaW.PrintWords Go.Proofs.YtlidbaejhmamjaaW.PrintLast Go.Proofs.YtlidbaejhmamjaaW.PrintMore Go.Proofs.Ytlidbaejhmamjaa.PB Go.Proofs.Ytlidbaejhmamjaa.LA Go.Proofs.Ytlidbaejhmamjaa.AC
set_option linter.unusedVariables false
set_option linter.unusedSimpArgs false
theorem drawn0_below {w w' : World} (h : Drawn0 w w') : Below w.heap.size w w' := by
  obtain ⟨n, rfl⟩ := h
  exact below_drewN (Below.refl _ _) n
set_option maxRecDepth 100000 in
set_option maxHeartbeats 4000000 in
theorem awake_calls (w : World) : Calls Try.prog 14 #[] w fun e w' => e = .returned (.bool true) ∧ Below w.heap.size w w' := by
  obtain ⟨p0, p1, a0, a1, b0, b1, l, y1, y2, y3, y4, y5, h1, h2, h3, h4, h5, h6, h7, h8, h9, e1, e2, e3, e4, e5⟩ := awake_vals
  have F1 := Aside0.mk h1
  have F2 := Aside0.mk h2
  have F3 := Aside0.mk h3
  have F4 := Aside0.mk h4
  have F5 := Aside0.mk h5
  have F6 := Aside0.mk h6
  have F7 := Aside0.mk h7
  have F8 := Aside0.mk h8
  have F9 := Aside0.mk h9
  have E1 := Aside0.mk e1
  have E2 := Aside0.mk e2
  have E3 := Aside0.mk e3
  have E4 := Aside0.mk e4
  have E5 := Aside0.mk e5
  have HI3 := Aside0.mk (show I64 y3 by rw [e3]; intro x hx; simp at hx; omega)
  have HI4 := Aside0.mk (show I64 y4 by rw [e4]; intro x hx; simp at hx; omega)
  clear h1 h2 h3 h4 h5 h6 h7 h8 h9 e1 e2 e3 e4 e5
  have hu24 := Try.underlying24
  have HB := Aside0.mk (Below.refl w.heap.size w)
  go_enter Try.func14, Try.ntmps14
  go_wp2_with fail
  refine (split_Whole.calls 40 2 p0 p1 0 w F1.out).mono ?_
  rintro e w1 ⟨v0, v1, rfl, h0, h1, hb⟩
  obtain ⟨A_p0, c_p0, rfl, r_p0⟩ := Rd.of_R h0
  obtain ⟨A_p1, c_p1, rfl, r_p1⟩ := Rd.of_R h1
  replace HB := Aside0.mk (below_step HB.out hb)
  have R_p0 := Aside0.mk r_p0
  have R_p1 := Aside0.mk r_p1
  clear hb r_p0 h0 r_p1 h1
  go_wp2_with (first
    | ((with_reducible refine gate_dst (N := 1) rfl ?_); refine box_event rfl (N := 1) rfl (cs := #[.slice none 0 0, .slice none 0 0]) (t := 24) ?hr ?_; (case hr => first | (go_simp; done) | (go_simp; rfl)); intro g_p hg_ w2 hw_ hb_; have L_p := Aside0.mk (show w.heap.size ≤ g_p by have := HB.out.size; omega); replace R_p0 := Aside0.mk (R_p0.out.step hb_); replace R_p1 := Aside0.mk (R_p1.out.step hb_); replace HB := Aside0.mk (below_step HB.out hb_); have K_p := Aside0.mk (show Bx w2 g_p none 0 0 none 0 0 from hw_); clear hg_ hw_ hb_)
    | ((with_reducible refine gate_store (t := 24) (p := 1) rfl ?_); refine store_row_event rfl 24 rfl rfl g_p #[.slice A_p0 p0.length c_p0, .slice A_p1 p1.length c_p1] rfl rfl 24 _ K_p.out (info24.trans rfl) rfl (slices_one _ _ _ _ _ _) ?_; intro w3 hw_ hg_; replace R_p0 := Aside0.mk (R_p0.out.put K_p.out hg_); replace R_p1 := Aside0.mk (R_p1.out.put K_p.out hg_); replace HB := Aside0.mk (HB.out.grown hg_ HB.out.size (fun k_ hk_ => by cases hk_; exact L_p.out)); replace K_p := Aside0.mk (show Bx w3 g_p A_p0 p0.length c_p0 A_p1 p1.length c_p1 from hw_); clear hw_ hg_; have c_p_0 := K_p.out.c0; have c_p_1 := K_p.out.c1)
    | fail)
  refine (split_Halve.calls 40 A_p0 c_p0 p0 A_p1 c_p1 p1 1 a0 a1 b0 b1 0 w3 R_p0.out.row R_p0.out.cap R_p1.out.row R_p1.out.cap F2.out).mono ?_
  rintro e w4 ⟨v0, v1, v2, v3, rfl, h0, h1, h2, h3, hb⟩
  clear c_p_0 c_p_1
  obtain ⟨A_a0, c_a0, rfl, r_a0⟩ := Rd.of_R h0
  obtain ⟨A_a1, c_a1, rfl, r_a1⟩ := Rd.of_R h1
  obtain ⟨A_b0, c_b0, rfl, r_b0⟩ := Rd.of_R h2
  obtain ⟨A_b1, c_b1, rfl, r_b1⟩ := Rd.of_R h3
  replace R_p0 := Aside0.mk (R_p0.out.step hb); replace R_p1 := Aside0.mk (R_p1.out.step hb); replace K_p := Aside0.mk (K_p.out.step hb); replace HB := Aside0.mk (below_step HB.out hb)
  have R_a0 := Aside0.mk r_a0
  have R_a1 := Aside0.mk r_a1
  have R_b0 := Aside0.mk r_b0
  have R_b1 := Aside0.mk r_b1
  clear hb r_a0 h0 r_a1 h1 r_b0 h2 r_b1 h3
  go_wp2_with (first
    | ((with_reducible refine gate_dst (N := 3) rfl ?_); refine box_event rfl (N := 3) rfl (cs := #[.slice none 0 0, .slice none 0 0]) (t := 24) ?hr ?_; (case hr => first | (go_simp; done) | (go_simp; rfl)); intro g_a hg_ w5 hw_ hb_; have N_a_p := Aside0.mk (show g_p ≠ g_a by have := K_p.out.lt; omega); have L_a := Aside0.mk (show w.heap.size ≤ g_a by have := HB.out.size; omega); replace R_p0 := Aside0.mk (R_p0.out.step hb_); replace R_p1 := Aside0.mk (R_p1.out.step hb_); replace R_a0 := Aside0.mk (R_a0.out.step hb_); replace R_a1 := Aside0.mk (R_a1.out.step hb_); replace R_b0 := Aside0.mk (R_b0.out.step hb_); replace R_b1 := Aside0.mk (R_b1.out.step hb_); replace K_p := Aside0.mk (K_p.out.step hb_); replace HB := Aside0.mk (below_step HB.out hb_); have K_a := Aside0.mk (show Bx w5 g_a none 0 0 none 0 0 from hw_); clear hg_ hw_ hb_)
    | ((with_reducible refine gate_dst (N := 4) rfl ?_); refine box_event rfl (N := 4) rfl (cs := #[.slice none 0 0, .slice none 0 0]) (t := 24) ?hr ?_; (case hr => first | (go_simp; done) | (go_simp; rfl)); intro g_b hg_ w6 hw_ hb_; have N_b_p := Aside0.mk (show g_p ≠ g_b by have := K_p.out.lt; omega); have N_b_a := Aside0.mk (show g_a ≠ g_b by have := K_a.out.lt; omega); have L_b := Aside0.mk (show w.heap.size ≤ g_b by have := HB.out.size; omega); replace R_p0 := Aside0.mk (R_p0.out.step hb_); replace R_p1 := Aside0.mk (R_p1.out.step hb_); replace R_a0 := Aside0.mk (R_a0.out.step hb_); replace R_a1 := Aside0.mk (R_a1.out.step hb_); replace R_b0 := Aside0.mk (R_b0.out.step hb_); replace R_b1 := Aside0.mk (R_b1.out.step hb_); replace K_p := Aside0.mk (K_p.out.step hb_); replace K_a := Aside0.mk (K_a.out.step hb_); replace HB := Aside0.mk (below_step HB.out hb_); have K_b := Aside0.mk (show Bx w6 g_b none 0 0 none 0 0 from hw_); clear hg_ hw_ hb_)
    | ((with_reducible refine gate_store (t := 24) (p := 3) rfl ?_); refine store_row_event rfl 24 rfl rfl g_a #[.slice A_a0 a0.length c_a0, .slice A_a1 a1.length c_a1] rfl rfl 24 _ K_a.out (info24.trans rfl) rfl (slices_one _ _ _ _ _ _) ?_; intro w7 hw_ hg_; replace R_p0 := Aside0.mk (R_p0.out.put K_a.out hg_); replace R_p1 := Aside0.mk (R_p1.out.put K_a.out hg_); replace R_a0 := Aside0.mk (R_a0.out.put K_a.out hg_); replace R_a1 := Aside0.mk (R_a1.out.put K_a.out hg_); replace R_b0 := Aside0.mk (R_b0.out.put K_a.out hg_); replace R_b1 := Aside0.mk (R_b1.out.put K_a.out hg_); replace K_p := Aside0.mk (K_p.out.put hg_ N_a_p.out); replace K_b := Aside0.mk (K_b.out.put hg_ N_b_a.out.symm); replace HB := Aside0.mk (HB.out.grown hg_ HB.out.size (fun k_ hk_ => by cases hk_; exact L_a.out)); replace K_a := Aside0.mk (show Bx w7 g_a A_a0 a0.length c_a0 A_a1 a1.length c_a1 from hw_); clear hw_ hg_; have c_a_0 := K_a.out.c0; have c_a_1 := K_a.out.c1)
    | ((with_reducible refine gate_store (t := 24) (p := 4) rfl ?_); refine store_row_event rfl 24 rfl rfl g_b #[.slice A_b0 b0.length c_b0, .slice A_b1 b1.length c_b1] rfl rfl 24 _ K_b.out (info24.trans rfl) rfl (slices_one _ _ _ _ _ _) ?_; intro w8 hw_ hg_; replace R_p0 := Aside0.mk (R_p0.out.put K_b.out hg_); replace R_p1 := Aside0.mk (R_p1.out.put K_b.out hg_); replace R_a0 := Aside0.mk (R_a0.out.put K_b.out hg_); replace R_a1 := Aside0.mk (R_a1.out.put K_b.out hg_); replace R_b0 := Aside0.mk (R_b0.out.put K_b.out hg_); replace R_b1 := Aside0.mk (R_b1.out.put K_b.out hg_); replace K_p := Aside0.mk (K_p.out.put hg_ N_b_p.out); replace K_a := Aside0.mk (K_a.out.put hg_ N_b_a.out); replace HB := Aside0.mk (HB.out.grown hg_ HB.out.size (fun k_ hk_ => by cases hk_; exact L_b.out)); replace K_b := Aside0.mk (show Bx w8 g_b A_b0 b0.length c_b0 A_b1 b1.length c_b1 from hw_); clear hw_ hg_; have c_b_0 := K_b.out.c0; have c_b_1 := K_b.out.c1)
    | fail)
  refine (split_Way.calls 40 A_b0 c_b0 b0 A_b1 c_b1 b1 1 0 w8 R_b0.out.row R_b0.out.cap R_b1.out.row R_b1.out.cap F3.out).mono ?_
  rintro e w9 ⟨rfl, hb⟩
  clear c_a_0 c_a_1 c_b_0 c_b_1
  replace R_p0 := Aside0.mk (R_p0.out.step hb); replace R_p1 := Aside0.mk (R_p1.out.step hb); replace R_a0 := Aside0.mk (R_a0.out.step hb); replace R_a1 := Aside0.mk (R_a1.out.step hb); replace R_b0 := Aside0.mk (R_b0.out.step hb); replace R_b1 := Aside0.mk (R_b1.out.step hb); replace K_p := Aside0.mk (K_p.out.step hb); replace K_a := Aside0.mk (K_a.out.step hb); replace K_b := Aside0.mk (K_b.out.step hb); replace HB := Aside0.mk (below_step HB.out hb)
  clear hb
  have c_b_0 := K_b.out.c0
  have c_b_1 := K_b.out.c1
  go_wp2_with (first
    | ((with_reducible refine gate_dst (N := 27) rfl ?_); (try (refine gate_guard (by rfl) ?_; dsimp only)); refine Kd.R_lit (Kd.int .i64) _ 3 ?hg (N := 27) ?hd (xs := ([1, (-1)] : List Int)) (inner := [.int .i64 1, .int .i64 (-1)]) (ok := fun _ => True) (okp := fun _ => True) ?hr ?hp (fun _ hk => hk) trivial (Below.refl _ _) (Nat.le_refl _) (by simp) ?_; (case hd => rfl); (case hg => rfl); (case hr => first | (go_simp; done) | (go_simp; rfl)); (case hp => exact (Reps.one (show Kd.M (Kd.int .i64) _ _ _ 1 [.int .i64 1] from rfl) (Reps.one (show Kd.M (Kd.int .i64) _ _ _ (-1) [.int .i64 (-1)] from rfl) (Reps.none _ _)))); intro v_ w10 ho_ hb_ hg_ hnew_; clear hg_ hnew_; rw [← E1.out] at ho_; obtain ⟨A_y1, c_y1, rfl, hr_⟩ := Rd.of_R ho_; replace R_p0 := Aside0.mk (R_p0.out.step hb_); replace R_p1 := Aside0.mk (R_p1.out.step hb_); replace R_a0 := Aside0.mk (R_a0.out.step hb_); replace R_a1 := Aside0.mk (R_a1.out.step hb_); replace R_b0 := Aside0.mk (R_b0.out.step hb_); replace R_b1 := Aside0.mk (R_b1.out.step hb_); replace K_p := Aside0.mk (K_p.out.step hb_); replace K_a := Aside0.mk (K_a.out.step hb_); replace K_b := Aside0.mk (K_b.out.step hb_); replace HB := Aside0.mk (below_step HB.out hb_); have R_y1 := Aside0.mk hr_; clear ho_ hb_ hr_)
    | fail)
  refine (split_Ends.calls 40 A_b0 c_b0 b0 A_b1 c_b1 b1 A_y1 c_y1 y1 1 l 0 w10 R_b0.out.row R_b0.out.cap R_b1.out.row R_b1.out.cap R_y1.out.row R_y1.out.cap F4.out).mono ?_
  rintro e w11 ⟨v0, rfl, h0, hb⟩
  clear c_b_0 c_b_1
  obtain ⟨A_l, c_l, rfl, r_l⟩ := Rd.of_R h0
  replace R_p0 := Aside0.mk (R_p0.out.step hb); replace R_p1 := Aside0.mk (R_p1.out.step hb); replace R_a0 := Aside0.mk (R_a0.out.step hb); replace R_a1 := Aside0.mk (R_a1.out.step hb); replace R_b0 := Aside0.mk (R_b0.out.step hb); replace R_b1 := Aside0.mk (R_b1.out.step hb); replace R_y1 := Aside0.mk (R_y1.out.step hb); replace K_p := Aside0.mk (K_p.out.step hb); replace K_a := Aside0.mk (K_a.out.step hb); replace K_b := Aside0.mk (K_b.out.step hb); replace HB := Aside0.mk (below_step HB.out hb)
  have R_l := Aside0.mk r_l
  clear hb r_l h0
  go_wp2_with (first
    | ((with_reducible refine gate_dst (N := 51) rfl ?_); (try (refine gate_guard (by rfl) ?_; dsimp only)); refine Kd.R_lit (Kd.int .i64) _ 3 ?hg (N := 51) ?hd (xs := ([2, 0] : List Int)) (inner := [.int .i64 2, .int .i64 0]) (ok := fun _ => True) (okp := fun _ => True) ?hr ?hp (fun _ hk => hk) trivial (Below.refl _ _) (Nat.le_refl _) (by simp) ?_; (case hd => rfl); (case hg => rfl); (case hr => first | (go_simp; done) | (go_simp; rfl)); (case hp => exact (Reps.one (show Kd.M (Kd.int .i64) _ _ _ 2 [.int .i64 2] from rfl) (Reps.one (show Kd.M (Kd.int .i64) _ _ _ 0 [.int .i64 0] from rfl) (Reps.none _ _)))); intro v_ w12 ho_ hb_ hg_ hnew_; clear hg_ hnew_; rw [← E2.out] at ho_; obtain ⟨A_y2, c_y2, rfl, hr_⟩ := Rd.of_R ho_; replace R_p0 := Aside0.mk (R_p0.out.step hb_); replace R_p1 := Aside0.mk (R_p1.out.step hb_); replace R_a0 := Aside0.mk (R_a0.out.step hb_); replace R_a1 := Aside0.mk (R_a1.out.step hb_); replace R_b0 := Aside0.mk (R_b0.out.step hb_); replace R_b1 := Aside0.mk (R_b1.out.step hb_); replace R_y1 := Aside0.mk (R_y1.out.step hb_); replace R_l := Aside0.mk (R_l.out.step hb_); replace K_p := Aside0.mk (K_p.out.step hb_); replace K_a := Aside0.mk (K_a.out.step hb_); replace K_b := Aside0.mk (K_b.out.step hb_); replace HB := Aside0.mk (below_step HB.out hb_); have R_y2 := Aside0.mk hr_; clear ho_ hb_ hr_)
    | fail)
  refine (ambitref18_SameInts.calls 40 A_l c_l l A_y2 c_y2 y2 true w12 R_l.out.row R_l.out.cap R_y2.out.row R_y2.out.cap F5.out).mono ?_
  rintro e w13 ⟨rfl, hd⟩
  have hb := drawn0_below hd
  clear hd
  replace R_p0 := Aside0.mk (R_p0.out.step hb); replace R_p1 := Aside0.mk (R_p1.out.step hb); replace R_a0 := Aside0.mk (R_a0.out.step hb); replace R_a1 := Aside0.mk (R_a1.out.step hb); replace R_b0 := Aside0.mk (R_b0.out.step hb); replace R_b1 := Aside0.mk (R_b1.out.step hb); replace R_y1 := Aside0.mk (R_y1.out.step hb); replace R_l := Aside0.mk (R_l.out.step hb); replace R_y2 := Aside0.mk (R_y2.out.step hb); replace K_p := Aside0.mk (K_p.out.step hb); replace K_a := Aside0.mk (K_a.out.step hb); replace K_b := Aside0.mk (K_b.out.step hb); replace HB := Aside0.mk (below_step HB.out hb)
  clear hb
  have c_p_0 := K_p.out.c0
  have c_a_0 := K_a.out.c0
  have c_b_0 := K_b.out.c0
  have c_p_1 := K_p.out.c1
  have c_a_1 := K_a.out.c1
  have c_b_1 := K_b.out.c1
  go_wp2_with fail
  refine (split_Check.calls 40 A_p0 c_p0 p0 A_p1 c_p1 p1 2 0 w13 R_p0.out.row R_p0.out.cap R_p1.out.row R_p1.out.cap F6.out).mono ?_
  rintro e w14 ⟨rfl, hb⟩
  clear c_p_0 c_p_1 c_a_0 c_a_1 c_b_0 c_b_1
  replace R_p0 := Aside0.mk (R_p0.out.step hb); replace R_p1 := Aside0.mk (R_p1.out.step hb); replace R_a0 := Aside0.mk (R_a0.out.step hb); replace R_a1 := Aside0.mk (R_a1.out.step hb); replace R_b0 := Aside0.mk (R_b0.out.step hb); replace R_b1 := Aside0.mk (R_b1.out.step hb); replace R_y1 := Aside0.mk (R_y1.out.step hb); replace R_l := Aside0.mk (R_l.out.step hb); replace R_y2 := Aside0.mk (R_y2.out.step hb); replace K_p := Aside0.mk (K_p.out.step hb); replace K_a := Aside0.mk (K_a.out.step hb); replace K_b := Aside0.mk (K_b.out.step hb); replace HB := Aside0.mk (below_step HB.out hb)
  clear hb
  have c_p_0 := K_p.out.c0
  have c_a_0 := K_a.out.c0
  have c_b_0 := K_b.out.c0
  have c_p_1 := K_p.out.c1
  have c_a_1 := K_a.out.c1
  have c_b_1 := K_b.out.c1
  go_wp2_with (first
    | ((with_reducible refine gate_dst (N := 60) rfl ?_); (try (refine gate_guard (by rfl) ?_; dsimp only)); refine Kd.R_lit (Kd.int .i64) _ 3 ?hg (N := 60) ?hd (xs := ([0, (-1)] : List Int)) (inner := [.int .i64 0, .int .i64 (-1)]) (ok := fun _ => True) (okp := fun _ => True) ?hr ?hp (fun _ hk => hk) trivial (Below.refl _ _) (Nat.le_refl _) (by simp) ?_; (case hd => rfl); (case hg => rfl); (case hr => first | (go_simp; done) | (go_simp; rfl)); (case hp => exact (Reps.one (show Kd.M (Kd.int .i64) _ _ _ 0 [.int .i64 0] from rfl) (Reps.one (show Kd.M (Kd.int .i64) _ _ _ (-1) [.int .i64 (-1)] from rfl) (Reps.none _ _)))); intro v_ w15 ho_ hb_ hg_ hnew_; clear hg_ hnew_; rw [← E3.out] at ho_; obtain ⟨A_y3, c_y3, rfl, hr_⟩ := Rd.of_R ho_; replace R_p0 := Aside0.mk (R_p0.out.step hb_); replace R_p1 := Aside0.mk (R_p1.out.step hb_); replace R_a0 := Aside0.mk (R_a0.out.step hb_); replace R_a1 := Aside0.mk (R_a1.out.step hb_); replace R_b0 := Aside0.mk (R_b0.out.step hb_); replace R_b1 := Aside0.mk (R_b1.out.step hb_); replace R_y1 := Aside0.mk (R_y1.out.step hb_); replace R_l := Aside0.mk (R_l.out.step hb_); replace R_y2 := Aside0.mk (R_y2.out.step hb_); replace K_p := Aside0.mk (K_p.out.step hb_); replace K_a := Aside0.mk (K_a.out.step hb_); replace K_b := Aside0.mk (K_b.out.step hb_); replace HB := Aside0.mk (below_step HB.out hb_); have R_y3 := Aside0.mk hr_; clear ho_ hb_ hr_)
    | fail)
  refine (within_calls A_a0 c_a0 a0 A_a1 c_a1 a1 A_y3 c_y3 y3 0 w15 R_a0.out.row R_a0.out.cap R_a1.out.row R_a1.out.cap R_y3.out.row R_y3.out.cap HI3.out).mono ?_
  rw [F7.out]
  rintro e w16 ⟨rfl, hb⟩
  clear c_p_0 c_p_1 c_a_0 c_a_1 c_b_0 c_b_1
  replace R_p0 := Aside0.mk (R_p0.out.step hb); replace R_p1 := Aside0.mk (R_p1.out.step hb); replace R_a0 := Aside0.mk (R_a0.out.step hb); replace R_a1 := Aside0.mk (R_a1.out.step hb); replace R_b0 := Aside0.mk (R_b0.out.step hb); replace R_b1 := Aside0.mk (R_b1.out.step hb); replace R_y1 := Aside0.mk (R_y1.out.step hb); replace R_l := Aside0.mk (R_l.out.step hb); replace R_y2 := Aside0.mk (R_y2.out.step hb); replace R_y3 := Aside0.mk (R_y3.out.step hb); replace K_p := Aside0.mk (K_p.out.step hb); replace K_a := Aside0.mk (K_a.out.step hb); replace K_b := Aside0.mk (K_b.out.step hb); replace HB := Aside0.mk (below_step HB.out hb)
  clear hb
  have c_p_0 := K_p.out.c0
  have c_a_0 := K_a.out.c0
  have c_b_0 := K_b.out.c0
  have c_p_1 := K_p.out.c1
  have c_a_1 := K_a.out.c1
  have c_b_1 := K_b.out.c1
  go_wp2_with (first
    | ((with_reducible refine gate_dst (N := 65) rfl ?_); (try (refine gate_guard (by rfl) ?_; dsimp only)); refine Kd.R_lit (Kd.int .i64) _ 3 ?hg (N := 65) ?hd (xs := ([0, (-1)] : List Int)) (inner := [.int .i64 0, .int .i64 (-1)]) (ok := fun _ => True) (okp := fun _ => True) ?hr ?hp (fun _ hk => hk) trivial (Below.refl _ _) (Nat.le_refl _) (by simp) ?_; (case hd => rfl); (case hg => rfl); (case hr => first | (go_simp; done) | (go_simp; rfl)); (case hp => exact (Reps.one (show Kd.M (Kd.int .i64) _ _ _ 0 [.int .i64 0] from rfl) (Reps.one (show Kd.M (Kd.int .i64) _ _ _ (-1) [.int .i64 (-1)] from rfl) (Reps.none _ _)))); intro v_ w17 ho_ hb_ hg_ hnew_; clear hg_ hnew_; rw [← E4.out] at ho_; obtain ⟨A_y4, c_y4, rfl, hr_⟩ := Rd.of_R ho_; replace R_p0 := Aside0.mk (R_p0.out.step hb_); replace R_p1 := Aside0.mk (R_p1.out.step hb_); replace R_a0 := Aside0.mk (R_a0.out.step hb_); replace R_a1 := Aside0.mk (R_a1.out.step hb_); replace R_b0 := Aside0.mk (R_b0.out.step hb_); replace R_b1 := Aside0.mk (R_b1.out.step hb_); replace R_y1 := Aside0.mk (R_y1.out.step hb_); replace R_l := Aside0.mk (R_l.out.step hb_); replace R_y2 := Aside0.mk (R_y2.out.step hb_); replace R_y3 := Aside0.mk (R_y3.out.step hb_); replace K_p := Aside0.mk (K_p.out.step hb_); replace K_a := Aside0.mk (K_a.out.step hb_); replace K_b := Aside0.mk (K_b.out.step hb_); replace HB := Aside0.mk (below_step HB.out hb_); have R_y4 := Aside0.mk hr_; clear ho_ hb_ hr_)
    | fail)
  refine (within_calls A_b0 c_b0 b0 A_b1 c_b1 b1 A_y4 c_y4 y4 0 w17 R_b0.out.row R_b0.out.cap R_b1.out.row R_b1.out.cap R_y4.out.row R_y4.out.cap HI4.out).mono ?_
  rw [F8.out]
  rintro e w18 ⟨rfl, hb⟩
  clear c_p_0 c_p_1 c_a_0 c_a_1 c_b_0 c_b_1
  replace R_p0 := Aside0.mk (R_p0.out.step hb); replace R_p1 := Aside0.mk (R_p1.out.step hb); replace R_a0 := Aside0.mk (R_a0.out.step hb); replace R_a1 := Aside0.mk (R_a1.out.step hb); replace R_b0 := Aside0.mk (R_b0.out.step hb); replace R_b1 := Aside0.mk (R_b1.out.step hb); replace R_y1 := Aside0.mk (R_y1.out.step hb); replace R_l := Aside0.mk (R_l.out.step hb); replace R_y2 := Aside0.mk (R_y2.out.step hb); replace R_y3 := Aside0.mk (R_y3.out.step hb); replace R_y4 := Aside0.mk (R_y4.out.step hb); replace K_p := Aside0.mk (K_p.out.step hb); replace K_a := Aside0.mk (K_a.out.step hb); replace K_b := Aside0.mk (K_b.out.step hb); replace HB := Aside0.mk (below_step HB.out hb)
  clear hb
  have c_p_0 := K_p.out.c0
  have c_a_0 := K_a.out.c0
  have c_b_0 := K_b.out.c0
  have c_p_1 := K_p.out.c1
  have c_a_1 := K_a.out.c1
  have c_b_1 := K_b.out.c1
  go_wp2_with (first
    | ((with_reducible refine gate_dst (N := 72) rfl ?_); (try (refine gate_guard (by rfl) ?_; dsimp only)); refine Kd.R_lit (Kd.int .i64) _ 3 ?hg (N := 72) ?hd (xs := ([0, 1] : List Int)) (inner := [.int .i64 0, .int .i64 1]) (ok := fun _ => True) (okp := fun _ => True) ?hr ?hp (fun _ hk => hk) trivial (Below.refl _ _) (Nat.le_refl _) (by simp) ?_; (case hd => rfl); (case hg => rfl); (case hr => first | (go_simp; done) | (go_simp; rfl)); (case hp => exact (Reps.one (show Kd.M (Kd.int .i64) _ _ _ 0 [.int .i64 0] from rfl) (Reps.one (show Kd.M (Kd.int .i64) _ _ _ 1 [.int .i64 1] from rfl) (Reps.none _ _)))); intro v_ w19 ho_ hb_ hg_ hnew_; clear hg_ hnew_; rw [← E5.out] at ho_; obtain ⟨A_y5, c_y5, rfl, hr_⟩ := Rd.of_R ho_; replace R_p0 := Aside0.mk (R_p0.out.step hb_); replace R_p1 := Aside0.mk (R_p1.out.step hb_); replace R_a0 := Aside0.mk (R_a0.out.step hb_); replace R_a1 := Aside0.mk (R_a1.out.step hb_); replace R_b0 := Aside0.mk (R_b0.out.step hb_); replace R_b1 := Aside0.mk (R_b1.out.step hb_); replace R_y1 := Aside0.mk (R_y1.out.step hb_); replace R_l := Aside0.mk (R_l.out.step hb_); replace R_y2 := Aside0.mk (R_y2.out.step hb_); replace R_y3 := Aside0.mk (R_y3.out.step hb_); replace R_y4 := Aside0.mk (R_y4.out.step hb_); replace K_p := Aside0.mk (K_p.out.step hb_); replace K_a := Aside0.mk (K_a.out.step hb_); replace K_b := Aside0.mk (K_b.out.step hb_); replace HB := Aside0.mk (below_step HB.out hb_); have R_y5 := Aside0.mk hr_; clear ho_ hb_ hr_)
    | fail)
  refine (ambitref18_SameInts.calls 40 A_b1 c_b1 b1 A_y5 c_y5 y5 true w19 R_b1.out.row R_b1.out.cap R_y5.out.row R_y5.out.cap F9.out).mono ?_
  rintro e w20 ⟨rfl, hd⟩
  have hb := drawn0_below hd
  clear hd
  replace HB := Aside0.mk (below_step HB.out hb)
  clear hb
  clear c_p_0 c_p_1 c_a_0 c_a_1 c_b_0 c_b_1
  go_wp2_with fail
  go_ret
  exact ⟨by first | done | rfl, HB.out⟩
end Go.Proofs.Ytlidbaejhmamjaa.LW

namespace Go.Proofs.Ytlidbaejhmamjaa.PB
open Go.RowKit Go.Proofs.YtlidbaejhmamjaaW.PrintWords Go.Proofs.YtlidbaejhmamjaaW.PrintLast Go.Proofs.YtlidbaejhmamjaaW.PrintMore
set_option linter.unusedVariables false
def ambitlaw18_awake.f (k : Nat) : Option (Bool) := some true
theorem ambitlaw18_awake.calls (k : Nat) (r : Bool) (w : World) (h : ambitlaw18_awake.f k = some r) : Calls Try.prog 14 #[] w fun e w' => e = .returned (.bool r) ∧ Below w.heap.size w w' := by
  rw [← Option.some.inj h]
  exact LW.awake_calls w
end Go.Proofs.Ytlidbaejhmamjaa.PB

namespace Go.Proofs.Ytlidbaejhmamjaa.PB
open Go.RowKit Go.Proofs.YtlidbaejhmamjaaW.PrintWords Go.Proofs.YtlidbaejhmamjaaW.PrintLast Go.Proofs.YtlidbaejhmamjaaW.PrintMore
set_option linter.unusedVariables false
instance (es : List Int) : Decidable (AC.I64 es) := by unfold AC.I64; infer_instance
def split_Within.f (l0_0 : List Int) (l0_1 : List Int) (l1 : List Int) (a2 : Int) : Option (Bool) := if AC.I64 l1 then some (decide (AC.Win l0_0 l0_1 l1 a2)) else none
theorem split_Within.calls (A0_0 : Option Addr) (c0_0 : Nat) (l0_0 : List Int) (A0_1 : Option Addr) (c0_1 : Nat) (l0_1 : List Int) (A1 : Option Addr) (c1 : Nat) (l1 : List Int) (a2 : Int) (r : Bool) (w : World) (hr0_0 : Kd.C (Kd.int .i64) w A0_0 l0_0.length l0_0) (hc0_0 : l0_0.length ≤ c0_0) (hr0_1 : Kd.C (Kd.int .i64) w A0_1 l0_1.length l0_1) (hc0_1 : l0_1.length ≤ c0_1) (hr1 : Kd.C (Kd.int .i64) w A1 l1.length l1) (hc1 : l1.length ≤ c1) (h : split_Within.f l0_0 l0_1 l1 a2 = some r) :
    Calls Try.prog 24 #[.agg #[.slice A0_0 l0_0.length c0_0, .slice A0_1 l0_1.length c0_1], .slice A1 l1.length c1, .int .i64 a2] w fun e w' => e = .returned (.bool r) ∧ Below w.heap.size w w' := by
  unfold split_Within.f at h
  by_cases hi : AC.I64 l1
  · rw [if_pos hi] at h
    rw [← Option.some.inj h]
    exact AC.within_calls A0_0 c0_0 l0_0 A0_1 c0_1 l0_1 A1 c1 l1 a2 w hr0_0 hc0_0 hr0_1 hc0_1 hr1 hc1 hi
  · rw [if_neg hi] at h
    cases h
end Go.Proofs.Ytlidbaejhmamjaa.PB
