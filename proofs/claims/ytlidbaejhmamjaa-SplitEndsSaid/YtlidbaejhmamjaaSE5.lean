/- Part 5 of the proof of SplitEnds: what the functions below it compute, each shown by a walk or by plain reasoning; no condition of its own. -/
import Derived.Test.YtlidbaejhmamjaaSE1
import Derived.Test.YtlidbaejhmamjaaSE2
import Derived.Test.YtlidbaejhmamjaaSE4
import Derived.Test.YtlidbaejhmamjaaSE3
namespace Go.Proofs.Ytlidbaejhmamjaa.PB
open Go.RowKit Go.Proofs.YtlidbaejhmamjaaW.PrintWords Go.Proofs.YtlidbaejhmamjaaW.PrintLast Go.Proofs.YtlidbaejhmamjaaW.PrintMore
attribute [local go_sem] max2_int min2_int max_two min_two max_three min_three max_four min_four   -- for this text's walks alone
set_option linter.unusedVariables false
set_option linter.unusedSimpArgs false
mutual
def ambitlaw18_SplitEnds.j0 : Nat → Int → List (S52) → List Int → Int → Bool → Option (Bool)
  | 0, _, _, _, _, _ => none
  | k + 1, x0, x1, x2, x3, x25 => if x25 = true then ((ambitlaw18_awake.f k).bind fun t235 => (some t235)) else ((split_Whole.f k x0).bind fun bt236 => (if bt236.2.2 = 0 then (ambitlaw18_SplitEnds.l0 k x0 x1 x2 x3 0 bt236.1 bt236.2.1) else (none)))
def ambitlaw18_SplitEnds.l0 : Nat → Int → List (S52) → List Int → Int → Int → List Int → List Int → Option (Bool)
  | 0, _, _, _, _, _, _, _ => none
  | k + 1, x0, x1, x2, x3, x11, x244000, x244001 => if x11 < (x1.length : Int) then (ambitlaw18_SplitEnds.j2 k x0 x1 x2 x3 x11 (decide (x11 < 40)) x244000 x244001) else (ambitlaw18_SplitEnds.j2 k x0 x1 x2 x3 x11 false x244000 x244001)
def ambitlaw18_SplitEnds.j2 : Nat → Int → List (S52) → List Int → Int → Int → Bool → List Int → List Int → Option (Bool)
  | 0, _, _, _, _, _, _, _, _ => none
  | k + 1, x0, x1, x2, x3, x11, x41, x244000, x244001 => if x41 = true then (if 0 ≤ x11 then (if x11 < (x1.length : Int) then ((split_Halve.f k x244000 x244001 ((rd_T52 x1 x11).f0)).bind fun bt245 => (if bt245.2.2.2.2 = 0 then (ambitlaw18_SplitEnds.j3 k x0 x1 x2 x3 x11 bt245.2.2.2.2 ((rd_T52 x1 x11).f1) x244000 x244001 bt245.1 bt245.2.1 bt245.2.2.1 bt245.2.2.2.1) else (ambitlaw18_SplitEnds.j3 k x0 x1 x2 x3 x11 bt245.2.2.2.2 false x244000 x244001 bt245.1 bt245.2.1 bt245.2.2.1 bt245.2.2.2.1))) else (none)) else (none)) else ((split_Ends.f k x244000 x244001 x2 x3).bind fun bt261 => (if bt261.2 = 0 then ((split_Ends.f k x244000 x244001 x2 8).bind fun bt266 => (if x3 < 0 then (none) else (if x3 > 8 then (none) else (if bt266.2 = 0 then (if (bt261.1.length : Int) = x0 then (if (bt266.1.length : Int) = x0 then ((split_Within.f x244000 x244001 bt261.1 x3).bind fun t270 => (if t270 = true then (ambitlaw18_SplitEnds.l1 k x0 x3 bt261.1 bt266.1 0) else (none))) else (none)) else (none)) else (none))))) else ((ambitlaw18_awake.f k).bind fun t265 => (some t265))))
def ambitlaw18_SplitEnds.j3 : Nat → Int → List (S52) → List Int → Int → Int → Int → Bool → List Int → List Int → List Int → List Int → List Int → List Int → Option (Bool)
  | 0, _, _, _, _, _, _, _, _, _, _, _, _, _ => none
  | k + 1, x0, x1, x2, x3, x11, x14, x63, x244000, x244001, x259000, x259001, x260000, x260001 => if x63 = true then (ambitlaw18_SplitEnds.l0 k x0 x1 x2 x3 (wrap64 (x11 + 1)) x260000 x260001) else (if x14 = 0 then (ambitlaw18_SplitEnds.l0 k x0 x1 x2 x3 (wrap64 (x11 + 1)) x259000 x259001) else (ambitlaw18_SplitEnds.l0 k x0 x1 x2 x3 (wrap64 (x11 + 1)) x244000 x244001))
def ambitlaw18_SplitEnds.l1 : Nat → Int → Int → List Int → List Int → Int → Option (Bool)
  | 0, _, _, _, _, _ => none
  | k + 1, x0, x3, x15, x17, x19 => if x19 < x0 then (if 0 ≤ x19 then (if x19 < (x15.length : Int) then (if 0 ≤ (wrap64 (8 - x3)) then (if x19 < (x17.length : Int) then (if (shl .i64 (rd x15 x19) (wrap64 (8 - x3))) = (rd x17 x19) then (ambitlaw18_SplitEnds.l1 k x0 x3 x15 x17 (wrap64 (x19 + 1))) else (none)) else (none)) else (none)) else (none)) else (none)) else ((ambitlaw18_awake.f k).bind fun t273 => (some t273))
end
def ambitlaw18_SplitEnds.f (k : Nat) (a0 : Int) (l1 : List (S52)) (l2 : List Int) (a3 : Int) : Option (Bool) := if a0 < 0 then (ambitlaw18_SplitEnds.j0 k a0 l1 l2 a3 true) else (ambitlaw18_SplitEnds.j0 k a0 l1 l2 a3 (decide (a0 > 40)))
def ambitlaw18_SplitEnds.T9 : Bool × List (List Nat × List Nat) := (true, [([], []), ([], []), ([], []), ([1, 2], [1, 2]), ([3], [3]), ([4], [4]), ([0, 5], [0, 5]), ([6], [6]), ([7], [7]), ([7], [7]), ([7], [7]), ([], []), ([], []), ([11, 8, 6, 0, 1, 2, 3, 4, 5, 6, 7, 8, 11, 12], [8, 11]), ([12, 9, 13, 0, 1, 2, 3, 4, 5, 6, 7, 8, 9, 11, 12, 13], [9, 12]), ([10, 14, 0, 1, 2, 3, 4, 5, 6, 7, 8, 9, 10, 11, 12, 13, 14], [10])])
def ambitlaw18_SplitEnds.B9 : List Nat := [0, 0, 0, 6, 14, 30, 63, 127, 255, 255, 255, 0, 0, 6655, 15359, 32767]
theorem ambitlaw18_SplitEnds.tab9 : rtab .any (opsOf Try.f7 9) = ambitlaw18_SplitEnds.T9 := by kernel_rfl
theorem ambitlaw18_SplitEnds.bits9 : waitsOk ambitlaw18_SplitEnds.T9.2 ambitlaw18_SplitEnds.B9 = true := by kernel_rfl
def ambitlaw18_SplitEnds.T23 : Bool × List (List Nat × List Nat) := (true, [([], []), ([], []), ([0, 1], [0, 1]), ([2], [2]), ([], []), ([4], [4]), ([3, 5], [3, 5]), ([], []), ([], []), ([7, 8], [7, 8]), ([9], [9]), ([6, 10], [6, 10])])
def ambitlaw18_SplitEnds.B23 : List Nat := [0, 0, 3, 7, 0, 16, 63, 0, 0, 384, 896, 2047]
theorem ambitlaw18_SplitEnds.tab23 : rtab .any (opsOf Try.f7 23) = ambitlaw18_SplitEnds.T23 := by kernel_rfl
theorem ambitlaw18_SplitEnds.bits23 : waitsOk ambitlaw18_SplitEnds.T23.2 ambitlaw18_SplitEnds.B23 = true := by kernel_rfl
set_option maxHeartbeats 8000000 in
set_option maxRecDepth 100000 in
theorem ambitlaw18_SplitEnds.calls (k : Nat) (a0 : Int) (A1 : Option Addr) (c1 : Nat) (l1 : List (S52)) (A2 : Option Addr) (c2 : Nat) (l2 : List Int) (a3 : Int) (r : Bool) (w : World) (hr1 : Kd.C k52 w A1 l1.length l1) (hc1 : l1.length ≤ c1) (hr2 : Kd.C (Kd.int .i64) w A2 l2.length l2) (hc2 : l2.length ≤ c2) (h : ambitlaw18_SplitEnds.f k a0 l1 l2 a3 = some r) :
    Calls Try.prog 7 #[.int .i64 a0, .slice A1 l1.length c1, .slice A2 l2.length c2, .int .i64 a3] w fun e w' => e = .returned (.bool r) ∧ Below w.heap.size w w' := by
  have hu24 := Try.underlying24
  have HR1 := Aside0.mk hr1
  have HC1 := Aside0.mk hc1
  clear hr1 hc1
  have HR2 := Aside0.mk hr2
  have HC2 := Aside0.mk hc2
  clear hr2 hc2
  have HB := Aside0.mk (Below.refl w.heap.size w)
  have H : (if a0 < 0 then (ambitlaw18_SplitEnds.j0 k a0 l1 l2 a3 true) else (ambitlaw18_SplitEnds.j0 k a0 l1 l2 a3 (decide (a0 > 40)))) = some r := h
  clear h
  have HC5 := Aside0.mk H
  clear H
  go_enter Try.func7, Try.ntmps7
  go_upto_region 1 with (fail)
  go_cut [25] (fun v25 wc => ∃ (kq : Nat) (x25_4 : Bool), v25 = .bool x25_4 ∧ Aside0 (ambitlaw18_SplitEnds.j0 kq a0 l1 l2 a3 x25_4 = some r) ∧ Aside0 (kq ≤ k) ∧ Aside0 (Below w.heap.size w wc))
  case first =>
    have H := HC5.out
    clear HC5
    by_cases c6 : a0 < 0
    · rw [if_pos c6] at H
      have c6b0 : decide (a0 < 0) = true := decide_eq_true c6
      clear c6
      (first | rw [c6b0] | (simp only [i64_w, i32_w]; rw [c6b0]) | skip)
      have H' := Aside0.mk H
      clear H
      go_wp2
      go_meet
      case rel => exact ⟨_, (true), (by first | rfl | (simp; done) | (simp [*]; done)), H', ⟨by first | omega | exact Nat.le_refl _⟩, ⟨by repeat (first | (with_reducible first | exact HB.out | apply below_alloc | apply pw_below_drewN | apply below_drew1) | exact HB.out)⟩⟩
    · rw [if_neg c6] at H
      have c6b0 : decide (a0 < 0) = false := decide_eq_false c6
      clear c6
      (first | rw [c6b0] | (simp only [i64_w, i32_w]; rw [c6b0]) | skip)
      have H' := Aside0.mk H
      clear H
      go_wp2
      go_meet
      case rel => exact ⟨_, (decide (a0 > 40)), (by first | rfl | (simp; done) | (simp [*]; done)), H', ⟨by first | omega | exact Nat.le_refl _⟩, ⟨by repeat (first | (with_reducible first | exact HB.out | apply below_alloc | apply pw_below_drewN | apply below_drew1) | exact HB.out)⟩⟩
  case rest =>
    clear HC5
    try clear c1
    try clear c2
    try clear p2
    try clear c6
    try clear c6b0
    obtain ⟨kq, x25_4, rfl, HA, HJ4, HB⟩ := hcut
    cases kq with
    | zero => exact absurd HA.out (by simp [ambitlaw18_SplitEnds.j0])
    | succ kj4 =>
      have H := HA.out
      clear HA
      simp only [ambitlaw18_SplitEnds.j0] at H
      by_cases c7 : x25_4 = true
      · subst c7
        have H1 : ((ambitlaw18_awake.f kj4).bind fun t235 => (some t235)) = some r := by rw [if_pos rfl] at H; exact H
        clear H
        have H := H1
        clear H1
        replace H := Option.bind_eq_some_iff.mp H
        obtain ⟨t235, A80, H⟩ := H
        replace H : (some t235) = some r := H
        have A8 := Aside0.mk A80
        clear A80
        obtain rfl := Option.some.inj H
        go_wp2_with (first | ((with_reducible refine gate_callee (f := 14) rfl ?_); refine goesL_ (some 26) rfl rfl Try.func14 (by kernel_rfl) rfl #[] rfl (by (try simp only [List.map_toArray, List.map_cons, List.map_nil]); first | done | rfl | (simp only [List.length_drop, List.length_take]; rfl)) ?_; (with_reducible refine (ambitlaw18_awake.calls kj4  t235 _ A8.out).mono ?_); rintro e w9 ⟨rfl, hb⟩; refine ⟨_, rfl, ?_⟩; have n0_ := Aside0.mk (below_step (by repeat (first | (with_reducible first | exact HB.out | apply below_alloc | apply pw_below_drewN | apply below_drew1) | exact HB.out)) hb); clear HB; have HB := n0_; clear n0_; (try clear hb); (try clear hb2); (try clear hk); (try clear hi)))
        go_ret
        exact ⟨by first | rfl | (simp [errW_none, errW_some] <;> rfl) | (simp [*, errW_none, errW_some] <;> rfl), by repeat (first | (with_reducible first | exact HB.out | apply below_alloc | apply pw_below_drewN | apply below_drew1) | exact HB.out)⟩
      · replace c7 := Bool.eq_false_iff.mpr c7
        subst c7
        have H1 : ((split_Whole.f kj4 a0).bind fun bt236 => (if bt236.2.2 = 0 then (ambitlaw18_SplitEnds.l0 kj4 a0 l1 l2 a3 0 bt236.1 bt236.2.1) else (none))) = some r := by rw [if_neg (show ¬ (false = true) by decide)] at H; exact H
        clear H
        have H := H1
        clear H1
        replace H := Option.bind_eq_some_iff.mp H
        obtain ⟨⟨t236, t239, t242⟩, A100, H⟩ := H
        replace H : (if t242 = 0 then (ambitlaw18_SplitEnds.l0 kj4 a0 l1 l2 a3 0 t236 t239) else (none)) = some r := H
        have A10 := Aside0.mk A100
        clear A100
        by_cases c11 : t242 = 0
        · rw [if_pos c11] at H
          have c11b0 : (t242 == 0) = true := beq_iff_eq.mpr c11
          have c11b1 : (t242 != 0) = false := bne_eq_false_iff_eq.mpr c11
          clear c11
          have H' := Aside0.mk H
          clear H
          go_wp2_with (first | ((with_reducible refine gate_callee (f := 11) rfl ?_); refine goesL_ (some 29) rfl rfl Try.func11 (by kernel_rfl) rfl #[.int .i64 a0] rfl (by (try simp only [List.map_toArray, List.map_cons, List.map_nil]); first | done | rfl | (simp only [List.length_drop, List.length_take]; rfl)) ?_; (with_reducible refine (split_Whole.calls kj4 a0 t236 t239 t242 _ A10.out).mono ?_); rintro e w12 ⟨v237, v240, rfl, ho0, ho1, hb⟩; refine ⟨_, rfl, ?_⟩; have n0_ := Aside0.mk (Kd.R_lower ho0 (below_size (by repeat (first | (with_reducible first | exact HB.out | apply below_alloc | apply pw_below_drewN | apply below_drew1) | exact HB.out)))); have n1_ := Aside0.mk (Kd.R_lower ho1 (below_size (by repeat (first | (with_reducible first | exact HB.out | apply below_alloc | apply pw_below_drewN | apply below_drew1) | exact HB.out)))); have n2_ := Aside0.mk (below_step (by repeat (first | (with_reducible first | exact HB.out | apply below_alloc | apply pw_below_drewN | apply below_drew1) | exact HB.out)) hb); clear HB; have HO238 := n0_; have HO241 := n1_; have HB := n2_; clear n0_ n1_ n2_; (try clear hb); (try clear hb2); (try clear hk); (try clear hi); (try clear ho0); (try clear ho1)) | ((with_reducible refine gate_dst (N := 9) rfl ?_); (try (refine gate_guard (by rfl) ?_; dsimp only)); refine box_event ?hg (N := 9) ?hd (cs := #[.slice none 0 0, .slice none 0 0]) (t := 24) ?hr ?_; (case hd => rfl); (case hg => rfl); (case hr => first | (go_simp; done) | (go_simp; rfl)); intro gb243 hg w13 hbox hb; have n0_ := Aside0.mk (Kd.R_below (by (with_reducible repeat (first | apply Kd.R_alloc | apply Kd.R_drewN | apply Kd.R_drew)); exact HO238.out) hb); have n1_ := Aside0.mk (Kd.R_below (by (with_reducible repeat (first | apply Kd.R_alloc | apply Kd.R_drewN | apply Kd.R_drew)); exact HO241.out) hb); have n2_ := Aside0.mk (below_step (by repeat (first | (with_reducible first | exact HB.out | apply below_alloc | apply pw_below_drewN | apply below_drew1) | exact HB.out)) hb); have n3_ := Aside0.mk (hbox); have n4_ := Aside0.mk ((by rw [hg]; exact (below_size (by repeat (first | (with_reducible first | exact HB.out | apply below_alloc | apply pw_below_drewN | apply below_drew1) | exact HB.out))) : w.heap.size ≤ gb243)); have n5_ := Aside0.mk ((by rw [hg]; exact (below_size (by repeat (first | (with_reducible first | exact HB.out | apply below_alloc | apply pw_below_drewN | apply below_drew1) | exact HB.out))) : w.heap.size ≤ gb243)); clear HO238; clear HO241; clear HB; have HO238 := n0_; have HO241 := n1_; have HB := n2_; have BK243 := n3_; have GW243 := n4_; have GE243 := n5_; clear n0_ n1_ n2_ n3_ n4_ n5_; clear hb hbox hg; obtain ⟨Ao14, co14, eo14⟩ := Kd.R_slice HO238.out; subst eo14; have hcz15_0 : w13.cell? ⟨gb243, 0, none⟩ = some (.slice none 0 0) := (blk_cell BK243.out 0).trans rfl; have hcz15_1 : w13.cell? ⟨gb243, 1, none⟩ = some (.slice none 0 0) := (blk_cell BK243.out 1).trans rfl; have hfz15_0 := blk_frozen BK243.out 0; have hfz15_1 := blk_frozen BK243.out 1; obtain ⟨Ao16, co16, eo16⟩ := Kd.R_slice HO241.out; subst eo16))
          go_loopg [11] kj4 (fun kq v11 w' => ∃ (x11_2 : Int) (x244000_2 : List Int) (x244001_2 : List Int) (u244000 : Value) (u244001 : Value), v11 = .int .i64 x11_2 ∧ Aside0 (ambitlaw18_SplitEnds.l0 kq a0 l1 l2 a3 x11_2 x244000_2 x244001_2 = some r) ∧ Aside0 (kq ≤ kj4) ∧ Aside0 (Kd.R (Kd.int .i64) 3 w' w.heap.size (fun k_ => some k_ ≠ (u244001 : Value).ownBlock) u244000 x244000_2) ∧ Aside0 (Kd.R (Kd.int .i64) 3 w' w.heap.size (fun k_ => some k_ ≠ (u244000 : Value).ownBlock) u244001 x244001_2) ∧ Aside0 (w'.heap[gb243]? = some (.cells #[u244000, u244001] 24 (0, 0))) ∧ Aside0 (Below w.heap.size w w'))
          case atStart => exact ⟨(0), (t236), (t239), (.slice Ao14 t236.length co14), (.slice Ao16 t239.length co16), (by first | rfl | (simp; done) | (simp [*]; done)), H', ⟨Nat.le_refl _⟩, ⟨by (with_reducible repeat (first | apply Kd.R_alloc | apply Kd.R_drewN | apply Kd.R_drew)); exact Kd.R_mono (Kd.R_far (p := ⟨gb243, 1, none⟩) (Kd.R_far (p := ⟨gb243, 0, none⟩) (Kd.R_types HO238.out BK243.out (by decide)) (fun _ hk => hk.2) (.slice Ao14 t236.length co14)) (fun _ hk => hk.2) (.slice Ao16 t239.length co16)) (fun _ hk => hk.1)⟩, ⟨by (with_reducible repeat (first | apply Kd.R_alloc | apply Kd.R_drewN | apply Kd.R_drew)); exact Kd.R_mono (Kd.R_far (p := ⟨gb243, 1, none⟩) (Kd.R_far (p := ⟨gb243, 0, none⟩) (Kd.R_types HO241.out BK243.out (by decide)) (fun _ hk => hk.2) (.slice Ao14 t236.length co14)) (fun _ hk => hk.2) (.slice Ao16 t239.length co16)) (fun _ hk => hk.1)⟩, ⟨by (with_reducible repeat (first | refine blk_drewN ?_ _ | refine blk_drew ?_ | refine blk_alloc ?_ _)); refine blk_put (cs := #[.slice Ao14 t236.length co14, .slice none 0 0]) ?_ 1 _ rfl; (with_reducible repeat (first | refine blk_drewN ?_ _ | refine blk_drew ?_ | refine blk_alloc ?_ _)); refine blk_put (cs := #[.slice none 0 0, .slice none 0 0]) ?_ 0 _ rfl; (with_reducible repeat (first | refine blk_drewN ?_ _ | refine blk_drew ?_ | refine blk_alloc ?_ _)); exact BK243.out⟩, ⟨by repeat (first | (with_reducible first | exact HB.out | apply below_alloc | apply pw_below_drewN | apply below_drew1 | refine below_set ?_ GE243.out) | exact HB.out)⟩⟩
          case round =>
            clear H'
            try clear c1
            try clear c2
            try clear p2
            try clear c6
            try clear c6b0
            try clear c7
            try clear c11
            try clear c11b0
            try clear c11b1
            try clear c14
            try clear hcz15_0
            try clear hcz15_1
            try clear hfz15_0
            try clear hfz15_1
            try clear p2
            obtain ⟨x11_2, x244000_2, x244001_2, u244000, u244001, rfl, HA, HK2, HO_244000, HO_244001, BK243, HB⟩ := hrel
            cases gk with
            | zero => exact absurd HA.out (by simp [ambitlaw18_SplitEnds.l0])
            | succ k2 =>
              have H := HA.out
              clear HA
              simp only [ambitlaw18_SplitEnds.l0] at H
              have HC17 := Aside0.mk H
              clear H
              go_upto_region 7 with (fail)
              go_cut [41] (fun v41 wc => ∃ (kq : Nat) (x41_16 : Bool), v41 = .bool x41_16 ∧ Aside0 (ambitlaw18_SplitEnds.j2 kq a0 l1 l2 a3 x11_2 x41_16 x244000_2 x244001_2 = some r) ∧ Aside0 (kq ≤ k2) ∧ Aside0 (Kd.R (Kd.int .i64) 3 wc w.heap.size (fun k_ => some k_ ≠ (u244001 : Value).ownBlock) u244000 x244000_2) ∧ Aside0 (Kd.R (Kd.int .i64) 3 wc w.heap.size (fun k_ => some k_ ≠ (u244000 : Value).ownBlock) u244001 x244001_2) ∧ Aside0 (wc.heap[gb243]? = some (.cells #[u244000, u244001] 24 (0, 0))) ∧ Aside0 (Below w.heap.size w wc))
              case first =>
                have H := HC17.out
                clear HC17
                by_cases c18 : x11_2 < (l1.length : Int)
                · rw [if_pos c18] at H
                  have c18b0 : decide (x11_2 < (l1.length : Int)) = true := decide_eq_true c18
                  clear c18
                  (first | rw [c18b0] | (simp only [i64_w, i32_w]; rw [c18b0]) | skip)
                  have H' := Aside0.mk H
                  clear H
                  go_wp2
                  go_meet
                  case rel => exact ⟨_, (decide (x11_2 < 40)), (by first | rfl | (simp; done) | (simp [*]; done)), H', ⟨by have := HJ4.out; have := HK2.out; first | omega | exact Nat.le_refl _⟩, ⟨by (with_reducible repeat (first | apply Kd.R_alloc | apply Kd.R_drewN | apply Kd.R_drew)); exact HO_244000.out⟩, ⟨by (with_reducible repeat (first | apply Kd.R_alloc | apply Kd.R_drewN | apply Kd.R_drew)); exact HO_244001.out⟩, ⟨by (with_reducible repeat (first | refine blk_drewN ?_ _ | refine blk_drew ?_ | refine blk_alloc ?_ _)); exact BK243.out⟩, ⟨by repeat (first | (with_reducible first | exact HB.out | apply below_alloc | apply pw_below_drewN | apply below_drew1 | refine below_set ?_ GE243.out) | exact HB.out)⟩⟩
                · rw [if_neg c18] at H
                  have c18b0 : decide (x11_2 < (l1.length : Int)) = false := decide_eq_false c18
                  clear c18
                  (first | rw [c18b0] | (simp only [i64_w, i32_w]; rw [c18b0]) | skip)
                  have H' := Aside0.mk H
                  clear H
                  go_wp2
                  go_meet
                  case rel => exact ⟨_, (false), (by first | rfl | (simp; done) | (simp [*]; done)), H', ⟨by have := HJ4.out; have := HK2.out; first | omega | exact Nat.le_refl _⟩, ⟨by (with_reducible repeat (first | apply Kd.R_alloc | apply Kd.R_drewN | apply Kd.R_drew)); exact HO_244000.out⟩, ⟨by (with_reducible repeat (first | apply Kd.R_alloc | apply Kd.R_drewN | apply Kd.R_drew)); exact HO_244001.out⟩, ⟨by (with_reducible repeat (first | refine blk_drewN ?_ _ | refine blk_drew ?_ | refine blk_alloc ?_ _)); exact BK243.out⟩, ⟨by repeat (first | (with_reducible first | exact HB.out | apply below_alloc | apply pw_below_drewN | apply below_drew1 | refine below_set ?_ GE243.out) | exact HB.out)⟩⟩
              case rest =>
                clear HC17
                try clear c1
                try clear c2
                try clear p2
                try clear c6
                try clear c6b0
                try clear c7
                try clear c11
                try clear c11b0
                try clear c11b1
                try clear c14
                try clear c18
                try clear c18b0
                try clear hcz15_0
                try clear hcz15_1
                try clear hfz15_0
                try clear hfz15_1
                try clear p2
                obtain ⟨kq, x41_16, rfl, HA, HJ16, HO_244000, HO_244001, BK243, HB⟩ := hcut
                cases kq with
                | zero => exact absurd HA.out (by simp [ambitlaw18_SplitEnds.j2])
                | succ kj16 =>
                  have H := HA.out
                  clear HA
                  simp only [ambitlaw18_SplitEnds.j2] at H
                  by_cases c19 : x41_16 = true
                  · subst c19
                    have H1 : (if 0 ≤ x11_2 then (if x11_2 < (l1.length : Int) then ((split_Halve.f kj16 x244000_2 x244001_2 ((rd_T52 l1 x11_2).f0)).bind fun bt245 => (if bt245.2.2.2.2 = 0 then (ambitlaw18_SplitEnds.j3 kj16 a0 l1 l2 a3 x11_2 bt245.2.2.2.2 ((rd_T52 l1 x11_2).f1) x244000_2 x244001_2 bt245.1 bt245.2.1 bt245.2.2.1 bt245.2.2.2.1) else (ambitlaw18_SplitEnds.j3 kj16 a0 l1 l2 a3 x11_2 bt245.2.2.2.2 false x244000_2 x244001_2 bt245.1 bt245.2.1 bt245.2.2.1 bt245.2.2.2.1))) else (none)) else (none)) = some r := by rw [if_pos rfl] at H; exact H
                    clear H
                    have H := H1
                    clear H1
                    by_cases c20 : 0 ≤ x11_2
                    · rw [if_pos c20] at H
                      have c20b0 : decide (0 ≤ x11_2) = true := decide_eq_true c20
                      clear c20
                      by_cases c21 : x11_2 < (l1.length : Int)
                      · rw [if_pos c21] at H
                        have c21b0 : decide (x11_2 < (l1.length : Int)) = true := decide_eq_true c21
                        clear c21
                        replace H := Option.bind_eq_some_iff.mp H
                        obtain ⟨⟨t245, t248, t251, t254, t257⟩, A220, H⟩ := H
                        replace H : (if t257 = 0 then (ambitlaw18_SplitEnds.j3 kj16 a0 l1 l2 a3 x11_2 t257 ((rd_T52 l1 x11_2).f1) x244000_2 x244001_2 t245 t248 t251 t254) else (ambitlaw18_SplitEnds.j3 kj16 a0 l1 l2 a3 x11_2 t257 false x244000_2 x244001_2 t245 t248 t251 t254)) = some r := H
                        have A22 := Aside0.mk A220
                        clear A220
                        have HC23 := Aside0.mk H
                        clear H
                        obtain ⟨Ao24, co24, eo24⟩ := Kd.R_slice HO_244000.out
                        subst eo24
                        obtain ⟨Ao25, co25, eo25⟩ := Kd.R_slice HO_244001.out
                        subst eo25
                        try go_wp2
                        have n0_ := Aside0.mk (Kd.R_drew HO_244000.out)
                        have n1_ := Aside0.mk (Kd.R_drew HO_244001.out)
                        have n2_ := Aside0.mk (blk_drew BK243.out)
                        have n3_ := Aside0.mk (below_drew1 HB.out)
                        clear HO_244000
                        clear HO_244001
                        clear BK243
                        clear HB
                        have HO_244000 := n0_
                        have HO_244001 := n1_
                        have BK243 := n2_
                        have HB := n3_
                        clear n0_ n1_ n2_ n3_
                        have p244 : 0 ≤ (x11_2 : Int) := of_decide_eq_true (by first | (with_reducible assumption) | assumption)
                        have q244 : x11_2 < (l1.length : Int) := of_decide_eq_true (by first | (with_reducible assumption) | assumption)
                        obtain ⟨ad244, e244, hx244_0, hx244_1⟩ := at_T52 HR1.out x11_2 p244 q244
                        have hw244_1 := hx244_1
                        have hw244_0 := hx244_0
                        cases e244
                        replace hx244_0 := (HB.out.cell (World.block_lt_of_cell? w _ hx244_0)).trans hx244_0
                        replace hx244_1 := (HB.out.cell (World.block_lt_of_cell? w _ hx244_1)).trans hx244_1
                        replace p244 := eq_true p244
                        replace q244 := eq_true q244
                        refine start_ (n := 16) (S := fun w' => w'.cell? ⟨gb243, 0, none⟩ = some (.slice Ao24 x244000_2.length co24) ∧ w'.cell? ⟨gb243, 1, none⟩ = some (.slice Ao25 x244001_2.length co25) ∧ w'.cell? (ad244.add ((x11_2).toNat * 2)) = some (.int .i64 ((rd_T52 l1 x11_2).f0)) ∧ w'.cell? ⟨(ad244.add ((x11_2).toNat * 2)).block, (ad244.add ((x11_2).toNat * 2)).off + 1, none⟩ = some (.bool ((rd_T52 l1 x11_2).f1))) (ds := []) #[false, false, false, false, false, false, false, false, false, false, false, false, false, false, false, false] (by kernel_rfl) rfl rfl ⟨(blk_cell BK243.out 0).trans rfl, (blk_cell BK243.out 1).trans rfl, ((HB.out.cell (World.block_lt_of_cell? w _ hw244_0)).trans hw244_0), ((HB.out.cell (World.block_lt_of_cell? w _ hw244_1)).trans hw244_1)⟩ (fun hHeld => ?_); refine with_tabW ambitlaw18_SplitEnds.tab9 ambitlaw18_SplitEnds.bits9 (fun HT_ HW_ => ?_)
                        generalize wc.drew = w26 at HO_244000 HO_244001 BK243 HB hx244_0 hx244_1 hHeld ⊢
                        refine pure_ (i := 1) (N := some 46) (v := ?_) (a' := ?_) #[false, true, false, false, false, false, false, false, false, false, false, false, false, false, false, false] rfl rfl (any_of HT_.out (by kernel_rfl)) (fun _ _ _ h => h) (Or.inl ⟨by rfl, ?_⟩) ?_ ?_
                        rotate_left
                        · intro w'
                          go_simp
                          with_reducible rfl
                        rotate_left
                        · simp only [Act.put, List.setIfInBounds_toArray, List.set_cons_zero, List.set_cons_succ, i64_w, i32_w]
                          rfl
                        refine pure_ (i := 2) (N := some 47) (v := ?_) (a' := ?_) #[false, true, true, false, false, false, false, false, false, false, false, false, false, false, false, false] rfl rfl (any_of HT_.out (by kernel_rfl)) (fun _ _ _ h => h) (Or.inl ⟨by rfl, ?_⟩) ?_ ?_
                        rotate_left
                        · intro w'
                          go_simp
                          with_reducible rfl
                        rotate_left
                        · simp only [Act.put, List.setIfInBounds_toArray, List.set_cons_zero, List.set_cons_succ, i64_w, i32_w]
                          rfl
                        refine pure_ (i := 3) (N := some 48) (v := ?_) (a' := ?_) #[false, true, true, true, false, false, false, false, false, false, false, false, false, false, false, false] rfl rfl (any_of HT_.out (by kernel_rfl)) (fun _ _ _ h => h) (Or.inl ⟨by rfl, ?_⟩) ?_ ?_
                        rotate_left
                        · intro w'
                          go_simp
                          with_reducible rfl
                        rotate_left
                        · simp only [Act.put, List.setIfInBounds_toArray, List.set_cons_zero, List.set_cons_succ, i64_w, i32_w]
                          rfl
                        refine pure_ (i := 4) (N := some 49) (v := ?_) (a' := ?_) #[false, true, true, true, true, false, false, false, false, false, false, false, false, false, false, false] rfl rfl (any_of HT_.out (by kernel_rfl)) (fun _ _ _ h => h) (Or.inl ⟨by rfl, ?_⟩) ?_ ?_
                        rotate_left
                        · intro w'
                          go_simp
                          with_reducible rfl
                        rotate_left
                        · simp only [Act.put, List.setIfInBounds_toArray, List.set_cons_zero, List.set_cons_succ, i64_w, i32_w]
                          rfl
                        refine take_ (i := 0) (N := some 45) (v := ?_) (a' := ?_) #[true, true, true, true, true, false, false, false, false, false, false, false, false, false, false, false] rfl rfl (take_ofW HT_.out HW_.out (by kernel_rfl)) (fun _ _ _ h => h) (Or.inl ⟨by rfl, ?_⟩) hHeld ?_ ?_
                        rotate_left
                        · rintro w' ⟨s0, s1, s2, s3⟩
                          go_simp
                          with_reducible rfl
                        rotate_left
                        · simp only [Act.put, List.setIfInBounds_toArray, List.set_cons_zero, List.set_cons_succ, i64_w, i32_w]
                          rfl
                        refine take_ (i := 5) (N := some 50) (v := ?_) (a' := ?_) #[true, true, true, true, true, true, false, false, false, false, false, false, false, false, false, false] rfl rfl (take_ofW HT_.out HW_.out (by kernel_rfl)) (fun _ _ _ h => h) (Or.inl ⟨by rfl, ?_⟩) hHeld ?_ ?_
                        rotate_left
                        · rintro w' ⟨s0, s1, s2, s3⟩
                          go_simp
                          with_reducible rfl
                        rotate_left
                        · simp only [Act.put, List.setIfInBounds_toArray, List.set_cons_zero, List.set_cons_succ, i64_w, i32_w]
                          rfl
                        refine join_ (σ := Value × Value × Value × Value × Nat × Nat) 3 #[true, true, true, true, true, true, true, true, true, true, true, true, true, false, false, false] (fun s_ => [(51, .tuple #[.agg #[s_.1, s_.2.1], .agg #[s_.2.2.1, s_.2.2.2.1], .int .i64 t257]), (12, .pointer (some ⟨s_.2.2.2.2.1, 0, none⟩)), (13, .pointer (some ⟨s_.2.2.2.2.2, 0, none⟩)), (44, .tuple #[.agg #[s_.1, s_.2.1], .agg #[s_.2.2.1, s_.2.2.2.1], .int .i64 t257]), (52, .agg #[s_.1, s_.2.1]), (53, .agg #[s_.2.2.1, s_.2.2.2.1]), (54, .int .i64 t257)]) (fun s_ w' => (w'.cell? ⟨gb243, 0, none⟩ = some (.slice Ao24 x244000_2.length co24) ∧ w'.cell? ⟨gb243, 1, none⟩ = some (.slice Ao25 x244001_2.length co25) ∧ w'.cell? (ad244.add ((x11_2).toNat * 2)) = some (.int .i64 ((rd_T52 l1 x11_2).f0)) ∧ w'.cell? ⟨(ad244.add ((x11_2).toNat * 2)).block, (ad244.add ((x11_2).toNat * 2)).off + 1, none⟩ = some (.bool ((rd_T52 l1 x11_2).f1))) ∧ (Kd.R (Kd.int .i64) 3 w' w.heap.size (fun k_ => some k_ ≠ (s_.2.1 : Value).ownBlock ∧ some k_ ≠ (s_.2.2.1 : Value).ownBlock ∧ some k_ ≠ (s_.2.2.2.1 : Value).ownBlock ∧ some k_ ≠ (.slice Ao24 x244000_2.length co24 : Value).ownBlock ∧ some k_ ≠ (.slice Ao25 x244001_2.length co25 : Value).ownBlock) s_.1 t245) ∧ (Kd.R (Kd.int .i64) 3 w' w.heap.size (fun k_ => some k_ ≠ (s_.1 : Value).ownBlock ∧ some k_ ≠ (s_.2.2.1 : Value).ownBlock ∧ some k_ ≠ (s_.2.2.2.1 : Value).ownBlock ∧ some k_ ≠ (.slice Ao24 x244000_2.length co24 : Value).ownBlock ∧ some k_ ≠ (.slice Ao25 x244001_2.length co25 : Value).ownBlock) s_.2.1 t248) ∧ (Kd.R (Kd.int .i64) 3 w' w.heap.size (fun k_ => some k_ ≠ (s_.1 : Value).ownBlock ∧ some k_ ≠ (s_.2.1 : Value).ownBlock ∧ some k_ ≠ (s_.2.2.2.1 : Value).ownBlock ∧ some k_ ≠ (.slice Ao24 x244000_2.length co24 : Value).ownBlock ∧ some k_ ≠ (.slice Ao25 x244001_2.length co25 : Value).ownBlock) s_.2.2.1 t251) ∧ (Kd.R (Kd.int .i64) 3 w' w.heap.size (fun k_ => some k_ ≠ (s_.1 : Value).ownBlock ∧ some k_ ≠ (s_.2.1 : Value).ownBlock ∧ some k_ ≠ (s_.2.2.1 : Value).ownBlock ∧ some k_ ≠ (.slice Ao24 x244000_2.length co24 : Value).ownBlock ∧ some k_ ≠ (.slice Ao25 x244001_2.length co25 : Value).ownBlock) s_.2.2.2.1 t254) ∧ (Kd.R (Kd.int .i64) 3 w' w.heap.size (fun k_ => some k_ ≠ (s_.1 : Value).ownBlock ∧ some k_ ≠ (s_.2.1 : Value).ownBlock ∧ some k_ ≠ (s_.2.2.1 : Value).ownBlock ∧ some k_ ≠ (s_.2.2.2.1 : Value).ownBlock ∧ some k_ ≠ (.slice Ao25 x244001_2.length co25 : Value).ownBlock) (.slice Ao24 x244000_2.length co24) x244000_2) ∧ (Kd.R (Kd.int .i64) 3 w' w.heap.size (fun k_ => some k_ ≠ (s_.1 : Value).ownBlock ∧ some k_ ≠ (s_.2.1 : Value).ownBlock ∧ some k_ ≠ (s_.2.2.1 : Value).ownBlock ∧ some k_ ≠ (s_.2.2.2.1 : Value).ownBlock ∧ some k_ ≠ (.slice Ao24 x244000_2.length co24 : Value).ownBlock) (.slice Ao25 x244001_2.length co25) x244001_2) ∧ (w'.heap[gb243]? = some (.cells #[.slice Ao24 x244000_2.length co24, .slice Ao25 x244001_2.length co25] 24 (0, 0))) ∧ (w'.heap[s_.2.2.2.2.1]? = some (.cells #[.slice none 0 0, .slice none 0 0] 24 (0, 0))) ∧ (w'.heap[s_.2.2.2.2.2]? = some (.cells #[.slice none 0 0, .slice none 0 0] 24 (0, 0))) ∧ (w.heap.size ≤ s_.2.2.2.2.1) ∧ (w.heap.size ≤ s_.2.2.2.2.1) ∧ (gb243 ≠ s_.2.2.2.2.1) ∧ (s_.2.2.2.2.1 ≠ gb243) ∧ (s_.2.2.2.2.2 ≠ s_.2.2.2.2.1) ∧ (s_.2.2.2.2.1 ≠ s_.2.2.2.2.2) ∧ (w.heap.size ≤ s_.2.2.2.2.2) ∧ (w.heap.size ≤ s_.2.2.2.2.2) ∧ (gb243 ≠ s_.2.2.2.2.2) ∧ (s_.2.2.2.2.2 ≠ gb243) ∧ (Below w.heap.size w w')) ?_ ?_
                        rotate_left
                        · intro hJ6_11_12
                          refine join_ (σ := Value × Value × Value × Value × Nat) 4 #[true, true, true, true, true, true, true, true, true, true, true, true, false, false, false, false] (fun s_ => [(51, .tuple #[.agg #[s_.1, s_.2.1], .agg #[s_.2.2.1, s_.2.2.2.1], .int .i64 t257]), (12, .pointer (some ⟨s_.2.2.2.2, 0, none⟩)), (44, .tuple #[.agg #[s_.1, s_.2.1], .agg #[s_.2.2.1, s_.2.2.2.1], .int .i64 t257]), (52, .agg #[s_.1, s_.2.1]), (53, .agg #[s_.2.2.1, s_.2.2.2.1]), (54, .int .i64 t257)]) (fun s_ w' => (w'.cell? ⟨gb243, 0, none⟩ = some (.slice Ao24 x244000_2.length co24) ∧ w'.cell? ⟨gb243, 1, none⟩ = some (.slice Ao25 x244001_2.length co25) ∧ w'.cell? (ad244.add ((x11_2).toNat * 2)) = some (.int .i64 ((rd_T52 l1 x11_2).f0)) ∧ w'.cell? ⟨(ad244.add ((x11_2).toNat * 2)).block, (ad244.add ((x11_2).toNat * 2)).off + 1, none⟩ = some (.bool ((rd_T52 l1 x11_2).f1))) ∧ (Kd.R (Kd.int .i64) 3 w' w.heap.size (fun k_ => some k_ ≠ (s_.2.1 : Value).ownBlock ∧ some k_ ≠ (s_.2.2.1 : Value).ownBlock ∧ some k_ ≠ (s_.2.2.2.1 : Value).ownBlock ∧ some k_ ≠ (.slice Ao24 x244000_2.length co24 : Value).ownBlock ∧ some k_ ≠ (.slice Ao25 x244001_2.length co25 : Value).ownBlock) s_.1 t245) ∧ (Kd.R (Kd.int .i64) 3 w' w.heap.size (fun k_ => some k_ ≠ (s_.1 : Value).ownBlock ∧ some k_ ≠ (s_.2.2.1 : Value).ownBlock ∧ some k_ ≠ (s_.2.2.2.1 : Value).ownBlock ∧ some k_ ≠ (.slice Ao24 x244000_2.length co24 : Value).ownBlock ∧ some k_ ≠ (.slice Ao25 x244001_2.length co25 : Value).ownBlock) s_.2.1 t248) ∧ (Kd.R (Kd.int .i64) 3 w' w.heap.size (fun k_ => some k_ ≠ (s_.1 : Value).ownBlock ∧ some k_ ≠ (s_.2.1 : Value).ownBlock ∧ some k_ ≠ (s_.2.2.2.1 : Value).ownBlock ∧ some k_ ≠ (.slice Ao24 x244000_2.length co24 : Value).ownBlock ∧ some k_ ≠ (.slice Ao25 x244001_2.length co25 : Value).ownBlock) s_.2.2.1 t251) ∧ (Kd.R (Kd.int .i64) 3 w' w.heap.size (fun k_ => some k_ ≠ (s_.1 : Value).ownBlock ∧ some k_ ≠ (s_.2.1 : Value).ownBlock ∧ some k_ ≠ (s_.2.2.1 : Value).ownBlock ∧ some k_ ≠ (.slice Ao24 x244000_2.length co24 : Value).ownBlock ∧ some k_ ≠ (.slice Ao25 x244001_2.length co25 : Value).ownBlock) s_.2.2.2.1 t254) ∧ (Kd.R (Kd.int .i64) 3 w' w.heap.size (fun k_ => some k_ ≠ (s_.1 : Value).ownBlock ∧ some k_ ≠ (s_.2.1 : Value).ownBlock ∧ some k_ ≠ (s_.2.2.1 : Value).ownBlock ∧ some k_ ≠ (s_.2.2.2.1 : Value).ownBlock ∧ some k_ ≠ (.slice Ao25 x244001_2.length co25 : Value).ownBlock) (.slice Ao24 x244000_2.length co24) x244000_2) ∧ (Kd.R (Kd.int .i64) 3 w' w.heap.size (fun k_ => some k_ ≠ (s_.1 : Value).ownBlock ∧ some k_ ≠ (s_.2.1 : Value).ownBlock ∧ some k_ ≠ (s_.2.2.1 : Value).ownBlock ∧ some k_ ≠ (s_.2.2.2.1 : Value).ownBlock ∧ some k_ ≠ (.slice Ao24 x244000_2.length co24 : Value).ownBlock) (.slice Ao25 x244001_2.length co25) x244001_2) ∧ (w'.heap[gb243]? = some (.cells #[.slice Ao24 x244000_2.length co24, .slice Ao25 x244001_2.length co25] 24 (0, 0))) ∧ (w'.heap[s_.2.2.2.2]? = some (.cells #[.slice none 0 0, .slice none 0 0] 24 (0, 0))) ∧ (w.heap.size ≤ s_.2.2.2.2) ∧ (w.heap.size ≤ s_.2.2.2.2) ∧ (gb243 ≠ s_.2.2.2.2) ∧ (s_.2.2.2.2 ≠ gb243) ∧ (Below w.heap.size w w')) ?_ ?_
                          rotate_left
                          · intro hJ6_11
                            refine join_ (σ := Value × Value × Value × Value × Nat) 4 #[true, true, true, true, true, true, true, true, true, true, true, false, true, false, false, false] (fun s_ => [(51, .tuple #[.agg #[s_.1, s_.2.1], .agg #[s_.2.2.1, s_.2.2.2.1], .int .i64 t257]), (13, .pointer (some ⟨s_.2.2.2.2, 0, none⟩)), (44, .tuple #[.agg #[s_.1, s_.2.1], .agg #[s_.2.2.1, s_.2.2.2.1], .int .i64 t257]), (52, .agg #[s_.1, s_.2.1]), (53, .agg #[s_.2.2.1, s_.2.2.2.1]), (54, .int .i64 t257)]) (fun s_ w' => (w'.cell? ⟨gb243, 0, none⟩ = some (.slice Ao24 x244000_2.length co24) ∧ w'.cell? ⟨gb243, 1, none⟩ = some (.slice Ao25 x244001_2.length co25) ∧ w'.cell? (ad244.add ((x11_2).toNat * 2)) = some (.int .i64 ((rd_T52 l1 x11_2).f0)) ∧ w'.cell? ⟨(ad244.add ((x11_2).toNat * 2)).block, (ad244.add ((x11_2).toNat * 2)).off + 1, none⟩ = some (.bool ((rd_T52 l1 x11_2).f1))) ∧ (Kd.R (Kd.int .i64) 3 w' w.heap.size (fun k_ => some k_ ≠ (s_.2.1 : Value).ownBlock ∧ some k_ ≠ (s_.2.2.1 : Value).ownBlock ∧ some k_ ≠ (s_.2.2.2.1 : Value).ownBlock ∧ some k_ ≠ (.slice Ao24 x244000_2.length co24 : Value).ownBlock ∧ some k_ ≠ (.slice Ao25 x244001_2.length co25 : Value).ownBlock) s_.1 t245) ∧ (Kd.R (Kd.int .i64) 3 w' w.heap.size (fun k_ => some k_ ≠ (s_.1 : Value).ownBlock ∧ some k_ ≠ (s_.2.2.1 : Value).ownBlock ∧ some k_ ≠ (s_.2.2.2.1 : Value).ownBlock ∧ some k_ ≠ (.slice Ao24 x244000_2.length co24 : Value).ownBlock ∧ some k_ ≠ (.slice Ao25 x244001_2.length co25 : Value).ownBlock) s_.2.1 t248) ∧ (Kd.R (Kd.int .i64) 3 w' w.heap.size (fun k_ => some k_ ≠ (s_.1 : Value).ownBlock ∧ some k_ ≠ (s_.2.1 : Value).ownBlock ∧ some k_ ≠ (s_.2.2.2.1 : Value).ownBlock ∧ some k_ ≠ (.slice Ao24 x244000_2.length co24 : Value).ownBlock ∧ some k_ ≠ (.slice Ao25 x244001_2.length co25 : Value).ownBlock) s_.2.2.1 t251) ∧ (Kd.R (Kd.int .i64) 3 w' w.heap.size (fun k_ => some k_ ≠ (s_.1 : Value).ownBlock ∧ some k_ ≠ (s_.2.1 : Value).ownBlock ∧ some k_ ≠ (s_.2.2.1 : Value).ownBlock ∧ some k_ ≠ (.slice Ao24 x244000_2.length co24 : Value).ownBlock ∧ some k_ ≠ (.slice Ao25 x244001_2.length co25 : Value).ownBlock) s_.2.2.2.1 t254) ∧ (Kd.R (Kd.int .i64) 3 w' w.heap.size (fun k_ => some k_ ≠ (s_.1 : Value).ownBlock ∧ some k_ ≠ (s_.2.1 : Value).ownBlock ∧ some k_ ≠ (s_.2.2.1 : Value).ownBlock ∧ some k_ ≠ (s_.2.2.2.1 : Value).ownBlock ∧ some k_ ≠ (.slice Ao25 x244001_2.length co25 : Value).ownBlock) (.slice Ao24 x244000_2.length co24) x244000_2) ∧ (Kd.R (Kd.int .i64) 3 w' w.heap.size (fun k_ => some k_ ≠ (s_.1 : Value).ownBlock ∧ some k_ ≠ (s_.2.1 : Value).ownBlock ∧ some k_ ≠ (s_.2.2.1 : Value).ownBlock ∧ some k_ ≠ (s_.2.2.2.1 : Value).ownBlock ∧ some k_ ≠ (.slice Ao24 x244000_2.length co24 : Value).ownBlock) (.slice Ao25 x244001_2.length co25) x244001_2) ∧ (w'.heap[gb243]? = some (.cells #[.slice Ao24 x244000_2.length co24, .slice Ao25 x244001_2.length co25] 24 (0, 0))) ∧ (w'.heap[s_.2.2.2.2]? = some (.cells #[.slice none 0 0, .slice none 0 0] 24 (0, 0))) ∧ (w.heap.size ≤ s_.2.2.2.2) ∧ (w.heap.size ≤ s_.2.2.2.2) ∧ (gb243 ≠ s_.2.2.2.2) ∧ (s_.2.2.2.2 ≠ gb243) ∧ (Below w.heap.size w w')) ?_ ?_
                            rotate_left
                            · intro hJ6_12
                              refine join_ (σ := Nat × Nat) 8 #[true, true, true, true, true, true, false, false, false, false, false, true, true, false, false, false] (fun s_ => [(12, .pointer (some ⟨s_.1, 0, none⟩)), (13, .pointer (some ⟨s_.2, 0, none⟩))]) (fun s_ w' => (w'.cell? ⟨gb243, 0, none⟩ = some (.slice Ao24 x244000_2.length co24) ∧ w'.cell? ⟨gb243, 1, none⟩ = some (.slice Ao25 x244001_2.length co25) ∧ w'.cell? (ad244.add ((x11_2).toNat * 2)) = some (.int .i64 ((rd_T52 l1 x11_2).f0)) ∧ w'.cell? ⟨(ad244.add ((x11_2).toNat * 2)).block, (ad244.add ((x11_2).toNat * 2)).off + 1, none⟩ = some (.bool ((rd_T52 l1 x11_2).f1))) ∧ (Kd.R (Kd.int .i64) 3 w' w.heap.size (fun k_ => some k_ ≠ (.slice Ao25 x244001_2.length co25 : Value).ownBlock) (.slice Ao24 x244000_2.length co24) x244000_2) ∧ (Kd.R (Kd.int .i64) 3 w' w.heap.size (fun k_ => some k_ ≠ (.slice Ao24 x244000_2.length co24 : Value).ownBlock) (.slice Ao25 x244001_2.length co25) x244001_2) ∧ (w'.heap[gb243]? = some (.cells #[.slice Ao24 x244000_2.length co24, .slice Ao25 x244001_2.length co25] 24 (0, 0))) ∧ (w'.heap[s_.1]? = some (.cells #[.slice none 0 0, .slice none 0 0] 24 (0, 0))) ∧ (w'.heap[s_.2]? = some (.cells #[.slice none 0 0, .slice none 0 0] 24 (0, 0))) ∧ (w.heap.size ≤ s_.1) ∧ (w.heap.size ≤ s_.1) ∧ (gb243 ≠ s_.1) ∧ (s_.1 ≠ gb243) ∧ (s_.2 ≠ s_.1) ∧ (s_.1 ≠ s_.2) ∧ (w.heap.size ≤ s_.2) ∧ (w.heap.size ≤ s_.2) ∧ (gb243 ≠ s_.2) ∧ (s_.2 ≠ gb243) ∧ (Below w.heap.size w w')) ?_ ?_
                              rotate_left
                              · intro hJ11_12
                                refine join_ (σ := Value × Value × Value × Value) 5 #[true, true, true, true, true, true, true, true, true, true, true, false, false, false, false, false] (fun s_ => [(51, .tuple #[.agg #[s_.1, s_.2.1], .agg #[s_.2.2.1, s_.2.2.2], .int .i64 t257]), (44, .tuple #[.agg #[s_.1, s_.2.1], .agg #[s_.2.2.1, s_.2.2.2], .int .i64 t257]), (52, .agg #[s_.1, s_.2.1]), (53, .agg #[s_.2.2.1, s_.2.2.2]), (54, .int .i64 t257)]) (fun s_ w' => (w'.cell? ⟨gb243, 0, none⟩ = some (.slice Ao24 x244000_2.length co24) ∧ w'.cell? ⟨gb243, 1, none⟩ = some (.slice Ao25 x244001_2.length co25) ∧ w'.cell? (ad244.add ((x11_2).toNat * 2)) = some (.int .i64 ((rd_T52 l1 x11_2).f0)) ∧ w'.cell? ⟨(ad244.add ((x11_2).toNat * 2)).block, (ad244.add ((x11_2).toNat * 2)).off + 1, none⟩ = some (.bool ((rd_T52 l1 x11_2).f1))) ∧ (Kd.R (Kd.int .i64) 3 w' w.heap.size (fun k_ => some k_ ≠ (s_.2.1 : Value).ownBlock ∧ some k_ ≠ (s_.2.2.1 : Value).ownBlock ∧ some k_ ≠ (s_.2.2.2 : Value).ownBlock ∧ some k_ ≠ (.slice Ao24 x244000_2.length co24 : Value).ownBlock ∧ some k_ ≠ (.slice Ao25 x244001_2.length co25 : Value).ownBlock) s_.1 t245) ∧ (Kd.R (Kd.int .i64) 3 w' w.heap.size (fun k_ => some k_ ≠ (s_.1 : Value).ownBlock ∧ some k_ ≠ (s_.2.2.1 : Value).ownBlock ∧ some k_ ≠ (s_.2.2.2 : Value).ownBlock ∧ some k_ ≠ (.slice Ao24 x244000_2.length co24 : Value).ownBlock ∧ some k_ ≠ (.slice Ao25 x244001_2.length co25 : Value).ownBlock) s_.2.1 t248) ∧ (Kd.R (Kd.int .i64) 3 w' w.heap.size (fun k_ => some k_ ≠ (s_.1 : Value).ownBlock ∧ some k_ ≠ (s_.2.1 : Value).ownBlock ∧ some k_ ≠ (s_.2.2.2 : Value).ownBlock ∧ some k_ ≠ (.slice Ao24 x244000_2.length co24 : Value).ownBlock ∧ some k_ ≠ (.slice Ao25 x244001_2.length co25 : Value).ownBlock) s_.2.2.1 t251) ∧ (Kd.R (Kd.int .i64) 3 w' w.heap.size (fun k_ => some k_ ≠ (s_.1 : Value).ownBlock ∧ some k_ ≠ (s_.2.1 : Value).ownBlock ∧ some k_ ≠ (s_.2.2.1 : Value).ownBlock ∧ some k_ ≠ (.slice Ao24 x244000_2.length co24 : Value).ownBlock ∧ some k_ ≠ (.slice Ao25 x244001_2.length co25 : Value).ownBlock) s_.2.2.2 t254) ∧ (Kd.R (Kd.int .i64) 3 w' w.heap.size (fun k_ => some k_ ≠ (s_.1 : Value).ownBlock ∧ some k_ ≠ (s_.2.1 : Value).ownBlock ∧ some k_ ≠ (s_.2.2.1 : Value).ownBlock ∧ some k_ ≠ (s_.2.2.2 : Value).ownBlock ∧ some k_ ≠ (.slice Ao25 x244001_2.length co25 : Value).ownBlock) (.slice Ao24 x244000_2.length co24) x244000_2) ∧ (Kd.R (Kd.int .i64) 3 w' w.heap.size (fun k_ => some k_ ≠ (s_.1 : Value).ownBlock ∧ some k_ ≠ (s_.2.1 : Value).ownBlock ∧ some k_ ≠ (s_.2.2.1 : Value).ownBlock ∧ some k_ ≠ (s_.2.2.2 : Value).ownBlock ∧ some k_ ≠ (.slice Ao24 x244000_2.length co24 : Value).ownBlock) (.slice Ao25 x244001_2.length co25) x244001_2) ∧ (w'.heap[gb243]? = some (.cells #[.slice Ao24 x244000_2.length co24, .slice Ao25 x244001_2.length co25] 24 (0, 0))) ∧ (Below w.heap.size w w')) ?_ ?_
                                rotate_left
                                · intro hJ6
                                  refine join_ (σ := Nat) 9 #[true, true, true, true, true, true, false, false, false, false, false, true, false, false, false, false] (fun s_ => [(12, .pointer (some ⟨s_, 0, none⟩))]) (fun s_ w' => (w'.cell? ⟨gb243, 0, none⟩ = some (.slice Ao24 x244000_2.length co24) ∧ w'.cell? ⟨gb243, 1, none⟩ = some (.slice Ao25 x244001_2.length co25) ∧ w'.cell? (ad244.add ((x11_2).toNat * 2)) = some (.int .i64 ((rd_T52 l1 x11_2).f0)) ∧ w'.cell? ⟨(ad244.add ((x11_2).toNat * 2)).block, (ad244.add ((x11_2).toNat * 2)).off + 1, none⟩ = some (.bool ((rd_T52 l1 x11_2).f1))) ∧ (Kd.R (Kd.int .i64) 3 w' w.heap.size (fun k_ => some k_ ≠ (.slice Ao25 x244001_2.length co25 : Value).ownBlock) (.slice Ao24 x244000_2.length co24) x244000_2) ∧ (Kd.R (Kd.int .i64) 3 w' w.heap.size (fun k_ => some k_ ≠ (.slice Ao24 x244000_2.length co24 : Value).ownBlock) (.slice Ao25 x244001_2.length co25) x244001_2) ∧ (w'.heap[gb243]? = some (.cells #[.slice Ao24 x244000_2.length co24, .slice Ao25 x244001_2.length co25] 24 (0, 0))) ∧ (w'.heap[s_]? = some (.cells #[.slice none 0 0, .slice none 0 0] 24 (0, 0))) ∧ (w.heap.size ≤ s_) ∧ (w.heap.size ≤ s_) ∧ (gb243 ≠ s_) ∧ (s_ ≠ gb243) ∧ (Below w.heap.size w w')) ?_ ?_
                                  rotate_left
                                  · intro hJ11
                                    refine join_ (σ := Nat) 9 #[true, true, true, true, true, true, false, false, false, false, false, false, true, false, false, false] (fun s_ => [(13, .pointer (some ⟨s_, 0, none⟩))]) (fun s_ w' => (w'.cell? ⟨gb243, 0, none⟩ = some (.slice Ao24 x244000_2.length co24) ∧ w'.cell? ⟨gb243, 1, none⟩ = some (.slice Ao25 x244001_2.length co25) ∧ w'.cell? (ad244.add ((x11_2).toNat * 2)) = some (.int .i64 ((rd_T52 l1 x11_2).f0)) ∧ w'.cell? ⟨(ad244.add ((x11_2).toNat * 2)).block, (ad244.add ((x11_2).toNat * 2)).off + 1, none⟩ = some (.bool ((rd_T52 l1 x11_2).f1))) ∧ (Kd.R (Kd.int .i64) 3 w' w.heap.size (fun k_ => some k_ ≠ (.slice Ao25 x244001_2.length co25 : Value).ownBlock) (.slice Ao24 x244000_2.length co24) x244000_2) ∧ (Kd.R (Kd.int .i64) 3 w' w.heap.size (fun k_ => some k_ ≠ (.slice Ao24 x244000_2.length co24 : Value).ownBlock) (.slice Ao25 x244001_2.length co25) x244001_2) ∧ (w'.heap[gb243]? = some (.cells #[.slice Ao24 x244000_2.length co24, .slice Ao25 x244001_2.length co25] 24 (0, 0))) ∧ (w'.heap[s_]? = some (.cells #[.slice none 0 0, .slice none 0 0] 24 (0, 0))) ∧ (w.heap.size ≤ s_) ∧ (w.heap.size ≤ s_) ∧ (gb243 ≠ s_) ∧ (s_ ≠ gb243) ∧ (Below w.heap.size w w')) ?_ ?_
                                    rotate_left
                                    · intro hJ12
                                      refine three_ (i := 6) (j := 11) (k := 12) (Ni := some 51) (Nj := some 12) (Nk := some 13) #[true, true, true, true, true, true, true, false, false, false, false, false, false, false, false, false] #[true, true, true, true, true, true, false, false, false, false, false, true, false, false, false, false] #[true, true, true, true, true, true, false, false, false, false, false, false, true, false, false, false] rfl rfl rfl rfl rfl rfl (three_of HT_.out (by kernel_rfl)) (by decide) (by decide) (by decide) (fun K hK => ?_) (fun K hK => ?_) (fun K hK => ?_)
                                      · skip
                                        refine goes_ Try.func15 (by kernel_rfl) rfl #[.agg #[.slice Ao24 x244000_2.length co24, .slice Ao25 x244001_2.length co25], .int .i64 ((rd_T52 l1 x11_2).f0)] (by rfl) rfl rfl (by (try simp only [List.map_toArray, List.map_cons, List.map_nil]); first | done | rfl | (simp only [List.length_drop, List.length_take]; rfl)) ?_
                                        with_reducible refine (split_Halve.calls kj16 _ _ x244000_2 _ _ x244001_2 ((rd_T52 l1 x11_2).f0) t245 t248 t251 t254 t257 _ ?side1 ?side2 ?side3 ?side4 A22.out).mono ?_
                                        (case side1 => repeat (first | exact (Kd.R_reads' HO_244000.out).2.2 | (with_reducible refine Kd.C_alloc ?_ _) | (with_reducible refine Kd.C_drewN ?_ _) | (with_reducible refine Kd.C_drew ?_)))
                                        (case side2 => exact (Kd.R_reads' HO_244000.out).2.1)
                                        (case side3 => repeat (first | exact (Kd.R_reads' HO_244001.out).2.2 | (with_reducible refine Kd.C_alloc ?_ _) | (with_reducible refine Kd.C_drewN ?_ _) | (with_reducible refine Kd.C_drew ?_)))
                                        (case side4 => exact (Kd.R_reads' HO_244001.out).2.1)
                                        rintro e w27 ⟨v246, v249, v252, v255, rfl, ho0, ho1, ho2, ho3, hb⟩
                                        refine ⟨_, rfl, ?_⟩
                                        have n0_ := Aside0.mk (Kd.R_mono (Kd.R_told (Kd.R_told (Kd.R_told (Kd.R_told (Kd.R_old (by (with_reducible repeat (first | apply Kd.R_alloc | apply Kd.R_drewN | apply Kd.R_drew)); exact HO_244000.out) hb) (Kd.R_base ho0)) (Kd.R_base ho1)) (Kd.R_base ho2)) (Kd.R_base ho3)) (fun _ h_ => h_.1))
                                        have n1_ := Aside0.mk (Kd.R_mono (Kd.R_told (Kd.R_told (Kd.R_told (Kd.R_told (Kd.R_old (by (with_reducible repeat (first | apply Kd.R_alloc | apply Kd.R_drewN | apply Kd.R_drew)); exact HO_244001.out) hb) (Kd.R_base ho0)) (Kd.R_base ho1)) (Kd.R_base ho2)) (Kd.R_base ho3)) (fun _ h_ => h_.1))
                                        have n2_ := Aside0.mk (Kd.R_lower (Kd.R_new' (Kd.R_new' ho0 (Kd.R_lt (by (with_reducible repeat (first | apply Kd.R_alloc | apply Kd.R_drewN | apply Kd.R_drew)); exact HO_244000.out))) (Kd.R_lt (by (with_reducible repeat (first | apply Kd.R_alloc | apply Kd.R_drewN | apply Kd.R_drew)); exact HO_244001.out))) (below_size (by repeat (first | (with_reducible first | exact HB.out | apply below_alloc | apply pw_below_drewN | apply below_drew1 | refine below_set ?_ GE243.out) | exact HB.out))))
                                        have n3_ := Aside0.mk (Kd.R_lower (Kd.R_new' (Kd.R_new' ho1 (Kd.R_lt (by (with_reducible repeat (first | apply Kd.R_alloc | apply Kd.R_drewN | apply Kd.R_drew)); exact HO_244000.out))) (Kd.R_lt (by (with_reducible repeat (first | apply Kd.R_alloc | apply Kd.R_drewN | apply Kd.R_drew)); exact HO_244001.out))) (below_size (by repeat (first | (with_reducible first | exact HB.out | apply below_alloc | apply pw_below_drewN | apply below_drew1 | refine below_set ?_ GE243.out) | exact HB.out))))
                                        have n4_ := Aside0.mk (Kd.R_lower (Kd.R_new' (Kd.R_new' ho2 (Kd.R_lt (by (with_reducible repeat (first | apply Kd.R_alloc | apply Kd.R_drewN | apply Kd.R_drew)); exact HO_244000.out))) (Kd.R_lt (by (with_reducible repeat (first | apply Kd.R_alloc | apply Kd.R_drewN | apply Kd.R_drew)); exact HO_244001.out))) (below_size (by repeat (first | (with_reducible first | exact HB.out | apply below_alloc | apply pw_below_drewN | apply below_drew1 | refine below_set ?_ GE243.out) | exact HB.out))))
                                        have n5_ := Aside0.mk (Kd.R_lower (Kd.R_new' (Kd.R_new' ho3 (Kd.R_lt (by (with_reducible repeat (first | apply Kd.R_alloc | apply Kd.R_drewN | apply Kd.R_drew)); exact HO_244000.out))) (Kd.R_lt (by (with_reducible repeat (first | apply Kd.R_alloc | apply Kd.R_drewN | apply Kd.R_drew)); exact HO_244001.out))) (below_size (by repeat (first | (with_reducible first | exact HB.out | apply below_alloc | apply pw_below_drewN | apply below_drew1 | refine below_set ?_ GE243.out) | exact HB.out))))
                                        have n6_ := Aside0.mk (blk_below (g := gb243) (o := .cells #[.slice Ao24 x244000_2.length co24, .slice Ao25 x244001_2.length co25] 24 (0, 0)) (by (with_reducible repeat (first | refine blk_drewN ?_ _ | refine blk_drew ?_ | refine blk_alloc ?_ _)); exact BK243.out) hb)
                                        have n7_ := Aside0.mk (below_step (by repeat (first | (with_reducible first | exact HB.out | apply below_alloc | apply pw_below_drewN | apply below_drew1 | refine below_set ?_ GE243.out) | exact HB.out)) hb)
                                        clear HO_244000
                                        clear HO_244001
                                        clear BK243
                                        clear HB
                                        have HO_244000 := n0_
                                        have HO_244001 := n1_
                                        have HO247 := n2_
                                        have HO250 := n3_
                                        have HO253 := n4_
                                        have HO256 := n5_
                                        have BK243 := n6_
                                        have HB := n7_
                                        clear n0_ n1_ n2_ n3_ n4_ n5_ n6_ n7_
                                        (try clear hb)
                                        (try clear hb2)
                                        (try clear hk)
                                        (try clear hi)
                                        (try clear ho0)
                                        (try clear ho1)
                                        (try clear ho2)
                                        (try clear ho3)
                                        refine hK.out _ _ ⟨(blk_cell BK243.out 0).trans rfl, (blk_cell BK243.out 1).trans rfl, ((HB.out.cell (World.block_lt_of_cell? w _ hw244_0)).trans hw244_0), ((HB.out.cell (World.block_lt_of_cell? w _ hw244_1)).trans hw244_1)⟩ (fun hHeld => ?_)
                                        clear hK K
                                        refine norm_ (a' := ?_) ?_ ?_
                                        rotate_left
                                        · show Act.put _ (some 51) _ = _
                                          simp only [Act.put, List.setIfInBounds_toArray, List.set_cons_zero, List.set_cons_succ, i64_w, i32_w]
                                          rfl
                                        refine pure_ (i := 7) (N := some 44) (v := ?_) (a' := ?_) #[true, true, true, true, true, true, true, true, false, false, false, false, false, false, false, false] rfl rfl (any_of HT_.out (by kernel_rfl)) (fun _ _ _ h => h) (Or.inl ⟨by rfl, ?_⟩) ?_ ?_
                                        rotate_left
                                        · intro w'
                                          go_simp
                                          with_reducible rfl
                                        rotate_left
                                        · simp only [Act.put, List.setIfInBounds_toArray, List.set_cons_zero, List.set_cons_succ, i64_w, i32_w]
                                          rfl
                                        refine pure_ (i := 8) (N := some 52) (v := ?_) (a' := ?_) #[true, true, true, true, true, true, true, true, true, false, false, false, false, false, false, false] rfl rfl (any_of HT_.out (by kernel_rfl)) (fun _ _ _ h => h) (Or.inl ⟨by rfl, ?_⟩) ?_ ?_
                                        rotate_left
                                        · intro w'
                                          go_simp
                                          with_reducible rfl
                                        rotate_left
                                        · simp only [Act.put, List.setIfInBounds_toArray, List.set_cons_zero, List.set_cons_succ, i64_w, i32_w]
                                          rfl
                                        refine pure_ (i := 9) (N := some 53) (v := ?_) (a' := ?_) #[true, true, true, true, true, true, true, true, true, true, false, false, false, false, false, false] rfl rfl (any_of HT_.out (by kernel_rfl)) (fun _ _ _ h => h) (Or.inl ⟨by rfl, ?_⟩) ?_ ?_
                                        rotate_left
                                        · intro w'
                                          go_simp
                                          with_reducible rfl
                                        rotate_left
                                        · simp only [Act.put, List.setIfInBounds_toArray, List.set_cons_zero, List.set_cons_succ, i64_w, i32_w]
                                          rfl
                                        refine pure_ (i := 10) (N := some 54) (v := ?_) (a' := ?_) #[true, true, true, true, true, true, true, true, true, true, true, false, false, false, false, false] rfl rfl (any_of HT_.out (by kernel_rfl)) (fun _ _ _ h => h) (Or.inl ⟨by rfl, ?_⟩) ?_ ?_
                                        rotate_left
                                        · intro w'
                                          go_simp
                                          with_reducible rfl
                                        rotate_left
                                        · simp only [Act.put, List.setIfInBounds_toArray, List.set_cons_zero, List.set_cons_succ, i64_w, i32_w]
                                          rfl
                                        exact norm_ (by first | (simp only [putAll, Act.put, List.setIfInBounds_toArray, List.set_cons_zero, List.set_cons_succ]; done) | (simp only [putAll, Act.put, List.setIfInBounds_toArray, List.set_cons_zero, List.set_cons_succ]; rfl)) (hJ6 (v246, v249, v252, v255) _ ⟨hHeld, (by (with_reducible repeat (first | apply Kd.R_alloc | apply Kd.R_drewN | apply Kd.R_drew)); exact Kd.R_mono HO247.out (fun _ hk => ⟨hk.1.1.1, ⟨hk.1.1.2.1, ⟨hk.1.1.2.2, ⟨hk.1.2, hk.2⟩⟩⟩⟩)), (by (with_reducible repeat (first | apply Kd.R_alloc | apply Kd.R_drewN | apply Kd.R_drew)); exact Kd.R_mono HO250.out (fun _ hk => ⟨hk.1.1.1, ⟨hk.1.1.2.1, ⟨hk.1.1.2.2, ⟨hk.1.2, hk.2⟩⟩⟩⟩)), (by (with_reducible repeat (first | apply Kd.R_alloc | apply Kd.R_drewN | apply Kd.R_drew)); exact Kd.R_mono HO253.out (fun _ hk => ⟨hk.1.1.1, ⟨hk.1.1.2.1, ⟨hk.1.1.2.2, ⟨hk.1.2, hk.2⟩⟩⟩⟩)), (by (with_reducible repeat (first | apply Kd.R_alloc | apply Kd.R_drewN | apply Kd.R_drew)); exact Kd.R_mono HO256.out (fun _ hk => ⟨hk.1.1.1, ⟨hk.1.1.2.1, ⟨hk.1.1.2.2, ⟨hk.1.2, hk.2⟩⟩⟩⟩)), (by (with_reducible repeat (first | apply Kd.R_alloc | apply Kd.R_drewN | apply Kd.R_drew)); exact Kd.R_mono HO_244000.out (fun _ hk => ⟨hk.1.1.1.2, ⟨hk.1.1.2, ⟨hk.1.2, ⟨hk.2, hk.1.1.1.1⟩⟩⟩⟩)), (by (with_reducible repeat (first | apply Kd.R_alloc | apply Kd.R_drewN | apply Kd.R_drew)); exact Kd.R_mono HO_244001.out (fun _ hk => ⟨hk.1.1.1.2, ⟨hk.1.1.2, ⟨hk.1.2, ⟨hk.2, hk.1.1.1.1⟩⟩⟩⟩)), (by (with_reducible repeat (first | refine blk_drewN ?_ _ | refine blk_drew ?_ | refine blk_alloc ?_ _)); exact BK243.out), (by repeat (first | (with_reducible first | exact HB.out | apply below_alloc | apply pw_below_drewN | apply below_drew1 | refine below_set ?_ GE243.out) | exact HB.out))⟩)
                                      · skip
                                        refine box_step ?hg (N := 12) ?hd (cs := #[.slice none 0 0, .slice none 0 0]) (t := 24) ?hr ?_; (case hd => rfl); (case hg => rfl); (case hr => first | (go_simp; done) | (go_simp; rfl))
                                        intro gb258 hg w27 hbox hb
                                        have n0_ := Aside0.mk (Kd.R_below (by (with_reducible repeat (first | apply Kd.R_alloc | apply Kd.R_drewN | apply Kd.R_drew)); exact HO_244000.out) hb)
                                        have n1_ := Aside0.mk (Kd.R_below (by (with_reducible repeat (first | apply Kd.R_alloc | apply Kd.R_drewN | apply Kd.R_drew)); exact HO_244001.out) hb)
                                        have n2_ := Aside0.mk (blk_below (g := gb243) (o := .cells #[.slice Ao24 x244000_2.length co24, .slice Ao25 x244001_2.length co25] 24 (0, 0)) (by (with_reducible repeat (first | refine blk_drewN ?_ _ | refine blk_drew ?_ | refine blk_alloc ?_ _)); exact BK243.out) hb)
                                        have n3_ := Aside0.mk (below_step (by repeat (first | (with_reducible first | exact HB.out | apply below_alloc | apply pw_below_drewN | apply below_drew1 | refine below_set ?_ GE243.out) | exact HB.out)) hb)
                                        have n4_ := Aside0.mk (hbox)
                                        have n5_ := Aside0.mk ((by rw [hg]; exact (below_size (by repeat (first | (with_reducible first | exact HB.out | apply below_alloc | apply pw_below_drewN | apply below_drew1 | refine below_set ?_ GE243.out) | exact HB.out))) : w.heap.size ≤ gb258))
                                        have n6_ := Aside0.mk ((by rw [hg]; exact (below_size (by repeat (first | (with_reducible first | exact HB.out | apply below_alloc | apply pw_below_drewN | apply below_drew1 | refine below_set ?_ GE243.out) | exact HB.out))) : w.heap.size ≤ gb258))
                                        have n7_ := Aside0.mk ((by rw [hg]; exact Nat.ne_of_lt (blk_lt (g := gb243) (o := .cells #[.slice Ao24 x244000_2.length co24, .slice Ao25 x244001_2.length co25] 24 (0, 0)) (by (with_reducible repeat (first | refine blk_drewN ?_ _ | refine blk_drew ?_ | refine blk_alloc ?_ _)); exact BK243.out)) : gb243 ≠ gb258))
                                        have n8_ := Aside0.mk ((by rw [hg]; exact Nat.ne_of_gt (blk_lt (g := gb243) (o := .cells #[.slice Ao24 x244000_2.length co24, .slice Ao25 x244001_2.length co25] 24 (0, 0)) (by (with_reducible repeat (first | refine blk_drewN ?_ _ | refine blk_drew ?_ | refine blk_alloc ?_ _)); exact BK243.out)) : gb258 ≠ gb243))
                                        clear HO_244000
                                        clear HO_244001
                                        clear BK243
                                        clear HB
                                        have HO_244000 := n0_
                                        have HO_244001 := n1_
                                        have BK243 := n2_
                                        have HB := n3_
                                        have BK258 := n4_
                                        have GW258 := n5_
                                        have GE258 := n6_
                                        have NB243_258 := n7_
                                        have NB258_243 := n8_
                                        clear n0_ n1_ n2_ n3_ n4_ n5_ n6_ n7_ n8_
                                        clear hb hbox hg
                                        refine hK.out _ _ ⟨(blk_cell BK243.out 0).trans rfl, (blk_cell BK243.out 1).trans rfl, ((HB.out.cell (World.block_lt_of_cell? w _ hw244_0)).trans hw244_0), ((HB.out.cell (World.block_lt_of_cell? w _ hw244_1)).trans hw244_1)⟩ (fun hHeld => ?_)
                                        clear hK K
                                        refine norm_ (a' := ?_) ?_ ?_
                                        rotate_left
                                        · show Act.put _ (some 12) _ = _
                                          simp only [Act.put, List.setIfInBounds_toArray, List.set_cons_zero, List.set_cons_succ, i64_w, i32_w]
                                          rfl
                                        exact norm_ (by first | (simp only [putAll, Act.put, List.setIfInBounds_toArray, List.set_cons_zero, List.set_cons_succ]; done) | (simp only [putAll, Act.put, List.setIfInBounds_toArray, List.set_cons_zero, List.set_cons_succ]; rfl)) (hJ11 (gb258) _ ⟨hHeld, (by (with_reducible repeat (first | apply Kd.R_alloc | apply Kd.R_drewN | apply Kd.R_drew)); exact HO_244000.out), (by (with_reducible repeat (first | apply Kd.R_alloc | apply Kd.R_drewN | apply Kd.R_drew)); exact HO_244001.out), (by (with_reducible repeat (first | refine blk_drewN ?_ _ | refine blk_drew ?_ | refine blk_alloc ?_ _)); exact BK243.out), (by (with_reducible repeat (first | refine blk_drewN ?_ _ | refine blk_drew ?_ | refine blk_alloc ?_ _)); exact BK258.out), GW258.out, GE258.out, NB243_258.out, NB258_243.out, (by repeat (first | (with_reducible first | exact HB.out | apply below_alloc | apply pw_below_drewN | apply below_drew1 | refine below_set ?_ GE243.out | refine below_set ?_ GE258.out) | exact HB.out))⟩)
                                      · skip
                                        refine box_step ?hg (N := 13) ?hd (cs := #[.slice none 0 0, .slice none 0 0]) (t := 24) ?hr ?_; (case hd => rfl); (case hg => rfl); (case hr => first | (go_simp; done) | (go_simp; rfl))
                                        intro gb259 hg w27 hbox hb
                                        have n0_ := Aside0.mk (Kd.R_below (by (with_reducible repeat (first | apply Kd.R_alloc | apply Kd.R_drewN | apply Kd.R_drew)); exact HO_244000.out) hb)
                                        have n1_ := Aside0.mk (Kd.R_below (by (with_reducible repeat (first | apply Kd.R_alloc | apply Kd.R_drewN | apply Kd.R_drew)); exact HO_244001.out) hb)
                                        have n2_ := Aside0.mk (blk_below (g := gb243) (o := .cells #[.slice Ao24 x244000_2.length co24, .slice Ao25 x244001_2.length co25] 24 (0, 0)) (by (with_reducible repeat (first | refine blk_drewN ?_ _ | refine blk_drew ?_ | refine blk_alloc ?_ _)); exact BK243.out) hb)
                                        have n3_ := Aside0.mk (below_step (by repeat (first | (with_reducible first | exact HB.out | apply below_alloc | apply pw_below_drewN | apply below_drew1 | refine below_set ?_ GE243.out) | exact HB.out)) hb)
                                        have n4_ := Aside0.mk (hbox)
                                        have n5_ := Aside0.mk ((by rw [hg]; exact (below_size (by repeat (first | (with_reducible first | exact HB.out | apply below_alloc | apply pw_below_drewN | apply below_drew1 | refine below_set ?_ GE243.out) | exact HB.out))) : w.heap.size ≤ gb259))
                                        have n6_ := Aside0.mk ((by rw [hg]; exact (below_size (by repeat (first | (with_reducible first | exact HB.out | apply below_alloc | apply pw_below_drewN | apply below_drew1 | refine below_set ?_ GE243.out) | exact HB.out))) : w.heap.size ≤ gb259))
                                        have n7_ := Aside0.mk ((by rw [hg]; exact Nat.ne_of_lt (blk_lt (g := gb243) (o := .cells #[.slice Ao24 x244000_2.length co24, .slice Ao25 x244001_2.length co25] 24 (0, 0)) (by (with_reducible repeat (first | refine blk_drewN ?_ _ | refine blk_drew ?_ | refine blk_alloc ?_ _)); exact BK243.out)) : gb243 ≠ gb259))
                                        have n8_ := Aside0.mk ((by rw [hg]; exact Nat.ne_of_gt (blk_lt (g := gb243) (o := .cells #[.slice Ao24 x244000_2.length co24, .slice Ao25 x244001_2.length co25] 24 (0, 0)) (by (with_reducible repeat (first | refine blk_drewN ?_ _ | refine blk_drew ?_ | refine blk_alloc ?_ _)); exact BK243.out)) : gb259 ≠ gb243))
                                        clear HO_244000
                                        clear HO_244001
                                        clear BK243
                                        clear HB
                                        have HO_244000 := n0_
                                        have HO_244001 := n1_
                                        have BK243 := n2_
                                        have HB := n3_
                                        have BK259 := n4_
                                        have GW259 := n5_
                                        have GE259 := n6_
                                        have NB243_259 := n7_
                                        have NB259_243 := n8_
                                        clear n0_ n1_ n2_ n3_ n4_ n5_ n6_ n7_ n8_
                                        clear hb hbox hg
                                        refine hK.out _ _ ⟨(blk_cell BK243.out 0).trans rfl, (blk_cell BK243.out 1).trans rfl, ((HB.out.cell (World.block_lt_of_cell? w _ hw244_0)).trans hw244_0), ((HB.out.cell (World.block_lt_of_cell? w _ hw244_1)).trans hw244_1)⟩ (fun hHeld => ?_)
                                        clear hK K
                                        refine norm_ (a' := ?_) ?_ ?_
                                        rotate_left
                                        · show Act.put _ (some 13) _ = _
                                          simp only [Act.put, List.setIfInBounds_toArray, List.set_cons_zero, List.set_cons_succ, i64_w, i32_w]
                                          rfl
                                        exact norm_ (by first | (simp only [putAll, Act.put, List.setIfInBounds_toArray, List.set_cons_zero, List.set_cons_succ]; done) | (simp only [putAll, Act.put, List.setIfInBounds_toArray, List.set_cons_zero, List.set_cons_succ]; rfl)) (hJ12 (gb259) _ ⟨hHeld, (by (with_reducible repeat (first | apply Kd.R_alloc | apply Kd.R_drewN | apply Kd.R_drew)); exact HO_244000.out), (by (with_reducible repeat (first | apply Kd.R_alloc | apply Kd.R_drewN | apply Kd.R_drew)); exact HO_244001.out), (by (with_reducible repeat (first | refine blk_drewN ?_ _ | refine blk_drew ?_ | refine blk_alloc ?_ _)); exact BK243.out), (by (with_reducible repeat (first | refine blk_drewN ?_ _ | refine blk_drew ?_ | refine blk_alloc ?_ _)); exact BK259.out), GW259.out, GE259.out, NB243_259.out, NB259_243.out, (by repeat (first | (with_reducible first | exact HB.out | apply below_alloc | apply pw_below_drewN | apply below_drew1 | refine below_set ?_ GE243.out | refine below_set ?_ GE259.out) | exact HB.out))⟩)
                                    · skip
                                      rintro gb259 w28 ⟨hS_, h0_, h1_, h2_, h3_, h4_, h5_, h6_, h7_, h8_⟩
                                      have n0_ : Aside0 (Kd.R (Kd.int .i64) 3 w28 w.heap.size (fun k_ => some k_ ≠ (.slice Ao25 x244001_2.length co25 : Value).ownBlock) (.slice Ao24 x244000_2.length co24) x244000_2) := ⟨h0_⟩
                                      have n1_ : Aside0 (Kd.R (Kd.int .i64) 3 w28 w.heap.size (fun k_ => some k_ ≠ (.slice Ao24 x244000_2.length co24 : Value).ownBlock) (.slice Ao25 x244001_2.length co25) x244001_2) := ⟨h1_⟩
                                      have n2_ : Aside0 (w28.heap[gb243]? = some (.cells #[.slice Ao24 x244000_2.length co24, .slice Ao25 x244001_2.length co25] 24 (0, 0))) := ⟨h2_⟩
                                      have n3_ : Aside0 (w28.heap[gb259]? = some (.cells #[.slice none 0 0, .slice none 0 0] 24 (0, 0))) := ⟨h3_⟩
                                      have n4_ : Aside0 (w.heap.size ≤ gb259) := ⟨h4_⟩
                                      have n5_ : Aside0 (w.heap.size ≤ gb259) := ⟨h5_⟩
                                      have n6_ : Aside0 (gb243 ≠ gb259) := ⟨h6_⟩
                                      have n7_ : Aside0 (gb259 ≠ gb243) := ⟨h7_⟩
                                      have n8_ : Aside0 (Below w.heap.size w w28) := ⟨h8_⟩
                                      clear HO_244000
                                      clear HO_244001
                                      clear BK243
                                      clear HB
                                      clear h0_ h1_ h2_ h3_ h4_ h5_ h6_ h7_ h8_
                                      have HO_244000 := n0_
                                      have HO_244001 := n1_
                                      have BK243 := n2_
                                      have BK259 := n3_
                                      have GW259 := n4_
                                      have GE259 := n5_
                                      have NB243_259 := n6_
                                      have NB259_243 := n7_
                                      have HB := n8_
                                      clear n0_ n1_ n2_ n3_ n4_ n5_ n6_ n7_ n8_
                                      have hHeld : w28.cell? ⟨gb243, 0, none⟩ = some (.slice Ao24 x244000_2.length co24) ∧ w28.cell? ⟨gb243, 1, none⟩ = some (.slice Ao25 x244001_2.length co25) ∧ w28.cell? (ad244.add ((x11_2).toNat * 2)) = some (.int .i64 ((rd_T52 l1 x11_2).f0)) ∧ w28.cell? ⟨(ad244.add ((x11_2).toNat * 2)).block, (ad244.add ((x11_2).toNat * 2)).off + 1, none⟩ = some (.bool ((rd_T52 l1 x11_2).f1)) := hS_
                                      refine norm_ (a' := ?_) ?_ ?_
                                      rotate_left
                                      · simp only [putAll, Act.put, List.setIfInBounds_toArray, List.set_cons_zero, List.set_cons_succ]
                                        rfl
                                      refine two_ (i := 6) (j := 11) (Ni := some 51) (Nj := some 12) #[true, true, true, true, true, true, true, false, false, false, false, false, true, false, false, false] #[true, true, true, true, true, true, false, false, false, false, false, true, true, false, false, false] rfl rfl rfl rfl (two_of HT_.out (by kernel_rfl)) (by decide) (by decide) (fun K hK => ?_) (fun K hK => ?_)
                                      · skip
                                        refine goes_ Try.func15 (by kernel_rfl) rfl #[.agg #[.slice Ao24 x244000_2.length co24, .slice Ao25 x244001_2.length co25], .int .i64 ((rd_T52 l1 x11_2).f0)] (by rfl) rfl rfl (by (try simp only [List.map_toArray, List.map_cons, List.map_nil]); first | done | rfl | (simp only [List.length_drop, List.length_take]; rfl)) ?_
                                        with_reducible refine (split_Halve.calls kj16 _ _ x244000_2 _ _ x244001_2 ((rd_T52 l1 x11_2).f0) t245 t248 t251 t254 t257 _ ?side1 ?side2 ?side3 ?side4 A22.out).mono ?_
                                        (case side1 => repeat (first | exact (Kd.R_reads' HO_244000.out).2.2 | (with_reducible refine Kd.C_alloc ?_ _) | (with_reducible refine Kd.C_drewN ?_ _) | (with_reducible refine Kd.C_drew ?_)))
                                        (case side2 => exact (Kd.R_reads' HO_244000.out).2.1)
                                        (case side3 => repeat (first | exact (Kd.R_reads' HO_244001.out).2.2 | (with_reducible refine Kd.C_alloc ?_ _) | (with_reducible refine Kd.C_drewN ?_ _) | (with_reducible refine Kd.C_drew ?_)))
                                        (case side4 => exact (Kd.R_reads' HO_244001.out).2.1)
                                        rintro e w29 ⟨v246, v249, v252, v255, rfl, ho0, ho1, ho2, ho3, hb⟩
                                        refine ⟨_, rfl, ?_⟩
                                        have n0_ := Aside0.mk (Kd.R_mono (Kd.R_told (Kd.R_told (Kd.R_told (Kd.R_told (Kd.R_old (by (with_reducible repeat (first | apply Kd.R_alloc | apply Kd.R_drewN | apply Kd.R_drew)); exact HO_244000.out) hb) (Kd.R_base ho0)) (Kd.R_base ho1)) (Kd.R_base ho2)) (Kd.R_base ho3)) (fun _ h_ => h_.1))
                                        have n1_ := Aside0.mk (Kd.R_mono (Kd.R_told (Kd.R_told (Kd.R_told (Kd.R_told (Kd.R_old (by (with_reducible repeat (first | apply Kd.R_alloc | apply Kd.R_drewN | apply Kd.R_drew)); exact HO_244001.out) hb) (Kd.R_base ho0)) (Kd.R_base ho1)) (Kd.R_base ho2)) (Kd.R_base ho3)) (fun _ h_ => h_.1))
                                        have n2_ := Aside0.mk (Kd.R_lower (Kd.R_new' (Kd.R_new' ho0 (Kd.R_lt (by (with_reducible repeat (first | apply Kd.R_alloc | apply Kd.R_drewN | apply Kd.R_drew)); exact HO_244000.out))) (Kd.R_lt (by (with_reducible repeat (first | apply Kd.R_alloc | apply Kd.R_drewN | apply Kd.R_drew)); exact HO_244001.out))) (below_size (by repeat (first | (with_reducible first | exact HB.out | apply below_alloc | apply pw_below_drewN | apply below_drew1 | refine below_set ?_ GE243.out | refine below_set ?_ GE259.out) | exact HB.out))))
                                        have n3_ := Aside0.mk (Kd.R_lower (Kd.R_new' (Kd.R_new' ho1 (Kd.R_lt (by (with_reducible repeat (first | apply Kd.R_alloc | apply Kd.R_drewN | apply Kd.R_drew)); exact HO_244000.out))) (Kd.R_lt (by (with_reducible repeat (first | apply Kd.R_alloc | apply Kd.R_drewN | apply Kd.R_drew)); exact HO_244001.out))) (below_size (by repeat (first | (with_reducible first | exact HB.out | apply below_alloc | apply pw_below_drewN | apply below_drew1 | refine below_set ?_ GE243.out | refine below_set ?_ GE259.out) | exact HB.out))))
                                        have n4_ := Aside0.mk (Kd.R_lower (Kd.R_new' (Kd.R_new' ho2 (Kd.R_lt (by (with_reducible repeat (first | apply Kd.R_alloc | apply Kd.R_drewN | apply Kd.R_drew)); exact HO_244000.out))) (Kd.R_lt (by (with_reducible repeat (first | apply Kd.R_alloc | apply Kd.R_drewN | apply Kd.R_drew)); exact HO_244001.out))) (below_size (by repeat (first | (with_reducible first | exact HB.out | apply below_alloc | apply pw_below_drewN | apply below_drew1 | refine below_set ?_ GE243.out | refine below_set ?_ GE259.out) | exact HB.out))))
                                        have n5_ := Aside0.mk (Kd.R_lower (Kd.R_new' (Kd.R_new' ho3 (Kd.R_lt (by (with_reducible repeat (first | apply Kd.R_alloc | apply Kd.R_drewN | apply Kd.R_drew)); exact HO_244000.out))) (Kd.R_lt (by (with_reducible repeat (first | apply Kd.R_alloc | apply Kd.R_drewN | apply Kd.R_drew)); exact HO_244001.out))) (below_size (by repeat (first | (with_reducible first | exact HB.out | apply below_alloc | apply pw_below_drewN | apply below_drew1 | refine below_set ?_ GE243.out | refine below_set ?_ GE259.out) | exact HB.out))))
                                        have n6_ := Aside0.mk (blk_below (g := gb243) (o := .cells #[.slice Ao24 x244000_2.length co24, .slice Ao25 x244001_2.length co25] 24 (0, 0)) (by (with_reducible repeat (first | refine blk_drewN ?_ _ | refine blk_drew ?_ | refine blk_alloc ?_ _)); exact BK243.out) hb)
                                        have n7_ := Aside0.mk (blk_below (g := gb259) (o := .cells #[.slice none 0 0, .slice none 0 0] 24 (0, 0)) (by (with_reducible repeat (first | refine blk_drewN ?_ _ | refine blk_drew ?_ | refine blk_alloc ?_ _)); exact BK259.out) hb)
                                        have n8_ := Aside0.mk (below_step (by repeat (first | (with_reducible first | exact HB.out | apply below_alloc | apply pw_below_drewN | apply below_drew1 | refine below_set ?_ GE243.out | refine below_set ?_ GE259.out) | exact HB.out)) hb)
                                        clear HO_244000
                                        clear HO_244001
                                        clear BK243
                                        clear BK259
                                        clear HB
                                        have HO_244000 := n0_
                                        have HO_244001 := n1_
                                        have HO247 := n2_
                                        have HO250 := n3_
                                        have HO253 := n4_
                                        have HO256 := n5_
                                        have BK243 := n6_
                                        have BK259 := n7_
                                        have HB := n8_
                                        clear n0_ n1_ n2_ n3_ n4_ n5_ n6_ n7_ n8_
                                        (try clear hb)
                                        (try clear hb2)
                                        (try clear hk)
                                        (try clear hi)
                                        (try clear ho0)
                                        (try clear ho1)
                                        (try clear ho2)
                                        (try clear ho3)
                                        refine hK.out _ _ ⟨(blk_cell BK243.out 0).trans rfl, (blk_cell BK243.out 1).trans rfl, ((HB.out.cell (World.block_lt_of_cell? w _ hw244_0)).trans hw244_0), ((HB.out.cell (World.block_lt_of_cell? w _ hw244_1)).trans hw244_1)⟩ (fun hHeld => ?_)
                                        clear hK K
                                        refine norm_ (a' := ?_) ?_ ?_
                                        rotate_left
                                        · show Act.put _ (some 51) _ = _
                                          simp only [Act.put, List.setIfInBounds_toArray, List.set_cons_zero, List.set_cons_succ, i64_w, i32_w]
                                          rfl
                                        refine pure_ (i := 7) (N := some 44) (v := ?_) (a' := ?_) #[true, true, true, true, true, true, true, true, false, false, false, false, true, false, false, false] rfl rfl (any_of HT_.out (by kernel_rfl)) (fun _ _ _ h => h) (Or.inl ⟨by rfl, ?_⟩) ?_ ?_
                                        rotate_left
                                        · intro w'
                                          go_simp
                                          with_reducible rfl
                                        rotate_left
                                        · simp only [Act.put, List.setIfInBounds_toArray, List.set_cons_zero, List.set_cons_succ, i64_w, i32_w]
                                          rfl
                                        refine pure_ (i := 8) (N := some 52) (v := ?_) (a' := ?_) #[true, true, true, true, true, true, true, true, true, false, false, false, true, false, false, false] rfl rfl (any_of HT_.out (by kernel_rfl)) (fun _ _ _ h => h) (Or.inl ⟨by rfl, ?_⟩) ?_ ?_
                                        rotate_left
                                        · intro w'
                                          go_simp
                                          with_reducible rfl
                                        rotate_left
                                        · simp only [Act.put, List.setIfInBounds_toArray, List.set_cons_zero, List.set_cons_succ, i64_w, i32_w]
                                          rfl
                                        refine pure_ (i := 9) (N := some 53) (v := ?_) (a' := ?_) #[true, true, true, true, true, true, true, true, true, true, false, false, true, false, false, false] rfl rfl (any_of HT_.out (by kernel_rfl)) (fun _ _ _ h => h) (Or.inl ⟨by rfl, ?_⟩) ?_ ?_
                                        rotate_left
                                        · intro w'
                                          go_simp
                                          with_reducible rfl
                                        rotate_left
                                        · simp only [Act.put, List.setIfInBounds_toArray, List.set_cons_zero, List.set_cons_succ, i64_w, i32_w]
                                          rfl
                                        refine pure_ (i := 10) (N := some 54) (v := ?_) (a' := ?_) #[true, true, true, true, true, true, true, true, true, true, true, false, true, false, false, false] rfl rfl (any_of HT_.out (by kernel_rfl)) (fun _ _ _ h => h) (Or.inl ⟨by rfl, ?_⟩) ?_ ?_
                                        rotate_left
                                        · intro w'
                                          go_simp
                                          with_reducible rfl
                                        rotate_left
                                        · simp only [Act.put, List.setIfInBounds_toArray, List.set_cons_zero, List.set_cons_succ, i64_w, i32_w]
                                          rfl
                                        exact norm_ (by first | (simp only [putAll, Act.put, List.setIfInBounds_toArray, List.set_cons_zero, List.set_cons_succ]; done) | (simp only [putAll, Act.put, List.setIfInBounds_toArray, List.set_cons_zero, List.set_cons_succ]; rfl)) (hJ6_12 (v246, v249, v252, v255, gb259) _ ⟨hHeld, (by (with_reducible repeat (first | apply Kd.R_alloc | apply Kd.R_drewN | apply Kd.R_drew)); exact Kd.R_mono HO247.out (fun _ hk => ⟨hk.1.1.1, ⟨hk.1.1.2.1, ⟨hk.1.1.2.2, ⟨hk.1.2, hk.2⟩⟩⟩⟩)), (by (with_reducible repeat (first | apply Kd.R_alloc | apply Kd.R_drewN | apply Kd.R_drew)); exact Kd.R_mono HO250.out (fun _ hk => ⟨hk.1.1.1, ⟨hk.1.1.2.1, ⟨hk.1.1.2.2, ⟨hk.1.2, hk.2⟩⟩⟩⟩)), (by (with_reducible repeat (first | apply Kd.R_alloc | apply Kd.R_drewN | apply Kd.R_drew)); exact Kd.R_mono HO253.out (fun _ hk => ⟨hk.1.1.1, ⟨hk.1.1.2.1, ⟨hk.1.1.2.2, ⟨hk.1.2, hk.2⟩⟩⟩⟩)), (by (with_reducible repeat (first | apply Kd.R_alloc | apply Kd.R_drewN | apply Kd.R_drew)); exact Kd.R_mono HO256.out (fun _ hk => ⟨hk.1.1.1, ⟨hk.1.1.2.1, ⟨hk.1.1.2.2, ⟨hk.1.2, hk.2⟩⟩⟩⟩)), (by (with_reducible repeat (first | apply Kd.R_alloc | apply Kd.R_drewN | apply Kd.R_drew)); exact Kd.R_mono HO_244000.out (fun _ hk => ⟨hk.1.1.1.2, ⟨hk.1.1.2, ⟨hk.1.2, ⟨hk.2, hk.1.1.1.1⟩⟩⟩⟩)), (by (with_reducible repeat (first | apply Kd.R_alloc | apply Kd.R_drewN | apply Kd.R_drew)); exact Kd.R_mono HO_244001.out (fun _ hk => ⟨hk.1.1.1.2, ⟨hk.1.1.2, ⟨hk.1.2, ⟨hk.2, hk.1.1.1.1⟩⟩⟩⟩)), (by (with_reducible repeat (first | refine blk_drewN ?_ _ | refine blk_drew ?_ | refine blk_alloc ?_ _)); exact BK243.out), (by (with_reducible repeat (first | refine blk_drewN ?_ _ | refine blk_drew ?_ | refine blk_alloc ?_ _)); exact BK259.out), GW259.out, GE259.out, NB243_259.out, NB259_243.out, (by repeat (first | (with_reducible first | exact HB.out | apply below_alloc | apply pw_below_drewN | apply below_drew1 | refine below_set ?_ GE243.out | refine below_set ?_ GE259.out) | exact HB.out))⟩)
                                      · skip
                                        refine box_step ?hg (N := 12) ?hd (cs := #[.slice none 0 0, .slice none 0 0]) (t := 24) ?hr ?_; (case hd => rfl); (case hg => rfl); (case hr => first | (go_simp; done) | (go_simp; rfl))
                                        intro gb258 hg w29 hbox hb
                                        have n0_ := Aside0.mk (Kd.R_below (by (with_reducible repeat (first | apply Kd.R_alloc | apply Kd.R_drewN | apply Kd.R_drew)); exact HO_244000.out) hb)
                                        have n1_ := Aside0.mk (Kd.R_below (by (with_reducible repeat (first | apply Kd.R_alloc | apply Kd.R_drewN | apply Kd.R_drew)); exact HO_244001.out) hb)
                                        have n2_ := Aside0.mk (blk_below (g := gb243) (o := .cells #[.slice Ao24 x244000_2.length co24, .slice Ao25 x244001_2.length co25] 24 (0, 0)) (by (with_reducible repeat (first | refine blk_drewN ?_ _ | refine blk_drew ?_ | refine blk_alloc ?_ _)); exact BK243.out) hb)
                                        have n3_ := Aside0.mk (blk_below (g := gb259) (o := .cells #[.slice none 0 0, .slice none 0 0] 24 (0, 0)) (by (with_reducible repeat (first | refine blk_drewN ?_ _ | refine blk_drew ?_ | refine blk_alloc ?_ _)); exact BK259.out) hb)
                                        have n4_ := Aside0.mk (below_step (by repeat (first | (with_reducible first | exact HB.out | apply below_alloc | apply pw_below_drewN | apply below_drew1 | refine below_set ?_ GE243.out | refine below_set ?_ GE259.out) | exact HB.out)) hb)
                                        have n5_ := Aside0.mk (hbox)
                                        have n6_ := Aside0.mk ((by rw [hg]; exact (below_size (by repeat (first | (with_reducible first | exact HB.out | apply below_alloc | apply pw_below_drewN | apply below_drew1 | refine below_set ?_ GE243.out | refine below_set ?_ GE259.out) | exact HB.out))) : w.heap.size ≤ gb258))
                                        have n7_ := Aside0.mk ((by rw [hg]; exact (below_size (by repeat (first | (with_reducible first | exact HB.out | apply below_alloc | apply pw_below_drewN | apply below_drew1 | refine below_set ?_ GE243.out | refine below_set ?_ GE259.out) | exact HB.out))) : w.heap.size ≤ gb258))
                                        have n8_ := Aside0.mk ((by rw [hg]; exact Nat.ne_of_lt (blk_lt (g := gb243) (o := .cells #[.slice Ao24 x244000_2.length co24, .slice Ao25 x244001_2.length co25] 24 (0, 0)) (by (with_reducible repeat (first | refine blk_drewN ?_ _ | refine blk_drew ?_ | refine blk_alloc ?_ _)); exact BK243.out)) : gb243 ≠ gb258))
                                        have n9_ := Aside0.mk ((by rw [hg]; exact Nat.ne_of_gt (blk_lt (g := gb243) (o := .cells #[.slice Ao24 x244000_2.length co24, .slice Ao25 x244001_2.length co25] 24 (0, 0)) (by (with_reducible repeat (first | refine blk_drewN ?_ _ | refine blk_drew ?_ | refine blk_alloc ?_ _)); exact BK243.out)) : gb258 ≠ gb243))
                                        have n10_ := Aside0.mk ((by rw [hg]; exact Nat.ne_of_lt (blk_lt (g := gb259) (o := .cells #[.slice none 0 0, .slice none 0 0] 24 (0, 0)) (by (with_reducible repeat (first | refine blk_drewN ?_ _ | refine blk_drew ?_ | refine blk_alloc ?_ _)); exact BK259.out)) : gb259 ≠ gb258))
                                        have n11_ := Aside0.mk ((by rw [hg]; exact Nat.ne_of_gt (blk_lt (g := gb259) (o := .cells #[.slice none 0 0, .slice none 0 0] 24 (0, 0)) (by (with_reducible repeat (first | refine blk_drewN ?_ _ | refine blk_drew ?_ | refine blk_alloc ?_ _)); exact BK259.out)) : gb258 ≠ gb259))
                                        clear HO_244000
                                        clear HO_244001
                                        clear BK243
                                        clear BK259
                                        clear HB
                                        have HO_244000 := n0_
                                        have HO_244001 := n1_
                                        have BK243 := n2_
                                        have BK259 := n3_
                                        have HB := n4_
                                        have BK258 := n5_
                                        have GW258 := n6_
                                        have GE258 := n7_
                                        have NB243_258 := n8_
                                        have NB258_243 := n9_
                                        have NB259_258 := n10_
                                        have NB258_259 := n11_
                                        clear n0_ n1_ n2_ n3_ n4_ n5_ n6_ n7_ n8_ n9_ n10_ n11_
                                        clear hb hbox hg
                                        refine hK.out _ _ ⟨(blk_cell BK243.out 0).trans rfl, (blk_cell BK243.out 1).trans rfl, ((HB.out.cell (World.block_lt_of_cell? w _ hw244_0)).trans hw244_0), ((HB.out.cell (World.block_lt_of_cell? w _ hw244_1)).trans hw244_1)⟩ (fun hHeld => ?_)
                                        clear hK K
                                        refine norm_ (a' := ?_) ?_ ?_
                                        rotate_left
                                        · show Act.put _ (some 12) _ = _
                                          simp only [Act.put, List.setIfInBounds_toArray, List.set_cons_zero, List.set_cons_succ, i64_w, i32_w]
                                          rfl
                                        exact norm_ (by first | (simp only [putAll, Act.put, List.setIfInBounds_toArray, List.set_cons_zero, List.set_cons_succ]; done) | (simp only [putAll, Act.put, List.setIfInBounds_toArray, List.set_cons_zero, List.set_cons_succ]; rfl)) (hJ11_12 (gb258, gb259) _ ⟨hHeld, (by (with_reducible repeat (first | apply Kd.R_alloc | apply Kd.R_drewN | apply Kd.R_drew)); exact HO_244000.out), (by (with_reducible repeat (first | apply Kd.R_alloc | apply Kd.R_drewN | apply Kd.R_drew)); exact HO_244001.out), (by (with_reducible repeat (first | refine blk_drewN ?_ _ | refine blk_drew ?_ | refine blk_alloc ?_ _)); exact BK243.out), (by (with_reducible repeat (first | refine blk_drewN ?_ _ | refine blk_drew ?_ | refine blk_alloc ?_ _)); exact BK258.out), (by (with_reducible repeat (first | refine blk_drewN ?_ _ | refine blk_drew ?_ | refine blk_alloc ?_ _)); exact BK259.out), GW258.out, GE258.out, NB243_258.out, NB258_243.out, NB259_258.out, NB258_259.out, GW259.out, GE259.out, NB243_259.out, NB259_243.out, (by repeat (first | (with_reducible first | exact HB.out | apply below_alloc | apply pw_below_drewN | apply below_drew1 | refine below_set ?_ GE243.out | refine below_set ?_ GE259.out | refine below_set ?_ GE258.out) | exact HB.out))⟩)
                                  · skip
                                    rintro gb258 w28 ⟨hS_, h0_, h1_, h2_, h3_, h4_, h5_, h6_, h7_, h8_⟩
                                    have n0_ : Aside0 (Kd.R (Kd.int .i64) 3 w28 w.heap.size (fun k_ => some k_ ≠ (.slice Ao25 x244001_2.length co25 : Value).ownBlock) (.slice Ao24 x244000_2.length co24) x244000_2) := ⟨h0_⟩
                                    have n1_ : Aside0 (Kd.R (Kd.int .i64) 3 w28 w.heap.size (fun k_ => some k_ ≠ (.slice Ao24 x244000_2.length co24 : Value).ownBlock) (.slice Ao25 x244001_2.length co25) x244001_2) := ⟨h1_⟩
                                    have n2_ : Aside0 (w28.heap[gb243]? = some (.cells #[.slice Ao24 x244000_2.length co24, .slice Ao25 x244001_2.length co25] 24 (0, 0))) := ⟨h2_⟩
                                    have n3_ : Aside0 (w28.heap[gb258]? = some (.cells #[.slice none 0 0, .slice none 0 0] 24 (0, 0))) := ⟨h3_⟩
                                    have n4_ : Aside0 (w.heap.size ≤ gb258) := ⟨h4_⟩
                                    have n5_ : Aside0 (w.heap.size ≤ gb258) := ⟨h5_⟩
                                    have n6_ : Aside0 (gb243 ≠ gb258) := ⟨h6_⟩
                                    have n7_ : Aside0 (gb258 ≠ gb243) := ⟨h7_⟩
                                    have n8_ : Aside0 (Below w.heap.size w w28) := ⟨h8_⟩
                                    clear HO_244000
                                    clear HO_244001
                                    clear BK243
                                    clear HB
                                    clear h0_ h1_ h2_ h3_ h4_ h5_ h6_ h7_ h8_
                                    have HO_244000 := n0_
                                    have HO_244001 := n1_
                                    have BK243 := n2_
                                    have BK258 := n3_
                                    have GW258 := n4_
                                    have GE258 := n5_
                                    have NB243_258 := n6_
                                    have NB258_243 := n7_
                                    have HB := n8_
                                    clear n0_ n1_ n2_ n3_ n4_ n5_ n6_ n7_ n8_
                                    have hHeld : w28.cell? ⟨gb243, 0, none⟩ = some (.slice Ao24 x244000_2.length co24) ∧ w28.cell? ⟨gb243, 1, none⟩ = some (.slice Ao25 x244001_2.length co25) ∧ w28.cell? (ad244.add ((x11_2).toNat * 2)) = some (.int .i64 ((rd_T52 l1 x11_2).f0)) ∧ w28.cell? ⟨(ad244.add ((x11_2).toNat * 2)).block, (ad244.add ((x11_2).toNat * 2)).off + 1, none⟩ = some (.bool ((rd_T52 l1 x11_2).f1)) := hS_
                                    refine norm_ (a' := ?_) ?_ ?_
                                    rotate_left
                                    · simp only [putAll, Act.put, List.setIfInBounds_toArray, List.set_cons_zero, List.set_cons_succ]
                                      rfl
                                    refine two_ (i := 6) (j := 12) (Ni := some 51) (Nj := some 13) #[true, true, true, true, true, true, true, false, false, false, false, true, false, false, false, false] #[true, true, true, true, true, true, false, false, false, false, false, true, true, false, false, false] rfl rfl rfl rfl (two_of HT_.out (by kernel_rfl)) (by decide) (by decide) (fun K hK => ?_) (fun K hK => ?_)
                                    · skip
                                      refine goes_ Try.func15 (by kernel_rfl) rfl #[.agg #[.slice Ao24 x244000_2.length co24, .slice Ao25 x244001_2.length co25], .int .i64 ((rd_T52 l1 x11_2).f0)] (by rfl) rfl rfl (by (try simp only [List.map_toArray, List.map_cons, List.map_nil]); first | done | rfl | (simp only [List.length_drop, List.length_take]; rfl)) ?_
                                      with_reducible refine (split_Halve.calls kj16 _ _ x244000_2 _ _ x244001_2 ((rd_T52 l1 x11_2).f0) t245 t248 t251 t254 t257 _ ?side1 ?side2 ?side3 ?side4 A22.out).mono ?_
                                      (case side1 => repeat (first | exact (Kd.R_reads' HO_244000.out).2.2 | (with_reducible refine Kd.C_alloc ?_ _) | (with_reducible refine Kd.C_drewN ?_ _) | (with_reducible refine Kd.C_drew ?_)))
                                      (case side2 => exact (Kd.R_reads' HO_244000.out).2.1)
                                      (case side3 => repeat (first | exact (Kd.R_reads' HO_244001.out).2.2 | (with_reducible refine Kd.C_alloc ?_ _) | (with_reducible refine Kd.C_drewN ?_ _) | (with_reducible refine Kd.C_drew ?_)))
                                      (case side4 => exact (Kd.R_reads' HO_244001.out).2.1)
                                      rintro e w29 ⟨v246, v249, v252, v255, rfl, ho0, ho1, ho2, ho3, hb⟩
                                      refine ⟨_, rfl, ?_⟩
                                      have n0_ := Aside0.mk (Kd.R_mono (Kd.R_told (Kd.R_told (Kd.R_told (Kd.R_told (Kd.R_old (by (with_reducible repeat (first | apply Kd.R_alloc | apply Kd.R_drewN | apply Kd.R_drew)); exact HO_244000.out) hb) (Kd.R_base ho0)) (Kd.R_base ho1)) (Kd.R_base ho2)) (Kd.R_base ho3)) (fun _ h_ => h_.1))
                                      have n1_ := Aside0.mk (Kd.R_mono (Kd.R_told (Kd.R_told (Kd.R_told (Kd.R_told (Kd.R_old (by (with_reducible repeat (first | apply Kd.R_alloc | apply Kd.R_drewN | apply Kd.R_drew)); exact HO_244001.out) hb) (Kd.R_base ho0)) (Kd.R_base ho1)) (Kd.R_base ho2)) (Kd.R_base ho3)) (fun _ h_ => h_.1))
                                      have n2_ := Aside0.mk (Kd.R_lower (Kd.R_new' (Kd.R_new' ho0 (Kd.R_lt (by (with_reducible repeat (first | apply Kd.R_alloc | apply Kd.R_drewN | apply Kd.R_drew)); exact HO_244000.out))) (Kd.R_lt (by (with_reducible repeat (first | apply Kd.R_alloc | apply Kd.R_drewN | apply Kd.R_drew)); exact HO_244001.out))) (below_size (by repeat (first | (with_reducible first | exact HB.out | apply below_alloc | apply pw_below_drewN | apply below_drew1 | refine below_set ?_ GE243.out | refine below_set ?_ GE258.out) | exact HB.out))))
                                      have n3_ := Aside0.mk (Kd.R_lower (Kd.R_new' (Kd.R_new' ho1 (Kd.R_lt (by (with_reducible repeat (first | apply Kd.R_alloc | apply Kd.R_drewN | apply Kd.R_drew)); exact HO_244000.out))) (Kd.R_lt (by (with_reducible repeat (first | apply Kd.R_alloc | apply Kd.R_drewN | apply Kd.R_drew)); exact HO_244001.out))) (below_size (by repeat (first | (with_reducible first | exact HB.out | apply below_alloc | apply pw_below_drewN | apply below_drew1 | refine below_set ?_ GE243.out | refine below_set ?_ GE258.out) | exact HB.out))))
                                      have n4_ := Aside0.mk (Kd.R_lower (Kd.R_new' (Kd.R_new' ho2 (Kd.R_lt (by (with_reducible repeat (first | apply Kd.R_alloc | apply Kd.R_drewN | apply Kd.R_drew)); exact HO_244000.out))) (Kd.R_lt (by (with_reducible repeat (first | apply Kd.R_alloc | apply Kd.R_drewN | apply Kd.R_drew)); exact HO_244001.out))) (below_size (by repeat (first | (with_reducible first | exact HB.out | apply below_alloc | apply pw_below_drewN | apply below_drew1 | refine below_set ?_ GE243.out | refine below_set ?_ GE258.out) | exact HB.out))))
                                      have n5_ := Aside0.mk (Kd.R_lower (Kd.R_new' (Kd.R_new' ho3 (Kd.R_lt (by (with_reducible repeat (first | apply Kd.R_alloc | apply Kd.R_drewN | apply Kd.R_drew)); exact HO_244000.out))) (Kd.R_lt (by (with_reducible repeat (first | apply Kd.R_alloc | apply Kd.R_drewN | apply Kd.R_drew)); exact HO_244001.out))) (below_size (by repeat (first | (with_reducible first | exact HB.out | apply below_alloc | apply pw_below_drewN | apply below_drew1 | refine below_set ?_ GE243.out | refine below_set ?_ GE258.out) | exact HB.out))))
                                      have n6_ := Aside0.mk (blk_below (g := gb243) (o := .cells #[.slice Ao24 x244000_2.length co24, .slice Ao25 x244001_2.length co25] 24 (0, 0)) (by (with_reducible repeat (first | refine blk_drewN ?_ _ | refine blk_drew ?_ | refine blk_alloc ?_ _)); exact BK243.out) hb)
                                      have n7_ := Aside0.mk (blk_below (g := gb258) (o := .cells #[.slice none 0 0, .slice none 0 0] 24 (0, 0)) (by (with_reducible repeat (first | refine blk_drewN ?_ _ | refine blk_drew ?_ | refine blk_alloc ?_ _)); exact BK258.out) hb)
                                      have n8_ := Aside0.mk (below_step (by repeat (first | (with_reducible first | exact HB.out | apply below_alloc | apply pw_below_drewN | apply below_drew1 | refine below_set ?_ GE243.out | refine below_set ?_ GE258.out) | exact HB.out)) hb)
                                      clear HO_244000
                                      clear HO_244001
                                      clear BK243
                                      clear BK258
                                      clear HB
                                      have HO_244000 := n0_
                                      have HO_244001 := n1_
                                      have HO247 := n2_
                                      have HO250 := n3_
                                      have HO253 := n4_
                                      have HO256 := n5_
                                      have BK243 := n6_
                                      have BK258 := n7_
                                      have HB := n8_
                                      clear n0_ n1_ n2_ n3_ n4_ n5_ n6_ n7_ n8_
                                      (try clear hb)
                                      (try clear hb2)
                                      (try clear hk)
                                      (try clear hi)
                                      (try clear ho0)
                                      (try clear ho1)
                                      (try clear ho2)
                                      (try clear ho3)
                                      refine hK.out _ _ ⟨(blk_cell BK243.out 0).trans rfl, (blk_cell BK243.out 1).trans rfl, ((HB.out.cell (World.block_lt_of_cell? w _ hw244_0)).trans hw244_0), ((HB.out.cell (World.block_lt_of_cell? w _ hw244_1)).trans hw244_1)⟩ (fun hHeld => ?_)
                                      clear hK K
                                      refine norm_ (a' := ?_) ?_ ?_
                                      rotate_left
                                      · show Act.put _ (some 51) _ = _
                                        simp only [Act.put, List.setIfInBounds_toArray, List.set_cons_zero, List.set_cons_succ, i64_w, i32_w]
                                        rfl
                                      refine pure_ (i := 7) (N := some 44) (v := ?_) (a' := ?_) #[true, true, true, true, true, true, true, true, false, false, false, true, false, false, false, false] rfl rfl (any_of HT_.out (by kernel_rfl)) (fun _ _ _ h => h) (Or.inl ⟨by rfl, ?_⟩) ?_ ?_
                                      rotate_left
                                      · intro w'
                                        go_simp
                                        with_reducible rfl
                                      rotate_left
                                      · simp only [Act.put, List.setIfInBounds_toArray, List.set_cons_zero, List.set_cons_succ, i64_w, i32_w]
                                        rfl
                                      refine pure_ (i := 8) (N := some 52) (v := ?_) (a' := ?_) #[true, true, true, true, true, true, true, true, true, false, false, true, false, false, false, false] rfl rfl (any_of HT_.out (by kernel_rfl)) (fun _ _ _ h => h) (Or.inl ⟨by rfl, ?_⟩) ?_ ?_
                                      rotate_left
                                      · intro w'
                                        go_simp
                                        with_reducible rfl
                                      rotate_left
                                      · simp only [Act.put, List.setIfInBounds_toArray, List.set_cons_zero, List.set_cons_succ, i64_w, i32_w]
                                        rfl
                                      refine pure_ (i := 9) (N := some 53) (v := ?_) (a' := ?_) #[true, true, true, true, true, true, true, true, true, true, false, true, false, false, false, false] rfl rfl (any_of HT_.out (by kernel_rfl)) (fun _ _ _ h => h) (Or.inl ⟨by rfl, ?_⟩) ?_ ?_
                                      rotate_left
                                      · intro w'
                                        go_simp
                                        with_reducible rfl
                                      rotate_left
                                      · simp only [Act.put, List.setIfInBounds_toArray, List.set_cons_zero, List.set_cons_succ, i64_w, i32_w]
                                        rfl
                                      refine pure_ (i := 10) (N := some 54) (v := ?_) (a' := ?_) #[true, true, true, true, true, true, true, true, true, true, true, true, false, false, false, false] rfl rfl (any_of HT_.out (by kernel_rfl)) (fun _ _ _ h => h) (Or.inl ⟨by rfl, ?_⟩) ?_ ?_
                                      rotate_left
                                      · intro w'
                                        go_simp
                                        with_reducible rfl
                                      rotate_left
                                      · simp only [Act.put, List.setIfInBounds_toArray, List.set_cons_zero, List.set_cons_succ, i64_w, i32_w]
                                        rfl
                                      exact norm_ (by first | (simp only [putAll, Act.put, List.setIfInBounds_toArray, List.set_cons_zero, List.set_cons_succ]; done) | (simp only [putAll, Act.put, List.setIfInBounds_toArray, List.set_cons_zero, List.set_cons_succ]; rfl)) (hJ6_11 (v246, v249, v252, v255, gb258) _ ⟨hHeld, (by (with_reducible repeat (first | apply Kd.R_alloc | apply Kd.R_drewN | apply Kd.R_drew)); exact Kd.R_mono HO247.out (fun _ hk => ⟨hk.1.1.1, ⟨hk.1.1.2.1, ⟨hk.1.1.2.2, ⟨hk.1.2, hk.2⟩⟩⟩⟩)), (by (with_reducible repeat (first | apply Kd.R_alloc | apply Kd.R_drewN | apply Kd.R_drew)); exact Kd.R_mono HO250.out (fun _ hk => ⟨hk.1.1.1, ⟨hk.1.1.2.1, ⟨hk.1.1.2.2, ⟨hk.1.2, hk.2⟩⟩⟩⟩)), (by (with_reducible repeat (first | apply Kd.R_alloc | apply Kd.R_drewN | apply Kd.R_drew)); exact Kd.R_mono HO253.out (fun _ hk => ⟨hk.1.1.1, ⟨hk.1.1.2.1, ⟨hk.1.1.2.2, ⟨hk.1.2, hk.2⟩⟩⟩⟩)), (by (with_reducible repeat (first | apply Kd.R_alloc | apply Kd.R_drewN | apply Kd.R_drew)); exact Kd.R_mono HO256.out (fun _ hk => ⟨hk.1.1.1, ⟨hk.1.1.2.1, ⟨hk.1.1.2.2, ⟨hk.1.2, hk.2⟩⟩⟩⟩)), (by (with_reducible repeat (first | apply Kd.R_alloc | apply Kd.R_drewN | apply Kd.R_drew)); exact Kd.R_mono HO_244000.out (fun _ hk => ⟨hk.1.1.1.2, ⟨hk.1.1.2, ⟨hk.1.2, ⟨hk.2, hk.1.1.1.1⟩⟩⟩⟩)), (by (with_reducible repeat (first | apply Kd.R_alloc | apply Kd.R_drewN | apply Kd.R_drew)); exact Kd.R_mono HO_244001.out (fun _ hk => ⟨hk.1.1.1.2, ⟨hk.1.1.2, ⟨hk.1.2, ⟨hk.2, hk.1.1.1.1⟩⟩⟩⟩)), (by (with_reducible repeat (first | refine blk_drewN ?_ _ | refine blk_drew ?_ | refine blk_alloc ?_ _)); exact BK243.out), (by (with_reducible repeat (first | refine blk_drewN ?_ _ | refine blk_drew ?_ | refine blk_alloc ?_ _)); exact BK258.out), GW258.out, GE258.out, NB243_258.out, NB258_243.out, (by repeat (first | (with_reducible first | exact HB.out | apply below_alloc | apply pw_below_drewN | apply below_drew1 | refine below_set ?_ GE243.out | refine below_set ?_ GE258.out) | exact HB.out))⟩)
                                    · skip
                                      refine box_step ?hg (N := 13) ?hd (cs := #[.slice none 0 0, .slice none 0 0]) (t := 24) ?hr ?_; (case hd => rfl); (case hg => rfl); (case hr => first | (go_simp; done) | (go_simp; rfl))
                                      intro gb259 hg w29 hbox hb
                                      have n0_ := Aside0.mk (Kd.R_below (by (with_reducible repeat (first | apply Kd.R_alloc | apply Kd.R_drewN | apply Kd.R_drew)); exact HO_244000.out) hb)
                                      have n1_ := Aside0.mk (Kd.R_below (by (with_reducible repeat (first | apply Kd.R_alloc | apply Kd.R_drewN | apply Kd.R_drew)); exact HO_244001.out) hb)
                                      have n2_ := Aside0.mk (blk_below (g := gb243) (o := .cells #[.slice Ao24 x244000_2.length co24, .slice Ao25 x244001_2.length co25] 24 (0, 0)) (by (with_reducible repeat (first | refine blk_drewN ?_ _ | refine blk_drew ?_ | refine blk_alloc ?_ _)); exact BK243.out) hb)
                                      have n3_ := Aside0.mk (blk_below (g := gb258) (o := .cells #[.slice none 0 0, .slice none 0 0] 24 (0, 0)) (by (with_reducible repeat (first | refine blk_drewN ?_ _ | refine blk_drew ?_ | refine blk_alloc ?_ _)); exact BK258.out) hb)
                                      have n4_ := Aside0.mk (below_step (by repeat (first | (with_reducible first | exact HB.out | apply below_alloc | apply pw_below_drewN | apply below_drew1 | refine below_set ?_ GE243.out | refine below_set ?_ GE258.out) | exact HB.out)) hb)
                                      have n5_ := Aside0.mk (hbox)
                                      have n6_ := Aside0.mk ((by rw [hg]; exact (below_size (by repeat (first | (with_reducible first | exact HB.out | apply below_alloc | apply pw_below_drewN | apply below_drew1 | refine below_set ?_ GE243.out | refine below_set ?_ GE258.out) | exact HB.out))) : w.heap.size ≤ gb259))
                                      have n7_ := Aside0.mk ((by rw [hg]; exact (below_size (by repeat (first | (with_reducible first | exact HB.out | apply below_alloc | apply pw_below_drewN | apply below_drew1 | refine below_set ?_ GE243.out | refine below_set ?_ GE258.out) | exact HB.out))) : w.heap.size ≤ gb259))
                                      have n8_ := Aside0.mk ((by rw [hg]; exact Nat.ne_of_lt (blk_lt (g := gb243) (o := .cells #[.slice Ao24 x244000_2.length co24, .slice Ao25 x244001_2.length co25] 24 (0, 0)) (by (with_reducible repeat (first | refine blk_drewN ?_ _ | refine blk_drew ?_ | refine blk_alloc ?_ _)); exact BK243.out)) : gb243 ≠ gb259))
                                      have n9_ := Aside0.mk ((by rw [hg]; exact Nat.ne_of_gt (blk_lt (g := gb243) (o := .cells #[.slice Ao24 x244000_2.length co24, .slice Ao25 x244001_2.length co25] 24 (0, 0)) (by (with_reducible repeat (first | refine blk_drewN ?_ _ | refine blk_drew ?_ | refine blk_alloc ?_ _)); exact BK243.out)) : gb259 ≠ gb243))
                                      have n10_ := Aside0.mk ((by rw [hg]; exact Nat.ne_of_lt (blk_lt (g := gb258) (o := .cells #[.slice none 0 0, .slice none 0 0] 24 (0, 0)) (by (with_reducible repeat (first | refine blk_drewN ?_ _ | refine blk_drew ?_ | refine blk_alloc ?_ _)); exact BK258.out)) : gb258 ≠ gb259))
                                      have n11_ := Aside0.mk ((by rw [hg]; exact Nat.ne_of_gt (blk_lt (g := gb258) (o := .cells #[.slice none 0 0, .slice none 0 0] 24 (0, 0)) (by (with_reducible repeat (first | refine blk_drewN ?_ _ | refine blk_drew ?_ | refine blk_alloc ?_ _)); exact BK258.out)) : gb259 ≠ gb258))
                                      clear HO_244000
                                      clear HO_244001
                                      clear BK243
                                      clear BK258
                                      clear HB
                                      have HO_244000 := n0_
                                      have HO_244001 := n1_
                                      have BK243 := n2_
                                      have BK258 := n3_
                                      have HB := n4_
                                      have BK259 := n5_
                                      have GW259 := n6_
                                      have GE259 := n7_
                                      have NB243_259 := n8_
                                      have NB259_243 := n9_
                                      have NB258_259 := n10_
                                      have NB259_258 := n11_
                                      clear n0_ n1_ n2_ n3_ n4_ n5_ n6_ n7_ n8_ n9_ n10_ n11_
                                      clear hb hbox hg
                                      refine hK.out _ _ ⟨(blk_cell BK243.out 0).trans rfl, (blk_cell BK243.out 1).trans rfl, ((HB.out.cell (World.block_lt_of_cell? w _ hw244_0)).trans hw244_0), ((HB.out.cell (World.block_lt_of_cell? w _ hw244_1)).trans hw244_1)⟩ (fun hHeld => ?_)
                                      clear hK K
                                      refine norm_ (a' := ?_) ?_ ?_
                                      rotate_left
                                      · show Act.put _ (some 13) _ = _
                                        simp only [Act.put, List.setIfInBounds_toArray, List.set_cons_zero, List.set_cons_succ, i64_w, i32_w]
                                        rfl
                                      exact norm_ (by first | (simp only [putAll, Act.put, List.setIfInBounds_toArray, List.set_cons_zero, List.set_cons_succ]; done) | (simp only [putAll, Act.put, List.setIfInBounds_toArray, List.set_cons_zero, List.set_cons_succ]; rfl)) (hJ11_12 (gb258, gb259) _ ⟨hHeld, (by (with_reducible repeat (first | apply Kd.R_alloc | apply Kd.R_drewN | apply Kd.R_drew)); exact HO_244000.out), (by (with_reducible repeat (first | apply Kd.R_alloc | apply Kd.R_drewN | apply Kd.R_drew)); exact HO_244001.out), (by (with_reducible repeat (first | refine blk_drewN ?_ _ | refine blk_drew ?_ | refine blk_alloc ?_ _)); exact BK243.out), (by (with_reducible repeat (first | refine blk_drewN ?_ _ | refine blk_drew ?_ | refine blk_alloc ?_ _)); exact BK258.out), (by (with_reducible repeat (first | refine blk_drewN ?_ _ | refine blk_drew ?_ | refine blk_alloc ?_ _)); exact BK259.out), GW258.out, GE258.out, NB243_258.out, NB258_243.out, NB259_258.out, NB258_259.out, GW259.out, GE259.out, NB243_259.out, NB259_243.out, (by repeat (first | (with_reducible first | exact HB.out | apply below_alloc | apply pw_below_drewN | apply below_drew1 | refine below_set ?_ GE243.out | refine below_set ?_ GE258.out | refine below_set ?_ GE259.out) | exact HB.out))⟩)
                                · skip
                                  rintro ⟨v246, v249, v252, v255⟩ w28 ⟨hS_, h0_, h1_, h2_, h3_, h4_, h5_, h6_, h7_⟩
                                  have n0_ : Aside0 (Kd.R (Kd.int .i64) 3 w28 w.heap.size (fun k_ => some k_ ≠ (v249 : Value).ownBlock ∧ some k_ ≠ (v252 : Value).ownBlock ∧ some k_ ≠ (v255 : Value).ownBlock ∧ some k_ ≠ (.slice Ao24 x244000_2.length co24 : Value).ownBlock ∧ some k_ ≠ (.slice Ao25 x244001_2.length co25 : Value).ownBlock) v246 t245) := ⟨h0_⟩
                                  have n1_ : Aside0 (Kd.R (Kd.int .i64) 3 w28 w.heap.size (fun k_ => some k_ ≠ (v246 : Value).ownBlock ∧ some k_ ≠ (v252 : Value).ownBlock ∧ some k_ ≠ (v255 : Value).ownBlock ∧ some k_ ≠ (.slice Ao24 x244000_2.length co24 : Value).ownBlock ∧ some k_ ≠ (.slice Ao25 x244001_2.length co25 : Value).ownBlock) v249 t248) := ⟨h1_⟩
                                  have n2_ : Aside0 (Kd.R (Kd.int .i64) 3 w28 w.heap.size (fun k_ => some k_ ≠ (v246 : Value).ownBlock ∧ some k_ ≠ (v249 : Value).ownBlock ∧ some k_ ≠ (v255 : Value).ownBlock ∧ some k_ ≠ (.slice Ao24 x244000_2.length co24 : Value).ownBlock ∧ some k_ ≠ (.slice Ao25 x244001_2.length co25 : Value).ownBlock) v252 t251) := ⟨h2_⟩
                                  have n3_ : Aside0 (Kd.R (Kd.int .i64) 3 w28 w.heap.size (fun k_ => some k_ ≠ (v246 : Value).ownBlock ∧ some k_ ≠ (v249 : Value).ownBlock ∧ some k_ ≠ (v252 : Value).ownBlock ∧ some k_ ≠ (.slice Ao24 x244000_2.length co24 : Value).ownBlock ∧ some k_ ≠ (.slice Ao25 x244001_2.length co25 : Value).ownBlock) v255 t254) := ⟨h3_⟩
                                  have n4_ : Aside0 (Kd.R (Kd.int .i64) 3 w28 w.heap.size (fun k_ => some k_ ≠ (v246 : Value).ownBlock ∧ some k_ ≠ (v249 : Value).ownBlock ∧ some k_ ≠ (v252 : Value).ownBlock ∧ some k_ ≠ (v255 : Value).ownBlock ∧ some k_ ≠ (.slice Ao25 x244001_2.length co25 : Value).ownBlock) (.slice Ao24 x244000_2.length co24) x244000_2) := ⟨h4_⟩
                                  have n5_ : Aside0 (Kd.R (Kd.int .i64) 3 w28 w.heap.size (fun k_ => some k_ ≠ (v246 : Value).ownBlock ∧ some k_ ≠ (v249 : Value).ownBlock ∧ some k_ ≠ (v252 : Value).ownBlock ∧ some k_ ≠ (v255 : Value).ownBlock ∧ some k_ ≠ (.slice Ao24 x244000_2.length co24 : Value).ownBlock) (.slice Ao25 x244001_2.length co25) x244001_2) := ⟨h5_⟩
                                  have n6_ : Aside0 (w28.heap[gb243]? = some (.cells #[.slice Ao24 x244000_2.length co24, .slice Ao25 x244001_2.length co25] 24 (0, 0))) := ⟨h6_⟩
                                  have n7_ : Aside0 (Below w.heap.size w w28) := ⟨h7_⟩
                                  clear HO_244000
                                  clear HO_244001
                                  clear BK243
                                  clear HB
                                  clear h0_ h1_ h2_ h3_ h4_ h5_ h6_ h7_
                                  have HO247 := n0_
                                  have HO250 := n1_
                                  have HO253 := n2_
                                  have HO256 := n3_
                                  have HO_244000 := n4_
                                  have HO_244001 := n5_
                                  have BK243 := n6_
                                  have HB := n7_
                                  clear n0_ n1_ n2_ n3_ n4_ n5_ n6_ n7_
                                  have hHeld : w28.cell? ⟨gb243, 0, none⟩ = some (.slice Ao24 x244000_2.length co24) ∧ w28.cell? ⟨gb243, 1, none⟩ = some (.slice Ao25 x244001_2.length co25) ∧ w28.cell? (ad244.add ((x11_2).toNat * 2)) = some (.int .i64 ((rd_T52 l1 x11_2).f0)) ∧ w28.cell? ⟨(ad244.add ((x11_2).toNat * 2)).block, (ad244.add ((x11_2).toNat * 2)).off + 1, none⟩ = some (.bool ((rd_T52 l1 x11_2).f1)) := hS_
                                  refine norm_ (a' := ?_) ?_ ?_
                                  rotate_left
                                  · simp only [putAll, Act.put, List.setIfInBounds_toArray, List.set_cons_zero, List.set_cons_succ]
                                    rfl
                                  refine two_ (i := 11) (j := 12) (Ni := some 12) (Nj := some 13) #[true, true, true, true, true, true, true, true, true, true, true, true, false, false, false, false] #[true, true, true, true, true, true, true, true, true, true, true, false, true, false, false, false] rfl rfl rfl rfl (two_of HT_.out (by kernel_rfl)) (by decide) (by decide) (fun K hK => ?_) (fun K hK => ?_)
                                  · skip
                                    refine box_step ?hg (N := 12) ?hd (cs := #[.slice none 0 0, .slice none 0 0]) (t := 24) ?hr ?_; (case hd => rfl); (case hg => rfl); (case hr => first | (go_simp; done) | (go_simp; rfl))
                                    intro gb258 hg w29 hbox hb
                                    have n0_ := Aside0.mk (Kd.R_below (by (with_reducible repeat (first | apply Kd.R_alloc | apply Kd.R_drewN | apply Kd.R_drew)); exact HO_244000.out) hb)
                                    have n1_ := Aside0.mk (Kd.R_below (by (with_reducible repeat (first | apply Kd.R_alloc | apply Kd.R_drewN | apply Kd.R_drew)); exact HO_244001.out) hb)
                                    have n2_ := Aside0.mk (Kd.R_below (by (with_reducible repeat (first | apply Kd.R_alloc | apply Kd.R_drewN | apply Kd.R_drew)); exact HO247.out) hb)
                                    have n3_ := Aside0.mk (Kd.R_below (by (with_reducible repeat (first | apply Kd.R_alloc | apply Kd.R_drewN | apply Kd.R_drew)); exact HO250.out) hb)
                                    have n4_ := Aside0.mk (Kd.R_below (by (with_reducible repeat (first | apply Kd.R_alloc | apply Kd.R_drewN | apply Kd.R_drew)); exact HO253.out) hb)
                                    have n5_ := Aside0.mk (Kd.R_below (by (with_reducible repeat (first | apply Kd.R_alloc | apply Kd.R_drewN | apply Kd.R_drew)); exact HO256.out) hb)
                                    have n6_ := Aside0.mk (blk_below (g := gb243) (o := .cells #[.slice Ao24 x244000_2.length co24, .slice Ao25 x244001_2.length co25] 24 (0, 0)) (by (with_reducible repeat (first | refine blk_drewN ?_ _ | refine blk_drew ?_ | refine blk_alloc ?_ _)); exact BK243.out) hb)
                                    have n7_ := Aside0.mk (below_step (by repeat (first | (with_reducible first | exact HB.out | apply below_alloc | apply pw_below_drewN | apply below_drew1 | refine below_set ?_ GE243.out) | exact HB.out)) hb)
                                    have n8_ := Aside0.mk (hbox)
                                    have n9_ := Aside0.mk ((by rw [hg]; exact (below_size (by repeat (first | (with_reducible first | exact HB.out | apply below_alloc | apply pw_below_drewN | apply below_drew1 | refine below_set ?_ GE243.out) | exact HB.out))) : w.heap.size ≤ gb258))
                                    have n10_ := Aside0.mk ((by rw [hg]; exact (below_size (by repeat (first | (with_reducible first | exact HB.out | apply below_alloc | apply pw_below_drewN | apply below_drew1 | refine below_set ?_ GE243.out) | exact HB.out))) : w.heap.size ≤ gb258))
                                    have n11_ := Aside0.mk ((by rw [hg]; exact Nat.ne_of_lt (blk_lt (g := gb243) (o := .cells #[.slice Ao24 x244000_2.length co24, .slice Ao25 x244001_2.length co25] 24 (0, 0)) (by (with_reducible repeat (first | refine blk_drewN ?_ _ | refine blk_drew ?_ | refine blk_alloc ?_ _)); exact BK243.out)) : gb243 ≠ gb258))
                                    have n12_ := Aside0.mk ((by rw [hg]; exact Nat.ne_of_gt (blk_lt (g := gb243) (o := .cells #[.slice Ao24 x244000_2.length co24, .slice Ao25 x244001_2.length co25] 24 (0, 0)) (by (with_reducible repeat (first | refine blk_drewN ?_ _ | refine blk_drew ?_ | refine blk_alloc ?_ _)); exact BK243.out)) : gb258 ≠ gb243))
                                    clear HO_244000
                                    clear HO_244001
                                    clear HO247
                                    clear HO250
                                    clear HO253
                                    clear HO256
                                    clear BK243
                                    clear HB
                                    have HO_244000 := n0_
                                    have HO_244001 := n1_
                                    have HO247 := n2_
                                    have HO250 := n3_
                                    have HO253 := n4_
                                    have HO256 := n5_
                                    have BK243 := n6_
                                    have HB := n7_
                                    have BK258 := n8_
                                    have GW258 := n9_
                                    have GE258 := n10_
                                    have NB243_258 := n11_
                                    have NB258_243 := n12_
                                    clear n0_ n1_ n2_ n3_ n4_ n5_ n6_ n7_ n8_ n9_ n10_ n11_ n12_
                                    clear hb hbox hg
                                    refine hK.out _ _ ⟨(blk_cell BK243.out 0).trans rfl, (blk_cell BK243.out 1).trans rfl, ((HB.out.cell (World.block_lt_of_cell? w _ hw244_0)).trans hw244_0), ((HB.out.cell (World.block_lt_of_cell? w _ hw244_1)).trans hw244_1)⟩ (fun hHeld => ?_)
                                    clear hK K
                                    refine norm_ (a' := ?_) ?_ ?_
                                    rotate_left
                                    · show Act.put _ (some 12) _ = _
                                      simp only [Act.put, List.setIfInBounds_toArray, List.set_cons_zero, List.set_cons_succ, i64_w, i32_w]
                                      rfl
                                    exact norm_ (by first | (simp only [putAll, Act.put, List.setIfInBounds_toArray, List.set_cons_zero, List.set_cons_succ]; done) | (simp only [putAll, Act.put, List.setIfInBounds_toArray, List.set_cons_zero, List.set_cons_succ]; rfl)) (hJ6_11 (v246, v249, v252, v255, gb258) _ ⟨hHeld, (by (with_reducible repeat (first | apply Kd.R_alloc | apply Kd.R_drewN | apply Kd.R_drew)); exact HO247.out), (by (with_reducible repeat (first | apply Kd.R_alloc | apply Kd.R_drewN | apply Kd.R_drew)); exact HO250.out), (by (with_reducible repeat (first | apply Kd.R_alloc | apply Kd.R_drewN | apply Kd.R_drew)); exact HO253.out), (by (with_reducible repeat (first | apply Kd.R_alloc | apply Kd.R_drewN | apply Kd.R_drew)); exact HO256.out), (by (with_reducible repeat (first | apply Kd.R_alloc | apply Kd.R_drewN | apply Kd.R_drew)); exact HO_244000.out), (by (with_reducible repeat (first | apply Kd.R_alloc | apply Kd.R_drewN | apply Kd.R_drew)); exact HO_244001.out), (by (with_reducible repeat (first | refine blk_drewN ?_ _ | refine blk_drew ?_ | refine blk_alloc ?_ _)); exact BK243.out), (by (with_reducible repeat (first | refine blk_drewN ?_ _ | refine blk_drew ?_ | refine blk_alloc ?_ _)); exact BK258.out), GW258.out, GE258.out, NB243_258.out, NB258_243.out, (by repeat (first | (with_reducible first | exact HB.out | apply below_alloc | apply pw_below_drewN | apply below_drew1 | refine below_set ?_ GE243.out | refine below_set ?_ GE258.out) | exact HB.out))⟩)
                                  · skip
                                    refine box_step ?hg (N := 13) ?hd (cs := #[.slice none 0 0, .slice none 0 0]) (t := 24) ?hr ?_; (case hd => rfl); (case hg => rfl); (case hr => first | (go_simp; done) | (go_simp; rfl))
                                    intro gb259 hg w29 hbox hb
                                    have n0_ := Aside0.mk (Kd.R_below (by (with_reducible repeat (first | apply Kd.R_alloc | apply Kd.R_drewN | apply Kd.R_drew)); exact HO_244000.out) hb)
                                    have n1_ := Aside0.mk (Kd.R_below (by (with_reducible repeat (first | apply Kd.R_alloc | apply Kd.R_drewN | apply Kd.R_drew)); exact HO_244001.out) hb)
                                    have n2_ := Aside0.mk (Kd.R_below (by (with_reducible repeat (first | apply Kd.R_alloc | apply Kd.R_drewN | apply Kd.R_drew)); exact HO247.out) hb)
                                    have n3_ := Aside0.mk (Kd.R_below (by (with_reducible repeat (first | apply Kd.R_alloc | apply Kd.R_drewN | apply Kd.R_drew)); exact HO250.out) hb)
                                    have n4_ := Aside0.mk (Kd.R_below (by (with_reducible repeat (first | apply Kd.R_alloc | apply Kd.R_drewN | apply Kd.R_drew)); exact HO253.out) hb)
                                    have n5_ := Aside0.mk (Kd.R_below (by (with_reducible repeat (first | apply Kd.R_alloc | apply Kd.R_drewN | apply Kd.R_drew)); exact HO256.out) hb)
                                    have n6_ := Aside0.mk (blk_below (g := gb243) (o := .cells #[.slice Ao24 x244000_2.length co24, .slice Ao25 x244001_2.length co25] 24 (0, 0)) (by (with_reducible repeat (first | refine blk_drewN ?_ _ | refine blk_drew ?_ | refine blk_alloc ?_ _)); exact BK243.out) hb)
                                    have n7_ := Aside0.mk (below_step (by repeat (first | (with_reducible first | exact HB.out | apply below_alloc | apply pw_below_drewN | apply below_drew1 | refine below_set ?_ GE243.out) | exact HB.out)) hb)
                                    have n8_ := Aside0.mk (hbox)
                                    have n9_ := Aside0.mk ((by rw [hg]; exact (below_size (by repeat (first | (with_reducible first | exact HB.out | apply below_alloc | apply pw_below_drewN | apply below_drew1 | refine below_set ?_ GE243.out) | exact HB.out))) : w.heap.size ≤ gb259))
                                    have n10_ := Aside0.mk ((by rw [hg]; exact (below_size (by repeat (first | (with_reducible first | exact HB.out | apply below_alloc | apply pw_below_drewN | apply below_drew1 | refine below_set ?_ GE243.out) | exact HB.out))) : w.heap.size ≤ gb259))
                                    have n11_ := Aside0.mk ((by rw [hg]; exact Nat.ne_of_lt (blk_lt (g := gb243) (o := .cells #[.slice Ao24 x244000_2.length co24, .slice Ao25 x244001_2.length co25] 24 (0, 0)) (by (with_reducible repeat (first | refine blk_drewN ?_ _ | refine blk_drew ?_ | refine blk_alloc ?_ _)); exact BK243.out)) : gb243 ≠ gb259))
                                    have n12_ := Aside0.mk ((by rw [hg]; exact Nat.ne_of_gt (blk_lt (g := gb243) (o := .cells #[.slice Ao24 x244000_2.length co24, .slice Ao25 x244001_2.length co25] 24 (0, 0)) (by (with_reducible repeat (first | refine blk_drewN ?_ _ | refine blk_drew ?_ | refine blk_alloc ?_ _)); exact BK243.out)) : gb259 ≠ gb243))
                                    clear HO_244000
                                    clear HO_244001
                                    clear HO247
                                    clear HO250
                                    clear HO253
                                    clear HO256
                                    clear BK243
                                    clear HB
                                    have HO_244000 := n0_
                                    have HO_244001 := n1_
                                    have HO247 := n2_
                                    have HO250 := n3_
                                    have HO253 := n4_
                                    have HO256 := n5_
                                    have BK243 := n6_
                                    have HB := n7_
                                    have BK259 := n8_
                                    have GW259 := n9_
                                    have GE259 := n10_
                                    have NB243_259 := n11_
                                    have NB259_243 := n12_
                                    clear n0_ n1_ n2_ n3_ n4_ n5_ n6_ n7_ n8_ n9_ n10_ n11_ n12_
                                    clear hb hbox hg
                                    refine hK.out _ _ ⟨(blk_cell BK243.out 0).trans rfl, (blk_cell BK243.out 1).trans rfl, ((HB.out.cell (World.block_lt_of_cell? w _ hw244_0)).trans hw244_0), ((HB.out.cell (World.block_lt_of_cell? w _ hw244_1)).trans hw244_1)⟩ (fun hHeld => ?_)
                                    clear hK K
                                    refine norm_ (a' := ?_) ?_ ?_
                                    rotate_left
                                    · show Act.put _ (some 13) _ = _
                                      simp only [Act.put, List.setIfInBounds_toArray, List.set_cons_zero, List.set_cons_succ, i64_w, i32_w]
                                      rfl
                                    exact norm_ (by first | (simp only [putAll, Act.put, List.setIfInBounds_toArray, List.set_cons_zero, List.set_cons_succ]; done) | (simp only [putAll, Act.put, List.setIfInBounds_toArray, List.set_cons_zero, List.set_cons_succ]; rfl)) (hJ6_12 (v246, v249, v252, v255, gb259) _ ⟨hHeld, (by (with_reducible repeat (first | apply Kd.R_alloc | apply Kd.R_drewN | apply Kd.R_drew)); exact HO247.out), (by (with_reducible repeat (first | apply Kd.R_alloc | apply Kd.R_drewN | apply Kd.R_drew)); exact HO250.out), (by (with_reducible repeat (first | apply Kd.R_alloc | apply Kd.R_drewN | apply Kd.R_drew)); exact HO253.out), (by (with_reducible repeat (first | apply Kd.R_alloc | apply Kd.R_drewN | apply Kd.R_drew)); exact HO256.out), (by (with_reducible repeat (first | apply Kd.R_alloc | apply Kd.R_drewN | apply Kd.R_drew)); exact HO_244000.out), (by (with_reducible repeat (first | apply Kd.R_alloc | apply Kd.R_drewN | apply Kd.R_drew)); exact HO_244001.out), (by (with_reducible repeat (first | refine blk_drewN ?_ _ | refine blk_drew ?_ | refine blk_alloc ?_ _)); exact BK243.out), (by (with_reducible repeat (first | refine blk_drewN ?_ _ | refine blk_drew ?_ | refine blk_alloc ?_ _)); exact BK259.out), GW259.out, GE259.out, NB243_259.out, NB259_243.out, (by repeat (first | (with_reducible first | exact HB.out | apply below_alloc | apply pw_below_drewN | apply below_drew1 | refine below_set ?_ GE243.out | refine below_set ?_ GE259.out) | exact HB.out))⟩)
                              · skip
                                rintro ⟨gb258, gb259⟩ w29 ⟨hS_, h0_, h1_, h2_, h3_, h4_, h5_, h6_, h7_, h8_, h9_, h10_, h11_, h12_, h13_, h14_, h15_⟩
                                have n0_ : Aside0 (Kd.R (Kd.int .i64) 3 w29 w.heap.size (fun k_ => some k_ ≠ (.slice Ao25 x244001_2.length co25 : Value).ownBlock) (.slice Ao24 x244000_2.length co24) x244000_2) := ⟨h0_⟩
                                have n1_ : Aside0 (Kd.R (Kd.int .i64) 3 w29 w.heap.size (fun k_ => some k_ ≠ (.slice Ao24 x244000_2.length co24 : Value).ownBlock) (.slice Ao25 x244001_2.length co25) x244001_2) := ⟨h1_⟩
                                have n2_ : Aside0 (w29.heap[gb243]? = some (.cells #[.slice Ao24 x244000_2.length co24, .slice Ao25 x244001_2.length co25] 24 (0, 0))) := ⟨h2_⟩
                                have n3_ : Aside0 (w29.heap[gb258]? = some (.cells #[.slice none 0 0, .slice none 0 0] 24 (0, 0))) := ⟨h3_⟩
                                have n4_ : Aside0 (w29.heap[gb259]? = some (.cells #[.slice none 0 0, .slice none 0 0] 24 (0, 0))) := ⟨h4_⟩
                                have n5_ : Aside0 (w.heap.size ≤ gb258) := ⟨h5_⟩
                                have n6_ : Aside0 (w.heap.size ≤ gb258) := ⟨h6_⟩
                                have n7_ : Aside0 (gb243 ≠ gb258) := ⟨h7_⟩
                                have n8_ : Aside0 (gb258 ≠ gb243) := ⟨h8_⟩
                                have n9_ : Aside0 (gb259 ≠ gb258) := ⟨h9_⟩
                                have n10_ : Aside0 (gb258 ≠ gb259) := ⟨h10_⟩
                                have n11_ : Aside0 (w.heap.size ≤ gb259) := ⟨h11_⟩
                                have n12_ : Aside0 (w.heap.size ≤ gb259) := ⟨h12_⟩
                                have n13_ : Aside0 (gb243 ≠ gb259) := ⟨h13_⟩
                                have n14_ : Aside0 (gb259 ≠ gb243) := ⟨h14_⟩
                                have n15_ : Aside0 (Below w.heap.size w w29) := ⟨h15_⟩
                                clear HO_244000
                                clear HO_244001
                                clear BK243
                                clear HB
                                clear h0_ h1_ h2_ h3_ h4_ h5_ h6_ h7_ h8_ h9_ h10_ h11_ h12_ h13_ h14_ h15_
                                have HO_244000 := n0_
                                have HO_244001 := n1_
                                have BK243 := n2_
                                have BK258 := n3_
                                have BK259 := n4_
                                have GW258 := n5_
                                have GE258 := n6_
                                have NB243_258 := n7_
                                have NB258_243 := n8_
                                have NB259_258 := n9_
                                have NB258_259 := n10_
                                have GW259 := n11_
                                have GE259 := n12_
                                have NB243_259 := n13_
                                have NB259_243 := n14_
                                have HB := n15_
                                clear n0_ n1_ n2_ n3_ n4_ n5_ n6_ n7_ n8_ n9_ n10_ n11_ n12_ n13_ n14_ n15_
                                have hHeld : w29.cell? ⟨gb243, 0, none⟩ = some (.slice Ao24 x244000_2.length co24) ∧ w29.cell? ⟨gb243, 1, none⟩ = some (.slice Ao25 x244001_2.length co25) ∧ w29.cell? (ad244.add ((x11_2).toNat * 2)) = some (.int .i64 ((rd_T52 l1 x11_2).f0)) ∧ w29.cell? ⟨(ad244.add ((x11_2).toNat * 2)).block, (ad244.add ((x11_2).toNat * 2)).off + 1, none⟩ = some (.bool ((rd_T52 l1 x11_2).f1)) := hS_
                                refine norm_ (a' := ?_) ?_ ?_
                                rotate_left
                                · simp only [putAll, Act.put, List.setIfInBounds_toArray, List.set_cons_zero, List.set_cons_succ]
                                  rfl
                                refine one_ (i := 6) (N := some 51) #[true, true, true, true, true, true, true, false, false, false, false, true, true, false, false, false] rfl rfl (one_of HT_.out (by kernel_rfl)) (by decide) (fun K hK => ?_)
                                refine goes_ Try.func15 (by kernel_rfl) rfl #[.agg #[.slice Ao24 x244000_2.length co24, .slice Ao25 x244001_2.length co25], .int .i64 ((rd_T52 l1 x11_2).f0)] (by rfl) rfl rfl (by (try simp only [List.map_toArray, List.map_cons, List.map_nil]); first | done | rfl | (simp only [List.length_drop, List.length_take]; rfl)) ?_
                                with_reducible refine (split_Halve.calls kj16 _ _ x244000_2 _ _ x244001_2 ((rd_T52 l1 x11_2).f0) t245 t248 t251 t254 t257 _ ?side1 ?side2 ?side3 ?side4 A22.out).mono ?_
                                (case side1 => repeat (first | exact (Kd.R_reads' HO_244000.out).2.2 | (with_reducible refine Kd.C_alloc ?_ _) | (with_reducible refine Kd.C_drewN ?_ _) | (with_reducible refine Kd.C_drew ?_)))
                                (case side2 => exact (Kd.R_reads' HO_244000.out).2.1)
                                (case side3 => repeat (first | exact (Kd.R_reads' HO_244001.out).2.2 | (with_reducible refine Kd.C_alloc ?_ _) | (with_reducible refine Kd.C_drewN ?_ _) | (with_reducible refine Kd.C_drew ?_)))
                                (case side4 => exact (Kd.R_reads' HO_244001.out).2.1)
                                rintro e w30 ⟨v246, v249, v252, v255, rfl, ho0, ho1, ho2, ho3, hb⟩
                                refine ⟨_, rfl, ?_⟩
                                have n0_ := Aside0.mk (Kd.R_mono (Kd.R_told (Kd.R_told (Kd.R_told (Kd.R_told (Kd.R_old (by (with_reducible repeat (first | apply Kd.R_alloc | apply Kd.R_drewN | apply Kd.R_drew)); exact HO_244000.out) hb) (Kd.R_base ho0)) (Kd.R_base ho1)) (Kd.R_base ho2)) (Kd.R_base ho3)) (fun _ h_ => h_.1))
                                have n1_ := Aside0.mk (Kd.R_mono (Kd.R_told (Kd.R_told (Kd.R_told (Kd.R_told (Kd.R_old (by (with_reducible repeat (first | apply Kd.R_alloc | apply Kd.R_drewN | apply Kd.R_drew)); exact HO_244001.out) hb) (Kd.R_base ho0)) (Kd.R_base ho1)) (Kd.R_base ho2)) (Kd.R_base ho3)) (fun _ h_ => h_.1))
                                have n2_ := Aside0.mk (Kd.R_lower (Kd.R_new' (Kd.R_new' ho0 (Kd.R_lt (by (with_reducible repeat (first | apply Kd.R_alloc | apply Kd.R_drewN | apply Kd.R_drew)); exact HO_244000.out))) (Kd.R_lt (by (with_reducible repeat (first | apply Kd.R_alloc | apply Kd.R_drewN | apply Kd.R_drew)); exact HO_244001.out))) (below_size (by repeat (first | (with_reducible first | exact HB.out | apply below_alloc | apply pw_below_drewN | apply below_drew1 | refine below_set ?_ GE243.out | refine below_set ?_ GE258.out | refine below_set ?_ GE259.out) | exact HB.out))))
                                have n3_ := Aside0.mk (Kd.R_lower (Kd.R_new' (Kd.R_new' ho1 (Kd.R_lt (by (with_reducible repeat (first | apply Kd.R_alloc | apply Kd.R_drewN | apply Kd.R_drew)); exact HO_244000.out))) (Kd.R_lt (by (with_reducible repeat (first | apply Kd.R_alloc | apply Kd.R_drewN | apply Kd.R_drew)); exact HO_244001.out))) (below_size (by repeat (first | (with_reducible first | exact HB.out | apply below_alloc | apply pw_below_drewN | apply below_drew1 | refine below_set ?_ GE243.out | refine below_set ?_ GE258.out | refine below_set ?_ GE259.out) | exact HB.out))))
                                have n4_ := Aside0.mk (Kd.R_lower (Kd.R_new' (Kd.R_new' ho2 (Kd.R_lt (by (with_reducible repeat (first | apply Kd.R_alloc | apply Kd.R_drewN | apply Kd.R_drew)); exact HO_244000.out))) (Kd.R_lt (by (with_reducible repeat (first | apply Kd.R_alloc | apply Kd.R_drewN | apply Kd.R_drew)); exact HO_244001.out))) (below_size (by repeat (first | (with_reducible first | exact HB.out | apply below_alloc | apply pw_below_drewN | apply below_drew1 | refine below_set ?_ GE243.out | refine below_set ?_ GE258.out | refine below_set ?_ GE259.out) | exact HB.out))))
                                have n5_ := Aside0.mk (Kd.R_lower (Kd.R_new' (Kd.R_new' ho3 (Kd.R_lt (by (with_reducible repeat (first | apply Kd.R_alloc | apply Kd.R_drewN | apply Kd.R_drew)); exact HO_244000.out))) (Kd.R_lt (by (with_reducible repeat (first | apply Kd.R_alloc | apply Kd.R_drewN | apply Kd.R_drew)); exact HO_244001.out))) (below_size (by repeat (first | (with_reducible first | exact HB.out | apply below_alloc | apply pw_below_drewN | apply below_drew1 | refine below_set ?_ GE243.out | refine below_set ?_ GE258.out | refine below_set ?_ GE259.out) | exact HB.out))))
                                have n6_ := Aside0.mk (blk_below (g := gb243) (o := .cells #[.slice Ao24 x244000_2.length co24, .slice Ao25 x244001_2.length co25] 24 (0, 0)) (by (with_reducible repeat (first | refine blk_drewN ?_ _ | refine blk_drew ?_ | refine blk_alloc ?_ _)); exact BK243.out) hb)
                                have n7_ := Aside0.mk (blk_below (g := gb258) (o := .cells #[.slice none 0 0, .slice none 0 0] 24 (0, 0)) (by (with_reducible repeat (first | refine blk_drewN ?_ _ | refine blk_drew ?_ | refine blk_alloc ?_ _)); exact BK258.out) hb)
                                have n8_ := Aside0.mk (blk_below (g := gb259) (o := .cells #[.slice none 0 0, .slice none 0 0] 24 (0, 0)) (by (with_reducible repeat (first | refine blk_drewN ?_ _ | refine blk_drew ?_ | refine blk_alloc ?_ _)); exact BK259.out) hb)
                                have n9_ := Aside0.mk (below_step (by repeat (first | (with_reducible first | exact HB.out | apply below_alloc | apply pw_below_drewN | apply below_drew1 | refine below_set ?_ GE243.out | refine below_set ?_ GE258.out | refine below_set ?_ GE259.out) | exact HB.out)) hb)
                                clear HO_244000
                                clear HO_244001
                                clear BK243
                                clear BK258
                                clear BK259
                                clear HB
                                have HO_244000 := n0_
                                have HO_244001 := n1_
                                have HO247 := n2_
                                have HO250 := n3_
                                have HO253 := n4_
                                have HO256 := n5_
                                have BK243 := n6_
                                have BK258 := n7_
                                have BK259 := n8_
                                have HB := n9_
                                clear n0_ n1_ n2_ n3_ n4_ n5_ n6_ n7_ n8_ n9_
                                (try clear hb)
                                (try clear hb2)
                                (try clear hk)
                                (try clear hi)
                                (try clear ho0)
                                (try clear ho1)
                                (try clear ho2)
                                (try clear ho3)
                                refine hK.out _ _ ⟨(blk_cell BK243.out 0).trans rfl, (blk_cell BK243.out 1).trans rfl, ((HB.out.cell (World.block_lt_of_cell? w _ hw244_0)).trans hw244_0), ((HB.out.cell (World.block_lt_of_cell? w _ hw244_1)).trans hw244_1)⟩ (fun hHeld => ?_)
                                clear hK K
                                refine norm_ (a' := ?_) ?_ ?_
                                rotate_left
                                · show Act.put _ (some 51) _ = _
                                  simp only [Act.put, List.setIfInBounds_toArray, List.set_cons_zero, List.set_cons_succ, i64_w, i32_w]
                                  rfl
                                refine pure_ (i := 7) (N := some 44) (v := ?_) (a' := ?_) #[true, true, true, true, true, true, true, true, false, false, false, true, true, false, false, false] rfl rfl (any_of HT_.out (by kernel_rfl)) (fun _ _ _ h => h) (Or.inl ⟨by rfl, ?_⟩) ?_ ?_
                                rotate_left
                                · intro w'
                                  go_simp
                                  with_reducible rfl
                                rotate_left
                                · simp only [Act.put, List.setIfInBounds_toArray, List.set_cons_zero, List.set_cons_succ, i64_w, i32_w]
                                  rfl
                                refine pure_ (i := 8) (N := some 52) (v := ?_) (a' := ?_) #[true, true, true, true, true, true, true, true, true, false, false, true, true, false, false, false] rfl rfl (any_of HT_.out (by kernel_rfl)) (fun _ _ _ h => h) (Or.inl ⟨by rfl, ?_⟩) ?_ ?_
                                rotate_left
                                · intro w'
                                  go_simp
                                  with_reducible rfl
                                rotate_left
                                · simp only [Act.put, List.setIfInBounds_toArray, List.set_cons_zero, List.set_cons_succ, i64_w, i32_w]
                                  rfl
                                refine pure_ (i := 9) (N := some 53) (v := ?_) (a' := ?_) #[true, true, true, true, true, true, true, true, true, true, false, true, true, false, false, false] rfl rfl (any_of HT_.out (by kernel_rfl)) (fun _ _ _ h => h) (Or.inl ⟨by rfl, ?_⟩) ?_ ?_
                                rotate_left
                                · intro w'
                                  go_simp
                                  with_reducible rfl
                                rotate_left
                                · simp only [Act.put, List.setIfInBounds_toArray, List.set_cons_zero, List.set_cons_succ, i64_w, i32_w]
                                  rfl
                                refine pure_ (i := 10) (N := some 54) (v := ?_) (a' := ?_) #[true, true, true, true, true, true, true, true, true, true, true, true, true, false, false, false] rfl rfl (any_of HT_.out (by kernel_rfl)) (fun _ _ _ h => h) (Or.inl ⟨by rfl, ?_⟩) ?_ ?_
                                rotate_left
                                · intro w'
                                  go_simp
                                  with_reducible rfl
                                rotate_left
                                · simp only [Act.put, List.setIfInBounds_toArray, List.set_cons_zero, List.set_cons_succ, i64_w, i32_w]
                                  rfl
                                exact norm_ (by first | (simp only [putAll, Act.put, List.setIfInBounds_toArray, List.set_cons_zero, List.set_cons_succ]; done) | (simp only [putAll, Act.put, List.setIfInBounds_toArray, List.set_cons_zero, List.set_cons_succ]; rfl)) (hJ6_11_12 (v246, v249, v252, v255, gb258, gb259) _ ⟨hHeld, (by (with_reducible repeat (first | apply Kd.R_alloc | apply Kd.R_drewN | apply Kd.R_drew)); exact Kd.R_mono HO247.out (fun _ hk => ⟨hk.1.1.1, ⟨hk.1.1.2.1, ⟨hk.1.1.2.2, ⟨hk.1.2, hk.2⟩⟩⟩⟩)), (by (with_reducible repeat (first | apply Kd.R_alloc | apply Kd.R_drewN | apply Kd.R_drew)); exact Kd.R_mono HO250.out (fun _ hk => ⟨hk.1.1.1, ⟨hk.1.1.2.1, ⟨hk.1.1.2.2, ⟨hk.1.2, hk.2⟩⟩⟩⟩)), (by (with_reducible repeat (first | apply Kd.R_alloc | apply Kd.R_drewN | apply Kd.R_drew)); exact Kd.R_mono HO253.out (fun _ hk => ⟨hk.1.1.1, ⟨hk.1.1.2.1, ⟨hk.1.1.2.2, ⟨hk.1.2, hk.2⟩⟩⟩⟩)), (by (with_reducible repeat (first | apply Kd.R_alloc | apply Kd.R_drewN | apply Kd.R_drew)); exact Kd.R_mono HO256.out (fun _ hk => ⟨hk.1.1.1, ⟨hk.1.1.2.1, ⟨hk.1.1.2.2, ⟨hk.1.2, hk.2⟩⟩⟩⟩)), (by (with_reducible repeat (first | apply Kd.R_alloc | apply Kd.R_drewN | apply Kd.R_drew)); exact Kd.R_mono HO_244000.out (fun _ hk => ⟨hk.1.1.1.2, ⟨hk.1.1.2, ⟨hk.1.2, ⟨hk.2, hk.1.1.1.1⟩⟩⟩⟩)), (by (with_reducible repeat (first | apply Kd.R_alloc | apply Kd.R_drewN | apply Kd.R_drew)); exact Kd.R_mono HO_244001.out (fun _ hk => ⟨hk.1.1.1.2, ⟨hk.1.1.2, ⟨hk.1.2, ⟨hk.2, hk.1.1.1.1⟩⟩⟩⟩)), (by (with_reducible repeat (first | refine blk_drewN ?_ _ | refine blk_drew ?_ | refine blk_alloc ?_ _)); exact BK243.out), (by (with_reducible repeat (first | refine blk_drewN ?_ _ | refine blk_drew ?_ | refine blk_alloc ?_ _)); exact BK258.out), (by (with_reducible repeat (first | refine blk_drewN ?_ _ | refine blk_drew ?_ | refine blk_alloc ?_ _)); exact BK259.out), GW258.out, GE258.out, NB243_258.out, NB258_243.out, NB259_258.out, NB258_259.out, GW259.out, GE259.out, NB243_259.out, NB259_243.out, (by repeat (first | (with_reducible first | exact HB.out | apply below_alloc | apply pw_below_drewN | apply below_drew1 | refine below_set ?_ GE243.out | refine below_set ?_ GE258.out | refine below_set ?_ GE259.out) | exact HB.out))⟩)
                            · skip
                              rintro ⟨v246, v249, v252, v255, gb259⟩ w29 ⟨hS_, h0_, h1_, h2_, h3_, h4_, h5_, h6_, h7_, h8_, h9_, h10_, h11_, h12_⟩
                              have n0_ : Aside0 (Kd.R (Kd.int .i64) 3 w29 w.heap.size (fun k_ => some k_ ≠ (v249 : Value).ownBlock ∧ some k_ ≠ (v252 : Value).ownBlock ∧ some k_ ≠ (v255 : Value).ownBlock ∧ some k_ ≠ (.slice Ao24 x244000_2.length co24 : Value).ownBlock ∧ some k_ ≠ (.slice Ao25 x244001_2.length co25 : Value).ownBlock) v246 t245) := ⟨h0_⟩
                              have n1_ : Aside0 (Kd.R (Kd.int .i64) 3 w29 w.heap.size (fun k_ => some k_ ≠ (v246 : Value).ownBlock ∧ some k_ ≠ (v252 : Value).ownBlock ∧ some k_ ≠ (v255 : Value).ownBlock ∧ some k_ ≠ (.slice Ao24 x244000_2.length co24 : Value).ownBlock ∧ some k_ ≠ (.slice Ao25 x244001_2.length co25 : Value).ownBlock) v249 t248) := ⟨h1_⟩
                              have n2_ : Aside0 (Kd.R (Kd.int .i64) 3 w29 w.heap.size (fun k_ => some k_ ≠ (v246 : Value).ownBlock ∧ some k_ ≠ (v249 : Value).ownBlock ∧ some k_ ≠ (v255 : Value).ownBlock ∧ some k_ ≠ (.slice Ao24 x244000_2.length co24 : Value).ownBlock ∧ some k_ ≠ (.slice Ao25 x244001_2.length co25 : Value).ownBlock) v252 t251) := ⟨h2_⟩
                              have n3_ : Aside0 (Kd.R (Kd.int .i64) 3 w29 w.heap.size (fun k_ => some k_ ≠ (v246 : Value).ownBlock ∧ some k_ ≠ (v249 : Value).ownBlock ∧ some k_ ≠ (v252 : Value).ownBlock ∧ some k_ ≠ (.slice Ao24 x244000_2.length co24 : Value).ownBlock ∧ some k_ ≠ (.slice Ao25 x244001_2.length co25 : Value).ownBlock) v255 t254) := ⟨h3_⟩
                              have n4_ : Aside0 (Kd.R (Kd.int .i64) 3 w29 w.heap.size (fun k_ => some k_ ≠ (v246 : Value).ownBlock ∧ some k_ ≠ (v249 : Value).ownBlock ∧ some k_ ≠ (v252 : Value).ownBlock ∧ some k_ ≠ (v255 : Value).ownBlock ∧ some k_ ≠ (.slice Ao25 x244001_2.length co25 : Value).ownBlock) (.slice Ao24 x244000_2.length co24) x244000_2) := ⟨h4_⟩
                              have n5_ : Aside0 (Kd.R (Kd.int .i64) 3 w29 w.heap.size (fun k_ => some k_ ≠ (v246 : Value).ownBlock ∧ some k_ ≠ (v249 : Value).ownBlock ∧ some k_ ≠ (v252 : Value).ownBlock ∧ some k_ ≠ (v255 : Value).ownBlock ∧ some k_ ≠ (.slice Ao24 x244000_2.length co24 : Value).ownBlock) (.slice Ao25 x244001_2.length co25) x244001_2) := ⟨h5_⟩
                              have n6_ : Aside0 (w29.heap[gb243]? = some (.cells #[.slice Ao24 x244000_2.length co24, .slice Ao25 x244001_2.length co25] 24 (0, 0))) := ⟨h6_⟩
                              have n7_ : Aside0 (w29.heap[gb259]? = some (.cells #[.slice none 0 0, .slice none 0 0] 24 (0, 0))) := ⟨h7_⟩
                              have n8_ : Aside0 (w.heap.size ≤ gb259) := ⟨h8_⟩
                              have n9_ : Aside0 (w.heap.size ≤ gb259) := ⟨h9_⟩
                              have n10_ : Aside0 (gb243 ≠ gb259) := ⟨h10_⟩
                              have n11_ : Aside0 (gb259 ≠ gb243) := ⟨h11_⟩
                              have n12_ : Aside0 (Below w.heap.size w w29) := ⟨h12_⟩
                              clear HO_244000
                              clear HO_244001
                              clear BK243
                              clear HB
                              clear h0_ h1_ h2_ h3_ h4_ h5_ h6_ h7_ h8_ h9_ h10_ h11_ h12_
                              have HO247 := n0_
                              have HO250 := n1_
                              have HO253 := n2_
                              have HO256 := n3_
                              have HO_244000 := n4_
                              have HO_244001 := n5_
                              have BK243 := n6_
                              have BK259 := n7_
                              have GW259 := n8_
                              have GE259 := n9_
                              have NB243_259 := n10_
                              have NB259_243 := n11_
                              have HB := n12_
                              clear n0_ n1_ n2_ n3_ n4_ n5_ n6_ n7_ n8_ n9_ n10_ n11_ n12_
                              have hHeld : w29.cell? ⟨gb243, 0, none⟩ = some (.slice Ao24 x244000_2.length co24) ∧ w29.cell? ⟨gb243, 1, none⟩ = some (.slice Ao25 x244001_2.length co25) ∧ w29.cell? (ad244.add ((x11_2).toNat * 2)) = some (.int .i64 ((rd_T52 l1 x11_2).f0)) ∧ w29.cell? ⟨(ad244.add ((x11_2).toNat * 2)).block, (ad244.add ((x11_2).toNat * 2)).off + 1, none⟩ = some (.bool ((rd_T52 l1 x11_2).f1)) := hS_
                              refine norm_ (a' := ?_) ?_ ?_
                              rotate_left
                              · simp only [putAll, Act.put, List.setIfInBounds_toArray, List.set_cons_zero, List.set_cons_succ]
                                rfl
                              refine one_ (i := 11) (N := some 12) #[true, true, true, true, true, true, true, true, true, true, true, true, true, false, false, false] rfl rfl (one_of HT_.out (by kernel_rfl)) (by decide) (fun K hK => ?_)
                              refine box_step ?hg (N := 12) ?hd (cs := #[.slice none 0 0, .slice none 0 0]) (t := 24) ?hr ?_; (case hd => rfl); (case hg => rfl); (case hr => first | (go_simp; done) | (go_simp; rfl))
                              intro gb258 hg w30 hbox hb
                              have n0_ := Aside0.mk (Kd.R_below (by (with_reducible repeat (first | apply Kd.R_alloc | apply Kd.R_drewN | apply Kd.R_drew)); exact HO_244000.out) hb)
                              have n1_ := Aside0.mk (Kd.R_below (by (with_reducible repeat (first | apply Kd.R_alloc | apply Kd.R_drewN | apply Kd.R_drew)); exact HO_244001.out) hb)
                              have n2_ := Aside0.mk (Kd.R_below (by (with_reducible repeat (first | apply Kd.R_alloc | apply Kd.R_drewN | apply Kd.R_drew)); exact HO247.out) hb)
                              have n3_ := Aside0.mk (Kd.R_below (by (with_reducible repeat (first | apply Kd.R_alloc | apply Kd.R_drewN | apply Kd.R_drew)); exact HO250.out) hb)
                              have n4_ := Aside0.mk (Kd.R_below (by (with_reducible repeat (first | apply Kd.R_alloc | apply Kd.R_drewN | apply Kd.R_drew)); exact HO253.out) hb)
                              have n5_ := Aside0.mk (Kd.R_below (by (with_reducible repeat (first | apply Kd.R_alloc | apply Kd.R_drewN | apply Kd.R_drew)); exact HO256.out) hb)
                              have n6_ := Aside0.mk (blk_below (g := gb243) (o := .cells #[.slice Ao24 x244000_2.length co24, .slice Ao25 x244001_2.length co25] 24 (0, 0)) (by (with_reducible repeat (first | refine blk_drewN ?_ _ | refine blk_drew ?_ | refine blk_alloc ?_ _)); exact BK243.out) hb)
                              have n7_ := Aside0.mk (blk_below (g := gb259) (o := .cells #[.slice none 0 0, .slice none 0 0] 24 (0, 0)) (by (with_reducible repeat (first | refine blk_drewN ?_ _ | refine blk_drew ?_ | refine blk_alloc ?_ _)); exact BK259.out) hb)
                              have n8_ := Aside0.mk (below_step (by repeat (first | (with_reducible first | exact HB.out | apply below_alloc | apply pw_below_drewN | apply below_drew1 | refine below_set ?_ GE243.out | refine below_set ?_ GE259.out) | exact HB.out)) hb)
                              have n9_ := Aside0.mk (hbox)
                              have n10_ := Aside0.mk ((by rw [hg]; exact (below_size (by repeat (first | (with_reducible first | exact HB.out | apply below_alloc | apply pw_below_drewN | apply below_drew1 | refine below_set ?_ GE243.out | refine below_set ?_ GE259.out) | exact HB.out))) : w.heap.size ≤ gb258))
                              have n11_ := Aside0.mk ((by rw [hg]; exact (below_size (by repeat (first | (with_reducible first | exact HB.out | apply below_alloc | apply pw_below_drewN | apply below_drew1 | refine below_set ?_ GE243.out | refine below_set ?_ GE259.out) | exact HB.out))) : w.heap.size ≤ gb258))
                              have n12_ := Aside0.mk ((by rw [hg]; exact Nat.ne_of_lt (blk_lt (g := gb243) (o := .cells #[.slice Ao24 x244000_2.length co24, .slice Ao25 x244001_2.length co25] 24 (0, 0)) (by (with_reducible repeat (first | refine blk_drewN ?_ _ | refine blk_drew ?_ | refine blk_alloc ?_ _)); exact BK243.out)) : gb243 ≠ gb258))
                              have n13_ := Aside0.mk ((by rw [hg]; exact Nat.ne_of_gt (blk_lt (g := gb243) (o := .cells #[.slice Ao24 x244000_2.length co24, .slice Ao25 x244001_2.length co25] 24 (0, 0)) (by (with_reducible repeat (first | refine blk_drewN ?_ _ | refine blk_drew ?_ | refine blk_alloc ?_ _)); exact BK243.out)) : gb258 ≠ gb243))
                              have n14_ := Aside0.mk ((by rw [hg]; exact Nat.ne_of_lt (blk_lt (g := gb259) (o := .cells #[.slice none 0 0, .slice none 0 0] 24 (0, 0)) (by (with_reducible repeat (first | refine blk_drewN ?_ _ | refine blk_drew ?_ | refine blk_alloc ?_ _)); exact BK259.out)) : gb259 ≠ gb258))
                              have n15_ := Aside0.mk ((by rw [hg]; exact Nat.ne_of_gt (blk_lt (g := gb259) (o := .cells #[.slice none 0 0, .slice none 0 0] 24 (0, 0)) (by (with_reducible repeat (first | refine blk_drewN ?_ _ | refine blk_drew ?_ | refine blk_alloc ?_ _)); exact BK259.out)) : gb258 ≠ gb259))
                              clear HO_244000
                              clear HO_244001
                              clear HO247
                              clear HO250
                              clear HO253
                              clear HO256
                              clear BK243
                              clear BK259
                              clear HB
                              have HO_244000 := n0_
                              have HO_244001 := n1_
                              have HO247 := n2_
                              have HO250 := n3_
                              have HO253 := n4_
                              have HO256 := n5_
                              have BK243 := n6_
                              have BK259 := n7_
                              have HB := n8_
                              have BK258 := n9_
                              have GW258 := n10_
                              have GE258 := n11_
                              have NB243_258 := n12_
                              have NB258_243 := n13_
                              have NB259_258 := n14_
                              have NB258_259 := n15_
                              clear n0_ n1_ n2_ n3_ n4_ n5_ n6_ n7_ n8_ n9_ n10_ n11_ n12_ n13_ n14_ n15_
                              clear hb hbox hg
                              refine hK.out _ _ ⟨(blk_cell BK243.out 0).trans rfl, (blk_cell BK243.out 1).trans rfl, ((HB.out.cell (World.block_lt_of_cell? w _ hw244_0)).trans hw244_0), ((HB.out.cell (World.block_lt_of_cell? w _ hw244_1)).trans hw244_1)⟩ (fun hHeld => ?_)
                              clear hK K
                              refine norm_ (a' := ?_) ?_ ?_
                              rotate_left
                              · show Act.put _ (some 12) _ = _
                                simp only [Act.put, List.setIfInBounds_toArray, List.set_cons_zero, List.set_cons_succ, i64_w, i32_w]
                                rfl
                              exact norm_ (by first | (simp only [putAll, Act.put, List.setIfInBounds_toArray, List.set_cons_zero, List.set_cons_succ]; done) | (simp only [putAll, Act.put, List.setIfInBounds_toArray, List.set_cons_zero, List.set_cons_succ]; rfl)) (hJ6_11_12 (v246, v249, v252, v255, gb258, gb259) _ ⟨hHeld, (by (with_reducible repeat (first | apply Kd.R_alloc | apply Kd.R_drewN | apply Kd.R_drew)); exact HO247.out), (by (with_reducible repeat (first | apply Kd.R_alloc | apply Kd.R_drewN | apply Kd.R_drew)); exact HO250.out), (by (with_reducible repeat (first | apply Kd.R_alloc | apply Kd.R_drewN | apply Kd.R_drew)); exact HO253.out), (by (with_reducible repeat (first | apply Kd.R_alloc | apply Kd.R_drewN | apply Kd.R_drew)); exact HO256.out), (by (with_reducible repeat (first | apply Kd.R_alloc | apply Kd.R_drewN | apply Kd.R_drew)); exact HO_244000.out), (by (with_reducible repeat (first | apply Kd.R_alloc | apply Kd.R_drewN | apply Kd.R_drew)); exact HO_244001.out), (by (with_reducible repeat (first | refine blk_drewN ?_ _ | refine blk_drew ?_ | refine blk_alloc ?_ _)); exact BK243.out), (by (with_reducible repeat (first | refine blk_drewN ?_ _ | refine blk_drew ?_ | refine blk_alloc ?_ _)); exact BK258.out), (by (with_reducible repeat (first | refine blk_drewN ?_ _ | refine blk_drew ?_ | refine blk_alloc ?_ _)); exact BK259.out), GW258.out, GE258.out, NB243_258.out, NB258_243.out, NB259_258.out, NB258_259.out, GW259.out, GE259.out, NB243_259.out, NB259_243.out, (by repeat (first | (with_reducible first | exact HB.out | apply below_alloc | apply pw_below_drewN | apply below_drew1 | refine below_set ?_ GE243.out | refine below_set ?_ GE259.out | refine below_set ?_ GE258.out) | exact HB.out))⟩)
                          · skip
                            rintro ⟨v246, v249, v252, v255, gb258⟩ w29 ⟨hS_, h0_, h1_, h2_, h3_, h4_, h5_, h6_, h7_, h8_, h9_, h10_, h11_, h12_⟩
                            have n0_ : Aside0 (Kd.R (Kd.int .i64) 3 w29 w.heap.size (fun k_ => some k_ ≠ (v249 : Value).ownBlock ∧ some k_ ≠ (v252 : Value).ownBlock ∧ some k_ ≠ (v255 : Value).ownBlock ∧ some k_ ≠ (.slice Ao24 x244000_2.length co24 : Value).ownBlock ∧ some k_ ≠ (.slice Ao25 x244001_2.length co25 : Value).ownBlock) v246 t245) := ⟨h0_⟩
                            have n1_ : Aside0 (Kd.R (Kd.int .i64) 3 w29 w.heap.size (fun k_ => some k_ ≠ (v246 : Value).ownBlock ∧ some k_ ≠ (v252 : Value).ownBlock ∧ some k_ ≠ (v255 : Value).ownBlock ∧ some k_ ≠ (.slice Ao24 x244000_2.length co24 : Value).ownBlock ∧ some k_ ≠ (.slice Ao25 x244001_2.length co25 : Value).ownBlock) v249 t248) := ⟨h1_⟩
                            have n2_ : Aside0 (Kd.R (Kd.int .i64) 3 w29 w.heap.size (fun k_ => some k_ ≠ (v246 : Value).ownBlock ∧ some k_ ≠ (v249 : Value).ownBlock ∧ some k_ ≠ (v255 : Value).ownBlock ∧ some k_ ≠ (.slice Ao24 x244000_2.length co24 : Value).ownBlock ∧ some k_ ≠ (.slice Ao25 x244001_2.length co25 : Value).ownBlock) v252 t251) := ⟨h2_⟩
                            have n3_ : Aside0 (Kd.R (Kd.int .i64) 3 w29 w.heap.size (fun k_ => some k_ ≠ (v246 : Value).ownBlock ∧ some k_ ≠ (v249 : Value).ownBlock ∧ some k_ ≠ (v252 : Value).ownBlock ∧ some k_ ≠ (.slice Ao24 x244000_2.length co24 : Value).ownBlock ∧ some k_ ≠ (.slice Ao25 x244001_2.length co25 : Value).ownBlock) v255 t254) := ⟨h3_⟩
                            have n4_ : Aside0 (Kd.R (Kd.int .i64) 3 w29 w.heap.size (fun k_ => some k_ ≠ (v246 : Value).ownBlock ∧ some k_ ≠ (v249 : Value).ownBlock ∧ some k_ ≠ (v252 : Value).ownBlock ∧ some k_ ≠ (v255 : Value).ownBlock ∧ some k_ ≠ (.slice Ao25 x244001_2.length co25 : Value).ownBlock) (.slice Ao24 x244000_2.length co24) x244000_2) := ⟨h4_⟩
                            have n5_ : Aside0 (Kd.R (Kd.int .i64) 3 w29 w.heap.size (fun k_ => some k_ ≠ (v246 : Value).ownBlock ∧ some k_ ≠ (v249 : Value).ownBlock ∧ some k_ ≠ (v252 : Value).ownBlock ∧ some k_ ≠ (v255 : Value).ownBlock ∧ some k_ ≠ (.slice Ao24 x244000_2.length co24 : Value).ownBlock) (.slice Ao25 x244001_2.length co25) x244001_2) := ⟨h5_⟩
                            have n6_ : Aside0 (w29.heap[gb243]? = some (.cells #[.slice Ao24 x244000_2.length co24, .slice Ao25 x244001_2.length co25] 24 (0, 0))) := ⟨h6_⟩
                            have n7_ : Aside0 (w29.heap[gb258]? = some (.cells #[.slice none 0 0, .slice none 0 0] 24 (0, 0))) := ⟨h7_⟩
                            have n8_ : Aside0 (w.heap.size ≤ gb258) := ⟨h8_⟩
                            have n9_ : Aside0 (w.heap.size ≤ gb258) := ⟨h9_⟩
                            have n10_ : Aside0 (gb243 ≠ gb258) := ⟨h10_⟩
                            have n11_ : Aside0 (gb258 ≠ gb243) := ⟨h11_⟩
                            have n12_ : Aside0 (Below w.heap.size w w29) := ⟨h12_⟩
                            clear HO_244000
                            clear HO_244001
                            clear BK243
                            clear HB
                            clear h0_ h1_ h2_ h3_ h4_ h5_ h6_ h7_ h8_ h9_ h10_ h11_ h12_
                            have HO247 := n0_
                            have HO250 := n1_
                            have HO253 := n2_
                            have HO256 := n3_
                            have HO_244000 := n4_
                            have HO_244001 := n5_
                            have BK243 := n6_
                            have BK258 := n7_
                            have GW258 := n8_
                            have GE258 := n9_
                            have NB243_258 := n10_
                            have NB258_243 := n11_
                            have HB := n12_
                            clear n0_ n1_ n2_ n3_ n4_ n5_ n6_ n7_ n8_ n9_ n10_ n11_ n12_
                            have hHeld : w29.cell? ⟨gb243, 0, none⟩ = some (.slice Ao24 x244000_2.length co24) ∧ w29.cell? ⟨gb243, 1, none⟩ = some (.slice Ao25 x244001_2.length co25) ∧ w29.cell? (ad244.add ((x11_2).toNat * 2)) = some (.int .i64 ((rd_T52 l1 x11_2).f0)) ∧ w29.cell? ⟨(ad244.add ((x11_2).toNat * 2)).block, (ad244.add ((x11_2).toNat * 2)).off + 1, none⟩ = some (.bool ((rd_T52 l1 x11_2).f1)) := hS_
                            refine norm_ (a' := ?_) ?_ ?_
                            rotate_left
                            · simp only [putAll, Act.put, List.setIfInBounds_toArray, List.set_cons_zero, List.set_cons_succ]
                              rfl
                            refine one_ (i := 12) (N := some 13) #[true, true, true, true, true, true, true, true, true, true, true, true, true, false, false, false] rfl rfl (one_of HT_.out (by kernel_rfl)) (by decide) (fun K hK => ?_)
                            refine box_step ?hg (N := 13) ?hd (cs := #[.slice none 0 0, .slice none 0 0]) (t := 24) ?hr ?_; (case hd => rfl); (case hg => rfl); (case hr => first | (go_simp; done) | (go_simp; rfl))
                            intro gb259 hg w30 hbox hb
                            have n0_ := Aside0.mk (Kd.R_below (by (with_reducible repeat (first | apply Kd.R_alloc | apply Kd.R_drewN | apply Kd.R_drew)); exact HO_244000.out) hb)
                            have n1_ := Aside0.mk (Kd.R_below (by (with_reducible repeat (first | apply Kd.R_alloc | apply Kd.R_drewN | apply Kd.R_drew)); exact HO_244001.out) hb)
                            have n2_ := Aside0.mk (Kd.R_below (by (with_reducible repeat (first | apply Kd.R_alloc | apply Kd.R_drewN | apply Kd.R_drew)); exact HO247.out) hb)
                            have n3_ := Aside0.mk (Kd.R_below (by (with_reducible repeat (first | apply Kd.R_alloc | apply Kd.R_drewN | apply Kd.R_drew)); exact HO250.out) hb)
                            have n4_ := Aside0.mk (Kd.R_below (by (with_reducible repeat (first | apply Kd.R_alloc | apply Kd.R_drewN | apply Kd.R_drew)); exact HO253.out) hb)
                            have n5_ := Aside0.mk (Kd.R_below (by (with_reducible repeat (first | apply Kd.R_alloc | apply Kd.R_drewN | apply Kd.R_drew)); exact HO256.out) hb)
                            have n6_ := Aside0.mk (blk_below (g := gb243) (o := .cells #[.slice Ao24 x244000_2.length co24, .slice Ao25 x244001_2.length co25] 24 (0, 0)) (by (with_reducible repeat (first | refine blk_drewN ?_ _ | refine blk_drew ?_ | refine blk_alloc ?_ _)); exact BK243.out) hb)
                            have n7_ := Aside0.mk (blk_below (g := gb258) (o := .cells #[.slice none 0 0, .slice none 0 0] 24 (0, 0)) (by (with_reducible repeat (first | refine blk_drewN ?_ _ | refine blk_drew ?_ | refine blk_alloc ?_ _)); exact BK258.out) hb)
                            have n8_ := Aside0.mk (below_step (by repeat (first | (with_reducible first | exact HB.out | apply below_alloc | apply pw_below_drewN | apply below_drew1 | refine below_set ?_ GE243.out | refine below_set ?_ GE258.out) | exact HB.out)) hb)
                            have n9_ := Aside0.mk (hbox)
                            have n10_ := Aside0.mk ((by rw [hg]; exact (below_size (by repeat (first | (with_reducible first | exact HB.out | apply below_alloc | apply pw_below_drewN | apply below_drew1 | refine below_set ?_ GE243.out | refine below_set ?_ GE258.out) | exact HB.out))) : w.heap.size ≤ gb259))
                            have n11_ := Aside0.mk ((by rw [hg]; exact (below_size (by repeat (first | (with_reducible first | exact HB.out | apply below_alloc | apply pw_below_drewN | apply below_drew1 | refine below_set ?_ GE243.out | refine below_set ?_ GE258.out) | exact HB.out))) : w.heap.size ≤ gb259))
                            have n12_ := Aside0.mk ((by rw [hg]; exact Nat.ne_of_lt (blk_lt (g := gb243) (o := .cells #[.slice Ao24 x244000_2.length co24, .slice Ao25 x244001_2.length co25] 24 (0, 0)) (by (with_reducible repeat (first | refine blk_drewN ?_ _ | refine blk_drew ?_ | refine blk_alloc ?_ _)); exact BK243.out)) : gb243 ≠ gb259))
                            have n13_ := Aside0.mk ((by rw [hg]; exact Nat.ne_of_gt (blk_lt (g := gb243) (o := .cells #[.slice Ao24 x244000_2.length co24, .slice Ao25 x244001_2.length co25] 24 (0, 0)) (by (with_reducible repeat (first | refine blk_drewN ?_ _ | refine blk_drew ?_ | refine blk_alloc ?_ _)); exact BK243.out)) : gb259 ≠ gb243))
                            have n14_ := Aside0.mk ((by rw [hg]; exact Nat.ne_of_lt (blk_lt (g := gb258) (o := .cells #[.slice none 0 0, .slice none 0 0] 24 (0, 0)) (by (with_reducible repeat (first | refine blk_drewN ?_ _ | refine blk_drew ?_ | refine blk_alloc ?_ _)); exact BK258.out)) : gb258 ≠ gb259))
                            have n15_ := Aside0.mk ((by rw [hg]; exact Nat.ne_of_gt (blk_lt (g := gb258) (o := .cells #[.slice none 0 0, .slice none 0 0] 24 (0, 0)) (by (with_reducible repeat (first | refine blk_drewN ?_ _ | refine blk_drew ?_ | refine blk_alloc ?_ _)); exact BK258.out)) : gb259 ≠ gb258))
                            clear HO_244000
                            clear HO_244001
                            clear HO247
                            clear HO250
                            clear HO253
                            clear HO256
                            clear BK243
                            clear BK258
                            clear HB
                            have HO_244000 := n0_
                            have HO_244001 := n1_
                            have HO247 := n2_
                            have HO250 := n3_
                            have HO253 := n4_
                            have HO256 := n5_
                            have BK243 := n6_
                            have BK258 := n7_
                            have HB := n8_
                            have BK259 := n9_
                            have GW259 := n10_
                            have GE259 := n11_
                            have NB243_259 := n12_
                            have NB259_243 := n13_
                            have NB258_259 := n14_
                            have NB259_258 := n15_
                            clear n0_ n1_ n2_ n3_ n4_ n5_ n6_ n7_ n8_ n9_ n10_ n11_ n12_ n13_ n14_ n15_
                            clear hb hbox hg
                            refine hK.out _ _ ⟨(blk_cell BK243.out 0).trans rfl, (blk_cell BK243.out 1).trans rfl, ((HB.out.cell (World.block_lt_of_cell? w _ hw244_0)).trans hw244_0), ((HB.out.cell (World.block_lt_of_cell? w _ hw244_1)).trans hw244_1)⟩ (fun hHeld => ?_)
                            clear hK K
                            refine norm_ (a' := ?_) ?_ ?_
                            rotate_left
                            · show Act.put _ (some 13) _ = _
                              simp only [Act.put, List.setIfInBounds_toArray, List.set_cons_zero, List.set_cons_succ, i64_w, i32_w]
                              rfl
                            exact norm_ (by first | (simp only [putAll, Act.put, List.setIfInBounds_toArray, List.set_cons_zero, List.set_cons_succ]; done) | (simp only [putAll, Act.put, List.setIfInBounds_toArray, List.set_cons_zero, List.set_cons_succ]; rfl)) (hJ6_11_12 (v246, v249, v252, v255, gb258, gb259) _ ⟨hHeld, (by (with_reducible repeat (first | apply Kd.R_alloc | apply Kd.R_drewN | apply Kd.R_drew)); exact HO247.out), (by (with_reducible repeat (first | apply Kd.R_alloc | apply Kd.R_drewN | apply Kd.R_drew)); exact HO250.out), (by (with_reducible repeat (first | apply Kd.R_alloc | apply Kd.R_drewN | apply Kd.R_drew)); exact HO253.out), (by (with_reducible repeat (first | apply Kd.R_alloc | apply Kd.R_drewN | apply Kd.R_drew)); exact HO256.out), (by (with_reducible repeat (first | apply Kd.R_alloc | apply Kd.R_drewN | apply Kd.R_drew)); exact HO_244000.out), (by (with_reducible repeat (first | apply Kd.R_alloc | apply Kd.R_drewN | apply Kd.R_drew)); exact HO_244001.out), (by (with_reducible repeat (first | refine blk_drewN ?_ _ | refine blk_drew ?_ | refine blk_alloc ?_ _)); exact BK243.out), (by (with_reducible repeat (first | refine blk_drewN ?_ _ | refine blk_drew ?_ | refine blk_alloc ?_ _)); exact BK258.out), (by (with_reducible repeat (first | refine blk_drewN ?_ _ | refine blk_drew ?_ | refine blk_alloc ?_ _)); exact BK259.out), GW258.out, GE258.out, NB243_258.out, NB258_243.out, NB259_258.out, NB258_259.out, GW259.out, GE259.out, NB243_259.out, NB259_243.out, (by repeat (first | (with_reducible first | exact HB.out | apply below_alloc | apply pw_below_drewN | apply below_drew1 | refine below_set ?_ GE243.out | refine below_set ?_ GE258.out | refine below_set ?_ GE259.out) | exact HB.out))⟩)
                        rintro ⟨v246, v249, v252, v255, gb258, gb259⟩ w30 ⟨hS_, h0_, h1_, h2_, h3_, h4_, h5_, h6_, h7_, h8_, h9_, h10_, h11_, h12_, h13_, h14_, h15_, h16_, h17_, h18_, h19_⟩
                        have n0_ : Aside0 (Kd.R (Kd.int .i64) 3 w30 w.heap.size (fun k_ => some k_ ≠ (v249 : Value).ownBlock ∧ some k_ ≠ (v252 : Value).ownBlock ∧ some k_ ≠ (v255 : Value).ownBlock ∧ some k_ ≠ (.slice Ao24 x244000_2.length co24 : Value).ownBlock ∧ some k_ ≠ (.slice Ao25 x244001_2.length co25 : Value).ownBlock) v246 t245) := ⟨h0_⟩
                        have n1_ : Aside0 (Kd.R (Kd.int .i64) 3 w30 w.heap.size (fun k_ => some k_ ≠ (v246 : Value).ownBlock ∧ some k_ ≠ (v252 : Value).ownBlock ∧ some k_ ≠ (v255 : Value).ownBlock ∧ some k_ ≠ (.slice Ao24 x244000_2.length co24 : Value).ownBlock ∧ some k_ ≠ (.slice Ao25 x244001_2.length co25 : Value).ownBlock) v249 t248) := ⟨h1_⟩
                        have n2_ : Aside0 (Kd.R (Kd.int .i64) 3 w30 w.heap.size (fun k_ => some k_ ≠ (v246 : Value).ownBlock ∧ some k_ ≠ (v249 : Value).ownBlock ∧ some k_ ≠ (v255 : Value).ownBlock ∧ some k_ ≠ (.slice Ao24 x244000_2.length co24 : Value).ownBlock ∧ some k_ ≠ (.slice Ao25 x244001_2.length co25 : Value).ownBlock) v252 t251) := ⟨h2_⟩
                        have n3_ : Aside0 (Kd.R (Kd.int .i64) 3 w30 w.heap.size (fun k_ => some k_ ≠ (v246 : Value).ownBlock ∧ some k_ ≠ (v249 : Value).ownBlock ∧ some k_ ≠ (v252 : Value).ownBlock ∧ some k_ ≠ (.slice Ao24 x244000_2.length co24 : Value).ownBlock ∧ some k_ ≠ (.slice Ao25 x244001_2.length co25 : Value).ownBlock) v255 t254) := ⟨h3_⟩
                        have n4_ : Aside0 (Kd.R (Kd.int .i64) 3 w30 w.heap.size (fun k_ => some k_ ≠ (v246 : Value).ownBlock ∧ some k_ ≠ (v249 : Value).ownBlock ∧ some k_ ≠ (v252 : Value).ownBlock ∧ some k_ ≠ (v255 : Value).ownBlock ∧ some k_ ≠ (.slice Ao25 x244001_2.length co25 : Value).ownBlock) (.slice Ao24 x244000_2.length co24) x244000_2) := ⟨h4_⟩
                        have n5_ : Aside0 (Kd.R (Kd.int .i64) 3 w30 w.heap.size (fun k_ => some k_ ≠ (v246 : Value).ownBlock ∧ some k_ ≠ (v249 : Value).ownBlock ∧ some k_ ≠ (v252 : Value).ownBlock ∧ some k_ ≠ (v255 : Value).ownBlock ∧ some k_ ≠ (.slice Ao24 x244000_2.length co24 : Value).ownBlock) (.slice Ao25 x244001_2.length co25) x244001_2) := ⟨h5_⟩
                        have n6_ : Aside0 (w30.heap[gb243]? = some (.cells #[.slice Ao24 x244000_2.length co24, .slice Ao25 x244001_2.length co25] 24 (0, 0))) := ⟨h6_⟩
                        have n7_ : Aside0 (w30.heap[gb258]? = some (.cells #[.slice none 0 0, .slice none 0 0] 24 (0, 0))) := ⟨h7_⟩
                        have n8_ : Aside0 (w30.heap[gb259]? = some (.cells #[.slice none 0 0, .slice none 0 0] 24 (0, 0))) := ⟨h8_⟩
                        have n9_ : Aside0 (w.heap.size ≤ gb258) := ⟨h9_⟩
                        have n10_ : Aside0 (w.heap.size ≤ gb258) := ⟨h10_⟩
                        have n11_ : Aside0 (gb243 ≠ gb258) := ⟨h11_⟩
                        have n12_ : Aside0 (gb258 ≠ gb243) := ⟨h12_⟩
                        have n13_ : Aside0 (gb259 ≠ gb258) := ⟨h13_⟩
                        have n14_ : Aside0 (gb258 ≠ gb259) := ⟨h14_⟩
                        have n15_ : Aside0 (w.heap.size ≤ gb259) := ⟨h15_⟩
                        have n16_ : Aside0 (w.heap.size ≤ gb259) := ⟨h16_⟩
                        have n17_ : Aside0 (gb243 ≠ gb259) := ⟨h17_⟩
                        have n18_ : Aside0 (gb259 ≠ gb243) := ⟨h18_⟩
                        have n19_ : Aside0 (Below w.heap.size w w30) := ⟨h19_⟩
                        clear HO_244000
                        clear HO_244001
                        clear BK243
                        clear HB
                        clear h0_ h1_ h2_ h3_ h4_ h5_ h6_ h7_ h8_ h9_ h10_ h11_ h12_ h13_ h14_ h15_ h16_ h17_ h18_ h19_
                        have HO247 := n0_
                        have HO250 := n1_
                        have HO253 := n2_
                        have HO256 := n3_
                        have HO_244000 := n4_
                        have HO_244001 := n5_
                        have BK243 := n6_
                        have BK258 := n7_
                        have BK259 := n8_
                        have GW258 := n9_
                        have GE258 := n10_
                        have NB243_258 := n11_
                        have NB258_243 := n12_
                        have NB259_258 := n13_
                        have NB258_259 := n14_
                        have GW259 := n15_
                        have GE259 := n16_
                        have NB243_259 := n17_
                        have NB259_243 := n18_
                        have HB := n19_
                        clear n0_ n1_ n2_ n3_ n4_ n5_ n6_ n7_ n8_ n9_ n10_ n11_ n12_ n13_ n14_ n15_ n16_ n17_ n18_ n19_
                        have hHeld : w30.cell? ⟨gb243, 0, none⟩ = some (.slice Ao24 x244000_2.length co24) ∧ w30.cell? ⟨gb243, 1, none⟩ = some (.slice Ao25 x244001_2.length co25) ∧ w30.cell? (ad244.add ((x11_2).toNat * 2)) = some (.int .i64 ((rd_T52 l1 x11_2).f0)) ∧ w30.cell? ⟨(ad244.add ((x11_2).toNat * 2)).block, (ad244.add ((x11_2).toNat * 2)).off + 1, none⟩ = some (.bool ((rd_T52 l1 x11_2).f1)) := hS_
                        obtain ⟨Ao31, co31, eo31⟩ := Kd.R_slice HO247.out
                        (first | subst eo31 | (injection eo31 with f1_ f2_ f3_; have f4_ := f1_.symm; have f5_ := f3_.symm; clear f1_ f2_ f3_; subst f4_; subst f5_))
                        obtain ⟨Ao33, co33, eo33⟩ := Kd.R_slice HO250.out
                        (first | subst eo33 | (injection eo33 with f1_ f2_ f3_; have f4_ := f1_.symm; have f5_ := f3_.symm; clear f1_ f2_ f3_; subst f4_; subst f5_))
                        obtain ⟨Ao35, co35, eo35⟩ := Kd.R_slice HO253.out
                        (first | subst eo35 | (injection eo35 with f1_ f2_ f3_; have f4_ := f1_.symm; have f5_ := f3_.symm; clear f1_ f2_ f3_; subst f4_; subst f5_))
                        obtain ⟨Ao37, co37, eo37⟩ := Kd.R_slice HO256.out
                        (first | subst eo37 | (injection eo37 with f1_ f2_ f3_; have f4_ := f1_.symm; have f5_ := f3_.symm; clear f1_ f2_ f3_; subst f4_; subst f5_))
                        refine norm_ (a' := ?_) ?_ ?_
                        rotate_left
                        · simp only [putAll, Act.put, List.setIfInBounds_toArray, List.set_cons_zero, List.set_cons_succ]
                          rfl
                        refine one_ (i := 13) (N := none) #[true, true, true, true, true, true, true, true, true, true, true, true, true, true, false, false] rfl rfl (one_of HT_.out (by kernel_rfl)) (by decide) (fun K hK => ?_)
                        have hs32 : w30.cell? ⟨gb258, 0, none⟩ = some (.slice none 0 0) := (blk_cell BK258.out 0).trans rfl
                        have hfs32 := blk_frozen BK258.out 0
                        have hns32_0 := NB243_258.out
                        have hns32_2 := NB259_258.out
                        have hms32_0 := NB258_243.out
                        have hms32_2 := NB258_259.out
                        have hs34 : w30.cell? ⟨gb258, 1, none⟩ = some (.slice none 0 0) := (blk_cell BK258.out 1).trans rfl
                        have hfs34 := blk_frozen BK258.out 1
                        have hns34_0 := NB243_258.out
                        have hns34_2 := NB259_258.out
                        have hms34_0 := NB258_243.out
                        have hms34_2 := NB258_259.out
                        refine skip_ (w1 := ?_) (by rfl) rfl ?_ ?_
                        rotate_left
                        · go_simp
                          rfl
                        refine hK.out _ _ ⟨((cell_far (p := ⟨gb258, _, none⟩) NB243_258.out _).trans (((cell_far (p := ⟨gb258, _, none⟩) NB243_258.out _).trans (hHeld.1)))), ((cell_far (p := ⟨gb258, _, none⟩) NB243_258.out _).trans (((cell_far (p := ⟨gb258, _, none⟩) NB243_258.out _).trans (hHeld.2.1)))), ((cell_far (p := ⟨gb258, _, none⟩) (by first | exact Nat.ne_of_lt (Nat.lt_of_lt_of_le (by have := World.block_lt_of_cell? _ _ hw244_0; first | rwa [add_block] at this | exact this) GW258.out) | (rw [add_block]; exact Nat.ne_of_lt (Nat.lt_of_lt_of_le (by have := World.block_lt_of_cell? _ _ hw244_0; first | rwa [add_block] at this | exact this) GW258.out)) | (show (Addr.add _ _).block ≠ _; rw [add_block]; exact Nat.ne_of_lt (Nat.lt_of_lt_of_le (by have := World.block_lt_of_cell? _ _ hw244_0; first | rwa [add_block] at this | exact this) GW258.out)) | (dsimp only; exact Nat.ne_of_lt (Nat.lt_of_lt_of_le (by have := World.block_lt_of_cell? _ _ hw244_0; first | rwa [add_block] at this | exact this) GW258.out))) _).trans (((cell_far (p := ⟨gb258, _, none⟩) (by first | exact Nat.ne_of_lt (Nat.lt_of_lt_of_le (by have := World.block_lt_of_cell? _ _ hw244_0; first | rwa [add_block] at this | exact this) GW258.out) | (rw [add_block]; exact Nat.ne_of_lt (Nat.lt_of_lt_of_le (by have := World.block_lt_of_cell? _ _ hw244_0; first | rwa [add_block] at this | exact this) GW258.out)) | (show (Addr.add _ _).block ≠ _; rw [add_block]; exact Nat.ne_of_lt (Nat.lt_of_lt_of_le (by have := World.block_lt_of_cell? _ _ hw244_0; first | rwa [add_block] at this | exact this) GW258.out)) | (dsimp only; exact Nat.ne_of_lt (Nat.lt_of_lt_of_le (by have := World.block_lt_of_cell? _ _ hw244_0; first | rwa [add_block] at this | exact this) GW258.out))) _).trans (hHeld.2.2.1)))), ((cell_far (p := ⟨gb258, _, none⟩) (by first | exact Nat.ne_of_lt (Nat.lt_of_lt_of_le (by have := World.block_lt_of_cell? _ _ hw244_1; first | rwa [add_block] at this | exact this) GW258.out) | (rw [add_block]; exact Nat.ne_of_lt (Nat.lt_of_lt_of_le (by have := World.block_lt_of_cell? _ _ hw244_1; first | rwa [add_block] at this | exact this) GW258.out)) | (show (Addr.add _ _).block ≠ _; rw [add_block]; exact Nat.ne_of_lt (Nat.lt_of_lt_of_le (by have := World.block_lt_of_cell? _ _ hw244_1; first | rwa [add_block] at this | exact this) GW258.out)) | (dsimp only; exact Nat.ne_of_lt (Nat.lt_of_lt_of_le (by have := World.block_lt_of_cell? _ _ hw244_1; first | rwa [add_block] at this | exact this) GW258.out))) _).trans (((cell_far (p := ⟨gb258, _, none⟩) (by first | exact Nat.ne_of_lt (Nat.lt_of_lt_of_le (by have := World.block_lt_of_cell? _ _ hw244_1; first | rwa [add_block] at this | exact this) GW258.out) | (rw [add_block]; exact Nat.ne_of_lt (Nat.lt_of_lt_of_le (by have := World.block_lt_of_cell? _ _ hw244_1; first | rwa [add_block] at this | exact this) GW258.out)) | (show (Addr.add _ _).block ≠ _; rw [add_block]; exact Nat.ne_of_lt (Nat.lt_of_lt_of_le (by have := World.block_lt_of_cell? _ _ hw244_1; first | rwa [add_block] at this | exact this) GW258.out)) | (dsimp only; exact Nat.ne_of_lt (Nat.lt_of_lt_of_le (by have := World.block_lt_of_cell? _ _ hw244_1; first | rwa [add_block] at this | exact this) GW258.out))) _).trans (hHeld.2.2.2))))⟩ (fun hHeld => ?_)
                        clear hK K
                        refine one_ (i := 14) (N := none) #[true, true, true, true, true, true, true, true, true, true, true, true, true, true, true, false] rfl rfl (one_of HT_.out (by kernel_rfl)) (by decide) (fun K hK => ?_)
                        have hs36 : w30.cell? ⟨gb259, 0, none⟩ = some (.slice none 0 0) := (blk_cell BK259.out 0).trans rfl
                        have hfs36 := blk_frozen BK259.out 0
                        have hns36_0 := NB243_259.out
                        have hns36_1 := NB258_259.out
                        have hms36_0 := NB259_243.out
                        have hms36_1 := NB259_258.out
                        have hs38 : w30.cell? ⟨gb259, 1, none⟩ = some (.slice none 0 0) := (blk_cell BK259.out 1).trans rfl
                        have hfs38 := blk_frozen BK259.out 1
                        have hns38_0 := NB243_259.out
                        have hns38_1 := NB258_259.out
                        have hms38_0 := NB259_243.out
                        have hms38_1 := NB259_258.out
                        refine skip_ (w1 := ?_) (by rfl) rfl ?_ ?_
                        rotate_left
                        · go_simp
                          rfl
                        refine hK.out _ _ ⟨((cell_far (p := ⟨gb259, _, none⟩) NB243_259.out _).trans (((cell_far (p := ⟨gb259, _, none⟩) NB243_259.out _).trans (hHeld.1)))), ((cell_far (p := ⟨gb259, _, none⟩) NB243_259.out _).trans (((cell_far (p := ⟨gb259, _, none⟩) NB243_259.out _).trans (hHeld.2.1)))), ((cell_far (p := ⟨gb259, _, none⟩) (by first | exact Nat.ne_of_lt (Nat.lt_of_lt_of_le (by have := World.block_lt_of_cell? _ _ hw244_0; first | rwa [add_block] at this | exact this) GW259.out) | (rw [add_block]; exact Nat.ne_of_lt (Nat.lt_of_lt_of_le (by have := World.block_lt_of_cell? _ _ hw244_0; first | rwa [add_block] at this | exact this) GW259.out)) | (show (Addr.add _ _).block ≠ _; rw [add_block]; exact Nat.ne_of_lt (Nat.lt_of_lt_of_le (by have := World.block_lt_of_cell? _ _ hw244_0; first | rwa [add_block] at this | exact this) GW259.out)) | (dsimp only; exact Nat.ne_of_lt (Nat.lt_of_lt_of_le (by have := World.block_lt_of_cell? _ _ hw244_0; first | rwa [add_block] at this | exact this) GW259.out))) _).trans (((cell_far (p := ⟨gb259, _, none⟩) (by first | exact Nat.ne_of_lt (Nat.lt_of_lt_of_le (by have := World.block_lt_of_cell? _ _ hw244_0; first | rwa [add_block] at this | exact this) GW259.out) | (rw [add_block]; exact Nat.ne_of_lt (Nat.lt_of_lt_of_le (by have := World.block_lt_of_cell? _ _ hw244_0; first | rwa [add_block] at this | exact this) GW259.out)) | (show (Addr.add _ _).block ≠ _; rw [add_block]; exact Nat.ne_of_lt (Nat.lt_of_lt_of_le (by have := World.block_lt_of_cell? _ _ hw244_0; first | rwa [add_block] at this | exact this) GW259.out)) | (dsimp only; exact Nat.ne_of_lt (Nat.lt_of_lt_of_le (by have := World.block_lt_of_cell? _ _ hw244_0; first | rwa [add_block] at this | exact this) GW259.out))) _).trans (hHeld.2.2.1)))), ((cell_far (p := ⟨gb259, _, none⟩) (by first | exact Nat.ne_of_lt (Nat.lt_of_lt_of_le (by have := World.block_lt_of_cell? _ _ hw244_1; first | rwa [add_block] at this | exact this) GW259.out) | (rw [add_block]; exact Nat.ne_of_lt (Nat.lt_of_lt_of_le (by have := World.block_lt_of_cell? _ _ hw244_1; first | rwa [add_block] at this | exact this) GW259.out)) | (show (Addr.add _ _).block ≠ _; rw [add_block]; exact Nat.ne_of_lt (Nat.lt_of_lt_of_le (by have := World.block_lt_of_cell? _ _ hw244_1; first | rwa [add_block] at this | exact this) GW259.out)) | (dsimp only; exact Nat.ne_of_lt (Nat.lt_of_lt_of_le (by have := World.block_lt_of_cell? _ _ hw244_1; first | rwa [add_block] at this | exact this) GW259.out))) _).trans (((cell_far (p := ⟨gb259, _, none⟩) (by first | exact Nat.ne_of_lt (Nat.lt_of_lt_of_le (by have := World.block_lt_of_cell? _ _ hw244_1; first | rwa [add_block] at this | exact this) GW259.out) | (rw [add_block]; exact Nat.ne_of_lt (Nat.lt_of_lt_of_le (by have := World.block_lt_of_cell? _ _ hw244_1; first | rwa [add_block] at this | exact this) GW259.out)) | (show (Addr.add _ _).block ≠ _; rw [add_block]; exact Nat.ne_of_lt (Nat.lt_of_lt_of_le (by have := World.block_lt_of_cell? _ _ hw244_1; first | rwa [add_block] at this | exact this) GW259.out)) | (dsimp only; exact Nat.ne_of_lt (Nat.lt_of_lt_of_le (by have := World.block_lt_of_cell? _ _ hw244_1; first | rwa [add_block] at this | exact this) GW259.out))) _).trans (hHeld.2.2.2))))⟩ (fun hHeld => ?_)
                        clear hK K
                        refine pure_ (i := 15) (N := some 14) (v := ?_) (a' := ?_) #[true, true, true, true, true, true, true, true, true, true, true, true, true, true, true, true] rfl rfl (any_of HT_.out (by kernel_rfl)) (fun _ _ _ h => h) (Or.inl ⟨by rfl, ?_⟩) ?_ ?_
                        rotate_left
                        · intro w'
                          go_simp
                          with_reducible rfl
                        rotate_left
                        · simp only [Act.put, List.setIfInBounds_toArray, List.set_cons_zero, List.set_cons_succ, i64_w, i32_w]
                          rfl
                        refine done_ (done_of HT_.out (by kernel_rfl)) ?_
                        go_upto_region 10 with (fail)
                        go_cut [63] (fun v63 wc => ∃ (kq : Nat) (x63_22 : Bool), v63 = .bool x63_22 ∧ Aside0 (ambitlaw18_SplitEnds.j3 kq a0 l1 l2 a3 x11_2 t257 x63_22 x244000_2 x244001_2 t245 t248 t251 t254 = some r) ∧ Aside0 (kq ≤ kj16) ∧ Aside0 (Kd.R (Kd.int .i64) 3 wc w.heap.size (fun k_ => some k_ ≠ ((.slice Ao25 x244001_2.length co25) : Value).ownBlock ∧ some k_ ≠ ((.slice Ao31 t245.length co31) : Value).ownBlock ∧ some k_ ≠ ((.slice Ao33 t248.length co33) : Value).ownBlock ∧ some k_ ≠ ((.slice Ao35 t251.length co35) : Value).ownBlock ∧ some k_ ≠ ((.slice Ao37 t254.length co37) : Value).ownBlock) (.slice Ao24 x244000_2.length co24) x244000_2) ∧ Aside0 (Kd.R (Kd.int .i64) 3 wc w.heap.size (fun k_ => some k_ ≠ ((.slice Ao24 x244000_2.length co24) : Value).ownBlock ∧ some k_ ≠ ((.slice Ao31 t245.length co31) : Value).ownBlock ∧ some k_ ≠ ((.slice Ao33 t248.length co33) : Value).ownBlock ∧ some k_ ≠ ((.slice Ao35 t251.length co35) : Value).ownBlock ∧ some k_ ≠ ((.slice Ao37 t254.length co37) : Value).ownBlock) (.slice Ao25 x244001_2.length co25) x244001_2) ∧ Aside0 (Kd.R (Kd.int .i64) 3 wc w.heap.size (fun k_ => some k_ ≠ ((.slice Ao24 x244000_2.length co24) : Value).ownBlock ∧ some k_ ≠ ((.slice Ao25 x244001_2.length co25) : Value).ownBlock ∧ some k_ ≠ ((.slice Ao33 t248.length co33) : Value).ownBlock ∧ some k_ ≠ ((.slice Ao35 t251.length co35) : Value).ownBlock ∧ some k_ ≠ ((.slice Ao37 t254.length co37) : Value).ownBlock) (.slice Ao31 t245.length co31) t245) ∧ Aside0 (Kd.R (Kd.int .i64) 3 wc w.heap.size (fun k_ => some k_ ≠ ((.slice Ao24 x244000_2.length co24) : Value).ownBlock ∧ some k_ ≠ ((.slice Ao25 x244001_2.length co25) : Value).ownBlock ∧ some k_ ≠ ((.slice Ao31 t245.length co31) : Value).ownBlock ∧ some k_ ≠ ((.slice Ao35 t251.length co35) : Value).ownBlock ∧ some k_ ≠ ((.slice Ao37 t254.length co37) : Value).ownBlock) (.slice Ao33 t248.length co33) t248) ∧ Aside0 (Kd.R (Kd.int .i64) 3 wc w.heap.size (fun k_ => some k_ ≠ ((.slice Ao24 x244000_2.length co24) : Value).ownBlock ∧ some k_ ≠ ((.slice Ao25 x244001_2.length co25) : Value).ownBlock ∧ some k_ ≠ ((.slice Ao31 t245.length co31) : Value).ownBlock ∧ some k_ ≠ ((.slice Ao33 t248.length co33) : Value).ownBlock ∧ some k_ ≠ ((.slice Ao37 t254.length co37) : Value).ownBlock) (.slice Ao35 t251.length co35) t251) ∧ Aside0 (Kd.R (Kd.int .i64) 3 wc w.heap.size (fun k_ => some k_ ≠ ((.slice Ao24 x244000_2.length co24) : Value).ownBlock ∧ some k_ ≠ ((.slice Ao25 x244001_2.length co25) : Value).ownBlock ∧ some k_ ≠ ((.slice Ao31 t245.length co31) : Value).ownBlock ∧ some k_ ≠ ((.slice Ao33 t248.length co33) : Value).ownBlock ∧ some k_ ≠ ((.slice Ao35 t251.length co35) : Value).ownBlock) (.slice Ao37 t254.length co37) t254) ∧ Aside0 (wc.heap[gb243]? = some (.cells #[(.slice Ao24 x244000_2.length co24), (.slice Ao25 x244001_2.length co25)] 24 (0, 0))) ∧ Aside0 (wc.heap[gb258]? = some (.cells #[(.slice Ao31 t245.length co31), (.slice Ao33 t248.length co33)] 24 (0, 0))) ∧ Aside0 (wc.heap[gb259]? = some (.cells #[(.slice Ao35 t251.length co35), (.slice Ao37 t254.length co37)] 24 (0, 0))) ∧ Aside0 (Below w.heap.size w wc))
                        case first =>
                          have H := HC23.out
                          clear HC23
                          by_cases c39 : t257 = 0
                          · rw [if_pos c39] at H
                            have c39b0 : (t257 == 0) = true := beq_iff_eq.mpr c39
                            have c39b1 : (t257 != 0) = false := bne_eq_false_iff_eq.mpr c39
                            clear c39
                            (first | rw [c39b0] | (simp only [i64_w, i32_w]; rw [c39b0]) | skip)
                            have H' := Aside0.mk H
                            clear H
                            have p260 : 0 ≤ (x11_2 : Int) := of_decide_eq_true (by first | (with_reducible assumption) | assumption)
                            have q260 : x11_2 < (l1.length : Int) := of_decide_eq_true (by first | (with_reducible assumption) | assumption)
                            obtain ⟨ad260, e260, hx260_0, hx260_1⟩ := at_T52 HR1.out x11_2 p260 q260
                            obtain rfl : ad244 = ad260 := (by injection e260)
                            have hn260_0 : ad244.block ≠ gb258 := Nat.ne_of_lt (Nat.lt_of_lt_of_le (by have := World.block_lt_of_cell? _ _ hx260_0; first | rwa [add_block] at this | exact this) GW258.out)
                            have hn260_1 : ad244.block ≠ gb258 := Nat.ne_of_lt (Nat.lt_of_lt_of_le (by have := World.block_lt_of_cell? _ _ hx260_0; first | rwa [add_block] at this | exact this) GW258.out)
                            have hn260_2 : ad244.block ≠ gb259 := Nat.ne_of_lt (Nat.lt_of_lt_of_le (by have := World.block_lt_of_cell? _ _ hx260_0; first | rwa [add_block] at this | exact this) GW259.out)
                            have hn260_3 : ad244.block ≠ gb259 := Nat.ne_of_lt (Nat.lt_of_lt_of_le (by have := World.block_lt_of_cell? _ _ hx260_0; first | rwa [add_block] at this | exact this) GW259.out)
                            replace hx260_0 := (HB.out.cell (World.block_lt_of_cell? w _ hx260_0)).trans hx260_0
                            replace hx260_1 := (HB.out.cell (World.block_lt_of_cell? w _ hx260_1)).trans hx260_1
                            replace hx260_0 := (cell_far (p := ⟨gb258, 0, none⟩) (by first | (rw [add_block]; exact hn260_0) | (show (Addr.add _ _).block ≠ _; rw [add_block]; exact hn260_0) | exact hn260_0) (.slice Ao31 t245.length co31)).trans hx260_0
                            replace hx260_1 := (cell_far (p := ⟨gb258, 0, none⟩) (by first | (rw [add_block]; exact hn260_0) | (show (Addr.add _ _).block ≠ _; rw [add_block]; exact hn260_0) | exact hn260_0) (.slice Ao31 t245.length co31)).trans hx260_1
                            replace hx260_0 := (cell_far (p := ⟨gb258, 1, none⟩) (by first | (rw [add_block]; exact hn260_1) | (show (Addr.add _ _).block ≠ _; rw [add_block]; exact hn260_1) | exact hn260_1) (.slice Ao33 t248.length co33)).trans hx260_0
                            replace hx260_1 := (cell_far (p := ⟨gb258, 1, none⟩) (by first | (rw [add_block]; exact hn260_1) | (show (Addr.add _ _).block ≠ _; rw [add_block]; exact hn260_1) | exact hn260_1) (.slice Ao33 t248.length co33)).trans hx260_1
                            replace hx260_0 := (cell_far (p := ⟨gb259, 0, none⟩) (by first | (rw [add_block]; exact hn260_2) | (show (Addr.add _ _).block ≠ _; rw [add_block]; exact hn260_2) | exact hn260_2) (.slice Ao35 t251.length co35)).trans hx260_0
                            replace hx260_1 := (cell_far (p := ⟨gb259, 0, none⟩) (by first | (rw [add_block]; exact hn260_2) | (show (Addr.add _ _).block ≠ _; rw [add_block]; exact hn260_2) | exact hn260_2) (.slice Ao35 t251.length co35)).trans hx260_1
                            replace hx260_0 := (cell_far (p := ⟨gb259, 1, none⟩) (by first | (rw [add_block]; exact hn260_3) | (show (Addr.add _ _).block ≠ _; rw [add_block]; exact hn260_3) | exact hn260_3) (.slice Ao37 t254.length co37)).trans hx260_0
                            replace hx260_1 := (cell_far (p := ⟨gb259, 1, none⟩) (by first | (rw [add_block]; exact hn260_3) | (show (Addr.add _ _).block ≠ _; rw [add_block]; exact hn260_3) | exact hn260_3) (.slice Ao37 t254.length co37)).trans hx260_1
                            clear hn260_0
                            clear hn260_1
                            clear hn260_2
                            clear hn260_3
                            replace p260 := eq_true p260
                            replace q260 := eq_true q260
                            go_wp2
                            go_meet
                            case rel => exact ⟨_, ((rd_T52 l1 x11_2).f1), (by first | rfl | (simp; done) | (simp [*]; done)), H', ⟨by have := HJ4.out; have := HK2.out; have := HJ16.out; first | omega | exact Nat.le_refl _⟩, ⟨by (with_reducible repeat (first | apply Kd.R_alloc | apply Kd.R_drewN | apply Kd.R_drew)); exact Kd.R_mono (Kd.R_far (p := ⟨gb259, 1, none⟩) (Kd.R_far (p := ⟨gb259, 0, none⟩) (Kd.R_far (p := ⟨gb258, 1, none⟩) (Kd.R_far (p := ⟨gb258, 0, none⟩) (Kd.R_types (Kd.R_types HO_244000.out BK258.out (by decide)) BK259.out (by decide)) (fun _ hk => hk.1.2) (.slice Ao31 t245.length co31)) (fun _ hk => hk.1.2) (.slice Ao33 t248.length co33)) (fun _ hk => hk.2) (.slice Ao35 t251.length co35)) (fun _ hk => hk.2) (.slice Ao37 t254.length co37)) (fun _ hk => ⟨hk.1.1.2.2.2.2, ⟨hk.1.1.1, ⟨hk.1.1.2.1, ⟨hk.1.1.2.2.1, hk.1.1.2.2.2.1⟩⟩⟩⟩)⟩, ⟨by (with_reducible repeat (first | apply Kd.R_alloc | apply Kd.R_drewN | apply Kd.R_drew)); exact Kd.R_mono (Kd.R_far (p := ⟨gb259, 1, none⟩) (Kd.R_far (p := ⟨gb259, 0, none⟩) (Kd.R_far (p := ⟨gb258, 1, none⟩) (Kd.R_far (p := ⟨gb258, 0, none⟩) (Kd.R_types (Kd.R_types HO_244001.out BK258.out (by decide)) BK259.out (by decide)) (fun _ hk => hk.1.2) (.slice Ao31 t245.length co31)) (fun _ hk => hk.1.2) (.slice Ao33 t248.length co33)) (fun _ hk => hk.2) (.slice Ao35 t251.length co35)) (fun _ hk => hk.2) (.slice Ao37 t254.length co37)) (fun _ hk => ⟨hk.1.1.2.2.2.2, ⟨hk.1.1.1, ⟨hk.1.1.2.1, ⟨hk.1.1.2.2.1, hk.1.1.2.2.2.1⟩⟩⟩⟩)⟩, ⟨by (with_reducible repeat (first | apply Kd.R_alloc | apply Kd.R_drewN | apply Kd.R_drew)); exact Kd.R_mono (Kd.R_far (p := ⟨gb259, 1, none⟩) (Kd.R_far (p := ⟨gb259, 0, none⟩) (Kd.R_far (p := ⟨gb258, 1, none⟩) (Kd.R_far (p := ⟨gb258, 0, none⟩) (Kd.R_types (Kd.R_types HO247.out BK258.out (by decide)) BK259.out (by decide)) (fun _ hk => hk.1.2) (.slice Ao31 t245.length co31)) (fun _ hk => hk.1.2) (.slice Ao33 t248.length co33)) (fun _ hk => hk.2) (.slice Ao35 t251.length co35)) (fun _ hk => hk.2) (.slice Ao37 t254.length co37)) (fun _ hk => ⟨hk.1.1.2.2.2.1, ⟨hk.1.1.2.2.2.2, ⟨hk.1.1.1, ⟨hk.1.1.2.1, hk.1.1.2.2.1⟩⟩⟩⟩)⟩, ⟨by (with_reducible repeat (first | apply Kd.R_alloc | apply Kd.R_drewN | apply Kd.R_drew)); exact Kd.R_mono (Kd.R_far (p := ⟨gb259, 1, none⟩) (Kd.R_far (p := ⟨gb259, 0, none⟩) (Kd.R_far (p := ⟨gb258, 1, none⟩) (Kd.R_far (p := ⟨gb258, 0, none⟩) (Kd.R_types (Kd.R_types HO250.out BK258.out (by decide)) BK259.out (by decide)) (fun _ hk => hk.1.2) (.slice Ao31 t245.length co31)) (fun _ hk => hk.1.2) (.slice Ao33 t248.length co33)) (fun _ hk => hk.2) (.slice Ao35 t251.length co35)) (fun _ hk => hk.2) (.slice Ao37 t254.length co37)) (fun _ hk => ⟨hk.1.1.2.2.2.1, ⟨hk.1.1.2.2.2.2, ⟨hk.1.1.1, ⟨hk.1.1.2.1, hk.1.1.2.2.1⟩⟩⟩⟩)⟩, ⟨by (with_reducible repeat (first | apply Kd.R_alloc | apply Kd.R_drewN | apply Kd.R_drew)); exact Kd.R_mono (Kd.R_far (p := ⟨gb259, 1, none⟩) (Kd.R_far (p := ⟨gb259, 0, none⟩) (Kd.R_far (p := ⟨gb258, 1, none⟩) (Kd.R_far (p := ⟨gb258, 0, none⟩) (Kd.R_types (Kd.R_types HO253.out BK258.out (by decide)) BK259.out (by decide)) (fun _ hk => hk.1.2) (.slice Ao31 t245.length co31)) (fun _ hk => hk.1.2) (.slice Ao33 t248.length co33)) (fun _ hk => hk.2) (.slice Ao35 t251.length co35)) (fun _ hk => hk.2) (.slice Ao37 t254.length co37)) (fun _ hk => ⟨hk.1.1.2.2.2.1, ⟨hk.1.1.2.2.2.2, ⟨hk.1.1.1, ⟨hk.1.1.2.1, hk.1.1.2.2.1⟩⟩⟩⟩)⟩, ⟨by (with_reducible repeat (first | apply Kd.R_alloc | apply Kd.R_drewN | apply Kd.R_drew)); exact Kd.R_mono (Kd.R_far (p := ⟨gb259, 1, none⟩) (Kd.R_far (p := ⟨gb259, 0, none⟩) (Kd.R_far (p := ⟨gb258, 1, none⟩) (Kd.R_far (p := ⟨gb258, 0, none⟩) (Kd.R_types (Kd.R_types HO256.out BK258.out (by decide)) BK259.out (by decide)) (fun _ hk => hk.1.2) (.slice Ao31 t245.length co31)) (fun _ hk => hk.1.2) (.slice Ao33 t248.length co33)) (fun _ hk => hk.2) (.slice Ao35 t251.length co35)) (fun _ hk => hk.2) (.slice Ao37 t254.length co37)) (fun _ hk => ⟨hk.1.1.2.2.2.1, ⟨hk.1.1.2.2.2.2, ⟨hk.1.1.1, ⟨hk.1.1.2.1, hk.1.1.2.2.1⟩⟩⟩⟩)⟩, ⟨by (with_reducible repeat (first | refine blk_drewN ?_ _ | refine blk_drew ?_ | refine blk_alloc ?_ _)); refine blk_far ?_ NB243_259.out _; (with_reducible repeat (first | refine blk_drewN ?_ _ | refine blk_drew ?_ | refine blk_alloc ?_ _)); refine blk_far ?_ NB243_259.out _; (with_reducible repeat (first | refine blk_drewN ?_ _ | refine blk_drew ?_ | refine blk_alloc ?_ _)); refine blk_far ?_ NB243_258.out _; (with_reducible repeat (first | refine blk_drewN ?_ _ | refine blk_drew ?_ | refine blk_alloc ?_ _)); refine blk_far ?_ NB243_258.out _; (with_reducible repeat (first | refine blk_drewN ?_ _ | refine blk_drew ?_ | refine blk_alloc ?_ _)); exact BK243.out⟩, ⟨by (with_reducible repeat (first | refine blk_drewN ?_ _ | refine blk_drew ?_ | refine blk_alloc ?_ _)); refine blk_far ?_ NB258_259.out _; (with_reducible repeat (first | refine blk_drewN ?_ _ | refine blk_drew ?_ | refine blk_alloc ?_ _)); refine blk_far ?_ NB258_259.out _; (with_reducible repeat (first | refine blk_drewN ?_ _ | refine blk_drew ?_ | refine blk_alloc ?_ _)); refine blk_put (cs := #[.slice Ao31 t245.length co31, .slice none 0 0]) ?_ 1 _ rfl; (with_reducible repeat (first | refine blk_drewN ?_ _ | refine blk_drew ?_ | refine blk_alloc ?_ _)); refine blk_put (cs := #[.slice none 0 0, .slice none 0 0]) ?_ 0 _ rfl; (with_reducible repeat (first | refine blk_drewN ?_ _ | refine blk_drew ?_ | refine blk_alloc ?_ _)); exact BK258.out⟩, ⟨by (with_reducible repeat (first | refine blk_drewN ?_ _ | refine blk_drew ?_ | refine blk_alloc ?_ _)); refine blk_put (cs := #[.slice Ao35 t251.length co35, .slice none 0 0]) ?_ 1 _ rfl; (with_reducible repeat (first | refine blk_drewN ?_ _ | refine blk_drew ?_ | refine blk_alloc ?_ _)); refine blk_put (cs := #[.slice none 0 0, .slice none 0 0]) ?_ 0 _ rfl; (with_reducible repeat (first | refine blk_drewN ?_ _ | refine blk_drew ?_ | refine blk_alloc ?_ _)); refine blk_far ?_ NB259_258.out _; (with_reducible repeat (first | refine blk_drewN ?_ _ | refine blk_drew ?_ | refine blk_alloc ?_ _)); refine blk_far ?_ NB259_258.out _; (with_reducible repeat (first | refine blk_drewN ?_ _ | refine blk_drew ?_ | refine blk_alloc ?_ _)); exact BK259.out⟩, ⟨by repeat (first | (with_reducible first | exact HB.out | apply below_alloc | apply pw_below_drewN | apply below_drew1 | refine below_set ?_ GE243.out | refine below_set ?_ GE258.out | refine below_set ?_ GE259.out) | exact HB.out)⟩⟩
                          · rw [if_neg c39] at H
                            have c39b0 : (t257 == 0) = false := beq_eq_false_iff_ne.mpr c39
                            have c39b1 : (t257 != 0) = true := bne_iff_ne.mpr c39
                            (first | rw [c39b0] | (simp only [i64_w, i32_w]; rw [c39b0]) | skip)
                            have H' := Aside0.mk H
                            clear H
                            go_wp2
                            go_meet
                            case rel => exact ⟨_, (false), (by first | rfl | (simp; done) | (simp [*]; done)), H', ⟨by have := HJ4.out; have := HK2.out; have := HJ16.out; first | omega | exact Nat.le_refl _⟩, ⟨by (with_reducible repeat (first | apply Kd.R_alloc | apply Kd.R_drewN | apply Kd.R_drew)); exact Kd.R_mono (Kd.R_far (p := ⟨gb259, 1, none⟩) (Kd.R_far (p := ⟨gb259, 0, none⟩) (Kd.R_far (p := ⟨gb258, 1, none⟩) (Kd.R_far (p := ⟨gb258, 0, none⟩) (Kd.R_types (Kd.R_types HO_244000.out BK258.out (by decide)) BK259.out (by decide)) (fun _ hk => hk.1.2) (.slice Ao31 t245.length co31)) (fun _ hk => hk.1.2) (.slice Ao33 t248.length co33)) (fun _ hk => hk.2) (.slice Ao35 t251.length co35)) (fun _ hk => hk.2) (.slice Ao37 t254.length co37)) (fun _ hk => ⟨hk.1.1.2.2.2.2, ⟨hk.1.1.1, ⟨hk.1.1.2.1, ⟨hk.1.1.2.2.1, hk.1.1.2.2.2.1⟩⟩⟩⟩)⟩, ⟨by (with_reducible repeat (first | apply Kd.R_alloc | apply Kd.R_drewN | apply Kd.R_drew)); exact Kd.R_mono (Kd.R_far (p := ⟨gb259, 1, none⟩) (Kd.R_far (p := ⟨gb259, 0, none⟩) (Kd.R_far (p := ⟨gb258, 1, none⟩) (Kd.R_far (p := ⟨gb258, 0, none⟩) (Kd.R_types (Kd.R_types HO_244001.out BK258.out (by decide)) BK259.out (by decide)) (fun _ hk => hk.1.2) (.slice Ao31 t245.length co31)) (fun _ hk => hk.1.2) (.slice Ao33 t248.length co33)) (fun _ hk => hk.2) (.slice Ao35 t251.length co35)) (fun _ hk => hk.2) (.slice Ao37 t254.length co37)) (fun _ hk => ⟨hk.1.1.2.2.2.2, ⟨hk.1.1.1, ⟨hk.1.1.2.1, ⟨hk.1.1.2.2.1, hk.1.1.2.2.2.1⟩⟩⟩⟩)⟩, ⟨by (with_reducible repeat (first | apply Kd.R_alloc | apply Kd.R_drewN | apply Kd.R_drew)); exact Kd.R_mono (Kd.R_far (p := ⟨gb259, 1, none⟩) (Kd.R_far (p := ⟨gb259, 0, none⟩) (Kd.R_far (p := ⟨gb258, 1, none⟩) (Kd.R_far (p := ⟨gb258, 0, none⟩) (Kd.R_types (Kd.R_types HO247.out BK258.out (by decide)) BK259.out (by decide)) (fun _ hk => hk.1.2) (.slice Ao31 t245.length co31)) (fun _ hk => hk.1.2) (.slice Ao33 t248.length co33)) (fun _ hk => hk.2) (.slice Ao35 t251.length co35)) (fun _ hk => hk.2) (.slice Ao37 t254.length co37)) (fun _ hk => ⟨hk.1.1.2.2.2.1, ⟨hk.1.1.2.2.2.2, ⟨hk.1.1.1, ⟨hk.1.1.2.1, hk.1.1.2.2.1⟩⟩⟩⟩)⟩, ⟨by (with_reducible repeat (first | apply Kd.R_alloc | apply Kd.R_drewN | apply Kd.R_drew)); exact Kd.R_mono (Kd.R_far (p := ⟨gb259, 1, none⟩) (Kd.R_far (p := ⟨gb259, 0, none⟩) (Kd.R_far (p := ⟨gb258, 1, none⟩) (Kd.R_far (p := ⟨gb258, 0, none⟩) (Kd.R_types (Kd.R_types HO250.out BK258.out (by decide)) BK259.out (by decide)) (fun _ hk => hk.1.2) (.slice Ao31 t245.length co31)) (fun _ hk => hk.1.2) (.slice Ao33 t248.length co33)) (fun _ hk => hk.2) (.slice Ao35 t251.length co35)) (fun _ hk => hk.2) (.slice Ao37 t254.length co37)) (fun _ hk => ⟨hk.1.1.2.2.2.1, ⟨hk.1.1.2.2.2.2, ⟨hk.1.1.1, ⟨hk.1.1.2.1, hk.1.1.2.2.1⟩⟩⟩⟩)⟩, ⟨by (with_reducible repeat (first | apply Kd.R_alloc | apply Kd.R_drewN | apply Kd.R_drew)); exact Kd.R_mono (Kd.R_far (p := ⟨gb259, 1, none⟩) (Kd.R_far (p := ⟨gb259, 0, none⟩) (Kd.R_far (p := ⟨gb258, 1, none⟩) (Kd.R_far (p := ⟨gb258, 0, none⟩) (Kd.R_types (Kd.R_types HO253.out BK258.out (by decide)) BK259.out (by decide)) (fun _ hk => hk.1.2) (.slice Ao31 t245.length co31)) (fun _ hk => hk.1.2) (.slice Ao33 t248.length co33)) (fun _ hk => hk.2) (.slice Ao35 t251.length co35)) (fun _ hk => hk.2) (.slice Ao37 t254.length co37)) (fun _ hk => ⟨hk.1.1.2.2.2.1, ⟨hk.1.1.2.2.2.2, ⟨hk.1.1.1, ⟨hk.1.1.2.1, hk.1.1.2.2.1⟩⟩⟩⟩)⟩, ⟨by (with_reducible repeat (first | apply Kd.R_alloc | apply Kd.R_drewN | apply Kd.R_drew)); exact Kd.R_mono (Kd.R_far (p := ⟨gb259, 1, none⟩) (Kd.R_far (p := ⟨gb259, 0, none⟩) (Kd.R_far (p := ⟨gb258, 1, none⟩) (Kd.R_far (p := ⟨gb258, 0, none⟩) (Kd.R_types (Kd.R_types HO256.out BK258.out (by decide)) BK259.out (by decide)) (fun _ hk => hk.1.2) (.slice Ao31 t245.length co31)) (fun _ hk => hk.1.2) (.slice Ao33 t248.length co33)) (fun _ hk => hk.2) (.slice Ao35 t251.length co35)) (fun _ hk => hk.2) (.slice Ao37 t254.length co37)) (fun _ hk => ⟨hk.1.1.2.2.2.1, ⟨hk.1.1.2.2.2.2, ⟨hk.1.1.1, ⟨hk.1.1.2.1, hk.1.1.2.2.1⟩⟩⟩⟩)⟩, ⟨by (with_reducible repeat (first | refine blk_drewN ?_ _ | refine blk_drew ?_ | refine blk_alloc ?_ _)); refine blk_far ?_ NB243_259.out _; (with_reducible repeat (first | refine blk_drewN ?_ _ | refine blk_drew ?_ | refine blk_alloc ?_ _)); refine blk_far ?_ NB243_259.out _; (with_reducible repeat (first | refine blk_drewN ?_ _ | refine blk_drew ?_ | refine blk_alloc ?_ _)); refine blk_far ?_ NB243_258.out _; (with_reducible repeat (first | refine blk_drewN ?_ _ | refine blk_drew ?_ | refine blk_alloc ?_ _)); refine blk_far ?_ NB243_258.out _; (with_reducible repeat (first | refine blk_drewN ?_ _ | refine blk_drew ?_ | refine blk_alloc ?_ _)); exact BK243.out⟩, ⟨by (with_reducible repeat (first | refine blk_drewN ?_ _ | refine blk_drew ?_ | refine blk_alloc ?_ _)); refine blk_far ?_ NB258_259.out _; (with_reducible repeat (first | refine blk_drewN ?_ _ | refine blk_drew ?_ | refine blk_alloc ?_ _)); refine blk_far ?_ NB258_259.out _; (with_reducible repeat (first | refine blk_drewN ?_ _ | refine blk_drew ?_ | refine blk_alloc ?_ _)); refine blk_put (cs := #[.slice Ao31 t245.length co31, .slice none 0 0]) ?_ 1 _ rfl; (with_reducible repeat (first | refine blk_drewN ?_ _ | refine blk_drew ?_ | refine blk_alloc ?_ _)); refine blk_put (cs := #[.slice none 0 0, .slice none 0 0]) ?_ 0 _ rfl; (with_reducible repeat (first | refine blk_drewN ?_ _ | refine blk_drew ?_ | refine blk_alloc ?_ _)); exact BK258.out⟩, ⟨by (with_reducible repeat (first | refine blk_drewN ?_ _ | refine blk_drew ?_ | refine blk_alloc ?_ _)); refine blk_put (cs := #[.slice Ao35 t251.length co35, .slice none 0 0]) ?_ 1 _ rfl; (with_reducible repeat (first | refine blk_drewN ?_ _ | refine blk_drew ?_ | refine blk_alloc ?_ _)); refine blk_put (cs := #[.slice none 0 0, .slice none 0 0]) ?_ 0 _ rfl; (with_reducible repeat (first | refine blk_drewN ?_ _ | refine blk_drew ?_ | refine blk_alloc ?_ _)); refine blk_far ?_ NB259_258.out _; (with_reducible repeat (first | refine blk_drewN ?_ _ | refine blk_drew ?_ | refine blk_alloc ?_ _)); refine blk_far ?_ NB259_258.out _; (with_reducible repeat (first | refine blk_drewN ?_ _ | refine blk_drew ?_ | refine blk_alloc ?_ _)); exact BK259.out⟩, ⟨by repeat (first | (with_reducible first | exact HB.out | apply below_alloc | apply pw_below_drewN | apply below_drew1 | refine below_set ?_ GE243.out | refine below_set ?_ GE258.out | refine below_set ?_ GE259.out) | exact HB.out)⟩⟩
                        case rest =>
                          clear HC23
                          try clear c1
                          try clear p2
                          try clear q2
                          try clear hx2
                          try clear c3
                          try clear c15
                          try clear p26
                          try clear q26
                          try clear hx26
                          try clear c39
                          try clear c39b0
                          try clear c39b1
                          try clear hx260_0
                          try clear hx260_1
                          try clear p260
                          try clear q260
                          obtain ⟨kq, x63_22, rfl, HA, HJ22, HO_244000, HO_244001, HO_259000, HO_259001, HO_260000, HO_260001, BK243, BK258, BK259, HB⟩ := hcut
                          cases kq with
                          | zero => exact absurd HA.out (by simp [ambitlaw18_SplitEnds.j3])
                          | succ kj22 =>
                            have H := HA.out
                            clear HA
                            simp only [ambitlaw18_SplitEnds.j3] at H
                            by_cases c40 : x63_22 = true
                            · subst c40
                              have H1 : (ambitlaw18_SplitEnds.l0 kj22 a0 l1 l2 a3 (wrap64 (x11_2 + 1)) t251 t254) = some r := by rw [if_pos rfl] at H; exact H
                              clear H
                              have H := H1
                              clear H1
                              have H' := Aside0.mk H
                              clear H
                              have hnb41 := NB259_243.out
                              have hnc41 := NB243_259.out
                              have hnb42 := NB259_258.out
                              have hnc42 := NB258_259.out
                              have hcz43_0 : wc.cell? ⟨gb259, 0, none⟩ = some (.slice Ao35 t251.length co35) := (blk_cell BK259.out 0).trans rfl
                              have hcz43_1 : wc.cell? ⟨gb259, 1, none⟩ = some (.slice Ao37 t254.length co37) := (blk_cell BK259.out 1).trans rfl
                              have hfz43_0 := blk_frozen BK259.out 0
                              have hfz43_1 := blk_frozen BK259.out 1
                              have hnb44 := NB243_258.out
                              have hnc44 := NB258_243.out
                              have hcz45_0 : wc.cell? ⟨gb243, 0, none⟩ = some (.slice Ao24 x244000_2.length co24) := (blk_cell BK243.out 0).trans rfl
                              have hcz45_1 : wc.cell? ⟨gb243, 1, none⟩ = some (.slice Ao25 x244001_2.length co25) := (blk_cell BK243.out 1).trans rfl
                              have hfz45_0 := blk_frozen BK243.out 0
                              have hfz45_1 := blk_frozen BK243.out 1
                              go_wp2
                              go_roundg kj22
                              case measure => have := HJ4.out; have := HK2.out; have := HJ16.out; have := HJ22.out; omega
                              case rel => exact ⟨(wrap64 (x11_2 + 1)), (t251), (t254), (.slice Ao35 t251.length co35), (.slice Ao37 t254.length co37), (by first | rfl | (simp; done) | (simp [*]; done)), H', ⟨by have := HJ4.out; have := HK2.out; have := HJ16.out; have := HJ22.out; omega⟩, ⟨by (with_reducible repeat (first | apply Kd.R_alloc | apply Kd.R_drewN | apply Kd.R_drew)); exact Kd.R_mono (Kd.R_far (p := ⟨gb243, 1, none⟩) (Kd.R_far (p := ⟨gb243, 0, none⟩) (Kd.R_types HO_260000.out BK243.out (by decide)) (fun _ hk => hk.2) (.slice Ao35 t251.length co35)) (fun _ hk => hk.2) (.slice Ao37 t254.length co37)) (fun _ hk => hk.1.2.2.2.2)⟩, ⟨by (with_reducible repeat (first | apply Kd.R_alloc | apply Kd.R_drewN | apply Kd.R_drew)); exact Kd.R_mono (Kd.R_far (p := ⟨gb243, 1, none⟩) (Kd.R_far (p := ⟨gb243, 0, none⟩) (Kd.R_types HO_260001.out BK243.out (by decide)) (fun _ hk => hk.2) (.slice Ao35 t251.length co35)) (fun _ hk => hk.2) (.slice Ao37 t254.length co37)) (fun _ hk => hk.1.2.2.2.2)⟩, ⟨by (with_reducible repeat (first | refine blk_drewN ?_ _ | refine blk_drew ?_ | refine blk_alloc ?_ _)); refine blk_put (cs := #[.slice Ao35 t251.length co35, .slice Ao25 x244001_2.length co25]) ?_ 1 _ rfl; (with_reducible repeat (first | refine blk_drewN ?_ _ | refine blk_drew ?_ | refine blk_alloc ?_ _)); refine blk_put (cs := #[.slice Ao24 x244000_2.length co24, .slice Ao25 x244001_2.length co25]) ?_ 0 _ rfl; (with_reducible repeat (first | refine blk_drewN ?_ _ | refine blk_drew ?_ | refine blk_alloc ?_ _)); exact BK243.out⟩, ⟨by repeat (first | (with_reducible first | exact HB.out | apply below_alloc | apply pw_below_drewN | apply below_drew1 | refine below_set ?_ GE243.out | refine below_set ?_ GE258.out | refine below_set ?_ GE259.out) | exact HB.out)⟩⟩
                            · replace c40 := Bool.eq_false_iff.mpr c40
                              subst c40
                              have H1 : (if t257 = 0 then (ambitlaw18_SplitEnds.l0 kj22 a0 l1 l2 a3 (wrap64 (x11_2 + 1)) t245 t248) else (ambitlaw18_SplitEnds.l0 kj22 a0 l1 l2 a3 (wrap64 (x11_2 + 1)) x244000_2 x244001_2)) = some r := by rw [if_neg (show ¬ (false = true) by decide)] at H; exact H
                              clear H
                              have H := H1
                              clear H1
                              by_cases c46 : t257 = 0
                              · rw [if_pos c46] at H
                                have c46b0 : (t257 == 0) = true := beq_iff_eq.mpr c46
                                have c46b1 : (t257 != 0) = false := bne_eq_false_iff_eq.mpr c46
                                clear c46
                                have H' := Aside0.mk H
                                clear H
                                have hnb47 := NB258_243.out
                                have hnc47 := NB243_258.out
                                have hnb48 := NB258_259.out
                                have hnc48 := NB259_258.out
                                have hcz49_0 : wc.cell? ⟨gb258, 0, none⟩ = some (.slice Ao31 t245.length co31) := (blk_cell BK258.out 0).trans rfl
                                have hcz49_1 : wc.cell? ⟨gb258, 1, none⟩ = some (.slice Ao33 t248.length co33) := (blk_cell BK258.out 1).trans rfl
                                have hfz49_0 := blk_frozen BK258.out 0
                                have hfz49_1 := blk_frozen BK258.out 1
                                have hnb50 := NB243_259.out
                                have hnc50 := NB259_243.out
                                have hcz51_0 : wc.cell? ⟨gb243, 0, none⟩ = some (.slice Ao24 x244000_2.length co24) := (blk_cell BK243.out 0).trans rfl
                                have hcz51_1 : wc.cell? ⟨gb243, 1, none⟩ = some (.slice Ao25 x244001_2.length co25) := (blk_cell BK243.out 1).trans rfl
                                have hfz51_0 := blk_frozen BK243.out 0
                                have hfz51_1 := blk_frozen BK243.out 1
                                go_wp2
                                go_roundg kj22
                                case measure => have := HJ4.out; have := HK2.out; have := HJ16.out; have := HJ22.out; omega
                                case rel => exact ⟨(wrap64 (x11_2 + 1)), (t245), (t248), (.slice Ao31 t245.length co31), (.slice Ao33 t248.length co33), (by first | rfl | (simp; done) | (simp [*]; done)), H', ⟨by have := HJ4.out; have := HK2.out; have := HJ16.out; have := HJ22.out; omega⟩, ⟨by (with_reducible repeat (first | apply Kd.R_alloc | apply Kd.R_drewN | apply Kd.R_drew)); exact Kd.R_mono (Kd.R_far (p := ⟨gb243, 1, none⟩) (Kd.R_far (p := ⟨gb243, 0, none⟩) (Kd.R_types HO_259000.out BK243.out (by decide)) (fun _ hk => hk.2) (.slice Ao31 t245.length co31)) (fun _ hk => hk.2) (.slice Ao33 t248.length co33)) (fun _ hk => hk.1.2.2.1)⟩, ⟨by (with_reducible repeat (first | apply Kd.R_alloc | apply Kd.R_drewN | apply Kd.R_drew)); exact Kd.R_mono (Kd.R_far (p := ⟨gb243, 1, none⟩) (Kd.R_far (p := ⟨gb243, 0, none⟩) (Kd.R_types HO_259001.out BK243.out (by decide)) (fun _ hk => hk.2) (.slice Ao31 t245.length co31)) (fun _ hk => hk.2) (.slice Ao33 t248.length co33)) (fun _ hk => hk.1.2.2.1)⟩, ⟨by (with_reducible repeat (first | refine blk_drewN ?_ _ | refine blk_drew ?_ | refine blk_alloc ?_ _)); refine blk_put (cs := #[.slice Ao31 t245.length co31, .slice Ao25 x244001_2.length co25]) ?_ 1 _ rfl; (with_reducible repeat (first | refine blk_drewN ?_ _ | refine blk_drew ?_ | refine blk_alloc ?_ _)); refine blk_put (cs := #[.slice Ao24 x244000_2.length co24, .slice Ao25 x244001_2.length co25]) ?_ 0 _ rfl; (with_reducible repeat (first | refine blk_drewN ?_ _ | refine blk_drew ?_ | refine blk_alloc ?_ _)); exact BK243.out⟩, ⟨by repeat (first | (with_reducible first | exact HB.out | apply below_alloc | apply pw_below_drewN | apply below_drew1 | refine below_set ?_ GE243.out | refine below_set ?_ GE258.out | refine below_set ?_ GE259.out) | exact HB.out)⟩⟩
                              · rw [if_neg c46] at H
                                have c46b0 : (t257 == 0) = false := beq_eq_false_iff_ne.mpr c46
                                have c46b1 : (t257 != 0) = true := bne_iff_ne.mpr c46
                                have H' := Aside0.mk H
                                clear H
                                go_wp2
                                go_roundg kj22
                                case measure => have := HJ4.out; have := HK2.out; have := HJ16.out; have := HJ22.out; omega
                                case rel => exact ⟨(wrap64 (x11_2 + 1)), (x244000_2), (x244001_2), (.slice Ao24 x244000_2.length co24), (.slice Ao25 x244001_2.length co25), (by first | rfl | (simp; done) | (simp [*]; done)), H', ⟨by have := HJ4.out; have := HK2.out; have := HJ16.out; have := HJ22.out; omega⟩, ⟨by (with_reducible repeat (first | apply Kd.R_alloc | apply Kd.R_drewN | apply Kd.R_drew)); exact Kd.R_mono HO_244000.out (fun _ hk => hk.1)⟩, ⟨by (with_reducible repeat (first | apply Kd.R_alloc | apply Kd.R_drewN | apply Kd.R_drew)); exact Kd.R_mono HO_244001.out (fun _ hk => hk.1)⟩, ⟨by (with_reducible repeat (first | refine blk_drewN ?_ _ | refine blk_drew ?_ | refine blk_alloc ?_ _)); exact BK243.out⟩, ⟨by repeat (first | (with_reducible first | exact HB.out | apply below_alloc | apply pw_below_drewN | apply below_drew1 | refine below_set ?_ GE243.out | refine below_set ?_ GE258.out | refine below_set ?_ GE259.out) | exact HB.out)⟩⟩
                      · rw [if_neg c21] at H
                        exact absurd H (by simp)
                    · rw [if_neg c20] at H
                      exact absurd H (by simp)
                  · replace c19 := Bool.eq_false_iff.mpr c19
                    subst c19
                    have H1 : ((split_Ends.f kj16 x244000_2 x244001_2 l2 a3).bind fun bt261 => (if bt261.2 = 0 then ((split_Ends.f kj16 x244000_2 x244001_2 l2 8).bind fun bt266 => (if a3 < 0 then (none) else (if a3 > 8 then (none) else (if bt266.2 = 0 then (if (bt261.1.length : Int) = a0 then (if (bt266.1.length : Int) = a0 then ((split_Within.f x244000_2 x244001_2 bt261.1 a3).bind fun t270 => (if t270 = true then (ambitlaw18_SplitEnds.l1 kj16 a0 a3 bt261.1 bt266.1 0) else (none))) else (none)) else (none)) else (none))))) else ((ambitlaw18_awake.f kj16).bind fun t265 => (some t265)))) = some r := by rw [if_neg (show ¬ (false = true) by decide)] at H; exact H
                    clear H
                    have H := H1
                    clear H1
                    replace H := Option.bind_eq_some_iff.mp H
                    obtain ⟨⟨t261, t264⟩, A520, H⟩ := H
                    replace H : (if t264 = 0 then ((split_Ends.f kj16 x244000_2 x244001_2 l2 8).bind fun bt266 => (if a3 < 0 then (none) else (if a3 > 8 then (none) else (if bt266.2 = 0 then (if (t261.length : Int) = a0 then (if (bt266.1.length : Int) = a0 then ((split_Within.f x244000_2 x244001_2 t261 a3).bind fun t270 => (if t270 = true then (ambitlaw18_SplitEnds.l1 kj16 a0 a3 t261 bt266.1 0) else (none))) else (none)) else (none)) else (none))))) else ((ambitlaw18_awake.f kj16).bind fun t265 => (some t265))) = some r := H
                    have A52 := Aside0.mk A520
                    clear A520
                    by_cases c53 : t264 = 0
                    · rw [if_pos c53] at H
                      have c53b0 : (t264 == 0) = true := beq_iff_eq.mpr c53
                      have c53b1 : (t264 != 0) = false := bne_eq_false_iff_eq.mpr c53
                      clear c53
                      replace H := Option.bind_eq_some_iff.mp H
                      obtain ⟨⟨t266, t269⟩, A540, H⟩ := H
                      replace H : (if a3 < 0 then (none) else (if a3 > 8 then (none) else (if t269 = 0 then (if (t261.length : Int) = a0 then (if (t266.length : Int) = a0 then ((split_Within.f x244000_2 x244001_2 t261 a3).bind fun t270 => (if t270 = true then (ambitlaw18_SplitEnds.l1 kj16 a0 a3 t261 t266 0) else (none))) else (none)) else (none)) else (none)))) = some r := H
                      have A54 := Aside0.mk A540
                      clear A540
                      by_cases c55 : a3 < 0
                      · rw [if_pos c55] at H
                        exact absurd H (by simp)
                      · rw [if_neg c55] at H
                        have c55b0 : decide (a3 < 0) = false := decide_eq_false c55
                        clear c55
                        by_cases c56 : a3 > 8
                        · rw [if_pos c56] at H
                          exact absurd H (by simp)
                        · rw [if_neg c56] at H
                          have c56b0 : decide (8 < a3) = false := decide_eq_false c56
                          clear c56
                          by_cases c57 : t269 = 0
                          · rw [if_pos c57] at H
                            have c57b0 : (t269 == 0) = true := beq_iff_eq.mpr c57
                            have c57b1 : (t269 != 0) = false := bne_eq_false_iff_eq.mpr c57
                            clear c57
                            by_cases c58 : (t261.length : Int) = a0
                            · rw [if_pos c58] at H
                              have c58b0 : ((t261.length : Int) == a0) = true := beq_iff_eq.mpr c58
                              have c58b1 : ((t261.length : Int) != a0) = false := bne_eq_false_iff_eq.mpr c58
                              clear c58
                              by_cases c59 : (t266.length : Int) = a0
                              · rw [if_pos c59] at H
                                have c59b0 : ((t266.length : Int) == a0) = true := beq_iff_eq.mpr c59
                                have c59b1 : ((t266.length : Int) != a0) = false := bne_eq_false_iff_eq.mpr c59
                                clear c59
                                replace H := Option.bind_eq_some_iff.mp H
                                obtain ⟨t270, A600, H⟩ := H
                                replace H : (if t270 = true then (ambitlaw18_SplitEnds.l1 kj16 a0 a3 t261 t266 0) else (none)) = some r := H
                                have A60 := Aside0.mk A600
                                clear A600
                                by_cases c61 : t270 = true
                                · subst c61
                                  have H1 : (ambitlaw18_SplitEnds.l1 kj16 a0 a3 t261 t266 0) = some r := by rw [if_pos rfl] at H; exact H
                                  clear H
                                  have H := H1
                                  clear H1
                                  have H' := Aside0.mk H
                                  clear H
                                  have hcz62_0 : wc.cell? ⟨gb243, 0, none⟩ = some (u244000) := (blk_cell BK243.out 0).trans rfl
                                  have hcz62_1 : wc.cell? ⟨gb243, 1, none⟩ = some (u244001) := (blk_cell BK243.out 1).trans rfl
                                  have hfz62_0 := blk_frozen BK243.out 0
                                  have hfz62_1 := blk_frozen BK243.out 1
                                  obtain ⟨Ao63, co63, eo63⟩ := Kd.R_slice HO_244000.out
                                  subst eo63
                                  obtain ⟨Ao64, co64, eo64⟩ := Kd.R_slice HO_244001.out
                                  subst eo64
                                  go_wp2_with (first | ((with_reducible refine gate_callee (f := 21) rfl ?_); refine goesL_ (some 72) rfl rfl Try.func21 (by kernel_rfl) rfl #[.agg #[.slice Ao63 x244000_2.length co63, .slice Ao64 x244001_2.length co64], .slice A2 l2.length c2, .int .i64 a3] rfl (by (try simp only [List.map_toArray, List.map_cons, List.map_nil]); first | done | rfl | (simp only [List.length_drop, List.length_take]; rfl)) ?_; (with_reducible refine (split_Ends.calls kj16 _ _ x244000_2 _ _ x244001_2 _ _ l2 a3 t261 t264 _ ?side1 ?side2 ?side3 ?side4 ?side5 ?side6 A52.out).mono ?_); (case side1 => repeat (first | exact (Kd.R_reads' HO_244000.out).2.2 | (with_reducible refine Kd.C_alloc ?_ _) | (with_reducible refine Kd.C_drewN ?_ _) | (with_reducible refine Kd.C_drew ?_))); (case side2 => exact (Kd.R_reads' HO_244000.out).2.1); (case side3 => repeat (first | exact (Kd.R_reads' HO_244001.out).2.2 | (with_reducible refine Kd.C_alloc ?_ _) | (with_reducible refine Kd.C_drewN ?_ _) | (with_reducible refine Kd.C_drew ?_))); (case side4 => exact (Kd.R_reads' HO_244001.out).2.1); (case side5 => repeat (first | exact (Kd.C_below HR2.out HB.out) | (with_reducible refine Kd.C_alloc ?_ _) | (with_reducible refine Kd.C_drewN ?_ _) | (with_reducible refine Kd.C_drew ?_))); (case side6 => exact HC2.out); rintro e w65 ⟨v262, rfl, ho0, hb⟩; refine ⟨_, rfl, ?_⟩; have n0_ := Aside0.mk (Kd.R_elder' (by (with_reducible repeat (first | apply Kd.R_alloc | apply Kd.R_drewN | apply Kd.R_drew)); exact HO_244000.out) (Kd.R_base ho0) hb); have n1_ := Aside0.mk (Kd.R_elder' (by (with_reducible repeat (first | apply Kd.R_alloc | apply Kd.R_drewN | apply Kd.R_drew)); exact HO_244001.out) (Kd.R_base ho0) hb); have n2_ := Aside0.mk (Kd.R_lower (Kd.R_new' (Kd.R_new' ho0 (Kd.R_lt (by (with_reducible repeat (first | apply Kd.R_alloc | apply Kd.R_drewN | apply Kd.R_drew)); exact HO_244000.out))) (Kd.R_lt (by (with_reducible repeat (first | apply Kd.R_alloc | apply Kd.R_drewN | apply Kd.R_drew)); exact HO_244001.out))) (below_size (by repeat (first | (with_reducible first | exact HB.out | apply below_alloc | apply pw_below_drewN | apply below_drew1 | refine below_set ?_ GE243.out) | exact HB.out)))); have n3_ := Aside0.mk (blk_below (g := gb243) (o := .cells #[.slice Ao63 x244000_2.length co63, .slice Ao64 x244001_2.length co64] 24 (0, 0)) (by (with_reducible repeat (first | refine blk_drewN ?_ _ | refine blk_drew ?_ | refine blk_alloc ?_ _)); exact BK243.out) hb); have n4_ := Aside0.mk (below_step (by repeat (first | (with_reducible first | exact HB.out | apply below_alloc | apply pw_below_drewN | apply below_drew1 | refine below_set ?_ GE243.out) | exact HB.out)) hb); clear HO_244000; clear HO_244001; clear BK243; clear HB; have HO_244000 := n0_; have HO_244001 := n1_; have HO263 := n2_; have BK243 := n3_; have HB := n4_; clear n0_ n1_ n2_ n3_ n4_; (try clear hb); (try clear hb2); (try clear hk); (try clear hi); (try clear ho0); have hcz66_0 : w65.cell? ⟨gb243, 0, none⟩ = some (.slice Ao63 x244000_2.length co63) := (blk_cell BK243.out 0).trans rfl; have hcz66_1 : w65.cell? ⟨gb243, 1, none⟩ = some (.slice Ao64 x244001_2.length co64) := (blk_cell BK243.out 1).trans rfl; have hfz66_0 := blk_frozen BK243.out 0; have hfz66_1 := blk_frozen BK243.out 1) | ((with_reducible refine gate_callee (f := 21) rfl ?_); refine goesL_ (some 81) rfl rfl Try.func21 (by kernel_rfl) rfl #[.agg #[.slice Ao63 x244000_2.length co63, .slice Ao64 x244001_2.length co64], .slice A2 l2.length c2, .int .i64 8] rfl (by (try simp only [List.map_toArray, List.map_cons, List.map_nil]); first | done | rfl | (simp only [List.length_drop, List.length_take]; rfl)) ?_; (with_reducible refine (split_Ends.calls kj16 _ _ x244000_2 _ _ x244001_2 _ _ l2 8 t266 t269 _ ?side1 ?side2 ?side3 ?side4 ?side5 ?side6 A54.out).mono ?_); (case side1 => repeat (first | exact (Kd.R_reads' HO_244000.out).2.2 | (with_reducible refine Kd.C_alloc ?_ _) | (with_reducible refine Kd.C_drewN ?_ _) | (with_reducible refine Kd.C_drew ?_))); (case side2 => exact (Kd.R_reads' HO_244000.out).2.1); (case side3 => repeat (first | exact (Kd.R_reads' HO_244001.out).2.2 | (with_reducible refine Kd.C_alloc ?_ _) | (with_reducible refine Kd.C_drewN ?_ _) | (with_reducible refine Kd.C_drew ?_))); (case side4 => exact (Kd.R_reads' HO_244001.out).2.1); (case side5 => repeat (first | exact (Kd.C_below HR2.out HB.out) | (with_reducible refine Kd.C_alloc ?_ _) | (with_reducible refine Kd.C_drewN ?_ _) | (with_reducible refine Kd.C_drew ?_))); (case side6 => exact HC2.out); rintro e w67 ⟨v267, rfl, ho0, hb⟩; refine ⟨_, rfl, ?_⟩; have n0_ := Aside0.mk (Kd.R_elder' (by (with_reducible repeat (first | apply Kd.R_alloc | apply Kd.R_drewN | apply Kd.R_drew)); exact HO_244000.out) (Kd.R_base ho0) hb); have n1_ := Aside0.mk (Kd.R_elder' (by (with_reducible repeat (first | apply Kd.R_alloc | apply Kd.R_drewN | apply Kd.R_drew)); exact HO_244001.out) (Kd.R_base ho0) hb); have n2_ := Aside0.mk (Kd.R_elder' (by (with_reducible repeat (first | apply Kd.R_alloc | apply Kd.R_drewN | apply Kd.R_drew)); exact HO263.out) (Kd.R_base ho0) hb); have n3_ := Aside0.mk (Kd.R_lower (Kd.R_new' (Kd.R_new' (Kd.R_new' ho0 (Kd.R_lt (by (with_reducible repeat (first | apply Kd.R_alloc | apply Kd.R_drewN | apply Kd.R_drew)); exact HO_244000.out))) (Kd.R_lt (by (with_reducible repeat (first | apply Kd.R_alloc | apply Kd.R_drewN | apply Kd.R_drew)); exact HO_244001.out))) (Kd.R_lt (by (with_reducible repeat (first | apply Kd.R_alloc | apply Kd.R_drewN | apply Kd.R_drew)); exact HO263.out))) (below_size (by repeat (first | (with_reducible first | exact HB.out | apply below_alloc | apply pw_below_drewN | apply below_drew1 | refine below_set ?_ GE243.out) | exact HB.out)))); have n4_ := Aside0.mk (blk_below (g := gb243) (o := .cells #[.slice Ao63 x244000_2.length co63, .slice Ao64 x244001_2.length co64] 24 (0, 0)) (by (with_reducible repeat (first | refine blk_drewN ?_ _ | refine blk_drew ?_ | refine blk_alloc ?_ _)); exact BK243.out) hb); have n5_ := Aside0.mk (below_step (by repeat (first | (with_reducible first | exact HB.out | apply below_alloc | apply pw_below_drewN | apply below_drew1 | refine below_set ?_ GE243.out) | exact HB.out)) hb); clear HO_244000; clear HO_244001; clear HO263; clear BK243; clear HB; have HO_244000 := n0_; have HO_244001 := n1_; have HO263 := n2_; have HO268 := n3_; have BK243 := n4_; have HB := n5_; clear n0_ n1_ n2_ n3_ n4_ n5_; (try clear hb); (try clear hb2); (try clear hk); (try clear hi); (try clear ho0); obtain ⟨Ao68, co68, eo68⟩ := Kd.R_slice HO263.out; subst eo68; obtain ⟨Ao69, co69, eo69⟩ := Kd.R_slice HO268.out; subst eo69; have hcz70_0 : w67.cell? ⟨gb243, 0, none⟩ = some (.slice Ao63 x244000_2.length co63) := (blk_cell BK243.out 0).trans rfl; have hcz70_1 : w67.cell? ⟨gb243, 1, none⟩ = some (.slice Ao64 x244001_2.length co64) := (blk_cell BK243.out 1).trans rfl; have hfz70_0 := blk_frozen BK243.out 0; have hfz70_1 := blk_frozen BK243.out 1) | (go_at_call 24; (with_reducible refine (split_Within.calls _ _ x244000_2 _ _ x244001_2 _ _ t261 a3 true _ ?side1 ?side2 ?side3 ?side4 ?side5 ?side6 A60.out).mono ?_); (case side1 => repeat (first | exact (Kd.R_reads' HO_244000.out).2.2 | (with_reducible refine Kd.C_alloc ?_ _) | (with_reducible refine Kd.C_drewN ?_ _) | (with_reducible refine Kd.C_drew ?_))); (case side2 => exact (Kd.R_reads' HO_244000.out).2.1); (case side3 => repeat (first | exact (Kd.R_reads' HO_244001.out).2.2 | (with_reducible refine Kd.C_alloc ?_ _) | (with_reducible refine Kd.C_drewN ?_ _) | (with_reducible refine Kd.C_drew ?_))); (case side4 => exact (Kd.R_reads' HO_244001.out).2.1); (case side5 => repeat (first | exact (Kd.R_reads' HO263.out).2.2 | (with_reducible refine Kd.C_alloc ?_ _) | (with_reducible refine Kd.C_drewN ?_ _) | (with_reducible refine Kd.C_drew ?_))); (case side6 => exact (Kd.R_reads' HO263.out).2.1); rintro e w71 ⟨rfl, hb⟩; have n0_ := Aside0.mk (Kd.R_below (by (with_reducible repeat (first | apply Kd.R_alloc | apply Kd.R_drewN | apply Kd.R_drew)); exact HO_244000.out) hb); have n1_ := Aside0.mk (Kd.R_below (by (with_reducible repeat (first | apply Kd.R_alloc | apply Kd.R_drewN | apply Kd.R_drew)); exact HO_244001.out) hb); have n2_ := Aside0.mk (Kd.R_below (by (with_reducible repeat (first | apply Kd.R_alloc | apply Kd.R_drewN | apply Kd.R_drew)); exact HO263.out) hb); have n3_ := Aside0.mk (Kd.R_below (by (with_reducible repeat (first | apply Kd.R_alloc | apply Kd.R_drewN | apply Kd.R_drew)); exact HO268.out) hb); have n4_ := Aside0.mk (blk_below (g := gb243) (o := .cells #[.slice Ao63 x244000_2.length co63, .slice Ao64 x244001_2.length co64] 24 (0, 0)) (by (with_reducible repeat (first | refine blk_drewN ?_ _ | refine blk_drew ?_ | refine blk_alloc ?_ _)); exact BK243.out) hb); have n5_ := Aside0.mk (below_step (by repeat (first | (with_reducible first | exact HB.out | apply below_alloc | apply pw_below_drewN | apply below_drew1 | refine below_set ?_ GE243.out) | exact HB.out)) hb); clear HO_244000; clear HO_244001; clear HO263; clear HO268; clear BK243; clear HB; have HO_244000 := n0_; have HO_244001 := n1_; have HO263 := n2_; have HO268 := n3_; have BK243 := n4_; have HB := n5_; clear n0_ n1_ n2_ n3_ n4_ n5_; (try clear hb); (try clear hb2); (try clear hk); (try clear hi)))
                                  go_loopg [19] kj16 (fun kq v19 w' => ∃ (x19_4 : Int), v19 = .int .i64 x19_4 ∧ Aside0 (ambitlaw18_SplitEnds.l1 kq a0 a3 t261 t266 x19_4 = some r) ∧ Aside0 (kq ≤ kj16) ∧ Aside0 (Kd.R (Kd.int .i64) 3 w' w.heap.size (fun k_ => some k_ ≠ ((.slice Ao69 t266.length co69) : Value).ownBlock ∧ some k_ ≠ ((.slice Ao63 x244000_2.length co63) : Value).ownBlock ∧ some k_ ≠ ((.slice Ao64 x244001_2.length co64) : Value).ownBlock) (.slice Ao68 t261.length co68) t261) ∧ Aside0 (Kd.R (Kd.int .i64) 3 w' w.heap.size (fun k_ => some k_ ≠ ((.slice Ao68 t261.length co68) : Value).ownBlock ∧ some k_ ≠ ((.slice Ao63 x244000_2.length co63) : Value).ownBlock ∧ some k_ ≠ ((.slice Ao64 x244001_2.length co64) : Value).ownBlock) (.slice Ao69 t266.length co69) t266) ∧ Aside0 (Kd.R (Kd.int .i64) 3 w' w.heap.size (fun k_ => some k_ ≠ ((.slice Ao68 t261.length co68) : Value).ownBlock ∧ some k_ ≠ ((.slice Ao69 t266.length co69) : Value).ownBlock ∧ some k_ ≠ ((.slice Ao64 x244001_2.length co64) : Value).ownBlock) (.slice Ao63 x244000_2.length co63) x244000_2) ∧ Aside0 (Kd.R (Kd.int .i64) 3 w' w.heap.size (fun k_ => some k_ ≠ ((.slice Ao68 t261.length co68) : Value).ownBlock ∧ some k_ ≠ ((.slice Ao69 t266.length co69) : Value).ownBlock ∧ some k_ ≠ ((.slice Ao63 x244000_2.length co63) : Value).ownBlock) (.slice Ao64 x244001_2.length co64) x244001_2) ∧ Aside0 (w'.heap[gb243]? = some (.cells #[(.slice Ao63 x244000_2.length co63), (.slice Ao64 x244001_2.length co64)] 24 (0, 0))) ∧ Aside0 (Below w.heap.size w w'))
                                  case atStart => exact ⟨(0), (by first | rfl | (simp; done) | (simp [*]; done)), H', ⟨Nat.le_refl _⟩, ⟨by (with_reducible repeat (first | apply Kd.R_alloc | apply Kd.R_drewN | apply Kd.R_drew)); exact Kd.R_mono HO263.out (fun _ hk => ⟨hk.2, ⟨hk.1.1.2, hk.1.2⟩⟩)⟩, ⟨by (with_reducible repeat (first | apply Kd.R_alloc | apply Kd.R_drewN | apply Kd.R_drew)); exact Kd.R_mono HO268.out (fun _ hk => ⟨hk.2, ⟨hk.1.1.2, hk.1.2⟩⟩)⟩, ⟨by (with_reducible repeat (first | apply Kd.R_alloc | apply Kd.R_drewN | apply Kd.R_drew)); exact Kd.R_mono HO_244000.out (fun _ hk => ⟨hk.1.2, ⟨hk.2, hk.1.1⟩⟩)⟩, ⟨by (with_reducible repeat (first | apply Kd.R_alloc | apply Kd.R_drewN | apply Kd.R_drew)); exact Kd.R_mono HO_244001.out (fun _ hk => ⟨hk.1.2, ⟨hk.2, hk.1.1⟩⟩)⟩, ⟨by (with_reducible repeat (first | refine blk_drewN ?_ _ | refine blk_drew ?_ | refine blk_alloc ?_ _)); exact BK243.out⟩, ⟨by repeat (first | (with_reducible first | exact HB.out | apply below_alloc | apply pw_below_drewN | apply below_drew1 | refine below_set ?_ GE243.out) | exact HB.out)⟩⟩
                                  case round =>
                                    clear H'
                                    try clear c1
                                    try clear c2
                                    try clear p2
                                    try clear q2
                                    try clear hx2
                                    try clear c3
                                    try clear c4
                                    try clear c5
                                    try clear c6
                                    try clear p6
                                    try clear c15
                                    try clear c19
                                    try clear c20
                                    try clear c21
                                    try clear p26
                                    try clear q26
                                    try clear hx26
                                    try clear c39
                                    try clear c39b0
                                    try clear c39b1
                                    try clear c40
                                    try clear c41
                                    try clear c42
                                    try clear c44
                                    try clear c46
                                    try clear c46b0
                                    try clear c46b1
                                    try clear c47
                                    try clear c48
                                    try clear c50
                                    try clear c53
                                    try clear c53b0
                                    try clear c53b1
                                    try clear c55
                                    try clear c55b0
                                    try clear c56
                                    try clear c56b0
                                    try clear c57
                                    try clear c57b0
                                    try clear c57b1
                                    try clear c58
                                    try clear c58b0
                                    try clear c58b1
                                    try clear c59
                                    try clear c59b0
                                    try clear c59b1
                                    try clear c61
                                    try clear p64
                                    try clear hcz43_0
                                    try clear hcz43_1
                                    try clear hcz45_0
                                    try clear hcz45_1
                                    try clear hcz49_0
                                    try clear hcz49_1
                                    try clear hcz51_0
                                    try clear hcz51_1
                                    try clear hcz62_0
                                    try clear hcz62_1
                                    try clear hcz66_0
                                    try clear hcz66_1
                                    try clear hcz70_0
                                    try clear hcz70_1
                                    try clear hfz43_0
                                    try clear hfz43_1
                                    try clear hfz45_0
                                    try clear hfz45_1
                                    try clear hfz49_0
                                    try clear hfz49_1
                                    try clear hfz51_0
                                    try clear hfz51_1
                                    try clear hfz62_0
                                    try clear hfz62_1
                                    try clear hfz66_0
                                    try clear hfz66_1
                                    try clear hfz70_0
                                    try clear hfz70_1
                                    try clear hx260_0
                                    try clear hx260_1
                                    try clear p2
                                    try clear p26
                                    try clear p260
                                    try clear q2
                                    try clear q26
                                    try clear q260
                                    obtain ⟨x19_4, rfl, HA, HK4, HO_15, HO_17, HO_244000, HO_244001, BK243, HB⟩ := hrel
                                    cases gk with
                                    | zero => exact absurd HA.out (by simp [ambitlaw18_SplitEnds.l1])
                                    | succ k4 =>
                                      have H := HA.out
                                      clear HA
                                      simp only [ambitlaw18_SplitEnds.l1] at H
                                      by_cases c72 : x19_4 < a0
                                      · rw [if_pos c72] at H
                                        have c72b0 : decide (x19_4 < a0) = true := decide_eq_true c72
                                        clear c72
                                        by_cases c73 : 0 ≤ x19_4
                                        · rw [if_pos c73] at H
                                          have c73b0 : decide (0 ≤ x19_4) = true := decide_eq_true c73
                                          clear c73
                                          by_cases c74 : x19_4 < (t261.length : Int)
                                          · rw [if_pos c74] at H
                                            have c74b0 : decide (x19_4 < (t261.length : Int)) = true := decide_eq_true c74
                                            clear c74
                                            obtain ⟨ji75, hji75⟩ : ∃ j_ : Int, (wrap64 (8 - a3)) = j_ := ⟨_, rfl⟩
                                            replace H : (if 0 ≤ (ji75) then (if x19_4 < (t266.length : Int) then (if (shl .i64 (rd t261 x19_4) (ji75)) = (rd t266 x19_4) then (ambitlaw18_SplitEnds.l1 k4 a0 a3 t261 t266 (wrap64 (x19_4 + 1))) else (none)) else (none)) else (none)) = some r := by first | (rw [hji75] at H; exact H) | (simp only [hji75] at H ⊢; exact H)
                                            have hji75w : (IntKind.i64.wrap (8 - a3)) = ji75 := (i64_w _).trans hji75
                                            by_cases c76 : 0 ≤ (ji75)
                                            · rw [if_pos c76] at H
                                              have c76b0 := eq_true c76
                                              have c76b1 : decide (0 ≤ (ji75)) = true := decide_eq_true c76
                                              clear c76
                                              obtain ⟨ji77, hji77⟩ : ∃ j_ : Int, (shl .i64 (rd t261 x19_4) (ji75)) = j_ := ⟨_, rfl⟩
                                              replace H : (if x19_4 < (t266.length : Int) then (if (ji77) = (rd t266 x19_4) then (ambitlaw18_SplitEnds.l1 k4 a0 a3 t261 t266 (wrap64 (x19_4 + 1))) else (none)) else (none)) = some r := by first | (rw [hji77] at H; exact H) | (simp only [hji77] at H ⊢; exact H)
                                              have hji77_ : (IntKind.i64.wrap ((rd t261 x19_4) * 2 ^ min (ji75).toNat 64)) = ji77 := hji77
                                              have hji77z : (ji75) ≤ 64 → (IntKind.i64.wrap ((rd t261 x19_4) * 2 ^ (ji75).toNat)) = ji77 := shl_small hji77
                                              have hji77y : (wrap64 ((rd t261 x19_4) * 2 ^ min (ji75).toNat 64)) = ji77 := (i64_w _).symm.trans hji77_
                                              have hji77x : (ji75) ≤ 64 → (wrap64 ((rd t261 x19_4) * 2 ^ (ji75).toNat)) = ji77 := fun h_ => (i64_w _).symm.trans (hji77z h_)
                                              by_cases c78 : x19_4 < (t266.length : Int)
                                              · rw [if_pos c78] at H
                                                have c78b0 : decide (x19_4 < (t266.length : Int)) = true := decide_eq_true c78
                                                clear c78
                                                by_cases c79 : (ji77) = (rd t266 x19_4)
                                                · rw [if_pos c79] at H
                                                  have c79b0 : ((ji77) == (rd t266 x19_4)) = true := beq_iff_eq.mpr c79
                                                  have c79b1 : ((ji77) != (rd t266 x19_4)) = false := bne_eq_false_iff_eq.mpr c79
                                                  clear c79
                                                  have H' := Aside0.mk H
                                                  clear H
                                                  try go_wp2
                                                  have n0_ := Aside0.mk (Kd.R_drew HO_15.out)
                                                  have n1_ := Aside0.mk (Kd.R_drew HO_17.out)
                                                  have n2_ := Aside0.mk (Kd.R_drew HO_244000.out)
                                                  have n3_ := Aside0.mk (Kd.R_drew HO_244001.out)
                                                  have n4_ := Aside0.mk (blk_drew BK243.out)
                                                  have n5_ := Aside0.mk (below_drew1 HB.out)
                                                  clear HO_15
                                                  clear HO_17
                                                  clear HO_244000
                                                  clear HO_244001
                                                  clear BK243
                                                  clear HB
                                                  have HO_15 := n0_
                                                  have HO_17 := n1_
                                                  have HO_244000 := n2_
                                                  have HO_244001 := n3_
                                                  have BK243 := n4_
                                                  have HB := n5_
                                                  clear n0_ n1_ n2_ n3_ n4_ n5_
                                                  have p271 : 0 ≤ (x19_4 : Int) := of_decide_eq_true (by first | (with_reducible assumption) | assumption)
                                                  have q271 : x19_4 < (t261.length : Int) := of_decide_eq_true (by first | (with_reducible assumption) | assumption)
                                                  obtain ⟨ad271, e271, hx271_0⟩ := Kd.at_int (Kd.R_reads' HO_15.out).2.2 x19_4 p271 q271
                                                  cases e271
                                                  replace p271 := eq_true p271
                                                  replace q271 := eq_true q271
                                                  have p272 : 0 ≤ (x19_4 : Int) := of_decide_eq_true (by first | (with_reducible assumption) | assumption)
                                                  have q272 : x19_4 < (t266.length : Int) := of_decide_eq_true (by first | (with_reducible assumption) | assumption)
                                                  obtain ⟨ad272, e272, hx272_0⟩ := Kd.at_int (Kd.R_reads' HO_17.out).2.2 x19_4 p272 q272
                                                  cases e272
                                                  replace p272 := eq_true p272
                                                  replace q272 := eq_true q272
                                                  refine start_ (n := 12) (S := fun w' => w'.cell? (ad271.add (x19_4).toNat) = some (.int .i64 (rd t261 x19_4)) ∧ w'.cell? (ad272.add (x19_4).toNat) = some (.int .i64 (rd t266 x19_4))) (ds := []) #[false, false, false, false, false, false, false, false, false, false, false, false] (by kernel_rfl) rfl rfl ⟨hx271_0, hx272_0⟩ (fun hHeld => ?_); refine with_tabW ambitlaw18_SplitEnds.tab23 ambitlaw18_SplitEnds.bits23 (fun HT_ HW_ => ?_)
                                                  generalize wr.drew = w80 at HO_15 HO_17 HO_244000 HO_244001 BK243 HB hx271_0 hx272_0 hHeld ⊢
                                                  refine pure_ (i := 0) (N := some 118) (v := ?_) (a' := ?_) #[true, false, false, false, false, false, false, false, false, false, false, false] rfl rfl (any_of HT_.out (by kernel_rfl)) (fun _ _ _ h => h) (Or.inl ⟨by rfl, ?_⟩) ?_ ?_
                                                  rotate_left
                                                  · intro w'
                                                    go_simp
                                                    with_reducible rfl
                                                  rotate_left
                                                  · simp only [Act.put, List.setIfInBounds_toArray, List.set_cons_zero, List.set_cons_succ, i64_w, i32_w]
                                                    rfl
                                                  refine pure_ (i := 1) (N := some 119) (v := ?_) (a' := ?_) #[true, true, false, false, false, false, false, false, false, false, false, false] rfl rfl (any_of HT_.out (by kernel_rfl)) (fun _ _ _ h => h) (Or.inl ⟨by rfl, ?_⟩) ?_ ?_
                                                  rotate_left
                                                  · intro w'
                                                    go_simp
                                                    with_reducible rfl
                                                  rotate_left
                                                  · simp only [Act.put, List.setIfInBounds_toArray, List.set_cons_zero, List.set_cons_succ, i64_w, i32_w]
                                                    rfl
                                                  refine pure_ (i := 2) (N := some 120) (v := ?_) (a' := ?_) #[true, true, true, false, false, false, false, false, false, false, false, false] rfl rfl (any_of HT_.out (by kernel_rfl)) (fun _ _ _ h => h) (Or.inl ⟨by rfl, ?_⟩) ?_ ?_
                                                  rotate_left
                                                  · intro w'
                                                    go_simp
                                                    with_reducible rfl
                                                  rotate_left
                                                  · simp only [Act.put, List.setIfInBounds_toArray, List.set_cons_zero, List.set_cons_succ, i64_w, i32_w]
                                                    rfl
                                                  refine pure_ (i := 4) (N := some 122) (v := ?_) (a' := ?_) #[true, true, true, false, true, false, false, false, false, false, false, false] rfl rfl (any_of HT_.out (by kernel_rfl)) (fun _ _ _ h => h) (Or.inl ⟨by rfl, ?_⟩) ?_ ?_
                                                  rotate_left
                                                  · intro w'
                                                    go_simp
                                                    with_reducible rfl
                                                  rotate_left
                                                  · simp only [Act.put, List.setIfInBounds_toArray, List.set_cons_zero, List.set_cons_succ, i64_w, i32_w]
                                                    rfl
                                                  refine pure_ (i := 5) (N := some 123) (v := ?_) (a' := ?_) #[true, true, true, false, true, true, false, false, false, false, false, false] rfl rfl (any_of HT_.out (by kernel_rfl)) (fun _ _ _ h => h) (Or.inl ⟨by rfl, ?_⟩) ?_ ?_
                                                  rotate_left
                                                  · intro w'
                                                    go_simp
                                                    with_reducible rfl
                                                  rotate_left
                                                  · simp only [Act.put, List.setIfInBounds_toArray, List.set_cons_zero, List.set_cons_succ, i64_w, i32_w]
                                                    rfl
                                                  refine pure_ (i := 7) (N := some 125) (v := ?_) (a' := ?_) #[true, true, true, false, true, true, false, true, false, false, false, false] rfl rfl (any_of HT_.out (by kernel_rfl)) (fun _ _ _ h => h) (Or.inl ⟨by rfl, ?_⟩) ?_ ?_
                                                  rotate_left
                                                  · intro w'
                                                    go_simp
                                                    with_reducible rfl
                                                  rotate_left
                                                  · simp only [Act.put, List.setIfInBounds_toArray, List.set_cons_zero, List.set_cons_succ, i64_w, i32_w]
                                                    rfl
                                                  refine pure_ (i := 8) (N := some 126) (v := ?_) (a' := ?_) #[true, true, true, false, true, true, false, true, true, false, false, false] rfl rfl (any_of HT_.out (by kernel_rfl)) (fun _ _ _ h => h) (Or.inl ⟨by rfl, ?_⟩) ?_ ?_
                                                  rotate_left
                                                  · intro w'
                                                    go_simp
                                                    with_reducible rfl
                                                  rotate_left
                                                  · simp only [Act.put, List.setIfInBounds_toArray, List.set_cons_zero, List.set_cons_succ, i64_w, i32_w]
                                                    rfl
                                                  refine pure_ (i := 9) (N := some 127) (v := ?_) (a' := ?_) #[true, true, true, false, true, true, false, true, true, true, false, false] rfl rfl (any_of HT_.out (by kernel_rfl)) (fun _ _ _ h => h) (Or.inl ⟨by rfl, ?_⟩) ?_ ?_
                                                  rotate_left
                                                  · intro w'
                                                    go_simp
                                                    with_reducible rfl
                                                  rotate_left
                                                  · simp only [Act.put, List.setIfInBounds_toArray, List.set_cons_zero, List.set_cons_succ, i64_w, i32_w]
                                                    rfl
                                                  refine take_ (i := 3) (N := some 121) (v := ?_) (a' := ?_) #[true, true, true, true, true, true, false, true, true, true, false, false] rfl rfl (take_ofW HT_.out HW_.out (by kernel_rfl)) (fun _ _ _ h => h) (Or.inl ⟨by rfl, ?_⟩) hHeld ?_ ?_
                                                  rotate_left
                                                  · rintro w' ⟨s0, s1⟩
                                                    go_simp
                                                    with_reducible rfl
                                                  rotate_left
                                                  · simp only [Act.put, List.setIfInBounds_toArray, List.set_cons_zero, List.set_cons_succ, i64_w, i32_w]
                                                    rfl
                                                  refine pure_ (i := 6) (N := some 124) (v := ?_) (a' := ?_) #[true, true, true, true, true, true, true, true, true, true, false, false] rfl rfl (any_of HT_.out (by kernel_rfl)) (fun _ _ _ h => h) (Or.inl ⟨by rfl, ?_⟩) ?_ ?_
                                                  rotate_left
                                                  · intro w'
                                                    go_simp
                                                    with_reducible rfl
                                                  rotate_left
                                                  · simp only [Act.put, List.setIfInBounds_toArray, List.set_cons_zero, List.set_cons_succ, i64_w, i32_w]
                                                    rfl
                                                  refine take_ (i := 10) (N := some 128) (v := ?_) (a' := ?_) #[true, true, true, true, true, true, true, true, true, true, true, false] rfl rfl (take_ofW HT_.out HW_.out (by kernel_rfl)) (fun _ _ _ h => h) (Or.inl ⟨by rfl, ?_⟩) hHeld ?_ ?_
                                                  rotate_left
                                                  · rintro w' ⟨s0, s1⟩
                                                    go_simp
                                                    with_reducible rfl
                                                  rotate_left
                                                  · simp only [Act.put, List.setIfInBounds_toArray, List.set_cons_zero, List.set_cons_succ, i64_w, i32_w]
                                                    rfl
                                                  refine pure_ (i := 11) (N := some 129) (v := ?_) (a' := ?_) #[true, true, true, true, true, true, true, true, true, true, true, true] rfl rfl (any_of HT_.out (by kernel_rfl)) (fun _ _ _ h => h) (Or.inl ⟨by rfl, ?_⟩) ?_ ?_
                                                  rotate_left
                                                  · intro w'
                                                    go_simp
                                                    with_reducible rfl
                                                  rotate_left
                                                  · simp only [Act.put, List.setIfInBounds_toArray, List.set_cons_zero, List.set_cons_succ, i64_w, i32_w]
                                                    rfl
                                                  refine done_ (done_of HT_.out (by kernel_rfl)) ?_
                                                  try go_wp2
                                                  go_roundg k4
                                                  case measure => have := HJ4.out; have := HK2.out; have := HJ16.out; have := HK4.out; omega
                                                  case rel => exact ⟨(wrap64 (x19_4 + 1)), (by first | rfl | (simp; done) | (simp [*]; done)), H', ⟨by have := HJ4.out; have := HK2.out; have := HJ16.out; have := HK4.out; omega⟩, ⟨by (with_reducible repeat (first | apply Kd.R_alloc | apply Kd.R_drewN | apply Kd.R_drew)); exact HO_15.out⟩, ⟨by (with_reducible repeat (first | apply Kd.R_alloc | apply Kd.R_drewN | apply Kd.R_drew)); exact HO_17.out⟩, ⟨by (with_reducible repeat (first | apply Kd.R_alloc | apply Kd.R_drewN | apply Kd.R_drew)); exact HO_244000.out⟩, ⟨by (with_reducible repeat (first | apply Kd.R_alloc | apply Kd.R_drewN | apply Kd.R_drew)); exact HO_244001.out⟩, ⟨by (with_reducible repeat (first | refine blk_drewN ?_ _ | refine blk_drew ?_ | refine blk_alloc ?_ _)); exact BK243.out⟩, ⟨by repeat (first | (with_reducible first | exact HB.out | apply below_alloc | apply pw_below_drewN | apply below_drew1 | refine below_set ?_ GE243.out) | exact HB.out)⟩⟩
                                                · rw [if_neg c79] at H
                                                  exact absurd H (by simp)
                                              · rw [if_neg c78] at H
                                                exact absurd H (by simp)
                                            · rw [if_neg c76] at H
                                              exact absurd H (by simp)
                                          · rw [if_neg c74] at H
                                            exact absurd H (by simp)
                                        · rw [if_neg c73] at H
                                          exact absurd H (by simp)
                                      · rw [if_neg c72] at H
                                        have c72b0 : decide (x19_4 < a0) = false := decide_eq_false c72
                                        clear c72
                                        replace H := Option.bind_eq_some_iff.mp H
                                        obtain ⟨t273, A810, H⟩ := H
                                        replace H : (some t273) = some r := H
                                        have A81 := Aside0.mk A810
                                        clear A810
                                        obtain rfl := Option.some.inj H
                                        go_wp2_with (first | ((with_reducible refine gate_callee (f := 14) rfl ?_); refine goesL_ (some 130) rfl rfl Try.func14 (by kernel_rfl) rfl #[] rfl (by (try simp only [List.map_toArray, List.map_cons, List.map_nil]); first | done | rfl | (simp only [List.length_drop, List.length_take]; rfl)) ?_; (with_reducible refine (ambitlaw18_awake.calls k4  t273 _ A81.out).mono ?_); rintro e w82 ⟨rfl, hb⟩; refine ⟨_, rfl, ?_⟩; have n0_ := Aside0.mk (Kd.R_below (by (with_reducible repeat (first | apply Kd.R_alloc | apply Kd.R_drewN | apply Kd.R_drew)); exact HO_15.out) hb); have n1_ := Aside0.mk (Kd.R_below (by (with_reducible repeat (first | apply Kd.R_alloc | apply Kd.R_drewN | apply Kd.R_drew)); exact HO_17.out) hb); have n2_ := Aside0.mk (Kd.R_below (by (with_reducible repeat (first | apply Kd.R_alloc | apply Kd.R_drewN | apply Kd.R_drew)); exact HO_244000.out) hb); have n3_ := Aside0.mk (Kd.R_below (by (with_reducible repeat (first | apply Kd.R_alloc | apply Kd.R_drewN | apply Kd.R_drew)); exact HO_244001.out) hb); have n4_ := Aside0.mk (blk_below (g := gb243) (o := .cells #[.slice Ao63 x244000_2.length co63, .slice Ao64 x244001_2.length co64] 24 (0, 0)) (by (with_reducible repeat (first | refine blk_drewN ?_ _ | refine blk_drew ?_ | refine blk_alloc ?_ _)); exact BK243.out) hb); have n5_ := Aside0.mk (below_step (by repeat (first | (with_reducible first | exact HB.out | apply below_alloc | apply pw_below_drewN | apply below_drew1 | refine below_set ?_ GE243.out) | exact HB.out)) hb); clear HO_15; clear HO_17; clear HO_244000; clear HO_244001; clear BK243; clear HB; have HO_15 := n0_; have HO_17 := n1_; have HO_244000 := n2_; have HO_244001 := n3_; have BK243 := n4_; have HB := n5_; clear n0_ n1_ n2_ n3_ n4_ n5_; (try clear hb); (try clear hb2); (try clear hk); (try clear hi)))
                                        go_ret
                                        exact ⟨by first | rfl | (simp [errW_none, errW_some] <;> rfl) | (simp [*, errW_none, errW_some] <;> rfl), by repeat (first | (with_reducible first | exact HB.out | apply below_alloc | apply pw_below_drewN | apply below_drew1 | refine below_set ?_ GE243.out) | exact HB.out)⟩
                                · replace c61 := Bool.eq_false_iff.mpr c61
                                  subst c61
                                  have H1 : (none) = some r := by rw [if_neg (show ¬ (false = true) by decide)] at H; exact H
                                  clear H
                                  have H := H1
                                  clear H1
                                  exact absurd H (by simp)
                              · rw [if_neg c59] at H
                                exact absurd H (by simp)
                            · rw [if_neg c58] at H
                              exact absurd H (by simp)
                          · rw [if_neg c57] at H
                            exact absurd H (by simp)
                    · rw [if_neg c53] at H
                      have c53b0 : (t264 == 0) = false := beq_eq_false_iff_ne.mpr c53
                      have c53b1 : (t264 != 0) = true := bne_iff_ne.mpr c53
                      replace H := Option.bind_eq_some_iff.mp H
                      obtain ⟨t265, A830, H⟩ := H
                      replace H : (some t265) = some r := H
                      have A83 := Aside0.mk A830
                      clear A830
                      obtain rfl := Option.some.inj H
                      have hcz84_0 : wc.cell? ⟨gb243, 0, none⟩ = some (u244000) := (blk_cell BK243.out 0).trans rfl
                      have hcz84_1 : wc.cell? ⟨gb243, 1, none⟩ = some (u244001) := (blk_cell BK243.out 1).trans rfl
                      have hfz84_0 := blk_frozen BK243.out 0
                      have hfz84_1 := blk_frozen BK243.out 1
                      obtain ⟨Ao85, co85, eo85⟩ := Kd.R_slice HO_244000.out
                      subst eo85
                      obtain ⟨Ao86, co86, eo86⟩ := Kd.R_slice HO_244001.out
                      subst eo86
                      go_wp2_with (first | ((with_reducible refine gate_callee (f := 21) rfl ?_); refine goesL_ (some 72) rfl rfl Try.func21 (by kernel_rfl) rfl #[.agg #[.slice Ao85 x244000_2.length co85, .slice Ao86 x244001_2.length co86], .slice A2 l2.length c2, .int .i64 a3] rfl (by (try simp only [List.map_toArray, List.map_cons, List.map_nil]); first | done | rfl | (simp only [List.length_drop, List.length_take]; rfl)) ?_; (with_reducible refine (split_Ends.calls kj16 _ _ x244000_2 _ _ x244001_2 _ _ l2 a3 t261 t264 _ ?side1 ?side2 ?side3 ?side4 ?side5 ?side6 A52.out).mono ?_); (case side1 => repeat (first | exact (Kd.R_reads' HO_244000.out).2.2 | (with_reducible refine Kd.C_alloc ?_ _) | (with_reducible refine Kd.C_drewN ?_ _) | (with_reducible refine Kd.C_drew ?_))); (case side2 => exact (Kd.R_reads' HO_244000.out).2.1); (case side3 => repeat (first | exact (Kd.R_reads' HO_244001.out).2.2 | (with_reducible refine Kd.C_alloc ?_ _) | (with_reducible refine Kd.C_drewN ?_ _) | (with_reducible refine Kd.C_drew ?_))); (case side4 => exact (Kd.R_reads' HO_244001.out).2.1); (case side5 => repeat (first | exact (Kd.C_below HR2.out HB.out) | (with_reducible refine Kd.C_alloc ?_ _) | (with_reducible refine Kd.C_drewN ?_ _) | (with_reducible refine Kd.C_drew ?_))); (case side6 => exact HC2.out); rintro e w87 ⟨v262, rfl, ho0, hb⟩; refine ⟨_, rfl, ?_⟩; have n0_ := Aside0.mk (Kd.R_elder' (by (with_reducible repeat (first | apply Kd.R_alloc | apply Kd.R_drewN | apply Kd.R_drew)); exact HO_244000.out) (Kd.R_base ho0) hb); have n1_ := Aside0.mk (Kd.R_elder' (by (with_reducible repeat (first | apply Kd.R_alloc | apply Kd.R_drewN | apply Kd.R_drew)); exact HO_244001.out) (Kd.R_base ho0) hb); have n2_ := Aside0.mk (Kd.R_lower (Kd.R_new' (Kd.R_new' ho0 (Kd.R_lt (by (with_reducible repeat (first | apply Kd.R_alloc | apply Kd.R_drewN | apply Kd.R_drew)); exact HO_244000.out))) (Kd.R_lt (by (with_reducible repeat (first | apply Kd.R_alloc | apply Kd.R_drewN | apply Kd.R_drew)); exact HO_244001.out))) (below_size (by repeat (first | (with_reducible first | exact HB.out | apply below_alloc | apply pw_below_drewN | apply below_drew1 | refine below_set ?_ GE243.out) | exact HB.out)))); have n3_ := Aside0.mk (blk_below (g := gb243) (o := .cells #[.slice Ao85 x244000_2.length co85, .slice Ao86 x244001_2.length co86] 24 (0, 0)) (by (with_reducible repeat (first | refine blk_drewN ?_ _ | refine blk_drew ?_ | refine blk_alloc ?_ _)); exact BK243.out) hb); have n4_ := Aside0.mk (below_step (by repeat (first | (with_reducible first | exact HB.out | apply below_alloc | apply pw_below_drewN | apply below_drew1 | refine below_set ?_ GE243.out) | exact HB.out)) hb); clear HO_244000; clear HO_244001; clear BK243; clear HB; have HO_244000 := n0_; have HO_244001 := n1_; have HO263 := n2_; have BK243 := n3_; have HB := n4_; clear n0_ n1_ n2_ n3_ n4_; (try clear hb); (try clear hb2); (try clear hk); (try clear hi); (try clear ho0)) | ((with_reducible refine gate_callee (f := 14) rfl ?_); refine goesL_ (some 77) rfl rfl Try.func14 (by kernel_rfl) rfl #[] rfl (by (try simp only [List.map_toArray, List.map_cons, List.map_nil]); first | done | rfl | (simp only [List.length_drop, List.length_take]; rfl)) ?_; (with_reducible refine (ambitlaw18_awake.calls kj16  t265 _ A83.out).mono ?_); rintro e w88 ⟨rfl, hb⟩; refine ⟨_, rfl, ?_⟩; have n0_ := Aside0.mk (Kd.R_below (by (with_reducible repeat (first | apply Kd.R_alloc | apply Kd.R_drewN | apply Kd.R_drew)); exact HO_244000.out) hb); have n1_ := Aside0.mk (Kd.R_below (by (with_reducible repeat (first | apply Kd.R_alloc | apply Kd.R_drewN | apply Kd.R_drew)); exact HO_244001.out) hb); have n2_ := Aside0.mk (Kd.R_below (by (with_reducible repeat (first | apply Kd.R_alloc | apply Kd.R_drewN | apply Kd.R_drew)); exact HO263.out) hb); have n3_ := Aside0.mk (blk_below (g := gb243) (o := .cells #[.slice Ao85 x244000_2.length co85, .slice Ao86 x244001_2.length co86] 24 (0, 0)) (by (with_reducible repeat (first | refine blk_drewN ?_ _ | refine blk_drew ?_ | refine blk_alloc ?_ _)); exact BK243.out) hb); have n4_ := Aside0.mk (below_step (by repeat (first | (with_reducible first | exact HB.out | apply below_alloc | apply pw_below_drewN | apply below_drew1 | refine below_set ?_ GE243.out) | exact HB.out)) hb); clear HO_244000; clear HO_244001; clear HO263; clear BK243; clear HB; have HO_244000 := n0_; have HO_244001 := n1_; have HO263 := n2_; have BK243 := n3_; have HB := n4_; clear n0_ n1_ n2_ n3_ n4_; (try clear hb); (try clear hb2); (try clear hk); (try clear hi)))
                      go_ret
                      exact ⟨by first | rfl | (simp [errW_none, errW_some] <;> rfl) | (simp [*, errW_none, errW_some] <;> rfl), by repeat (first | (with_reducible first | exact HB.out | apply below_alloc | apply pw_below_drewN | apply below_drew1 | refine below_set ?_ GE243.out) | exact HB.out)⟩
        · rw [if_neg c11] at H
          exact absurd H (by simp)
end Go.Proofs.Ytlidbaejhmamjaa.PB

namespace Go.Proofs.Ytlidbaejhmamjaa.LA
open Go.RowKit Go.Proofs.YtlidbaejhmamjaaW.PrintWords Go.Proofs.YtlidbaejhmamjaaW.PrintLast Go.Proofs.YtlidbaejhmamjaaW.PrintMore Go.Proofs.Ytlidbaejhmamjaa.PB
set_option linter.unusedVariables false
set_option linter.unusedSimpArgs false
theorem rd_nat (xs : List Int) (i : Nat) (h : i < xs.length) : rd xs (i : Int) = xs[i] := by simp [rd, h]
theorem rd_set_same (xs : List Int) (i : Nat) (v : Int) (h : i < xs.length) : rd (xs.set i v) (i : Int) = v := by simp [rd, h]
theorem rd_set_other (xs : List Int) (i j : Nat) (v : Int) (h : i ≠ j) : rd (xs.set i v) (j : Int) = rd xs (j : Int) := by simp [rd, List.getD_eq_getElem?_getD, List.getElem?_set_ne h]
theorem pz_set : ∀ (lv at_ : List Int) (i : Nat) (a b : Int), (pz lv at_).set i ⟨a, b⟩ = pz (lv.set i a) (at_.set i b)
  | [], _, i, a, b => by simp [pz]
  | _ :: _, [], i, a, b => by simp [pz]
  | x :: lv, y :: at_, 0, a, b => by simp [pz]
  | x :: lv, y :: at_, i + 1, a, b => by
    have := pz_set lv at_ i a b
    simp [pz] at this ⊢
    exact this
theorem pz_f0 : ∀ (lv at_ : List Int), at_.length = lv.length → (pz lv at_).map (·.f0) = lv
  | [], [], _ => rfl
  | x :: lv, y :: at_, h => by
    have := pz_f0 lv at_ (by simpa using h)
    simp [pz] at this ⊢
    exact this
theorem pz_f1 : ∀ (lv at_ : List Int), at_.length = lv.length → (pz lv at_).map (·.f1) = at_
  | [], [], _ => rfl
  | x :: lv, y :: at_, h => by
    have := pz_f1 lv at_ (by simpa using h)
    simp [pz] at this ⊢
    exact this
def HOk (lv at_ : List Int) (s : Int) : Prop := Reg lv at_ ∧ 0 ≤ s ∧ s < lv.length ∧ rd lv s ≠ 8
instance (lv at_ : List Int) (s : Int) : Decidable (HOk lv at_ s) := by unfold HOk; infer_instance
def hE (lv at_ : List Int) (s : Int) : Int := if HOk lv at_ s then 0 else if Reg lv at_ then 1 else 180
def hL (lv at_ : List Int) (s : Int) : List Int := if HOk lv at_ s then lv.set s.toNat (rd lv s + 1) else []
def hA (lv at_ : List Int) (s : Int) : List Int := if HOk lv at_ s then at_.set s.toNat (2 * rd at_ s) else []
def hB (lv at_ : List Int) (s : Int) : List Int := if HOk lv at_ s then at_.set s.toNat (2 * rd at_ s + 1) else []
theorem fit_at {l a : Int} (h : Fit l a) : 0 ≤ a ∧ a < 256 := by
  obtain ⟨h0, h1, h2, h3⟩ := h
  have h4 : (2 : Int) ^ l.toNat ≤ 2 ^ 8 := by
    have := Nat.pow_le_pow_right (n := 2) (by decide) (show l.toNat ≤ 8 by omega)
    exact_mod_cast this
  have e : (2 : Int) ^ 8 = 256 := by decide
  omega
theorem chk_self (lv at_ : List Int) : chkE lv at_ lv.length = if Reg lv at_ then 0 else 180 := by
  unfold chkE
  exact ite_cong ⟨fun h => h.2, fun h => ⟨rfl, h⟩⟩ _ _
theorem Halve_ev (lv at_ : List Int) (s : Int) : EvS (fun k => split_Halve.f k lv at_ s) (hL lv at_ s, hA lv at_ s, hL lv at_ s, hB lv at_ s, hE lv at_ s) := by
  unfold split_Halve.f
  refine EvS.bind (Check_ev lv at_ _) ?_
  rw [chk_self]
  by_cases hr : Reg lv at_
  · simp only [if_pos hr, if_true]
    refine EvS.bind (parts_ev lv at_ hr.2.1 hr.1) ?_
    have bad : ¬ HOk lv at_ s → EvS (fun k => split_Halve.j0 k s (pz lv at_) true) (hL lv at_ s, hA lv at_ s, hL lv at_ s, hB lv at_ s, hE lv at_ s) := fun h => by
      unfold hL hA hB hE
      simp only [if_neg h, if_pos hr]
      exact EvS.done fun k => by simp only [split_Halve.j0]; rfl
    by_cases h0 : s < 0
    · simp only [if_pos h0]; exact bad (fun h => by have := h.2.1; omega)
    · by_cases h1 : s ≥ (lv.length : Int)
      · simp only [if_neg h0, if_pos h1]; exact bad (fun h => by have := h.2.2.1; omega)
      · obtain ⟨i, rfl⟩ : ∃ i : Nat, s = i := ⟨s.toNat, by omega⟩
        have hi : i < lv.length := by omega
        have hp := pz_rd lv at_ i hi (by have := hr.2.1; omega)
        have hl := pz_length lv at_ hr.2.1
        simp only [if_neg h0, if_neg h1, if_pos (show (0 : Int) ≤ (i : Int) by omega), if_pos (show (i : Int) < ((pz lv at_).length : Int) by omega), hp]
        by_cases h8 : rd lv (i : Int) = 8
        · rw [show (rd lv (i : Int) == 8) = true by rw [h8]; rfl]
          exact bad (fun h => h.2.2.2 h8)
        · rw [show (rd lv (i : Int) == 8) = false from beq_eq_false_iff_ne.mpr h8]
          have hok : HOk lv at_ (i : Int) := ⟨hr, by omega, by omega, h8⟩
          have hf := hr.2.2 i hi
          have ha := fit_at hf
          have hl0 := hf.1
          have hl1 := hf.2.1
          have hia : i < at_.length := by have := hr.2.1; omega
          refine EvS.succ (fun k => by simp only [split_Halve.j0]; rfl) ?_
          simp only [Bool.false_eq_true, if_false, if_pos (show (0 : Int) ≤ (i : Int) by omega), if_pos (show (i : Int) < ((pz lv at_).length : Int) by omega), hp, Option.bind_some, Int.toNat_natCast, w64 (rd lv (i : Int) + 1) (by omega) (by omega), w64 (2 * rd at_ (i : Int)) (by omega) (by omega), pz_set]
          refine EvS.bind (region_ev _ (by rw [pz_length _ _ (by simp [hr.2.1])]; simp; exact hr.1)) ?_
          have hp2 := pz_rd (lv.set i (rd lv (i : Int) + 1)) (at_.set i (2 * rd at_ (i : Int))) i (by simp [hi]) (by simp [hia])
          rw [rd_set_same _ _ _ hi, rd_set_same _ _ _ hia] at hp2
          simp only [hp2, w64 (2 * rd at_ (i : Int) + 1) (by omega) (by omega), List.set_set, pz_f0 (lv.set i (rd lv (i : Int) + 1)) (at_.set i (2 * rd at_ (i : Int))) (by simp [hr.2.1]), pz_f1 (lv.set i (rd lv (i : Int) + 1)) (at_.set i (2 * rd at_ (i : Int))) (by simp [hr.2.1])]
          refine EvS.bind (region_ev _ (by rw [pz_length _ _ (by simp [hr.2.1])]; simp; exact hr.1)) ?_
          have hp3 := pz_rd (lv.set i (rd lv (i : Int) + 1)) (at_.set i (2 * rd at_ (i : Int) + 1)) i (by simp [hi]) (by simp [hia])
          rw [rd_set_same _ _ _ hi, rd_set_same _ _ _ hia] at hp3
          have hne : (rd lv (i : Int) + 1 == rd lv (i : Int)) = false := beq_eq_false_iff_ne.mpr (by omega)
          simp only [hp3, hne, Bool.false_and, Bool.false_eq_true, if_false, pz_f0 (lv.set i (rd lv (i : Int) + 1)) (at_.set i (2 * rd at_ (i : Int) + 1)) (by simp [hr.2.1]), pz_f1 (lv.set i (rd lv (i : Int) + 1)) (at_.set i (2 * rd at_ (i : Int) + 1)) (by simp [hr.2.1])]
          unfold hL hA hB hE
          simp only [if_pos hok, Int.toNat_natCast]
          exact EvS.pure _
  · have hn : ¬ HOk lv at_ s := fun h => hr h.1
    simp only [if_neg hr, if_neg (show ¬ ((180 : Int) = 0) by decide)]
    unfold hL hA hB hE
    simp only [if_neg hn, if_neg hr]
    exact EvS.pure _
end Go.Proofs.Ytlidbaejhmamjaa.LA
