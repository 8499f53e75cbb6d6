/- Part 6 of the proof of SplitRegions: what the functions below it compute, each shown by a walk or by plain reasoning; no condition of its own. -/
import Derived.Test.YtlidbaejhmamjaaSR1
import Derived.Test.YtlidbaejhmamjaaSR5
import Derived.Test.YtlidbaejhmamjaaSR3
import Derived.Test.YtlidbaejhmamjaaSR4
import Derived.Deep.SlicePairs
import Derived.Lib.SmallJoins
import Derived.ChangeSlices
import Derived.ProofKit
namespace Go.Proofs.Ytlidbaejhmamjaa.PB
open Go.RowKit Go.Proofs.YtlidbaejhmamjaaW.PrintWords Go.Proofs.YtlidbaejhmamjaaW.PrintLast Go.Proofs.YtlidbaejhmamjaaW.PrintMore
attribute [local go_sem] zan zao zax zay zaa zab zam zak   -- for this text's walks alone
set_option linter.unusedVariables false
set_option linter.unusedSimpArgs false
mutual
def zu.l0 : Nat → List Int → Int → Int → List Int → List Int → Option (List Int × Int)
 | 0, _, _, _, _, _ => none
 | k + 1, x1, x2, x8, x295000, x295001 => if x8 < (x1.length : Int) then (if 0 ≤ x8 then (if (rd x1 x8) < (-1) then (some (([] : List Int), 1)) else (if (rd x1 x8) > 1 then (some (([] : List Int), 1)) else (zu.l0 k x1 x2 (wrap64 (x8 + 1)) x295000 x295001))) else (none)) else (if x2 < 0 then (zu.j1 k x1 x2 true x295000 x295001) else (zu.j1 k x1 x2 (decide (x2 > 8)) x295000 x295001))
def zu.j1 : Nat → List Int → Int → Bool → List Int → List Int → Option (List Int × Int)
 | 0, _, _, _, _, _ => none
 | k + 1, x1, x2, x46, x295000, x295001 => if x46 = true then (some (([] : List Int), 1)) else (zu.l1 k x1 x2 ([] : List Int) 0 x295000 x295001)
def zu.l1 : Nat → List Int → Int → List Int → Int → List Int → List Int → Option (List Int × Int)
 | 0, _, _, _, _, _, _ => none
 | k + 1, x1, x2, x9, x10, x295000, x295001 => if x10 < (x1.length : Int) then (if 0 ≤ x10 then (if x10 < (x295000.length : Int) then (if x2 < (rd x295000 x10) then (some (([] : List Int), 1)) else (if x10 < (x295001.length : Int) then (if 0 ≤ (wrap64 (x2 - (rd x295000 x10))) then (if 0 ≤ x2 then (if x9.length < 17592186044416 then (zu.l1 k x1 x2 (x9 ++ [wrap64 ((shl .i64 (wrap64 ((wrap64 ((wrap64 (2 * (rd x295001 x10))) + 1)) + (rd x1 x10))) (wrap64 (x2 - (rd x295000 x10)))) - (shl .i64 1 x2))]) (wrap64 (x10 + 1)) x295000 x295001) else (none)) else (none)) else (none)) else (none))) else (none)) else (none)) else (some (x9, 0))
end
def zu.f (k : Nat) (l0_0 : List Int) (l0_1 : List Int) (l1 : List Int) (a2 : Int) : Option (List Int × Int) := (zv.f k l0_0 l0_1 (l0_0.length : Int)).bind fun t295 => (if t295 = 0 then (if (l1.length : Int) = (l0_0.length : Int) then (zu.l0 k l1 a2 0 l0_0 l0_1) else (some (([] : List Int), 63))) else (some (([] : List Int), 180)))
def zu.T18 : Bool × List (List Nat × List Nat) := (true, [([], []), ([], []), ([1], [1]), ([], []), ([2, 3], [2, 3]), ([4], [4]), ([5], [5]), ([6], [6]), ([], []), ([], []), ([8, 9], [8, 9]), ([10], [10]), ([7, 11], [7, 11]), ([], []), ([], []), ([14], [14]), ([], []), ([15, 16], [15, 16]), ([17], [17]), ([13, 18], [13, 18]), ([12, 19], [12, 19]), ([], []), ([21], [21]), ([20, 22], [20, 22]), ([23], [23]), ([0, 24], [0, 24]), ([25, 25, 0, 1, 2, 3, 4, 5, 6, 7, 8, 9, 10, 11, 12, 13, 14, 15, 16, 17, 18, 19, 20, 21, 22, 23, 24, 25], [0, 25])])
def zu.B18 : List Nat := [0, 0, 2, 0, 14, 30, 62, 126, 0, 0, 768, 1792, 4094, 0, 0, 16384, 0, 114688, 245760, 516096, 1048574, 0, 2097152, 8388606, 16777214, 33554431, 67108863]
theorem zu.tab18 : rtab .any (opsOf Try.f22 18) = zu.T18 := by kernel_rfl
theorem zu.bits18 : zaB zu.T18.2 zu.B18 = true := by kernel_rfl
set_option maxHeartbeats 8000000 in
set_option maxRecDepth 100000 in
theorem zu.calls (k : Nat) (A0_0 : Option Addr) (c0_0 : Nat) (l0_0 : List Int) (A0_1 : Option Addr) (c0_1 : Nat) (l0_1 : List Int) (A1 : Option Addr) (c1 : Nat) (l1 : List Int) (a2 : Int) (r1 : List Int) (r2 : Int) (w : World) (hr0_0 : Kd.C (Kd.int .i64) w A0_0 l0_0.length l0_0) (hc0_0 : l0_0.length ≤ c0_0) (hr0_1 : Kd.C (Kd.int .i64) w A0_1 l0_1.length l0_1) (hc0_1 : l0_1.length ≤ c0_1) (hr1 : Kd.C (Kd.int .i64) w A1 l1.length l1) (hc1 : l1.length ≤ c1) (h : zu.f k l0_0 l0_1 l1 a2 = some (r1, r2)) :
  Calls Try.prog 22 #[.agg #[.slice A0_0 l0_0.length c0_0, .slice A0_1 l0_1.length c0_1], .slice A1 l1.length c1, .int .i64 a2] w fun e w' => ∃ v0_ : Value, e = .returned (.tuple #[v0_, .int .i64 r2]) ∧ Kd.R (Kd.int .i64) 3 w' w.heap.size (fun _ => True) v0_ r1 ∧ Below w.heap.size w w' := by
 have hu24 := Try.underlying24
 have HR0_0 := am_ hr0_0
 have HC0_0 := am_ hc0_0
 clear hr0_0 hc0_0
 have HR0_1 := am_ hr0_1
 have HC0_1 := am_ hc0_1
 clear hr0_1 hc0_1
 have HR1 := am_ hr1
 have HC1 := am_ hc1
 clear hr1 hc1
 have HB := am_ (Below.refl w.heap.size w)
 have H : ((zv.f k l0_0 l0_1 (l0_0.length : Int)).bind fun t295 => (if t295 = 0 then (if (l1.length : Int) = (l0_0.length : Int) then (zu.l0 k l1 a2 0 l0_0 l0_1) else (some (([] : List Int), 63))) else (some (([] : List Int), 180)))) = some (r1, r2) := h
 clear h
 replace H := Option.bind_eq_some_iff.mp H
 obtain ⟨t295, A40, H⟩ := H
 replace H : (if t295 = 0 then (if (l1.length : Int) = (l0_0.length : Int) then (zu.l0 k l1 a2 0 l0_0 l0_1) else (some (([] : List Int), 63))) else (some (([] : List Int), 180))) = some (r1, r2) := H
 have A4 := am_ A40
 clear A40
 by_cases c5 : t295 = 0
 ·rw [if_pos c5] at H
  have c5b0 : (t295 == 0) = true := beq_iff_eq.mpr c5
  have c5b1 : (t295 != 0) = false := bne_eq_false_iff_eq.mpr c5
  clear c5
  by_cases c6 : (l1.length : Int) = (l0_0.length : Int)
  ·rw [if_pos c6] at H
   have c6b0 : ((l1.length : Int) == (l0_0.length : Int)) = true := beq_iff_eq.mpr c6
   have c6b1 : ((l1.length : Int) != (l0_0.length : Int)) = false := bne_eq_false_iff_eq.mpr c6
   have c6b2 : (l1.length == l0_0.length) = true := by first | simpa using c6 | (simp at c6 ⊢; omega)
   clear c6
   have H' := am_ H
   clear H
   go_enter Try.func22, Try.ntmps22
   go_wp2_with (first | ((with_reducible refine zq (N := 3) rfl ?_); refine zr ?hg (N := 3) ?hd (cs := #[.slice A0_0 l0_0.length c0_0, .slice A0_1 l0_1.length c0_1]) (t := 24) ?hr ?_; (case hd => rfl); (case hg => rfl); (case hr => first | (go_simp; done) | (go_simp; rfl)); intro gb294 hg w7 hbox hb; have n0_ := am_ (zh (by repeat (first | (with_reducible first | exact HB.out | apply zc | apply za | apply zb) | exact HB.out)) hb); have n1_ := am_ (hbox); have n2_ := am_ ((by rw [hg]; exact (zk (by repeat (first | (with_reducible first | exact HB.out | apply zc | apply za | apply zb) | exact HB.out))) : w.heap.size ≤ gb294)); have n3_ := am_ ((by rw [hg]; exact (zk (by repeat (first | (with_reducible first | exact HB.out | apply zc | apply za | apply zb) | exact HB.out))) : w.heap.size ≤ gb294)); clear HB; have HB := n0_; have BK294 := n1_; have GW294 := n2_; have GE294 := n3_; clear n0_ n1_ n2_ n3_; clear hb hbox hg; have hcz8_0 : w7.cell? ⟨gb294, 0, none⟩ = some (.slice A0_0 l0_0.length c0_0) := (zj BK294.out 0).trans rfl; have hcz8_1 : w7.cell? ⟨gb294, 1, none⟩ = some (.slice A0_1 l0_1.length c0_1) := (zj BK294.out 1).trans rfl; have hfz8_0 := zi BK294.out 0; have hfz8_1 := zi BK294.out 1) | ((with_reducible refine zU (f := 18) rfl ?_); refine zaC (some 15) rfl rfl Try.func18 (by kernel_rfl) rfl #[.agg #[.slice A0_0 l0_0.length c0_0, .slice A0_1 l0_1.length c0_1], .int .i64 (l0_0.length : Int)] rfl (by (try simp only [List.map_toArray, List.map_cons, List.map_nil]); first | done | rfl | (simp only [List.length_drop, List.length_take]; rfl)) ?_; (with_reducible refine (zv.calls k _ _ l0_0 _ _ l0_1 (l0_0.length : Int) t295 _ ?side1 ?side2 ?side3 ?side4 A4.out).mono ?_); (case side1 => repeat (first | exact (Kd.zT HR0_0.out HB.out) | (with_reducible refine Kd.z6 ?_ _) | (with_reducible refine Kd.z7 ?_ _) | (with_reducible refine Kd.zai ?_))); (case side2 => exact HC0_0.out); (case side3 => repeat (first | exact (Kd.zT HR0_1.out HB.out) | (with_reducible refine Kd.z6 ?_ _) | (with_reducible refine Kd.z7 ?_ _) | (with_reducible refine Kd.zai ?_))); (case side4 => exact HC0_1.out); rintro e w9 ⟨rfl, hb⟩; refine ⟨_, rfl, ?_⟩; have n0_ := am_ (zl (g := gb294) (o := .cells #[.slice A0_0 l0_0.length c0_0, .slice A0_1 l0_1.length c0_1] 24 (0, 0)) (by (with_reducible repeat (first | refine ze ?_ _ | refine zg ?_ | refine zd ?_ _)); exact BK294.out) hb); have n1_ := am_ (zh (by repeat (first | (with_reducible first | exact HB.out | apply zc | apply za | apply zb | refine zf ?_ GE294.out) | exact HB.out)) hb); clear BK294; clear HB; have BK294 := n0_; have HB := n1_; clear n0_ n1_; (try clear hb); (try clear hb2); (try clear hk); (try clear hi); have hcz10_0 : w9.cell? ⟨gb294, 0, none⟩ = some (.slice A0_0 l0_0.length c0_0) := (zj BK294.out 0).trans rfl; have hcz10_1 : w9.cell? ⟨gb294, 1, none⟩ = some (.slice A0_1 l0_1.length c0_1) := (zj BK294.out 1).trans rfl; have hfz10_0 := zi BK294.out 0; have hfz10_1 := zi BK294.out 1))
   go_loopg [8] k (fun kq v8 w' => ∃ (x8_1 : Int), v8 = .int .i64 x8_1 ∧ Aside0 (zu.l0 kq l1 a2 x8_1 l0_0 l0_1 = some (r1, r2)) ∧ Aside0 (kq ≤ k) ∧ Aside0 (w'.heap[gb294]? = some (.cells #[(.slice A0_0 l0_0.length c0_0), (.slice A0_1 l0_1.length c0_1)] 24 (0, 0))) ∧ Aside0 (Below w.heap.size w w'))
   case atStart => exact ⟨(0), (by first | rfl | (simp; done) | (simp [*]; done)), H', ⟨Nat.le_refl _⟩, ⟨by (with_reducible repeat (first | refine ze ?_ _ | refine zg ?_ | refine zd ?_ _)); exact BK294.out⟩, ⟨by repeat (first | (with_reducible first | exact HB.out | apply zc | apply za | apply zb | refine zf ?_ GE294.out) | exact HB.out)⟩⟩
   case round =>
    clear H'
    try clear c1
    try clear c2
    try clear p2
    try clear c5
    try clear c5b0
    try clear c5b1
    try clear c6
    try clear c6b0
    try clear c6b1
    try clear c6b2
    try clear hcz10_0
    try clear hcz10_1
    try clear hcz8_0
    try clear hcz8_1
    try clear hfz10_0
    try clear hfz10_1
    try clear hfz8_0
    try clear hfz8_1
    obtain ⟨x8_1, rfl, HA, HK1, BK294, HB⟩ := hrel
    cases gk with
    | zero => exact absurd HA.out (by simp [zu.l0])
    | succ k1 =>
     have H := HA.out
     clear HA
     simp only [zu.l0] at H
     by_cases c11 : x8_1 < (l1.length : Int)
     ·rw [if_pos c11] at H
      have c11b0 : decide (x8_1 < (l1.length : Int)) = true := decide_eq_true c11
      clear c11
      by_cases c12 : 0 ≤ x8_1
      ·rw [if_pos c12] at H
       have c12b0 : decide (0 ≤ x8_1) = true := decide_eq_true c12
       clear c12
       by_cases c13 : (rd l1 x8_1) < (-1)
       ·rw [if_pos c13] at H
        have c13b0 : decide ((rd l1 x8_1) < (-1)) = true := decide_eq_true c13
        clear c13
        simp only [Option.some.injEq, Prod.mk.injEq] at H
        obtain ⟨rfl, rfl⟩ := H
        have p296 : 0 ≤ (x8_1 : Int) := of_decide_eq_true (by first | (with_reducible assumption) | assumption)
        have q296 : x8_1 < (l1.length : Int) := of_decide_eq_true (by first | (with_reducible assumption) | assumption)
        obtain ⟨ad296, e296, hx296_0⟩ := Kd.zY HR1.out x8_1 p296 q296
        cases e296
        replace hx296_0 := (HB.out.cell (World.block_lt_of_cell? w _ hx296_0)).trans hx296_0
        replace p296 := eq_true p296
        replace q296 := eq_true q296
        go_wp2
        go_ret2
        exact ⟨_, by first | rfl | (simp [zn, zo] <;> rfl) | (simp [*, zn, zo] <;> rfl), by first | exact Kd.zaF _ _ _ _ _ | exact Kd.zaS _ _ _ _ _ | exact Kd.zaR _ _ _ _ _ | exact Kd.zaQ _ _ _ _ _ | exact Kd.zaT _ _ _ _ _, by repeat (first | (with_reducible first | exact HB.out | apply zc | apply za | apply zb | refine zf ?_ GE294.out) | exact HB.out)⟩
       ·rw [if_neg c13] at H
        have c13b0 : decide ((rd l1 x8_1) < (-1)) = false := decide_eq_false c13
        clear c13
        by_cases c14 : (rd l1 x8_1) > 1
        ·rw [if_pos c14] at H
         have c14b0 : decide (1 < (rd l1 x8_1)) = true := decide_eq_true c14
         clear c14
         simp only [Option.some.injEq, Prod.mk.injEq] at H
         obtain ⟨rfl, rfl⟩ := H
         have p296 : 0 ≤ (x8_1 : Int) := of_decide_eq_true (by first | (with_reducible assumption) | assumption)
         have q296 : x8_1 < (l1.length : Int) := of_decide_eq_true (by first | (with_reducible assumption) | assumption)
         obtain ⟨ad296, e296, hx296_0⟩ := Kd.zY HR1.out x8_1 p296 q296
         cases e296
         replace hx296_0 := (HB.out.cell (World.block_lt_of_cell? w _ hx296_0)).trans hx296_0
         replace p296 := eq_true p296
         replace q296 := eq_true q296
         have p297 : 0 ≤ (x8_1 : Int) := of_decide_eq_true (by first | (with_reducible assumption) | assumption)
         have q297 : x8_1 < (l1.length : Int) := of_decide_eq_true (by first | (with_reducible assumption) | assumption)
         obtain ⟨ad297, e297, hx297_0⟩ := Kd.zY HR1.out x8_1 p297 q297
         obtain rfl : ad296 = ad297 := (by injection e297)
         replace hx297_0 := (HB.out.cell (World.block_lt_of_cell? w _ hx297_0)).trans hx297_0
         replace p297 := eq_true p297
         replace q297 := eq_true q297
         go_wp2
         go_ret2
         exact ⟨_, by first | rfl | (simp [zn, zo] <;> rfl) | (simp [*, zn, zo] <;> rfl), by first | exact Kd.zaF _ _ _ _ _ | exact Kd.zaS _ _ _ _ _ | exact Kd.zaR _ _ _ _ _ | exact Kd.zaQ _ _ _ _ _ | exact Kd.zaT _ _ _ _ _, by repeat (first | (with_reducible first | exact HB.out | apply zc | apply za | apply zb | refine zf ?_ GE294.out) | exact HB.out)⟩
        ·rw [if_neg c14] at H
         have c14b0 : decide (1 < (rd l1 x8_1)) = false := decide_eq_false c14
         clear c14
         have H' := am_ H
         clear H
         have p296 : 0 ≤ (x8_1 : Int) := of_decide_eq_true (by first | (with_reducible assumption) | assumption)
         have q296 : x8_1 < (l1.length : Int) := of_decide_eq_true (by first | (with_reducible assumption) | assumption)
         obtain ⟨ad296, e296, hx296_0⟩ := Kd.zY HR1.out x8_1 p296 q296
         cases e296
         replace hx296_0 := (HB.out.cell (World.block_lt_of_cell? w _ hx296_0)).trans hx296_0
         replace p296 := eq_true p296
         replace q296 := eq_true q296
         have p297 : 0 ≤ (x8_1 : Int) := of_decide_eq_true (by first | (with_reducible assumption) | assumption)
         have q297 : x8_1 < (l1.length : Int) := of_decide_eq_true (by first | (with_reducible assumption) | assumption)
         obtain ⟨ad297, e297, hx297_0⟩ := Kd.zY HR1.out x8_1 p297 q297
         obtain rfl : ad296 = ad297 := (by injection e297)
         replace hx297_0 := (HB.out.cell (World.block_lt_of_cell? w _ hx297_0)).trans hx297_0
         replace p297 := eq_true p297
         replace q297 := eq_true q297
         go_wp2
         go_roundg k1
         case measure => have := HK1.out; omega
         case rel => exact ⟨(wrap64 (x8_1 + 1)), (by first | rfl | (simp; done) | (simp [*]; done)), H', ⟨by have := HK1.out; omega⟩, ⟨by (with_reducible repeat (first | refine ze ?_ _ | refine zg ?_ | refine zd ?_ _)); exact BK294.out⟩, ⟨by repeat (first | (with_reducible first | exact HB.out | apply zc | apply za | apply zb | refine zf ?_ GE294.out) | exact HB.out)⟩⟩
      ·rw [if_neg c12] at H
       exact absurd H (by simp)
     ·rw [if_neg c11] at H
      have c11b0 : decide (x8_1 < (l1.length : Int)) = false := decide_eq_false c11
      clear c11
      have HC15 := am_ H
      clear H
      go_upto_region 10 with (fail)
      go_cut [46] (fun v46 wc => ∃ (kq : Nat) (x46_14 : Bool), v46 = .bool x46_14 ∧ Aside0 (zu.j1 kq l1 a2 x46_14 l0_0 l0_1 = some (r1, r2)) ∧ Aside0 (kq ≤ k1) ∧ Aside0 (wc.heap[gb294]? = some (.cells #[(.slice A0_0 l0_0.length c0_0), (.slice A0_1 l0_1.length c0_1)] 24 (0, 0))) ∧ Aside0 (Below w.heap.size w wc))
      case first =>
       have H := HC15.out
       clear HC15
       by_cases c16 : a2 < 0
       ·rw [if_pos c16] at H
        have c16b0 : decide (a2 < 0) = true := decide_eq_true c16
        clear c16
        (first | rw [c16b0] | (simp only [zm, zp]; rw [c16b0]) | skip)
        have H' := am_ H
        clear H
        go_wp2
        go_meet
        case rel => exact ⟨_, (true), (by first | rfl | (simp; done) | (simp [*]; done)), H', ⟨by have := HK1.out; first | omega | exact Nat.le_refl _⟩, ⟨by (with_reducible repeat (first | refine ze ?_ _ | refine zg ?_ | refine zd ?_ _)); exact BK294.out⟩, ⟨by repeat (first | (with_reducible first | exact HB.out | apply zc | apply za | apply zb | refine zf ?_ GE294.out) | exact HB.out)⟩⟩
       ·rw [if_neg c16] at H
        have c16b0 : decide (a2 < 0) = false := decide_eq_false c16
        clear c16
        (first | rw [c16b0] | (simp only [zm, zp]; rw [c16b0]) | skip)
        have H' := am_ H
        clear H
        go_wp2
        go_meet
        case rel => exact ⟨_, (decide (a2 > 8)), (by first | rfl | (simp; done) | (simp [*]; done)), H', ⟨by have := HK1.out; first | omega | exact Nat.le_refl _⟩, ⟨by (with_reducible repeat (first | refine ze ?_ _ | refine zg ?_ | refine zd ?_ _)); exact BK294.out⟩, ⟨by repeat (first | (with_reducible first | exact HB.out | apply zc | apply za | apply zb | refine zf ?_ GE294.out) | exact HB.out)⟩⟩
      case rest =>
       clear HC15
       try clear c1
       try clear c2
       try clear p2
       try clear q2
       try clear hx2
       try clear c5
       try clear c5b0
       try clear c5b1
       try clear c6
       try clear c6b0
       try clear c6b1
       try clear c6b2
       try clear p6
       try clear c11
       try clear c11b0
       try clear c12
       try clear c12b0
       try clear c13
       try clear c13b0
       try clear c14
       try clear c14b0
       try clear c16
       try clear c16b0
       try clear hcz10_0
       try clear hcz10_1
       try clear hcz8_0
       try clear hcz8_1
       try clear hfz10_0
       try clear hfz10_1
       try clear hfz8_0
       try clear hfz8_1
       try clear hx296_0
       try clear hx297_0
       try clear p2
       try clear p296
       try clear p297
       try clear q296
       try clear q297
       obtain ⟨kq, x46_14, rfl, HA, HJ14, BK294, HB⟩ := hcut
       cases kq with
       | zero => exact absurd HA.out (by simp [zu.j1])
       | succ kj14 =>
        have H := HA.out
        clear HA
        simp only [zu.j1] at H
        by_cases c17 : x46_14 = true
        ·subst c17
         have H1 : (some (([] : List Int), 1)) = some (r1, r2) := by rw [if_pos rfl] at H; exact H
         clear H
         have H := H1
         clear H1
         simp only [Option.some.injEq, Prod.mk.injEq] at H
         obtain ⟨rfl, rfl⟩ := H
         go_wp2
         go_ret2
         exact ⟨_, by first | rfl | (simp [zn, zo] <;> rfl) | (simp [*, zn, zo] <;> rfl), by first | exact Kd.zaF _ _ _ _ _ | exact Kd.zaS _ _ _ _ _ | exact Kd.zaR _ _ _ _ _ | exact Kd.zaQ _ _ _ _ _ | exact Kd.zaT _ _ _ _ _, by repeat (first | (with_reducible first | exact HB.out | apply zc | apply za | apply zb | refine zf ?_ GE294.out) | exact HB.out)⟩
        ·replace c17 := Bool.eq_false_iff.mpr c17
         subst c17
         have H1 : (zu.l1 kj14 l1 a2 ([] : List Int) 0 l0_0 l0_1) = some (r1, r2) := by rw [if_neg (show ¬ (false = true) by decide)] at H; exact H
         clear H
         have H := H1
         clear H1
         have H' := am_ H
         clear H
         go_wp2
         go_loopg [9, 10] kj14 (fun kq v9 v10 w' => ∃ (x9_3 : List Int) (x10_3 : Int), v10 = .int .i64 x10_3 ∧ Aside0 (zu.l1 kq l1 a2 x9_3 x10_3 l0_0 l0_1 = some (r1, r2)) ∧ Aside0 (kq ≤ kj14) ∧ Aside0 (Kd.R (Kd.int .i64) 3 w' w.heap.size (fun _ => True) v9 x9_3) ∧ Aside0 (w'.heap[gb294]? = some (.cells #[(.slice A0_0 l0_0.length c0_0), (.slice A0_1 l0_1.length c0_1)] 24 (0, 0))) ∧ Aside0 (Below w.heap.size w w'))
         case atStart => exact ⟨(([] : List Int)), (0), (by first | rfl | (simp; done) | (simp [*]; done)), H', ⟨Nat.le_refl _⟩, ⟨by first | exact Kd.zaF _ _ _ _ _ | exact Kd.zaS _ _ _ _ _ | exact Kd.zaR _ _ _ _ _ | exact Kd.zaQ _ _ _ _ _ | exact Kd.zaT _ _ _ _ _⟩, ⟨by (with_reducible repeat (first | refine ze ?_ _ | refine zg ?_ | refine zd ?_ _)); exact BK294.out⟩, ⟨by repeat (first | (with_reducible first | exact HB.out | apply zc | apply za | apply zb | refine zf ?_ GE294.out) | exact HB.out)⟩⟩
         case round =>
          clear H'
          try clear c1
          try clear c2
          try clear p2
          try clear q2
          try clear hx2
          try clear c5
          try clear c5b0
          try clear c5b1
          try clear c6
          try clear c6b0
          try clear c6b1
          try clear c6b2
          try clear p6
          try clear c11
          try clear c11b0
          try clear c12
          try clear c12b0
          try clear c13
          try clear c13b0
          try clear c14
          try clear c14b0
          try clear c16
          try clear c16b0
          try clear c17
          try clear hcz10_0
          try clear hcz10_1
          try clear hcz8_0
          try clear hcz8_1
          try clear hfz10_0
          try clear hfz10_1
          try clear hfz8_0
          try clear hfz8_1
          try clear hx296_0
          try clear hx297_0
          try clear p2
          try clear p296
          try clear p297
          try clear p6
          try clear q2
          try clear q296
          try clear q297
          obtain ⟨x9_3, x10_3, rfl, HA, HK3, HO_9, BK294, HB⟩ := hrel
          cases gk with
          | zero => exact absurd HA.out (by simp [zu.l1])
          | succ k3 =>
           have H := HA.out
           clear HA
           simp only [zu.l1] at H
           by_cases c18 : x10_3 < (l1.length : Int)
           ·rw [if_pos c18] at H
            have c18b0 : decide (x10_3 < (l1.length : Int)) = true := decide_eq_true c18
            clear c18
            by_cases c19 : 0 ≤ x10_3
            ·rw [if_pos c19] at H
             have c19b0 : decide (0 ≤ x10_3) = true := decide_eq_true c19
             clear c19
             by_cases c20 : x10_3 < (l0_0.length : Int)
             ·rw [if_pos c20] at H
              have c20b0 : decide (x10_3 < (l0_0.length : Int)) = true := decide_eq_true c20
              clear c20
              by_cases c21 : a2 < (rd l0_0 x10_3)
              ·rw [if_pos c21] at H
               have c21b0 : decide (a2 < (rd l0_0 x10_3)) = true := decide_eq_true c21
               clear c21
               simp only [Option.some.injEq, Prod.mk.injEq] at H
               obtain ⟨rfl, rfl⟩ := H
               have hcz22_0 : wr.cell? ⟨gb294, 0, none⟩ = some (.slice A0_0 l0_0.length c0_0) := (zj BK294.out 0).trans rfl
               have hcz22_1 : wr.cell? ⟨gb294, 1, none⟩ = some (.slice A0_1 l0_1.length c0_1) := (zj BK294.out 1).trans rfl
               have hfz22_0 := zi BK294.out 0
               have hfz22_1 := zi BK294.out 1
               have p298 : 0 ≤ (x10_3 : Int) := of_decide_eq_true (by first | (with_reducible assumption) | assumption)
               have q298 : x10_3 < (l0_0.length : Int) := of_decide_eq_true (by first | (with_reducible assumption) | assumption)
               obtain ⟨ad298, e298, hx298_0⟩ := Kd.zY HR0_0.out x10_3 p298 q298
               cases e298
               replace hx298_0 := (HB.out.cell (World.block_lt_of_cell? w _ hx298_0)).trans hx298_0
               replace p298 := eq_true p298
               replace q298 := eq_true q298
               go_wp2
               go_ret2
               exact ⟨_, by first | rfl | (simp [zn, zo] <;> rfl) | (simp [*, zn, zo] <;> rfl), by first | exact Kd.zaF _ _ _ _ _ | exact Kd.zaS _ _ _ _ _ | exact Kd.zaR _ _ _ _ _ | exact Kd.zaQ _ _ _ _ _ | exact Kd.zaT _ _ _ _ _, by repeat (first | (with_reducible first | exact HB.out | apply zc | apply za | apply zb | refine zf ?_ GE294.out) | exact HB.out)⟩
              ·rw [if_neg c21] at H
               have c21b0 : decide (a2 < (rd l0_0 x10_3)) = false := decide_eq_false c21
               clear c21
               by_cases c23 : x10_3 < (l0_1.length : Int)
               ·rw [if_pos c23] at H
                have c23b0 : decide (x10_3 < (l0_1.length : Int)) = true := decide_eq_true c23
                clear c23
                obtain ⟨ji24, hji24⟩ : ∃ j_ : Int, (wrap64 (a2 - (rd l0_0 x10_3))) = j_ := ⟨_, rfl⟩
                replace H : (if 0 ≤ (ji24) then (if 0 ≤ a2 then (if x9_3.length < 17592186044416 then (zu.l1 k3 l1 a2 (x9_3 ++ [wrap64 ((shl .i64 (wrap64 ((wrap64 ((wrap64 (2 * (rd l0_1 x10_3))) + 1)) + (rd l1 x10_3))) (ji24)) - (shl .i64 1 a2))]) (wrap64 (x10_3 + 1)) l0_0 l0_1) else (none)) else (none)) else (none)) = some (r1, r2) := by first | (rw [hji24] at H; exact H) | (simp only [hji24] at H ⊢; exact H)
                have hji24w : (IntKind.i64.wrap (a2 - (rd l0_0 x10_3))) = ji24 := (zm _).trans hji24
                by_cases c25 : 0 ≤ (ji24)
                ·rw [if_pos c25] at H
                 have c25b0 := eq_true c25
                 have c25b1 : decide (0 ≤ (ji24)) = true := decide_eq_true c25
                 clear c25
                 obtain ⟨ji26, hji26⟩ : ∃ j_ : Int, (shl .i64 (wrap64 ((wrap64 ((wrap64 (2 * (rd l0_1 x10_3))) + 1)) + (rd l1 x10_3))) (ji24)) = j_ := ⟨_, rfl⟩
                 replace H : (if 0 ≤ a2 then (if x9_3.length < 17592186044416 then (zu.l1 k3 l1 a2 (x9_3 ++ [wrap64 ((ji26) - (shl .i64 1 a2))]) (wrap64 (x10_3 + 1)) l0_0 l0_1) else (none)) else (none)) = some (r1, r2) := by first | (rw [hji26] at H; exact H) | (simp only [hji26] at H ⊢; exact H)
                 have hji26_ : (IntKind.i64.wrap ((wrap64 ((wrap64 ((wrap64 (2 * (rd l0_1 x10_3))) + 1)) + (rd l1 x10_3))) * 2 ^ min (ji24).toNat 64)) = ji26 := hji26
                 have hji26z : (ji24) ≤ 64 → (IntKind.i64.wrap ((wrap64 ((wrap64 ((wrap64 (2 * (rd l0_1 x10_3))) + 1)) + (rd l1 x10_3))) * 2 ^ (ji24).toNat)) = ji26 := shl_small hji26
                 have hji26y : (wrap64 ((wrap64 ((wrap64 ((wrap64 (2 * (rd l0_1 x10_3))) + 1)) + (rd l1 x10_3))) * 2 ^ min (ji24).toNat 64)) = ji26 := (zm _).symm.trans hji26_
                 have hji26x : (ji24) ≤ 64 → (wrap64 ((wrap64 ((wrap64 ((wrap64 (2 * (rd l0_1 x10_3))) + 1)) + (rd l1 x10_3))) * 2 ^ (ji24).toNat)) = ji26 := fun h_ => (zm _).symm.trans (hji26z h_)
                 by_cases c27 : 0 ≤ a2
                 ·rw [if_pos c27] at H
                  have c27b0 := eq_true c27
                  have c27b1 : decide (0 ≤ a2) = true := decide_eq_true c27
                  clear c27
                  obtain ⟨ji28, hji28⟩ : ∃ j_ : Int, (shl .i64 1 a2) = j_ := ⟨_, rfl⟩
                  replace H : (if x9_3.length < 17592186044416 then (zu.l1 k3 l1 a2 (x9_3 ++ [wrap64 ((ji26) - (ji28))]) (wrap64 (x10_3 + 1)) l0_0 l0_1) else (none)) = some (r1, r2) := by first | (rw [hji28] at H; exact H) | (simp only [hji28] at H ⊢; exact H)
                  have hji28_ : (IntKind.i64.wrap (1 * 2 ^ min a2.toNat 64)) = ji28 := hji28
                  have hji28z : a2 ≤ 64 → (IntKind.i64.wrap (1 * 2 ^ a2.toNat)) = ji28 := shl_small hji28
                  have hji28u : (IntKind.i64.wrap (2 ^ min a2.toNat 64)) = ji28 := by have h_ := hji28_; rw [Int.one_mul] at h_; exact h_
                  have hji28v : a2 ≤ 64 → (IntKind.i64.wrap (2 ^ a2.toNat)) = ji28 := fun hle_ => by have h_ := hji28z hle_; rw [Int.one_mul] at h_; exact h_
                  have hji28y : (wrap64 (1 * 2 ^ min a2.toNat 64)) = ji28 := (zm _).symm.trans hji28_
                  have hji28x : a2 ≤ 64 → (wrap64 (1 * 2 ^ a2.toNat)) = ji28 := fun h_ => (zm _).symm.trans (hji28z h_)
                  by_cases c29 : x9_3.length < 17592186044416
                  ·rw [if_pos c29] at H
                   have LMc29 := am_ c29
                   clear c29
                   obtain ⟨y302, hy302⟩ : ∃ y_ : List Int, y_ = (x9_3 ++ [wrap64 ((ji26) - (ji28))]) := ⟨_, rfl⟩
                   replace H : (zu.l1 k3 l1 a2 y302 (wrap64 (x10_3 + 1)) l0_0 l0_1) = some (r1, r2) := by first | (rw [hy302]; with_reducible exact H) | (have H2_ := (Option.bind_some _ _).symm.trans H; rw [hy302]; with_reducible exact H2_) | (have H2_ := (Option.bind_some _ _).symm.trans H; with_reducible exact H2_) | with_reducible exact H | (rw [hy302]; exact H) | exact H
                   have Ny302 := am_ hy302
                   clear hy302
                   have H' := am_ H
                   clear H
                   have hcz30_0 : wr.cell? ⟨gb294, 0, none⟩ = some (.slice A0_0 l0_0.length c0_0) := (zj BK294.out 0).trans rfl
                   have hcz30_1 : wr.cell? ⟨gb294, 1, none⟩ = some (.slice A0_1 l0_1.length c0_1) := (zj BK294.out 1).trans rfl
                   have hfz30_0 := zi BK294.out 0
                   have hfz30_1 := zi BK294.out 1
                   have p298 : 0 ≤ (x10_3 : Int) := of_decide_eq_true (by first | (with_reducible assumption) | assumption)
                   have q298 : x10_3 < (l0_0.length : Int) := of_decide_eq_true (by first | (with_reducible assumption) | assumption)
                   obtain ⟨ad298, e298, hx298_0⟩ := Kd.zY HR0_0.out x10_3 p298 q298
                   cases e298
                   replace hx298_0 := (HB.out.cell (World.block_lt_of_cell? w _ hx298_0)).trans hx298_0
                   replace p298 := eq_true p298
                   replace q298 := eq_true q298
                   try go_wp2
                   have n0_ := am_ (Kd.zz HO_9.out)
                   have n1_ := am_ (zg BK294.out)
                   have n2_ := am_ (zb HB.out)
                   clear HO_9
                   clear BK294
                   clear HB
                   have HO_9 := n0_
                   have BK294 := n1_
                   have HB := n2_
                   clear n0_ n1_ n2_
                   have p299 : 0 ≤ (x10_3 : Int) := of_decide_eq_true (by first | (with_reducible assumption) | assumption)
                   have q299 : x10_3 < (l0_1.length : Int) := of_decide_eq_true (by first | (with_reducible assumption) | assumption)
                   obtain ⟨ad299, e299, hx299_0⟩ := Kd.zY HR0_1.out x10_3 p299 q299
                   have hw299_0 := hx299_0
                   cases e299
                   replace hx299_0 := (HB.out.cell (World.block_lt_of_cell? w _ hx299_0)).trans hx299_0
                   replace p299 := eq_true p299
                   replace q299 := eq_true q299
                   have p300 : 0 ≤ (x10_3 : Int) := of_decide_eq_true (by first | (with_reducible assumption) | assumption)
                   have q300 : x10_3 < (l1.length : Int) := of_decide_eq_true (by first | (with_reducible assumption) | assumption)
                   obtain ⟨ad300, e300, hx300_0⟩ := Kd.zY HR1.out x10_3 p300 q300
                   have hw300_0 := hx300_0
                   cases e300
                   replace hx300_0 := (HB.out.cell (World.block_lt_of_cell? w _ hx300_0)).trans hx300_0
                   replace p300 := eq_true p300
                   replace q300 := eq_true q300
                   have p301 : 0 ≤ (x10_3 : Int) := of_decide_eq_true (by first | (with_reducible assumption) | assumption)
                   have q301 : x10_3 < (l0_0.length : Int) := of_decide_eq_true (by first | (with_reducible assumption) | assumption)
                   obtain ⟨ad301, e301, hx301_0⟩ := Kd.zY HR0_0.out x10_3 p301 q301
                   have hw301_0 := hx301_0
                   obtain rfl : ad298 = ad301 := (by injection e301)
                   replace hx301_0 := (HB.out.cell (World.block_lt_of_cell? w _ hx301_0)).trans hx301_0
                   replace p301 := eq_true p301
                   replace q301 := eq_true q301
                   refine za1 (n := 27) (S := fun w' => w'.cell? ⟨gb294, 0, none⟩ = some (.slice (some ad298) l0_0.length c0_0) ∧ w'.cell? ⟨gb294, 1, none⟩ = some (.slice (some ad299) l0_1.length c0_1) ∧ w'.cell? (ad299.add (x10_3).toNat) = some (.int .i64 (rd l0_1 x10_3)) ∧ w'.cell? (ad300.add (x10_3).toNat) = some (.int .i64 (rd l1 x10_3)) ∧ w'.cell? (ad298.add (x10_3).toNat) = some (.int .i64 (rd l0_0 x10_3))) (ds := []) (bl_ 27 0) (by kernel_rfl) rfl rfl ⟨(zj BK294.out 0).trans rfl, (zj BK294.out 1).trans rfl, ((HB.out.cell (World.block_lt_of_cell? w _ hw299_0)).trans hw299_0), ((HB.out.cell (World.block_lt_of_cell? w _ hw300_0)).trans hw300_0), ((HB.out.cell (World.block_lt_of_cell? w _ hw301_0)).trans hw301_0)⟩ (fun hHeld => ?_); refine zav zu.tab18 zu.bits18 (fun HT_ HW_ => ?_)
                   generalize wr.drew = w31 at HO_9 BK294 HB hx299_0 hx300_0 hx301_0 hHeld ⊢
                   refine zD (i := 0) (N := some 60) (v := ?_) (a' := ?_) (bl_ 27 1) rfl rfl (zt HT_.out (by kernel_rfl)) (fun _ _ _ h => h) (Or.inl ⟨by rfl, ?_⟩) ?_ ?_
                   rotate_left
                   ·intro w'
                    go_simp
                    with_reducible rfl
                   rotate_left
                   ·simp only [Act.put, sI_, s0_, s1_, zm, zp]
                    rfl
                   refine zD (i := 1) (N := some 61) (v := ?_) (a' := ?_) (bl_ 27 3) rfl rfl (zt HT_.out (by kernel_rfl)) (fun _ _ _ h => h) (Or.inl ⟨by rfl, ?_⟩) ?_ ?_
                   rotate_left
                   ·intro w'
                    go_simp
                    with_reducible rfl
                   rotate_left
                   ·simp only [Act.put, sI_, s0_, s1_, zm, zp]
                    rfl
                   refine zD (i := 3) (N := some 63) (v := ?_) (a' := ?_) (bl_ 27 11) rfl rfl (zt HT_.out (by kernel_rfl)) (fun _ _ _ h => h) (Or.inl ⟨by rfl, ?_⟩) ?_ ?_
                   rotate_left
                   ·intro w'
                    go_simp
                    with_reducible rfl
                   rotate_left
                   ·simp only [Act.put, sI_, s0_, s1_, zm, zp]
                    rfl
                   refine zD (i := 8) (N := some 68) (v := ?_) (a' := ?_) (bl_ 27 267) rfl rfl (zt HT_.out (by kernel_rfl)) (fun _ _ _ h => h) (Or.inl ⟨by rfl, ?_⟩) ?_ ?_
                   rotate_left
                   ·intro w'
                    go_simp
                    with_reducible rfl
                   rotate_left
                   ·simp only [Act.put, sI_, s0_, s1_, zm, zp]
                    rfl
                   refine zD (i := 9) (N := some 69) (v := ?_) (a' := ?_) (bl_ 27 779) rfl rfl (zt HT_.out (by kernel_rfl)) (fun _ _ _ h => h) (Or.inl ⟨by rfl, ?_⟩) ?_ ?_
                   rotate_left
                   ·intro w'
                    go_simp
                    with_reducible rfl
                   rotate_left
                   ·simp only [Act.put, sI_, s0_, s1_, zm, zp]
                    rfl
                   refine zD (i := 10) (N := some 70) (v := ?_) (a' := ?_) (bl_ 27 1803) rfl rfl (zt HT_.out (by kernel_rfl)) (fun _ _ _ h => h) (Or.inl ⟨by rfl, ?_⟩) ?_ ?_
                   rotate_left
                   ·intro w'
                    go_simp
                    with_reducible rfl
                   rotate_left
                   ·simp only [Act.put, sI_, s0_, s1_, zm, zp]
                    rfl
                   refine zD (i := 13) (N := some 73) (v := ?_) (a' := ?_) (bl_ 27 9995) rfl rfl (zt HT_.out (by kernel_rfl)) (fun _ _ _ h => h) (Or.inl ⟨by rfl, ?_⟩) ?_ ?_
                   rotate_left
                   ·intro w'
                    go_simp
                    with_reducible rfl
                   rotate_left
                   ·simp only [Act.put, sI_, s0_, s1_, zm, zp]
                    rfl
                   refine zD (i := 14) (N := some 74) (v := ?_) (a' := ?_) (bl_ 27 26379) rfl rfl (zt HT_.out (by kernel_rfl)) (fun _ _ _ h => h) (Or.inl ⟨by rfl, ?_⟩) ?_ ?_
                   rotate_left
                   ·intro w'
                    go_simp
                    with_reducible rfl
                   rotate_left
                   ·simp only [Act.put, sI_, s0_, s1_, zm, zp]
                    rfl
                   refine zD (i := 16) (N := some 76) (v := ?_) (a' := ?_) (bl_ 27 91915) rfl rfl (zt HT_.out (by kernel_rfl)) (fun _ _ _ h => h) (Or.inl ⟨by rfl, ?_⟩) ?_ ?_
                   rotate_left
                   ·intro w'
                    go_simp
                    with_reducible rfl
                   rotate_left
                   ·simp only [Act.put, sI_, s0_, s1_, zm, zp]
                    rfl
                   refine zD (i := 21) (N := some 81) (v := ?_) (a' := ?_) (bl_ 27 2189067) rfl rfl (zt HT_.out (by kernel_rfl)) (fun _ _ _ h => h) (Or.inl ⟨by rfl, ?_⟩) ?_ ?_
                   rotate_left
                   ·intro w'
                    go_simp
                    with_reducible rfl
                   rotate_left
                   ·simp only [Act.put, sI_, s0_, s1_, zm, zp]
                    rfl
                   refine zD (i := 22) (N := some 82) (v := ?_) (a' := ?_) (bl_ 27 6383371) rfl rfl (zt HT_.out (by kernel_rfl)) (fun _ _ _ h => h) (Or.inl ⟨by rfl, ?_⟩) ?_ ?_
                   rotate_left
                   ·intro w'
                    go_simp
                    with_reducible rfl
                   rotate_left
                   ·simp only [Act.put, sI_, s0_, s1_, zm, zp]
                    rfl
                   refine zaq (i := 2) (N := some 62) (v := ?_) (a' := ?_) (bl_ 27 6383375) rfl rfl (zQ HT_.out HW_.out (by kernel_rfl)) (fun _ _ _ h => h) (Or.inl ⟨by rfl, ?_⟩) hHeld ?_ ?_
                   rotate_left
                   ·rintro w' ⟨s0, s1, s2, s3, s4⟩
                    go_simp
                    with_reducible rfl
                   rotate_left
                   ·simp only [Act.put, sI_, s0_, s1_, zm, zp]
                    rfl
                   refine zD (i := 4) (N := some 64) (v := ?_) (a' := ?_) (bl_ 27 6383391) rfl rfl (zt HT_.out (by kernel_rfl)) (fun _ _ _ h => h) (Or.inl ⟨by rfl, ?_⟩) ?_ ?_
                   rotate_left
                   ·intro w'
                    go_simp
                    with_reducible rfl
                   rotate_left
                   ·simp only [Act.put, sI_, s0_, s1_, zm, zp]
                    rfl
                   refine zaq (i := 5) (N := some 65) (v := ?_) (a' := ?_) (bl_ 27 6383423) rfl rfl (zQ HT_.out HW_.out (by kernel_rfl)) (fun _ _ _ h => h) (Or.inl ⟨by rfl, ?_⟩) hHeld ?_ ?_
                   rotate_left
                   ·rintro w' ⟨s0, s1, s2, s3, s4⟩
                    go_simp
                    with_reducible rfl
                   rotate_left
                   ·simp only [Act.put, sI_, s0_, s1_, zm, zp]
                    rfl
                   refine zD (i := 6) (N := some 66) (v := ?_) (a' := ?_) (bl_ 27 6383487) rfl rfl (zt HT_.out (by kernel_rfl)) (fun _ _ _ h => h) (Or.inl ⟨by rfl, ?_⟩) ?_ ?_
                   rotate_left
                   ·intro w'
                    go_simp
                    with_reducible rfl
                   rotate_left
                   ·simp only [Act.put, sI_, s0_, s1_, zm, zp]
                    rfl
                   refine zD (i := 7) (N := some 67) (v := ?_) (a' := ?_) (bl_ 27 6383615) rfl rfl (zt HT_.out (by kernel_rfl)) (fun _ _ _ h => h) (Or.inl ⟨by rfl, ?_⟩) ?_ ?_
                   rotate_left
                   ·intro w'
                    go_simp
                    with_reducible rfl
                   rotate_left
                   ·simp only [Act.put, sI_, s0_, s1_, zm, zp]
                    rfl
                   refine zaq (i := 11) (N := some 71) (v := ?_) (a' := ?_) (bl_ 27 6385663) rfl rfl (zQ HT_.out HW_.out (by kernel_rfl)) (fun _ _ _ h => h) (Or.inl ⟨by rfl, ?_⟩) hHeld ?_ ?_
                   rotate_left
                   ·rintro w' ⟨s0, s1, s2, s3, s4⟩
                    go_simp
                    with_reducible rfl
                   rotate_left
                   ·simp only [Act.put, sI_, s0_, s1_, zm, zp]
                    rfl
                   refine zD (i := 12) (N := some 72) (v := ?_) (a' := ?_) (bl_ 27 6389759) rfl rfl (zt HT_.out (by kernel_rfl)) (fun _ _ _ h => h) (Or.inl ⟨by rfl, ?_⟩) ?_ ?_
                   rotate_left
                   ·intro w'
                    go_simp
                    with_reducible rfl
                   rotate_left
                   ·simp only [Act.put, sI_, s0_, s1_, zm, zp]
                    rfl
                   refine zaq (i := 15) (N := some 75) (v := ?_) (a' := ?_) (bl_ 27 6422527) rfl rfl (zQ HT_.out HW_.out (by kernel_rfl)) (fun _ _ _ h => h) (Or.inl ⟨by rfl, ?_⟩) hHeld ?_ ?_
                   rotate_left
                   ·rintro w' ⟨s0, s1, s2, s3, s4⟩
                    go_simp
                    with_reducible rfl
                   rotate_left
                   ·simp only [Act.put, sI_, s0_, s1_, zm, zp]
                    rfl
                   refine zD (i := 17) (N := some 77) (v := ?_) (a' := ?_) (bl_ 27 6553599) rfl rfl (zt HT_.out (by kernel_rfl)) (fun _ _ _ h => h) (Or.inl ⟨by rfl, ?_⟩) ?_ ?_
                   rotate_left
                   ·intro w'
                    go_simp
                    with_reducible rfl
                   rotate_left
                   ·simp only [Act.put, sI_, s0_, s1_, zm, zp]
                    rfl
                   refine zaq (i := 18) (N := some 78) (v := ?_) (a' := ?_) (bl_ 27 6815743) rfl rfl (zQ HT_.out HW_.out (by kernel_rfl)) (fun _ _ _ h => h) (Or.inl ⟨by rfl, ?_⟩) hHeld ?_ ?_
                   rotate_left
                   ·rintro w' ⟨s0, s1, s2, s3, s4⟩
                    go_simp
                    with_reducible rfl
                   rotate_left
                   ·simp only [Act.put, sI_, s0_, s1_, zm, zp]
                    rfl
                   refine zD (i := 19) (N := some 79) (v := ?_) (a' := ?_) (bl_ 27 7340031) rfl rfl (zt HT_.out (by kernel_rfl)) (fun _ _ _ h => h) (Or.inl ⟨by rfl, ?_⟩) ?_ ?_
                   rotate_left
                   ·intro w'
                    go_simp
                    with_reducible rfl
                   rotate_left
                   ·simp only [Act.put, sI_, s0_, s1_, zm, zp]
                    rfl
                   refine zD (i := 20) (N := some 80) (v := ?_) (a' := ?_) (bl_ 27 8388607) rfl rfl (zt HT_.out (by kernel_rfl)) (fun _ _ _ h => h) (Or.inl ⟨by rfl, ?_⟩) ?_ ?_
                   rotate_left
                   ·intro w'
                    go_simp
                    with_reducible rfl
                   rotate_left
                   ·simp only [Act.put, sI_, s0_, s1_, zm, zp]
                    rfl
                   refine zD (i := 23) (N := some 83) (v := ?_) (a' := ?_) (bl_ 27 16777215) rfl rfl (zt HT_.out (by kernel_rfl)) (fun _ _ _ h => h) (Or.inl ⟨by rfl, ?_⟩) ?_ ?_
                   rotate_left
                   ·intro w'
                    go_simp
                    with_reducible rfl
                   rotate_left
                   ·simp only [Act.put, sI_, s0_, s1_, zm, zp]
                    rfl
                   refine one_ (i := 24) (N := some 84) (bl_ 27 33554431) rfl rfl (zat HT_.out (by kernel_rfl)) (by decide) (fun K hK => ?_)
                   refine value_ (w1 := ?_) (v := ?_) (by rfl) rfl ?_ ?_
                   rotate_left 2
                   ·go_simp
                    constructor
                    ·rfl
                    ·rfl
                   refine hK.out _ _ ⟨(zj (zd BK294.out _) 0).trans rfl, (zj (zd BK294.out _) 1).trans rfl, (World.cell?_alloc_lt _ _ _ (World.block_lt_of_cell? _ _ (((HB.out.cell (World.block_lt_of_cell? w _ hw299_0)).trans hw299_0)))).trans (((HB.out.cell (World.block_lt_of_cell? w _ hw299_0)).trans hw299_0)), (World.cell?_alloc_lt _ _ _ (World.block_lt_of_cell? _ _ (((HB.out.cell (World.block_lt_of_cell? w _ hw300_0)).trans hw300_0)))).trans (((HB.out.cell (World.block_lt_of_cell? w _ hw300_0)).trans hw300_0)), (World.cell?_alloc_lt _ _ _ (World.block_lt_of_cell? _ _ (((HB.out.cell (World.block_lt_of_cell? w _ hw301_0)).trans hw301_0)))).trans (((HB.out.cell (World.block_lt_of_cell? w _ hw301_0)).trans hw301_0))⟩ (fun hHeld => ?_)
                   clear hK K
                   refine zaf (a' := ?_) ?_ ?_
                   rotate_left
                   ·show Act.put _ (some 84) _ = _
                    simp only [Act.put, sI_, s0_, s1_, zm, zp]
                    rfl
                   refine one_ (i := 25) (N := some 85) (bl_ 27 67108863) rfl rfl (zat HT_.out (by kernel_rfl)) (by decide) (fun K hK => ?_)
                   refine Kd.R_append_step (Kd.int .i64) (w0 := w) w.heap.size (by rfl) (.tmp 60) (.tmp 84) 22 3 (.int .i64 0) 8 rfl Try.underlying22 info3 rfl (by decide) (by omega) u9 x9_3 (wrap64 ((ji26) - (ji28))) [.int .i64 (wrap64 ((ji26) - (ji28)))] (fun _ => True) (fun _ => False) rfl rfl ?aP (fun _ hk => hk.elim) ?aF ?aO ?aB ?aS ?aL ?_
                   (case aP => exact rfl)
                   (case aB => exact (by repeat (first | (with_reducible first | exact HB.out | apply zc | apply za | apply zb | refine zf ?_ GE294.out) | exact HB.out)))
                   (case aF => exact (fun _ _ => trivial))
                   (case aO => exact (by (with_reducible repeat (first | apply Kd.zy | apply Kd.zx | apply Kd.zz)); exact HO_9.out))
                   (case aS => exact (zk (by repeat (first | (with_reducible first | exact HB.out | apply zc | apply za | apply zb | refine zf ?_ GE294.out) | exact HB.out))))
                   (case aL => have := LMc29.out; omega)
                   intro v303 w32 ho hb hg hat
                   rw [← Ny302.out] at ho
                   have n0_ := am_ (zac (g := gb294) (o := .cells #[.slice (some ad298) l0_0.length c0_0, .slice (some ad299) l0_1.length c0_1] 24 (0, 0)) (by (with_reducible repeat (first | refine ze ?_ _ | refine zg ?_ | refine zd ?_ _)); exact BK294.out) hg (Kd.R_ne HO_9.out BK294.out (by decide)))
                   have n1_ := am_ (hb)
                   have n2_ := am_ (ho)
                   clear BK294
                   clear HB
                   clear HO_9
                   have BK294 := n0_
                   have HB := n1_
                   have HO304 := n2_
                   clear n0_ n1_ n2_
                   clear ho hb hg hat
                   refine hK.out _ _ ⟨(zj BK294.out 0).trans rfl, (zj BK294.out 1).trans rfl, ((HB.out.cell (World.block_lt_of_cell? w _ hw299_0)).trans hw299_0), ((HB.out.cell (World.block_lt_of_cell? w _ hw300_0)).trans hw300_0), ((HB.out.cell (World.block_lt_of_cell? w _ hw301_0)).trans hw301_0)⟩ (fun hHeld => ?_)
                   clear hK K
                   refine zaf (a' := ?_) ?_ ?_
                   rotate_left
                   ·show Act.put _ (some 85) _ = _
                    simp only [Act.put, sI_, s0_, s1_, zm, zp]
                    rfl
                   refine zD (i := 26) (N := some 9) (v := ?_) (a' := ?_) (bl_ 27 134217727) rfl rfl (zt HT_.out (by kernel_rfl)) (fun _ _ _ h => h) (Or.inl ⟨by rfl, ?_⟩) ?_ ?_
                   rotate_left
                   ·intro w'
                    go_simp
                    with_reducible rfl
                   rotate_left
                   ·simp only [Act.put, sI_, s0_, s1_, zm, zp]
                    rfl
                   refine done_ (zaL HT_.out (by kernel_rfl)) ?_
                   try go_wp2
                   go_roundg k3
                   case measure => have := HK1.out; have := HJ14.out; have := HK3.out; omega
                   case rel => exact ⟨(y302), (wrap64 (x10_3 + 1)), (by first | rfl | (simp; done) | (simp [*]; done)), H', ⟨by have := HK1.out; have := HJ14.out; have := HK3.out; omega⟩, ⟨by (with_reducible repeat (first | apply Kd.zy | apply Kd.zx | apply Kd.zz)); exact HO304.out⟩, ⟨by (with_reducible repeat (first | refine ze ?_ _ | refine zg ?_ | refine zd ?_ _)); exact BK294.out⟩, ⟨by repeat (first | (with_reducible first | exact HB.out | apply zc | apply za | apply zb | refine zf ?_ GE294.out) | exact HB.out)⟩⟩
                  ·rw [if_neg c29] at H
                   exact absurd H (by simp)
                 ·rw [if_neg c27] at H
                  exact absurd H (by simp)
                ·rw [if_neg c25] at H
                 exact absurd H (by simp)
               ·rw [if_neg c23] at H
                exact absurd H (by simp)
             ·rw [if_neg c20] at H
              exact absurd H (by simp)
            ·rw [if_neg c19] at H
             exact absurd H (by simp)
           ·rw [if_neg c18] at H
            have c18b0 : decide (x10_3 < (l1.length : Int)) = false := decide_eq_false c18
            clear c18
            simp only [Option.some.injEq, Prod.mk.injEq] at H
            obtain ⟨rfl, rfl⟩ := H
            go_wp2
            go_ret2
            exact ⟨_, by first | rfl | (simp [zn, zo] <;> rfl) | (simp [*, zn, zo] <;> rfl), by (with_reducible repeat (first | apply Kd.zy | apply Kd.zx | apply Kd.zz)); exact HO_9.out, by repeat (first | (with_reducible first | exact HB.out | apply zc | apply za | apply zb | refine zf ?_ GE294.out) | exact HB.out)⟩
  ·rw [if_neg c6] at H
   have c6b0 : ((l1.length : Int) == (l0_0.length : Int)) = false := beq_eq_false_iff_ne.mpr c6
   have c6b1 : ((l1.length : Int) != (l0_0.length : Int)) = true := bne_iff_ne.mpr c6
   have c6b2 : (l1.length == l0_0.length) = false := by first | simpa using c6 | (simp at c6 ⊢; omega)
   simp only [Option.some.injEq, Prod.mk.injEq] at H
   obtain ⟨rfl, rfl⟩ := H
   go_enter Try.func22, Try.ntmps22
   go_wp2_with (first | ((with_reducible refine zq (N := 3) rfl ?_); refine zr ?hg (N := 3) ?hd (cs := #[.slice A0_0 l0_0.length c0_0, .slice A0_1 l0_1.length c0_1]) (t := 24) ?hr ?_; (case hd => rfl); (case hg => rfl); (case hr => first | (go_simp; done) | (go_simp; rfl)); intro gb294 hg w33 hbox hb; have n0_ := am_ (zh (by repeat (first | (with_reducible first | exact HB.out | apply zc | apply za | apply zb) | exact HB.out)) hb); have n1_ := am_ (hbox); have n2_ := am_ ((by rw [hg]; exact (zk (by repeat (first | (with_reducible first | exact HB.out | apply zc | apply za | apply zb) | exact HB.out))) : w.heap.size ≤ gb294)); have n3_ := am_ ((by rw [hg]; exact (zk (by repeat (first | (with_reducible first | exact HB.out | apply zc | apply za | apply zb) | exact HB.out))) : w.heap.size ≤ gb294)); clear HB; have HB := n0_; have BK294 := n1_; have GW294 := n2_; have GE294 := n3_; clear n0_ n1_ n2_ n3_; clear hb hbox hg; have hcz34_0 : w33.cell? ⟨gb294, 0, none⟩ = some (.slice A0_0 l0_0.length c0_0) := (zj BK294.out 0).trans rfl; have hcz34_1 : w33.cell? ⟨gb294, 1, none⟩ = some (.slice A0_1 l0_1.length c0_1) := (zj BK294.out 1).trans rfl; have hfz34_0 := zi BK294.out 0; have hfz34_1 := zi BK294.out 1) | ((with_reducible refine zU (f := 18) rfl ?_); refine zaC (some 15) rfl rfl Try.func18 (by kernel_rfl) rfl #[.agg #[.slice A0_0 l0_0.length c0_0, .slice A0_1 l0_1.length c0_1], .int .i64 (l0_0.length : Int)] rfl (by (try simp only [List.map_toArray, List.map_cons, List.map_nil]); first | done | rfl | (simp only [List.length_drop, List.length_take]; rfl)) ?_; (with_reducible refine (zv.calls k _ _ l0_0 _ _ l0_1 (l0_0.length : Int) t295 _ ?side1 ?side2 ?side3 ?side4 A4.out).mono ?_); (case side1 => repeat (first | exact (Kd.zT HR0_0.out HB.out) | (with_reducible refine Kd.z6 ?_ _) | (with_reducible refine Kd.z7 ?_ _) | (with_reducible refine Kd.zai ?_))); (case side2 => exact HC0_0.out); (case side3 => repeat (first | exact (Kd.zT HR0_1.out HB.out) | (with_reducible refine Kd.z6 ?_ _) | (with_reducible refine Kd.z7 ?_ _) | (with_reducible refine Kd.zai ?_))); (case side4 => exact HC0_1.out); rintro e w35 ⟨rfl, hb⟩; refine ⟨_, rfl, ?_⟩; have n0_ := am_ (zl (g := gb294) (o := .cells #[.slice A0_0 l0_0.length c0_0, .slice A0_1 l0_1.length c0_1] 24 (0, 0)) (by (with_reducible repeat (first | refine ze ?_ _ | refine zg ?_ | refine zd ?_ _)); exact BK294.out) hb); have n1_ := am_ (zh (by repeat (first | (with_reducible first | exact HB.out | apply zc | apply za | apply zb | refine zf ?_ GE294.out) | exact HB.out)) hb); clear BK294; clear HB; have BK294 := n0_; have HB := n1_; clear n0_ n1_; (try clear hb); (try clear hb2); (try clear hk); (try clear hi); have hcz36_0 : w35.cell? ⟨gb294, 0, none⟩ = some (.slice A0_0 l0_0.length c0_0) := (zj BK294.out 0).trans rfl; have hcz36_1 : w35.cell? ⟨gb294, 1, none⟩ = some (.slice A0_1 l0_1.length c0_1) := (zj BK294.out 1).trans rfl; have hfz36_0 := zi BK294.out 0; have hfz36_1 := zi BK294.out 1))
   go_ret2
   exact ⟨_, by first | rfl | (simp [zn, zo] <;> rfl) | (simp [*, zn, zo] <;> rfl), by first | exact Kd.zaF _ _ _ _ _ | exact Kd.zaS _ _ _ _ _ | exact Kd.zaR _ _ _ _ _ | exact Kd.zaQ _ _ _ _ _ | exact Kd.zaT _ _ _ _ _, by repeat (first | (with_reducible first | exact HB.out | apply zc | apply za | apply zb | refine zf ?_ GE294.out) | exact HB.out)⟩
 ·rw [if_neg c5] at H
  have c5b0 : (t295 == 0) = false := beq_eq_false_iff_ne.mpr c5
  have c5b1 : (t295 != 0) = true := bne_iff_ne.mpr c5
  simp only [Option.some.injEq, Prod.mk.injEq] at H
  obtain ⟨rfl, rfl⟩ := H
  go_enter Try.func22, Try.ntmps22
  go_wp2_with (first | ((with_reducible refine zq (N := 3) rfl ?_); refine zr ?hg (N := 3) ?hd (cs := #[.slice A0_0 l0_0.length c0_0, .slice A0_1 l0_1.length c0_1]) (t := 24) ?hr ?_; (case hd => rfl); (case hg => rfl); (case hr => first | (go_simp; done) | (go_simp; rfl)); intro gb294 hg w37 hbox hb; have n0_ := am_ (zh (by repeat (first | (with_reducible first | exact HB.out | apply zc | apply za | apply zb) | exact HB.out)) hb); have n1_ := am_ (hbox); have n2_ := am_ ((by rw [hg]; exact (zk (by repeat (first | (with_reducible first | exact HB.out | apply zc | apply za | apply zb) | exact HB.out))) : w.heap.size ≤ gb294)); have n3_ := am_ ((by rw [hg]; exact (zk (by repeat (first | (with_reducible first | exact HB.out | apply zc | apply za | apply zb) | exact HB.out))) : w.heap.size ≤ gb294)); clear HB; have HB := n0_; have BK294 := n1_; have GW294 := n2_; have GE294 := n3_; clear n0_ n1_ n2_ n3_; clear hb hbox hg; have hcz38_0 : w37.cell? ⟨gb294, 0, none⟩ = some (.slice A0_0 l0_0.length c0_0) := (zj BK294.out 0).trans rfl; have hcz38_1 : w37.cell? ⟨gb294, 1, none⟩ = some (.slice A0_1 l0_1.length c0_1) := (zj BK294.out 1).trans rfl; have hfz38_0 := zi BK294.out 0; have hfz38_1 := zi BK294.out 1) | ((with_reducible refine zU (f := 18) rfl ?_); refine zaC (some 15) rfl rfl Try.func18 (by kernel_rfl) rfl #[.agg #[.slice A0_0 l0_0.length c0_0, .slice A0_1 l0_1.length c0_1], .int .i64 (l0_0.length : Int)] rfl (by (try simp only [List.map_toArray, List.map_cons, List.map_nil]); first | done | rfl | (simp only [List.length_drop, List.length_take]; rfl)) ?_; (with_reducible refine (zv.calls k _ _ l0_0 _ _ l0_1 (l0_0.length : Int) t295 _ ?side1 ?side2 ?side3 ?side4 A4.out).mono ?_); (case side1 => repeat (first | exact (Kd.zT HR0_0.out HB.out) | (with_reducible refine Kd.z6 ?_ _) | (with_reducible refine Kd.z7 ?_ _) | (with_reducible refine Kd.zai ?_))); (case side2 => exact HC0_0.out); (case side3 => repeat (first | exact (Kd.zT HR0_1.out HB.out) | (with_reducible refine Kd.z6 ?_ _) | (with_reducible refine Kd.z7 ?_ _) | (with_reducible refine Kd.zai ?_))); (case side4 => exact HC0_1.out); rintro e w39 ⟨rfl, hb⟩; refine ⟨_, rfl, ?_⟩; have n0_ := am_ (zl (g := gb294) (o := .cells #[.slice A0_0 l0_0.length c0_0, .slice A0_1 l0_1.length c0_1] 24 (0, 0)) (by (with_reducible repeat (first | refine ze ?_ _ | refine zg ?_ | refine zd ?_ _)); exact BK294.out) hb); have n1_ := am_ (zh (by repeat (first | (with_reducible first | exact HB.out | apply zc | apply za | apply zb | refine zf ?_ GE294.out) | exact HB.out)) hb); clear BK294; clear HB; have BK294 := n0_; have HB := n1_; clear n0_ n1_; (try clear hb); (try clear hb2); (try clear hk); (try clear hi)))
  go_ret2
  exact ⟨_, by first | rfl | (simp [zn, zo] <;> rfl) | (simp [*, zn, zo] <;> rfl), by first | exact Kd.zaF _ _ _ _ _ | exact Kd.zaS _ _ _ _ _ | exact Kd.zaR _ _ _ _ _ | exact Kd.zaQ _ _ _ _ _ | exact Kd.zaT _ _ _ _ _, by repeat (first | (with_reducible first | exact HB.out | apply zc | apply za | apply zb | refine zf ?_ GE294.out) | exact HB.out)⟩
end Go.Proofs.Ytlidbaejhmamjaa.PB

namespace Go.Proofs.Ytlidbaejhmamjaa.LA
open Go.RowKit Go.Proofs.YtlidbaejhmamjaaW.PrintWords Go.Proofs.YtlidbaejhmamjaaW.PrintLast Go.Proofs.YtlidbaejhmamjaaW.PrintMore Go.Proofs.Ytlidbaejhmamjaa.PB
set_option linter.unusedVariables false
set_option linter.unusedSimpArgs false
section
variable (lv at_ sg : List Int) (d : Int)
theorem refEnds_ev : EvS (fun k => zu.f k lv at_ sg d) (eL lv at_ sg d, eE lv at_ sg d) := by
 unfold zu.f
 refine EvS.bind (refCheck_ev lv at_ _) ?_
 rw [chk_self]
 by_cases hr : Reg lv at_
 ·simp only [if_pos hr, if_true]
  by_cases hl : sg.length = lv.length
  ·simp only [if_pos (show (sg.length : Int) = (lv.length : Int) by omega)]
   have hn := hr.1
   have bad : ¬ EOk lv at_ sg d → EvS (fun k => zu.j1 k sg d true lv at_) (eL lv at_ sg d, eE lv at_ sg d) := fun h => by
    rw [e_bad lv at_ sg d hr hl h]
    exact EvS.done fun k => by simp only [zu.j1]; rfl
   have good : (∀ i : Nat, i < sg.length → -1 ≤ rd sg (i : Nat) ∧ rd sg (i : Nat) ≤ 1) → 0 ≤ d → d ≤ 8 → EvS (fun k => zu.j1 k sg d false lv at_) (eL lv at_ sg d, eE lv at_ sg d) := fun hs d0 d8 => by
    refine EvS.succ (fun k => by simp only [zu.j1]; rfl) ?_
    simp only [Bool.false_eq_true, if_false]
    have key : ∀ m i : Nat, m + i = lv.length → (∀ j : Nat, j < i → rd lv (j : Nat) ≤ d) → EvS (fun k => zu.l1 k sg d (((List.range lv.length).map (eRow lv at_ sg d)).take i) (i : Int) lv at_) (eL lv at_ sg d, eE lv at_ sg d) := by
     intro m
     induction m with
     | zero =>
      intro i hi hall
      rw [List.take_of_length_le (by simp; omega)]
      have hok : EOk lv at_ sg d := ⟨hr, hl, hs, d0, d8, fun j hj => hall j (by omega)⟩
      unfold eL eE
      simp only [if_pos hok]
      exact EvS.done fun k => by simp only [zu.l1]; rw [if_neg (by omega)]
     | succ m ih =>
      intro i hi hall
      by_cases hd : d < rd lv (i : Int)
      ·rw [e_bad lv at_ sg d hr hl (fun h => by have := h.2.2.2.2.2 i (by omega); omega)]
       exact EvS.done fun k => by
        simp only [zu.l1]
        rw [if_pos (by omega), if_pos (by omega), if_pos (by omega), if_pos hd]
      ·refine EvS.succ (fun k => ?_) (ih (i + 1) (by omega) (fun j hj => by
        by_cases hji : j = i
        ·subst hji; omega
        ·exact hall j (by omega)))
       obtain ⟨e1, e2, e3, e4, e5, e6, e7⟩ := one_end d (rd lv (i : Int)) (rd at_ (i : Int)) (rd sg (i : Int)) (hr.2.2 i (by omega)) (hs i (by omega)) (by omega) d0 d8
       simp only [zu.l1]
       rw [if_pos (by omega), if_pos (by omega), if_pos (by omega), if_neg hd, if_pos (by have := hr.2.1; omega), e1, if_pos (by omega), if_pos d0, if_pos (by simp; omega), e2, e3, e5, e7, wnext i (by omega), take_range _ _ (by omega)]
       rfl
    simpa using key lv.length 0 (by omega) (fun j hj => by omega)
   have key : ∀ m i : Nat, m + i = sg.length → (∀ j : Nat, j < i → -1 ≤ rd sg (j : Nat) ∧ rd sg (j : Nat) ≤ 1) → EvS (fun k => zu.l0 k sg d (i : Int) lv at_) (eL lv at_ sg d, eE lv at_ sg d) := by
    intro m
    induction m with
    | zero =>
     intro i hi hall
     obtain rfl : i = sg.length := by omega
     by_cases d0 : d < 0
     ·refine EvS.succ (fun k => ?_) (bad (fun h => by have := h.2.2.2.1; omega))
      simp only [zu.l0]
      rw [if_neg (by omega), if_pos d0]
     ·by_cases d8 : d > 8
      ·refine EvS.succ (fun k => ?_) (bad (fun h => by have := h.2.2.2.2.1; omega))
       simp only [zu.l0]
       rw [if_neg (by omega), if_neg d0, decide_eq_true d8]
      ·refine EvS.succ (fun k => ?_) (good hall (by omega) (by omega))
       simp only [zu.l0]
       rw [if_neg (by omega), if_neg d0, decide_eq_false d8]
    | succ m ih =>
     intro i hi hall
     by_cases s0 : rd sg (i : Int) < -1
     ·rw [e_bad lv at_ sg d hr hl (fun h => by have := h.2.2.1 i (by omega); omega)]
      exact EvS.done fun k => by
       simp only [zu.l0]
       rw [if_pos (by omega), if_pos (by omega), if_pos s0]
     ·by_cases s1 : rd sg (i : Int) > 1
      ·rw [e_bad lv at_ sg d hr hl (fun h => by have := h.2.2.1 i (by omega); omega)]
       exact EvS.done fun k => by
        simp only [zu.l0]
        rw [if_pos (by omega), if_pos (by omega), if_neg s0, if_pos s1]
      ·refine EvS.succ (fun k => ?_) (ih (i + 1) (by omega) (fun j hj => by
        by_cases hji : j = i
        ·subst hji; omega
        ·exact hall j (by omega)))
       simp only [zu.l0]
       rw [if_pos (by omega), if_pos (by omega), if_neg s0, if_neg s1, wnext i (by omega)]
   exact key sg.length 0 (by omega) (fun j hj => by omega)
  ·simp only [if_neg (show ¬ (sg.length : Int) = (lv.length : Int) by omega)]
   unfold eL eE
   simp only [if_neg (show ¬ EOk lv at_ sg d from fun h => hl h.2.1), if_pos hr, if_neg hl]
   exact EvS.pure _
 ·have hn : ¬ EOk lv at_ sg d := fun h => hr h.1
  simp only [if_neg hr, if_neg (show ¬ ((180 : Int) = 0) by decide)]
  unfold eL eE
  simp only [if_neg hn, if_neg hr]
  exact EvS.pure _
end
end Go.Proofs.Ytlidbaejhmamjaa.LA

namespace Go.Proofs.Ytlidbaejhmamjaa.PB
open Go.RowKit Go.Proofs.YtlidbaejhmamjaaW.PrintWords Go.Proofs.YtlidbaejhmamjaaW.PrintLast Go.Proofs.YtlidbaejhmamjaaW.PrintMore
set_option linter.unusedVariables false
instance (es : List Int) : Decidable (AC.I64 es) := by unfold AC.I64; infer_instance
end Go.Proofs.Ytlidbaejhmamjaa.PB

namespace Go.Proofs.Ytlidbaejhmamjaa.LA
open Go.RowKit Go.Proofs.YtlidbaejhmamjaaW.PrintWords Go.Proofs.YtlidbaejhmamjaaW.PrintLast Go.Proofs.YtlidbaejhmamjaaW.PrintMore Go.Proofs.Ytlidbaejhmamjaa.PB
set_option linter.unusedVariables false
set_option linter.unusedSimpArgs false
section
variable (lv at_ sg : List Int) (d : Int)
theorem eL_ok (h : EOk lv at_ sg d) : eL lv at_ sg d = (List.range lv.length).map (eRow lv at_ sg d) ∧ eE lv at_ sg d = 0 ∧ (eL lv at_ sg d).length = lv.length := by
 unfold eL eE
 simp only [if_pos h]
 exact ⟨trivial, trivial, by simp⟩
end
end Go.Proofs.Ytlidbaejhmamjaa.LA

namespace Go.Proofs.Ytlidbaejhmamjaa.LW
open Go.RowKit Go.Proofs.YtlidbaejhmamjaaW.PrintWords Go.Proofs.YtlidbaejhmamjaaW.PrintLast Go.Proofs.YtlidbaejhmamjaaW.PrintMore Go.Proofs.Ytlidbaejhmamjaa.PB Go.Proofs.Ytlidbaejhmamjaa.LA Go.Proofs.Ytlidbaejhmamjaa.AC
set_option linter.unusedVariables false
set_option linter.unusedSimpArgs false
theorem hL_len (lv at_ : List Int) (s : Int) : (hL lv at_ s).length ≤ 100000 := by
 unfold hL
 split
 ·rename_i h; have := h.1.1; rw [List.length_set]; omega
 ·simp
theorem hA_len (lv at_ : List Int) (s : Int) : (hA lv at_ s).length ≤ 100000 := by
 unfold hA
 split
 ·rename_i h; have := h.1.1; have := h.1.2.1; rw [List.length_set]; omega
 ·simp
theorem hB_len (lv at_ : List Int) (s : Int) : (hB lv at_ s).length ≤ 100000 := by
 unfold hB
 split
 ·rename_i h; have := h.1.1; have := h.1.2.1; rw [List.length_set]; omega
 ·simp
theorem eL_len (lv at_ sg : List Int) (d : Int) : (eL lv at_ sg d).length ≤ 100000 := by
 by_cases h : EOk lv at_ sg d
 ·rw [(eL_ok lv at_ sg d h).2.2]; have := h.1.1; omega
 ·unfold eL; rw [if_neg h]; simp
theorem same_true (a b : List Int) (ha : a.length ≤ 100000) (hb : b.length ≤ 100000) : EvS (fun k => zaG.f k a b a b) true := by
 have := Same_ev a b a b ha hb
 rwa [decide_eq_true rfl, decide_eq_true rfl, Bool.true_and] at this
theorem ints_true (a : List Int) (ha : a.length ≤ 100000) : EvS (fun k => zB.f k a a) true := by
 have := same_ev a a ha
 rwa [decide_eq_true rfl] at this
theorem halve_c {A0 A1 : Option Addr} {c0 c1 : Nat} {lv at_ : List Int} (s : Int) (w : World) (r0 : Rd w A0 c0 lv) (r1 : Rd w A1 c1 at_) :
  Calls Try.prog 15 #[.agg #[.slice A0 lv.length c0, .slice A1 at_.length c1], .int .i64 s] w fun e w' => ∃ B0 d0 B1 d1 B2 d2 B3 d3, e = .returned (.tuple #[.agg #[.slice B0 (hL lv at_ s).length d0, .slice B1 (hA lv at_ s).length d1], .agg #[.slice B2 (hL lv at_ s).length d2, .slice B3 (hB lv at_ s).length d3], .int .i64 (hE lv at_ s)]) ∧ Rd w' B0 d0 (hL lv at_ s) ∧ Rd w' B1 d1 (hA lv at_ s) ∧ Rd w' B2 d2 (hL lv at_ s) ∧ Rd w' B3 d3 (hB lv at_ s) ∧ Below w.heap.size w w' := by
 obtain ⟨k, h⟩ := (Halve_ev lv at_ s).get
 refine (zX.calls k A0 c0 lv A1 c1 at_ s _ _ _ _ _ w r0.row r0.cap r1.row r1.cap h).mono ?_
 rintro e w' ⟨v0, v1, v2, v3, rfl, h0, h1, h2, h3, hb⟩
 obtain ⟨B0, d0, rfl, q0⟩ := Rd.of_R h0
 obtain ⟨B1, d1, rfl, q1⟩ := Rd.of_R h1
 obtain ⟨B2, d2, rfl, q2⟩ := Rd.of_R h2
 obtain ⟨B3, d3, rfl, q3⟩ := Rd.of_R h3
 exact ⟨B0, d0, B1, d1, B2, d2, B3, d3, rfl, q0, q1, q2, q3, hb⟩
theorem rhalve_c {A0 A1 : Option Addr} {c0 c1 : Nat} {lv at_ : List Int} (s : Int) (w : World) (r0 : Rd w A0 c0 lv) (r1 : Rd w A1 c1 at_) :
  Calls Try.prog 16 #[.agg #[.slice A0 lv.length c0, .slice A1 at_.length c1], .int .i64 s] w fun e w' => ∃ B0 d0 B1 d1 B2 d2 B3 d3, e = .returned (.tuple #[.agg #[.slice B0 (hL lv at_ s).length d0, .slice B1 (hA lv at_ s).length d1], .agg #[.slice B2 (hL lv at_ s).length d2, .slice B3 (hB lv at_ s).length d3], .int .i64 (hE lv at_ s)]) ∧ Rd w' B0 d0 (hL lv at_ s) ∧ Rd w' B1 d1 (hA lv at_ s) ∧ Rd w' B2 d2 (hL lv at_ s) ∧ Rd w' B3 d3 (hB lv at_ s) ∧ Below w.heap.size w w' := by
 obtain ⟨k, h⟩ := (refHalve_ev lv at_ s).get
 refine (zA.calls k A0 c0 lv A1 c1 at_ s _ _ _ _ _ w r0.row r0.cap r1.row r1.cap h).mono ?_
 rintro e w' ⟨v0, v1, v2, v3, rfl, h0, h1, h2, h3, hb⟩
 obtain ⟨B0, d0, rfl, q0⟩ := Rd.of_R h0
 obtain ⟨B1, d1, rfl, q1⟩ := Rd.of_R h1
 obtain ⟨B2, d2, rfl, q2⟩ := Rd.of_R h2
 obtain ⟨B3, d3, rfl, q3⟩ := Rd.of_R h3
 exact ⟨B0, d0, B1, d1, B2, d2, B3, d3, rfl, q0, q1, q2, q3, hb⟩
theorem check_c {A0 A1 : Option Addr} {c0 c1 : Nat} {lv at_ : List Int} (k : Int) (w : World) (r0 : Rd w A0 c0 lv) (r1 : Rd w A1 c1 at_) :
  Calls Try.prog 17 #[.agg #[.slice A0 lv.length c0, .slice A1 at_.length c1], .int .i64 k] w fun e w' => e = .returned (.int .i64 (chkE lv at_ k)) ∧ Below w.heap.size w w' := by
 obtain ⟨f, h⟩ := (Check_ev lv at_ k).get
 exact zH.calls f A0 c0 lv A1 c1 at_ k _ w r0.row r0.cap r1.row r1.cap h
theorem rcheck_c {A0 A1 : Option Addr} {c0 c1 : Nat} {lv at_ : List Int} (k : Int) (w : World) (r0 : Rd w A0 c0 lv) (r1 : Rd w A1 c1 at_) :
  Calls Try.prog 18 #[.agg #[.slice A0 lv.length c0, .slice A1 at_.length c1], .int .i64 k] w fun e w' => e = .returned (.int .i64 (chkE lv at_ k)) ∧ Below w.heap.size w w' := by
 obtain ⟨f, h⟩ := (refCheck_ev lv at_ k).get
 exact zv.calls f A0 c0 lv A1 c1 at_ k _ w r0.row r0.cap r1.row r1.cap h
theorem way_c {A0 A1 : Option Addr} {c0 c1 : Nat} {lv at_ : List Int} (w : World) (r0 : Rd w A0 c0 lv) (r1 : Rd w A1 c1 at_) :
  Calls Try.prog 19 #[.agg #[.slice A0 lv.length c0, .slice A1 at_.length c1]] w fun e w' => e = .returned (.tuple #[.int .i64 (wayN lv at_), .int .i64 (wayE lv at_)]) ∧ Below w.heap.size w w' := by
 obtain ⟨f, h⟩ := (Way_ev lv at_).get
 exact zaw.calls f A0 c0 lv A1 c1 at_ _ _ w r0.row r0.cap r1.row r1.cap h
theorem rway_c {A0 A1 : Option Addr} {c0 c1 : Nat} {lv at_ : List Int} (w : World) (r0 : Rd w A0 c0 lv) (r1 : Rd w A1 c1 at_) :
  Calls Try.prog 20 #[.agg #[.slice A0 lv.length c0, .slice A1 at_.length c1]] w fun e w' => e = .returned (.tuple #[.int .i64 (wayN lv at_), .int .i64 (wayE lv at_)]) ∧ Below w.heap.size w w' := by
 obtain ⟨f, h⟩ := (refWay_ev lv at_).get
 exact z8.calls f A0 c0 lv A1 c1 at_ _ _ w r0.row r0.cap r1.row r1.cap h
theorem ends_c {A0 A1 : Option Addr} {c0 c1 : Nat} {lv at_ : List Int} {A2 : Option Addr} {c2 : Nat} {sg : List Int} (d : Int) (w : World) (r0 : Rd w A0 c0 lv) (r1 : Rd w A1 c1 at_) (r2 : Rd w A2 c2 sg) :
  Calls Try.prog 21 #[.agg #[.slice A0 lv.length c0, .slice A1 at_.length c1], .slice A2 sg.length c2, .int .i64 d] w fun e w' => ∃ B e0, e = .returned (.tuple #[.slice B (eL lv at_ sg d).length e0, .int .i64 (eE lv at_ sg d)]) ∧ Rd w' B e0 (eL lv at_ sg d) ∧ Below w.heap.size w w' := by
 obtain ⟨f, h⟩ := (Ends_ev lv at_ sg d).get
 refine (zE.calls f A0 c0 lv A1 c1 at_ A2 c2 sg d _ _ w r0.row r0.cap r1.row r1.cap r2.row r2.cap h).mono ?_
 rintro e w' ⟨v0, rfl, h0, hb⟩
 obtain ⟨B, e0, rfl, q⟩ := Rd.of_R h0
 exact ⟨B, e0, rfl, q, hb⟩
theorem rends_c {A0 A1 : Option Addr} {c0 c1 : Nat} {lv at_ : List Int} {A2 : Option Addr} {c2 : Nat} {sg : List Int} (d : Int) (w : World) (r0 : Rd w A0 c0 lv) (r1 : Rd w A1 c1 at_) (r2 : Rd w A2 c2 sg) :
  Calls Try.prog 22 #[.agg #[.slice A0 lv.length c0, .slice A1 at_.length c1], .slice A2 sg.length c2, .int .i64 d] w fun e w' => ∃ B e0, e = .returned (.tuple #[.slice B (eL lv at_ sg d).length e0, .int .i64 (eE lv at_ sg d)]) ∧ Rd w' B e0 (eL lv at_ sg d) ∧ Below w.heap.size w w' := by
 obtain ⟨f, h⟩ := (refEnds_ev lv at_ sg d).get
 refine (zu.calls f A0 c0 lv A1 c1 at_ A2 c2 sg d _ _ w r0.row r0.cap r1.row r1.cap r2.row r2.cap h).mono ?_
 rintro e w' ⟨v0, rfl, h0, hb⟩
 obtain ⟨B, e0, rfl, q⟩ := Rd.of_R h0
 exact ⟨B, e0, rfl, q, hb⟩
theorem same_c {A0 A1 B0 B1 : Option Addr} {c0 c1 d0 d1 : Nat} {a b : List Int} (w : World) (r0 : Rd w A0 c0 a) (r1 : Rd w A1 c1 b) (q0 : Rd w B0 d0 a) (q1 : Rd w B1 d1 b) (ha : a.length ≤ 100000) (hb : b.length ≤ 100000) :
  Calls Try.prog 13 #[.agg #[.slice A0 a.length c0, .slice A1 b.length c1], .agg #[.slice B0 a.length d0, .slice B1 b.length d1]] w fun e w' => e = .returned (.bool true) ∧ Below w.heap.size w w' := by
 obtain ⟨f, h⟩ := (same_true a b ha hb).get
 exact zaG.calls f A0 c0 a A1 c1 b B0 d0 a B1 d1 b true w r0.row r0.cap r1.row r1.cap q0.row q0.cap q1.row q1.cap h
theorem ints_c {A0 B0 : Option Addr} {c0 d0 : Nat} {a : List Int} (w : World) (r0 : Rd w A0 c0 a) (q0 : Rd w B0 d0 a) (ha : a.length ≤ 100000) :
  Calls Try.prog 23 #[.slice A0 a.length c0, .slice B0 a.length d0] w fun e w' => e = .returned (.bool true) ∧ Below w.heap.size w w' := by
 obtain ⟨f, h⟩ := (ints_true a ha).get
 refine (zB.calls f A0 c0 a B0 d0 a true w r0.row r0.cap q0.row q0.cap h).mono ?_
 rintro e w' ⟨rfl, hd⟩
 exact ⟨rfl, drawn0_below hd⟩
theorem win_c {A0 A1 : Option Addr} {c0 c1 : Nat} {lv at_ : List Int} {A2 : Option Addr} {c2 : Nat} {es : List Int} (d : Int) (w : World) (r0 : Rd w A0 c0 lv) (r1 : Rd w A1 c1 at_) (r2 : Rd w A2 c2 es) (hi : I64 es) {u : Bool} (hu : decide (Win lv at_ es d) = u) :
  Calls Try.prog 24 #[.agg #[.slice A0 lv.length c0, .slice A1 at_.length c1], .slice A2 es.length c2, .int .i64 d] w fun e w' => e = .returned (.bool u) ∧ Below w.heap.size w w' := by
 rw [← hu]
 exact within_calls A0 c0 lv A1 c1 at_ A2 c2 es d w r0.row r0.cap r1.row r1.cap r2.row r2.cap hi
theorem rwin_c {A0 A1 : Option Addr} {c0 c1 : Nat} {lv at_ : List Int} {A2 : Option Addr} {c2 : Nat} {es : List Int} (d : Int) (w : World) (r0 : Rd w A0 c0 lv) (r1 : Rd w A1 c1 at_) (r2 : Rd w A2 c2 es) (hi : I64 es) {u : Bool} (hu : decide (Win lv at_ es d) = u) :
  Calls Try.prog 25 #[.agg #[.slice A0 lv.length c0, .slice A1 at_.length c1], .slice A2 es.length c2, .int .i64 d] w fun e w' => e = .returned (.bool u) ∧ Below w.heap.size w w' := by
 rw [← hu]
 exact NW.rwithin_calls A0 c0 lv A1 c1 at_ A2 c2 es d w r0.row r0.cap r1.row r1.cap r2.row r2.cap hi
end Go.Proofs.Ytlidbaejhmamjaa.LW

namespace Go.Proofs.Ytlidbaejhmamjaa.LW
open Go.RowKit Go.Proofs.YtlidbaejhmamjaaW.PrintWords Go.Proofs.YtlidbaejhmamjaaW.PrintLast Go.Proofs.YtlidbaejhmamjaaW.PrintMore Go.Proofs.Ytlidbaejhmamjaa.PB Go.Proofs.Ytlidbaejhmamjaa.LA Go.Proofs.Ytlidbaejhmamjaa.AC
set_option linter.unusedVariables false
set_option linter.unusedSimpArgs false
def regs.T3 : Bool × List (List Nat × List Nat) := (true, [([], []), ([], []), ([0, 1], [0, 1]), ([2], [2]), ([3], [3]), ([3], [3]), ([4, 5, 3, 3], [3, 4, 5]), ([6, 3], [3, 6]), ([3, 7], [3, 7]), ([8, 6], [8]), ([9], [9]), ([9], [9]), ([10, 11, 9, 9], [9, 10, 11]), ([12, 9], [9, 12]), ([9, 13], [9, 13]), ([14, 12], [14]), ([15], [15]), ([15], [15]), ([16, 17, 15, 15], [15, 16, 17]), ([15], [15]), ([15], [15]), ([19, 20, 18, 15], [15, 19, 20]), ([18, 21, 15], [15, 18, 21]), ([15, 22], [15, 22])])
def regs.B3 : List Nat := [0, 0, 3, 7, 15, 15, 63, 127, 255, 511, 1023, 1023, 4095, 8191, 16383, 32767, 65535, 65535, 262143, 65535, 65535, 2097151, 4194303, 8388607]
theorem regs.tab3 : rtab .any (opsOf Try.f4 3) = regs.T3 := by kernel_rfl
theorem regs.bits3 : zaB regs.T3.2 regs.B3 = true := by kernel_rfl
def regs.T11 : Bool × List (List Nat × List Nat) := (true, [([], []), ([], []), ([], []), ([0, 1, 2], [0, 1, 2]), ([], []), ([], []), ([], []), ([4, 5, 6, 3], [4, 5, 6]), ([3, 7], [3, 7]), ([8, 7], [8]), ([9, 9], [9]), ([9, 10], [9, 10]), ([11, 10, 0, 1, 2, 3, 4, 5, 6, 7, 8, 9, 10, 11], [11])])
def regs.B11 : List Nat := [0, 0, 0, 7, 0, 0, 0, 127, 255, 511, 1023, 2047, 4095]
theorem regs.tab11 : rtab .any (opsOf Try.f4 11) = regs.T11 := by kernel_rfl
theorem regs.bits11 : zaB regs.T11.2 regs.B11 = true := by kernel_rfl
set_option maxRecDepth 100000 in
set_option maxHeartbeats 4000000 in
theorem regions_calls (A0 : Option Addr) (c0 : Nat) (lv : List Int) (A1 : Option Addr) (c1 : Nat) (at_ : List Int) (k s : Int) (A3 : Option Addr) (c3 : Nat) (sg : List Int) (d : Int) (A5 : Option Addr) (c5 : Nat) (es : List Int) (p : Int) (w : World) (r0 : Rd w A0 c0 lv) (r1 : Rd w A1 c1 at_) (r3 : Rd w A3 c3 sg) (r5 : Rd w A5 c5 es) (hi : I64 es) :
  Calls Try.prog 4 #[.agg #[.slice A0 lv.length c0, .slice A1 at_.length c1], .int .i64 k, .int .i64 s, .slice A3 sg.length c3, .int .i64 d, .slice A5 es.length c5, .int .i64 p] w fun e w' => e = .returned (.bool true) ∧ Below w.heap.size w w' := by
 have hu24 := Try.underlying24
 have HB := am_ (Below.refl w.heap.size w)
 have R_0 := am_ r0
 have R_1 := am_ r1
 have R_sg := am_ r3
 have R_e := am_ r5
 have HI := am_ hi
 clear r0 r1 r3 r5 hi
 obtain ⟨u, hu⟩ : ∃ u, decide (Win lv at_ es p) = u := ⟨_, rfl⟩
 have HU := am_ hu
 clear hu
 obtain ⟨E, hE_⟩ : ∃ E, E = hE lv at_ s := ⟨_, rfl⟩
 obtain ⟨l0, e1⟩ : ∃ x, x = hL lv at_ s := ⟨_, rfl⟩
 obtain ⟨l1, e2⟩ : ∃ x, x = hA lv at_ s := ⟨_, rfl⟩
 obtain ⟨l2, e3⟩ : ∃ x, x = hB lv at_ s := ⟨_, rfl⟩
 have N0 := hL_len lv at_ s
 have N1 := hA_len lv at_ s
 have N2 := hB_len lv at_ s
 rw [← e1] at N0
 rw [← e2] at N1
 rw [← e3] at N2
 have C1 := fun w r0 r1 => @halve_c A0 A1 c0 c1 lv at_ s w r0 r1
 have C2 := fun w r0 r1 => @rhalve_c A0 A1 c0 c1 lv at_ s w r0 r1
 simp only [← hE_, ← e1, ← e2, ← e3] at C1 C2
 have D1 := am_ C1
 have D2 := am_ C2
 have M0 := am_ N0
 have M1 := am_ N1
 have M2 := am_ N2
 clear C1 C2 N0 N1 N2 e1 e2 e3 hE_
 obtain ⟨C, hC⟩ : ∃ C, chkE lv at_ k = C := ⟨_, rfl⟩
 obtain ⟨wn, hwn⟩ : ∃ C, wayN lv at_ = C := ⟨_, rfl⟩
 obtain ⟨we, hwe⟩ : ∃ C, wayE lv at_ = C := ⟨_, rfl⟩
 obtain ⟨ee, hee⟩ : ∃ C, eE lv at_ sg d = C := ⟨_, rfl⟩
 obtain ⟨el, hel⟩ : ∃ C, eL lv at_ sg d = C := ⟨_, rfl⟩
 have M3 := am_ (show el.length ≤ 100000 by rw [← hel]; exact eL_len lv at_ sg d)
 have C1 := @check_c A0 A1 c0 c1 lv at_ k
 simp only [hC] at C1
 have D3 := am_ C1
 clear C1
 have C1 := @rcheck_c A0 A1 c0 c1 lv at_ k
 simp only [hC] at C1
 have D4 := am_ C1
 clear C1
 have C1 := @way_c A0 A1 c0 c1 lv at_
 simp only [hwn, hwe] at C1
 have D5 := am_ C1
 clear C1
 have C1 := @rway_c A0 A1 c0 c1 lv at_
 simp only [hwn, hwe] at C1
 have D6 := am_ C1
 clear C1
 have C1 := @ends_c A0 A1 c0 c1 lv at_ A3 c3 sg d
 simp only [hel, hee] at C1
 have D7 := am_ C1
 clear C1
 have C1 := @rends_c A0 A1 c0 c1 lv at_ A3 c3 sg d
 simp only [hel, hee] at C1
 have D8 := am_ C1
 clear C1
 clear hC hwn hwe hee hel
 go_enter Try.func4, Try.ntmps4
 go_wp2_with (first
  | ((with_reducible refine zq (N := 7) rfl ?_); refine zr rfl (N := 7) rfl (cs := #[.slice A0 lv.length c0, .slice A1 at_.length c1]) (t := 24) ?hr ?_; (case hr => first | (go_simp; done) | (go_simp; rfl)); intro g_r hg_ w1 hw_ hb_; have L_r := am_ (show w.heap.size ≤ g_r by have := HB.out.size; omega); replace R_0 := am_ (R_0.out.step hb_); replace R_1 := am_ (R_1.out.step hb_); replace R_sg := am_ (R_sg.out.step hb_); replace R_e := am_ (R_e.out.step hb_); replace HB := am_ (zh HB.out hb_); have K_r := am_ (show Bx w1 g_r A0 lv.length c0 A1 at_.length c1 from hw_); clear hg_ hw_ hb_; have c_r_0 := K_r.out.c0; have c_r_1 := K_r.out.c1)
  | fail)
 refine (D1.out w1 R_0.out R_1.out).mono ?_
 rintro e_ w2 ⟨A_h0, c_h0, A_ha, c_ha, A_h1, c_h1, A_hb_, c_hb_, rfl, h0, h1, h2, h3, hb⟩
 replace R_0 := am_ (R_0.out.step hb); replace R_1 := am_ (R_1.out.step hb); replace R_sg := am_ (R_sg.out.step hb); replace R_e := am_ (R_e.out.step hb); replace K_r := am_ (K_r.out.step hb); replace HB := am_ (zh HB.out hb)
 have R_h0 := am_ h0
 have R_ha := am_ h1
 have R_h1 := am_ h2
 have R_hb_ := am_ h3
 clear hb h0 h1 h2 h3
 go_wp2_with (first
  | ((with_reducible refine zq (N := 15) rfl ?_); refine zr rfl (N := 15) rfl (cs := #[.slice none 0 0, .slice none 0 0]) (t := 24) ?hr ?_; (case hr => first | (go_simp; done) | (go_simp; rfl)); intro g_a hg_ w3 hw_ hb_; have N_a_r := am_ (show g_r ≠ g_a by have := K_r.out.lt; omega); have L_a := am_ (show w.heap.size ≤ g_a by have := HB.out.size; omega); replace R_0 := am_ (R_0.out.step hb_); replace R_1 := am_ (R_1.out.step hb_); replace R_sg := am_ (R_sg.out.step hb_); replace R_e := am_ (R_e.out.step hb_); replace R_h0 := am_ (R_h0.out.step hb_); replace R_ha := am_ (R_ha.out.step hb_); replace R_h1 := am_ (R_h1.out.step hb_); replace R_hb_ := am_ (R_hb_.out.step hb_); replace K_r := am_ (K_r.out.step hb_); replace HB := am_ (zh HB.out hb_); have K_a := am_ (show Bx w3 g_a none 0 0 none 0 0 from hw_); clear hg_ hw_ hb_)
  | ((with_reducible refine zq (N := 16) rfl ?_); refine zr rfl (N := 16) rfl (cs := #[.slice none 0 0, .slice none 0 0]) (t := 24) ?hr ?_; (case hr => first | (go_simp; done) | (go_simp; rfl)); intro g_b hg_ w4 hw_ hb_; have N_b_r := am_ (show g_r ≠ g_b by have := K_r.out.lt; omega); have N_b_a := am_ (show g_a ≠ g_b by have := K_a.out.lt; omega); have L_b := am_ (show w.heap.size ≤ g_b by have := HB.out.size; omega); replace R_0 := am_ (R_0.out.step hb_); replace R_1 := am_ (R_1.out.step hb_); replace R_sg := am_ (R_sg.out.step hb_); replace R_e := am_ (R_e.out.step hb_); replace R_h0 := am_ (R_h0.out.step hb_); replace R_ha := am_ (R_ha.out.step hb_); replace R_h1 := am_ (R_h1.out.step hb_); replace R_hb_ := am_ (R_hb_.out.step hb_); replace K_r := am_ (K_r.out.step hb_); replace K_a := am_ (K_a.out.step hb_); replace HB := am_ (zh HB.out hb_); have K_b := am_ (show Bx w4 g_b none 0 0 none 0 0 from hw_); clear hg_ hw_ hb_)
  | ((with_reducible refine zL (t := 24) (p := 15) rfl ?_); refine zF rfl 24 rfl rfl g_a #[.slice A_h0 l0.length c_h0, .slice A_ha l1.length c_ha] rfl rfl 24 _ K_a.out (info24.trans rfl) rfl (slices_one _ _ _ _ _ _) ?_; intro w5 hw_ hg_; replace R_0 := am_ (R_0.out.put K_a.out hg_); replace R_1 := am_ (R_1.out.put K_a.out hg_); replace R_sg := am_ (R_sg.out.put K_a.out hg_); replace R_e := am_ (R_e.out.put K_a.out hg_); replace R_h0 := am_ (R_h0.out.put K_a.out hg_); replace R_ha := am_ (R_ha.out.put K_a.out hg_); replace R_h1 := am_ (R_h1.out.put K_a.out hg_); replace R_hb_ := am_ (R_hb_.out.put K_a.out hg_); replace K_r := am_ (K_r.out.put hg_ N_a_r.out); replace K_b := am_ (K_b.out.put hg_ N_b_a.out.symm); replace HB := am_ (HB.out.grown hg_ HB.out.size (fun k_ hk_ => by cases hk_; exact L_a.out)); replace K_a := am_ (show Bx w5 g_a A_h0 l0.length c_h0 A_ha l1.length c_ha from hw_); clear hw_ hg_; have c_a_0 := K_a.out.c0; have c_a_1 := K_a.out.c1)
  | ((with_reducible refine zL (t := 24) (p := 16) rfl ?_); refine zF rfl 24 rfl rfl g_b #[.slice A_h1 l0.length c_h1, .slice A_hb_ l2.length c_hb_] rfl rfl 24 _ K_b.out (info24.trans rfl) rfl (slices_one _ _ _ _ _ _) ?_; intro w6 hw_ hg_; replace R_0 := am_ (R_0.out.put K_b.out hg_); replace R_1 := am_ (R_1.out.put K_b.out hg_); replace R_sg := am_ (R_sg.out.put K_b.out hg_); replace R_e := am_ (R_e.out.put K_b.out hg_); replace R_h0 := am_ (R_h0.out.put K_b.out hg_); replace R_ha := am_ (R_ha.out.put K_b.out hg_); replace R_h1 := am_ (R_h1.out.put K_b.out hg_); replace R_hb_ := am_ (R_hb_.out.put K_b.out hg_); replace K_r := am_ (K_r.out.put hg_ N_b_r.out); replace K_a := am_ (K_a.out.put hg_ N_b_a.out); replace HB := am_ (HB.out.grown hg_ HB.out.size (fun k_ hk_ => by cases hk_; exact L_b.out)); replace K_b := am_ (show Bx w6 g_b A_h1 l0.length c_h1 A_hb_ l2.length c_hb_ from hw_); clear hw_ hg_; have c_b_0 := K_b.out.c0; have c_b_1 := K_b.out.c1; have c_r_0 := K_r.out.c0; have c_r_1 := K_r.out.c1)
  | fail)
 refine (D2.out w6 R_0.out R_1.out).mono ?_
 rintro e_ w7 ⟨A_q0, c_q0, A_qa, c_qa, A_q1, c_q1, A_qb, c_qb, rfl, h0, h1, h2, h3, hb⟩
 replace R_0 := am_ (R_0.out.step hb); replace R_1 := am_ (R_1.out.step hb); replace R_sg := am_ (R_sg.out.step hb); replace R_e := am_ (R_e.out.step hb); replace R_h0 := am_ (R_h0.out.step hb); replace R_ha := am_ (R_ha.out.step hb); replace R_h1 := am_ (R_h1.out.step hb); replace R_hb_ := am_ (R_hb_.out.step hb); replace K_r := am_ (K_r.out.step hb); replace K_a := am_ (K_a.out.step hb); replace K_b := am_ (K_b.out.step hb); replace HB := am_ (zh HB.out hb)
 have R_q0 := am_ h0
 have R_qa := am_ h1
 have R_q1 := am_ h2
 have R_qb := am_ h3
 clear hb h0 h1 h2 h3
 go_wp2_with (first
  | ((with_reducible refine zq (N := 18) rfl ?_); refine zr rfl (N := 18) rfl (cs := #[.slice none 0 0, .slice none 0 0]) (t := 24) ?hr ?_; (case hr => first | (go_simp; done) | (go_simp; rfl)); intro g_q hg_ w8 hw_ hb_; have N_q_r := am_ (show g_r ≠ g_q by have := K_r.out.lt; omega); have N_q_a := am_ (show g_a ≠ g_q by have := K_a.out.lt; omega); have N_q_b := am_ (show g_b ≠ g_q by have := K_b.out.lt; omega); have L_q := am_ (show w.heap.size ≤ g_q by have := HB.out.size; omega); replace R_0 := am_ (R_0.out.step hb_); replace R_1 := am_ (R_1.out.step hb_); replace R_sg := am_ (R_sg.out.step hb_); replace R_e := am_ (R_e.out.step hb_); replace R_h0 := am_ (R_h0.out.step hb_); replace R_ha := am_ (R_ha.out.step hb_); replace R_h1 := am_ (R_h1.out.step hb_); replace R_hb_ := am_ (R_hb_.out.step hb_); replace R_q0 := am_ (R_q0.out.step hb_); replace R_qa := am_ (R_qa.out.step hb_); replace R_q1 := am_ (R_q1.out.step hb_); replace R_qb := am_ (R_qb.out.step hb_); replace K_r := am_ (K_r.out.step hb_); replace K_a := am_ (K_a.out.step hb_); replace K_b := am_ (K_b.out.step hb_); replace HB := am_ (zh HB.out hb_); have K_q := am_ (show Bx w8 g_q none 0 0 none 0 0 from hw_); clear hg_ hw_ hb_)
  | ((with_reducible refine zq (N := 19) rfl ?_); refine zr rfl (N := 19) rfl (cs := #[.slice none 0 0, .slice none 0 0]) (t := 24) ?hr ?_; (case hr => first | (go_simp; done) | (go_simp; rfl)); intro g_t hg_ w9 hw_ hb_; have N_t_r := am_ (show g_r ≠ g_t by have := K_r.out.lt; omega); have N_t_a := am_ (show g_a ≠ g_t by have := K_a.out.lt; omega); have N_t_b := am_ (show g_b ≠ g_t by have := K_b.out.lt; omega); have N_t_q := am_ (show g_q ≠ g_t by have := K_q.out.lt; omega); have L_t := am_ (show w.heap.size ≤ g_t by have := HB.out.size; omega); replace R_0 := am_ (R_0.out.step hb_); replace R_1 := am_ (R_1.out.step hb_); replace R_sg := am_ (R_sg.out.step hb_); replace R_e := am_ (R_e.out.step hb_); replace R_h0 := am_ (R_h0.out.step hb_); replace R_ha := am_ (R_ha.out.step hb_); replace R_h1 := am_ (R_h1.out.step hb_); replace R_hb_ := am_ (R_hb_.out.step hb_); replace R_q0 := am_ (R_q0.out.step hb_); replace R_qa := am_ (R_qa.out.step hb_); replace R_q1 := am_ (R_q1.out.step hb_); replace R_qb := am_ (R_qb.out.step hb_); replace K_r := am_ (K_r.out.step hb_); replace K_a := am_ (K_a.out.step hb_); replace K_b := am_ (K_b.out.step hb_); replace K_q := am_ (K_q.out.step hb_); replace HB := am_ (zh HB.out hb_); have K_t := am_ (show Bx w9 g_t none 0 0 none 0 0 from hw_); clear hg_ hw_ hb_)
  | ((with_reducible refine zL (t := 24) (p := 18) rfl ?_); refine zF rfl 24 rfl rfl g_q #[.slice A_q0 l0.length c_q0, .slice A_qa l1.length c_qa] rfl rfl 24 _ K_q.out (info24.trans rfl) rfl (slices_one _ _ _ _ _ _) ?_; intro w10 hw_ hg_; replace R_0 := am_ (R_0.out.put K_q.out hg_); replace R_1 := am_ (R_1.out.put K_q.out hg_); replace R_sg := am_ (R_sg.out.put K_q.out hg_); replace R_e := am_ (R_e.out.put K_q.out hg_); replace R_h0 := am_ (R_h0.out.put K_q.out hg_); replace R_ha := am_ (R_ha.out.put K_q.out hg_); replace R_h1 := am_ (R_h1.out.put K_q.out hg_); replace R_hb_ := am_ (R_hb_.out.put K_q.out hg_); replace R_q0 := am_ (R_q0.out.put K_q.out hg_); replace R_qa := am_ (R_qa.out.put K_q.out hg_); replace R_q1 := am_ (R_q1.out.put K_q.out hg_); replace R_qb := am_ (R_qb.out.put K_q.out hg_); replace K_r := am_ (K_r.out.put hg_ N_q_r.out); replace K_a := am_ (K_a.out.put hg_ N_q_a.out); replace K_b := am_ (K_b.out.put hg_ N_q_b.out); replace K_t := am_ (K_t.out.put hg_ N_t_q.out.symm); replace HB := am_ (HB.out.grown hg_ HB.out.size (fun k_ hk_ => by cases hk_; exact L_q.out)); replace K_q := am_ (show Bx w10 g_q A_q0 l0.length c_q0 A_qa l1.length c_qa from hw_); clear hw_ hg_; have c_q_0 := K_q.out.c0; have c_q_1 := K_q.out.c1)
  | ((with_reducible refine zL (t := 24) (p := 19) rfl ?_); refine zF rfl 24 rfl rfl g_t #[.slice A_q1 l0.length c_q1, .slice A_qb l2.length c_qb] rfl rfl 24 _ K_t.out (info24.trans rfl) rfl (slices_one _ _ _ _ _ _) ?_; intro w11 hw_ hg_; replace R_0 := am_ (R_0.out.put K_t.out hg_); replace R_1 := am_ (R_1.out.put K_t.out hg_); replace R_sg := am_ (R_sg.out.put K_t.out hg_); replace R_e := am_ (R_e.out.put K_t.out hg_); replace R_h0 := am_ (R_h0.out.put K_t.out hg_); replace R_ha := am_ (R_ha.out.put K_t.out hg_); replace R_h1 := am_ (R_h1.out.put K_t.out hg_); replace R_hb_ := am_ (R_hb_.out.put K_t.out hg_); replace R_q0 := am_ (R_q0.out.put K_t.out hg_); replace R_qa := am_ (R_qa.out.put K_t.out hg_); replace R_q1 := am_ (R_q1.out.put K_t.out hg_); replace R_qb := am_ (R_qb.out.put K_t.out hg_); replace K_r := am_ (K_r.out.put hg_ N_t_r.out); replace K_a := am_ (K_a.out.put hg_ N_t_a.out); replace K_b := am_ (K_b.out.put hg_ N_t_b.out); replace K_q := am_ (K_q.out.put hg_ N_t_q.out); replace HB := am_ (HB.out.grown hg_ HB.out.size (fun k_ hk_ => by cases hk_; exact L_t.out)); replace K_t := am_ (show Bx w11 g_t A_q1 l0.length c_q1 A_qb l2.length c_qb from hw_); clear hw_ hg_; have c_t_0 := K_t.out.c0; have c_t_1 := K_t.out.c1)
  | fail)
 have hb : Below w11.heap.size w11 w11.drew := zaH (Below.refl _ _)
 replace R_0 := am_ (R_0.out.step hb); replace R_1 := am_ (R_1.out.step hb); replace R_sg := am_ (R_sg.out.step hb); replace R_e := am_ (R_e.out.step hb); replace R_h0 := am_ (R_h0.out.step hb); replace R_ha := am_ (R_ha.out.step hb); replace R_h1 := am_ (R_h1.out.step hb); replace R_hb_ := am_ (R_hb_.out.step hb); replace R_q0 := am_ (R_q0.out.step hb); replace R_qa := am_ (R_qa.out.step hb); replace R_q1 := am_ (R_q1.out.step hb); replace R_qb := am_ (R_qb.out.step hb); replace K_r := am_ (K_r.out.step hb); replace K_a := am_ (K_a.out.step hb); replace K_b := am_ (K_b.out.step hb); replace K_q := am_ (K_q.out.step hb); replace K_t := am_ (K_t.out.step hb); replace HB := am_ (zh HB.out hb)
 clear hb
 refine za1 (n := 24) (S := fun w' => w'.cell? ⟨g_a, 0, none⟩ = some (.slice A_h0 l0.length c_h0) ∧ w'.cell? ⟨g_a, 1, none⟩ = some (.slice A_ha l1.length c_ha) ∧ w'.cell? ⟨g_b, 0, none⟩ = some (.slice A_h1 l0.length c_h1) ∧ w'.cell? ⟨g_b, 1, none⟩ = some (.slice A_hb_ l2.length c_hb_) ∧ w'.cell? ⟨g_q, 0, none⟩ = some (.slice A_q0 l0.length c_q0) ∧ w'.cell? ⟨g_q, 1, none⟩ = some (.slice A_qa l1.length c_qa) ∧ w'.cell? ⟨g_t, 0, none⟩ = some (.slice A_q1 l0.length c_q1) ∧ w'.cell? ⟨g_t, 1, none⟩ = some (.slice A_qb l2.length c_qb) ∧ w'.cell? ⟨g_r, 0, none⟩ = some (.slice A0 lv.length c0) ∧ w'.cell? ⟨g_r, 1, none⟩ = some (.slice A1 at_.length c1)) (ds := []) (bl_ 24 0) (by kernel_rfl) rfl rfl ⟨K_a.out.c0, K_a.out.c1, K_b.out.c0, K_b.out.c1, K_q.out.c0, K_q.out.c1, K_t.out.c0, K_t.out.c1, K_r.out.c0, K_r.out.c1⟩ (fun hHeld => ?_); refine zav regs.tab3 regs.bits3 (fun HT_ HW_ => ?_)
 generalize w11.drew = w12 at R_0 R_1 R_sg R_e R_h0 R_ha R_h1 R_hb_ R_q0 R_qa R_q1 R_qb K_r K_a K_b K_q K_t HB hHeld ⊢
 refine zD (i := 0) (N := some 43) (v := ?_) (a' := ?_) (bl_ 24 1) rfl rfl (zt HT_.out (by kernel_rfl)) (fun _ _ _ h => h) (Or.inl ⟨by rfl, ?_⟩) ?_ ?_; rotate_left; (focus (intro w'; go_simp; first | done | with_reducible rfl)); rotate_left; (focus (simp only [Act.put, sI_, s0_, s1_, zm, zp]; first | done | rfl))
 refine zD (i := 1) (N := some 44) (v := ?_) (a' := ?_) (bl_ 24 3) rfl rfl (zt HT_.out (by kernel_rfl)) (fun _ _ _ h => h) (Or.inl ⟨by rfl, ?_⟩) ?_ ?_; rotate_left; (focus (intro w'; go_simp; first | done | with_reducible rfl)); rotate_left; (focus (simp only [Act.put, sI_, s0_, s1_, zm, zp]; first | done | rfl))
 refine zD (i := 2) (N := some 45) (v := ?_) (a' := ?_) (bl_ 24 7) rfl rfl (zt HT_.out (by kernel_rfl)) (fun _ _ _ h => h) (Or.inl ⟨by rfl, ?_⟩) ?_ ?_; rotate_left; (focus (intro w'; go_simp; first | done | with_reducible rfl)); rotate_left; (focus (simp only [Act.put, sI_, s0_, s1_, zm, zp]; first | done | rfl))
 refine zD (i := 3) (N := some 46) (v := ?_) (a' := ?_) (bl_ 24 15) rfl rfl (zt HT_.out (by kernel_rfl)) (fun _ _ _ h => h) (Or.inl ⟨by rfl, ?_⟩) ?_ ?_; rotate_left; (focus (intro w'; go_simp; first | done | with_reducible rfl)); rotate_left; (focus (simp only [Act.put, sI_, s0_, s1_, zm, zp]; first | done | rfl))
 refine zaq (i := 4) (N := some 47) (v := ?_) (a' := ?_) (bl_ 24 31) rfl rfl (zQ HT_.out HW_.out (by kernel_rfl)) (fun _ _ _ h => h) (Or.inl ⟨by rfl, ?_⟩) hHeld ?_ ?_; rotate_left; (focus (rintro w' ⟨s0, s1, s2, s3, s4, s5, s6, s7, s8, s9⟩; go_simp; first | done | with_reducible rfl)); rotate_left; (focus (simp only [Act.put, sI_, s0_, s1_, zm, zp]; first | done | rfl))
 refine zaq (i := 5) (N := some 48) (v := ?_) (a' := ?_) (bl_ 24 63) rfl rfl (zQ HT_.out HW_.out (by kernel_rfl)) (fun _ _ _ h => h) (Or.inl ⟨by rfl, ?_⟩) hHeld ?_ ?_; rotate_left; (focus (rintro w' ⟨s0, s1, s2, s3, s4, s5, s6, s7, s8, s9⟩; go_simp; first | done | with_reducible rfl)); rotate_left; (focus (simp only [Act.put, sI_, s0_, s1_, zm, zp]; first | done | rfl))
 refine one_ (i := 6) (N := some 49) (bl_ 24 127) rfl rfl (zat HT_.out (by kernel_rfl)) (by decide) (fun K hK => ?_)
 refine goes_ Try.func13 (by kernel_rfl) rfl #[.agg #[.slice A_h0 l0.length c_h0, .slice A_ha l1.length c_ha], .agg #[.slice A_q0 l0.length c_q0, .slice A_qa l1.length c_qa]] (by rfl) rfl rfl (by (try simp only [List.map_toArray, List.map_cons, List.map_nil]); first | done | rfl) ?_
 refine (same_c w12 R_h0.out R_ha.out R_q0.out R_qa.out M0.out M1.out).mono ?_
 rintro e_ w13 ⟨rfl, hb⟩
 refine ⟨_, rfl, ?_⟩
 replace R_0 := am_ (R_0.out.step hb); replace R_1 := am_ (R_1.out.step hb); replace R_sg := am_ (R_sg.out.step hb); replace R_e := am_ (R_e.out.step hb); replace R_h0 := am_ (R_h0.out.step hb); replace R_ha := am_ (R_ha.out.step hb); replace R_h1 := am_ (R_h1.out.step hb); replace R_hb_ := am_ (R_hb_.out.step hb); replace R_q0 := am_ (R_q0.out.step hb); replace R_qa := am_ (R_qa.out.step hb); replace R_q1 := am_ (R_q1.out.step hb); replace R_qb := am_ (R_qb.out.step hb); replace K_r := am_ (K_r.out.step hb); replace K_a := am_ (K_a.out.step hb); replace K_b := am_ (K_b.out.step hb); replace K_q := am_ (K_q.out.step hb); replace K_t := am_ (K_t.out.step hb); replace HB := am_ (zh HB.out hb)
 clear hb 
 refine hK.out _ _ ⟨K_a.out.c0, K_a.out.c1, K_b.out.c0, K_b.out.c1, K_q.out.c0, K_q.out.c1, K_t.out.c0, K_t.out.c1, K_r.out.c0, K_r.out.c1⟩ (fun hHeld => ?_); clear hK K
 refine zaf (a' := ?_) ?_ ?_; rotate_left; (focus (show Act.put _ (some 49) _ = _; simp only [Act.put, sI_, s0_, s1_, zm, zp]; first | done | rfl))
 refine zD (i := 7) (N := some 50) (v := ?_) (a' := ?_) (bl_ 24 255) rfl rfl (zt HT_.out (by kernel_rfl)) (fun _ _ _ h => h) (Or.inl ⟨by rfl, ?_⟩) ?_ ?_; rotate_left; (focus (intro w'; go_simp; first | done | with_reducible rfl)); rotate_left; (focus (simp only [Act.put, sI_, s0_, s1_, zm, zp]; first | done | rfl))
 refine zD (i := 8) (N := some 51) (v := ?_) (a' := ?_) (bl_ 24 511) rfl rfl (zt HT_.out (by kernel_rfl)) (fun _ _ _ h => h) (Or.inl ⟨by rfl, ?_⟩) ?_ ?_; rotate_left; (focus (intro w'; go_simp; first | done | with_reducible rfl)); rotate_left; (focus (simp only [Act.put, sI_, s0_, s1_, zm, zp]; first | done | rfl))
 refine zD (i := 9) (N := some 52) (v := ?_) (a' := ?_) (bl_ 24 1023) rfl rfl (zt HT_.out (by kernel_rfl)) (fun _ _ _ h => h) (Or.inl ⟨by rfl, ?_⟩) ?_ ?_; rotate_left; (focus (intro w'; go_simp; first | done | with_reducible rfl)); rotate_left; (focus (simp only [Act.put, sI_, s0_, s1_, zm, zp]; first | done | rfl))
 refine zaq (i := 10) (N := some 53) (v := ?_) (a' := ?_) (bl_ 24 2047) rfl rfl (zQ HT_.out HW_.out (by kernel_rfl)) (fun _ _ _ h => h) (Or.inl ⟨by rfl, ?_⟩) hHeld ?_ ?_; rotate_left; (focus (rintro w' ⟨s0, s1, s2, s3, s4, s5, s6, s7, s8, s9⟩; go_simp; first | done | with_reducible rfl)); rotate_left; (focus (simp only [Act.put, sI_, s0_, s1_, zm, zp]; first | done | rfl))
 refine zaq (i := 11) (N := some 54) (v := ?_) (a' := ?_) (bl_ 24 4095) rfl rfl (zQ HT_.out HW_.out (by kernel_rfl)) (fun _ _ _ h => h) (Or.inl ⟨by rfl, ?_⟩) hHeld ?_ ?_; rotate_left; (focus (rintro w' ⟨s0, s1, s2, s3, s4, s5, s6, s7, s8, s9⟩; go_simp; first | done | with_reducible rfl)); rotate_left; (focus (simp only [Act.put, sI_, s0_, s1_, zm, zp]; first | done | rfl))
 refine one_ (i := 12) (N := some 55) (bl_ 24 8191) rfl rfl (zat HT_.out (by kernel_rfl)) (by decide) (fun K hK => ?_)
 refine goes_ Try.func13 (by kernel_rfl) rfl #[.agg #[.slice A_h1 l0.length c_h1, .slice A_hb_ l2.length c_hb_], .agg #[.slice A_q1 l0.length c_q1, .slice A_qb l2.length c_qb]] (by rfl) rfl rfl (by (try simp only [List.map_toArray, List.map_cons, List.map_nil]); first | done | rfl) ?_
 refine (same_c w13 R_h1.out R_hb_.out R_q1.out R_qb.out M0.out M2.out).mono ?_
 rintro e_ w14 ⟨rfl, hb⟩
 refine ⟨_, rfl, ?_⟩
 replace R_0 := am_ (R_0.out.step hb); replace R_1 := am_ (R_1.out.step hb); replace R_sg := am_ (R_sg.out.step hb); replace R_e := am_ (R_e.out.step hb); replace R_h0 := am_ (R_h0.out.step hb); replace R_ha := am_ (R_ha.out.step hb); replace R_h1 := am_ (R_h1.out.step hb); replace R_hb_ := am_ (R_hb_.out.step hb); replace R_q0 := am_ (R_q0.out.step hb); replace R_qa := am_ (R_qa.out.step hb); replace R_q1 := am_ (R_q1.out.step hb); replace R_qb := am_ (R_qb.out.step hb); replace K_r := am_ (K_r.out.step hb); replace K_a := am_ (K_a.out.step hb); replace K_b := am_ (K_b.out.step hb); replace K_q := am_ (K_q.out.step hb); replace K_t := am_ (K_t.out.step hb); replace HB := am_ (zh HB.out hb)
 clear hb 
 refine hK.out _ _ ⟨K_a.out.c0, K_a.out.c1, K_b.out.c0, K_b.out.c1, K_q.out.c0, K_q.out.c1, K_t.out.c0, K_t.out.c1, K_r.out.c0, K_r.out.c1⟩ (fun hHeld => ?_); clear hK K
 refine zaf (a' := ?_) ?_ ?_; rotate_left; (focus (show Act.put _ (some 55) _ = _; simp only [Act.put, sI_, s0_, s1_, zm, zp]; first | done | rfl))
 refine zD (i := 13) (N := some 56) (v := ?_) (a' := ?_) (bl_ 24 16383) rfl rfl (zt HT_.out (by kernel_rfl)) (fun _ _ _ h => h) (Or.inl ⟨by rfl, ?_⟩) ?_ ?_; rotate_left; (focus (intro w'; go_simp; first | done | with_reducible rfl)); rotate_left; (focus (simp only [Act.put, sI_, s0_, s1_, zm, zp]; first | done | rfl))
 refine zD (i := 14) (N := some 57) (v := ?_) (a' := ?_) (bl_ 24 32767) rfl rfl (zt HT_.out (by kernel_rfl)) (fun _ _ _ h => h) (Or.inl ⟨by rfl, ?_⟩) ?_ ?_; rotate_left; (focus (intro w'; go_simp; first | done | with_reducible rfl)); rotate_left; (focus (simp only [Act.put, sI_, s0_, s1_, zm, zp]; first | done | rfl))
 refine zD (i := 15) (N := some 58) (v := ?_) (a' := ?_) (bl_ 24 65535) rfl rfl (zt HT_.out (by kernel_rfl)) (fun _ _ _ h => h) (Or.inl ⟨by rfl, ?_⟩) ?_ ?_; rotate_left; (focus (intro w'; go_simp; first | done | with_reducible rfl)); rotate_left; (focus (simp only [Act.put, sI_, s0_, s1_, zm, zp]; first | done | rfl))
 refine zD (i := 17) (N := some 60) (v := ?_) (a' := ?_) (bl_ 24 196607) rfl rfl (zt HT_.out (by kernel_rfl)) (fun _ _ _ h => h) (Or.inl ⟨by rfl, ?_⟩) ?_ ?_; rotate_left; (focus (intro w'; go_simp; first | done | with_reducible rfl)); rotate_left; (focus (simp only [Act.put, sI_, s0_, s1_, zm, zp]; first | done | rfl))
 refine zD (i := 20) (N := some 63) (v := ?_) (a' := ?_) (bl_ 24 1245183) rfl rfl (zt HT_.out (by kernel_rfl)) (fun _ _ _ h => h) (Or.inl ⟨by rfl, ?_⟩) ?_ ?_; rotate_left; (focus (intro w'; go_simp; first | done | with_reducible rfl)); rotate_left; (focus (simp only [Act.put, sI_, s0_, s1_, zm, zp]; first | done | rfl))
 refine zaq (i := 16) (N := some 59) (v := ?_) (a' := ?_) (bl_ 24 1310719) rfl rfl (zQ HT_.out HW_.out (by kernel_rfl)) (fun _ _ _ h => h) (Or.inl ⟨by rfl, ?_⟩) hHeld ?_ ?_; rotate_left; (focus (rintro w' ⟨s0, s1, s2, s3, s4, s5, s6, s7, s8, s9⟩; go_simp; first | done | with_reducible rfl)); rotate_left; (focus (simp only [Act.put, sI_, s0_, s1_, zm, zp]; first | done | rfl))
 refine zaq (i := 19) (N := some 62) (v := ?_) (a' := ?_) (bl_ 24 1835007) rfl rfl (zQ HT_.out HW_.out (by kernel_rfl)) (fun _ _ _ h => h) (Or.inl ⟨by rfl, ?_⟩) hHeld ?_ ?_; rotate_left; (focus (rintro w' ⟨s0, s1, s2, s3, s4, s5, s6, s7, s8, s9⟩; go_simp; first | done | with_reducible rfl)); rotate_left; (focus (simp only [Act.put, sI_, s0_, s1_, zm, zp]; first | done | rfl))
 refine one_ (i := 18) (N := some 61) (bl_ 24 2097151) rfl rfl (zat HT_.out (by kernel_rfl)) (by decide) (fun K hK => ?_)
 refine goes_ Try.func17 (by kernel_rfl) rfl #[.agg #[.slice A0 lv.length c0, .slice A1 at_.length c1], .int .i64 k] (by rfl) rfl rfl (by (try simp only [List.map_toArray, List.map_cons, List.map_nil]); first | done | rfl) ?_
 refine (D3.out w14 R_0.out R_1.out).mono ?_
 rintro e_ w15 ⟨rfl, hb⟩
 refine ⟨_, rfl, ?_⟩
 replace R_0 := am_ (R_0.out.step hb); replace R_1 := am_ (R_1.out.step hb); replace R_sg := am_ (R_sg.out.step hb); replace R_e := am_ (R_e.out.step hb); replace R_h0 := am_ (R_h0.out.step hb); replace R_ha := am_ (R_ha.out.step hb); replace R_h1 := am_ (R_h1.out.step hb); replace R_hb_ := am_ (R_hb_.out.step hb); replace R_q0 := am_ (R_q0.out.step hb); replace R_qa := am_ (R_qa.out.step hb); replace R_q1 := am_ (R_q1.out.step hb); replace R_qb := am_ (R_qb.out.step hb); replace K_r := am_ (K_r.out.step hb); replace K_a := am_ (K_a.out.step hb); replace K_b := am_ (K_b.out.step hb); replace K_q := am_ (K_q.out.step hb); replace K_t := am_ (K_t.out.step hb); replace HB := am_ (zh HB.out hb)
 clear hb 
 refine hK.out _ _ ⟨K_a.out.c0, K_a.out.c1, K_b.out.c0, K_b.out.c1, K_q.out.c0, K_q.out.c1, K_t.out.c0, K_t.out.c1, K_r.out.c0, K_r.out.c1⟩ (fun hHeld => ?_); clear hK K
 refine zaf (a' := ?_) ?_ ?_; rotate_left; (focus (show Act.put _ (some 61) _ = _; simp only [Act.put, sI_, s0_, s1_, zm, zp]; first | done | rfl))
 refine one_ (i := 21) (N := some 64) (bl_ 24 4194303) rfl rfl (zat HT_.out (by kernel_rfl)) (by decide) (fun K hK => ?_)
 refine goes_ Try.func18 (by kernel_rfl) rfl #[.agg #[.slice A0 lv.length c0, .slice A1 at_.length c1], .int .i64 k] (by rfl) rfl rfl (by (try simp only [List.map_toArray, List.map_cons, List.map_nil]); first | done | rfl) ?_
 refine (D4.out w15 R_0.out R_1.out).mono ?_
 rintro e_ w16 ⟨rfl, hb⟩
 refine ⟨_, rfl, ?_⟩
 replace R_0 := am_ (R_0.out.step hb); replace R_1 := am_ (R_1.out.step hb); replace R_sg := am_ (R_sg.out.step hb); replace R_e := am_ (R_e.out.step hb); replace R_h0 := am_ (R_h0.out.step hb); replace R_ha := am_ (R_ha.out.step hb); replace R_h1 := am_ (R_h1.out.step hb); replace R_hb_ := am_ (R_hb_.out.step hb); replace R_q0 := am_ (R_q0.out.step hb); replace R_qa := am_ (R_qa.out.step hb); replace R_q1 := am_ (R_q1.out.step hb); replace R_qb := am_ (R_qb.out.step hb); replace K_r := am_ (K_r.out.step hb); replace K_a := am_ (K_a.out.step hb); replace K_b := am_ (K_b.out.step hb); replace K_q := am_ (K_q.out.step hb); replace K_t := am_ (K_t.out.step hb); replace HB := am_ (zh HB.out hb)
 clear hb 
 refine hK.out _ _ ⟨K_a.out.c0, K_a.out.c1, K_b.out.c0, K_b.out.c1, K_q.out.c0, K_q.out.c1, K_t.out.c0, K_t.out.c1, K_r.out.c0, K_r.out.c1⟩ (fun hHeld => ?_); clear hK K
 refine zaf (a' := ?_) ?_ ?_; rotate_left; (focus (show Act.put _ (some 64) _ = _; simp only [Act.put, sI_, s0_, s1_, zm, zp]; first | done | rfl))
 refine zD (i := 22) (N := some 65) (v := ?_) (a' := ?_) (bl_ 24 8388607) rfl rfl (zt HT_.out (by kernel_rfl)) (fun _ _ _ h => h) (Or.inl ⟨by rfl, ?_⟩) ?_ ?_; rotate_left; (focus (intro w'; go_simp; first | done | with_reducible rfl)); rotate_left; (focus (simp only [Act.put, sI_, s0_, s1_, zm, zp]; first | done | rfl))
 refine zD (i := 23) (N := some 66) (v := ?_) (a' := ?_) (bl_ 24 16777215) rfl rfl (zt HT_.out (by kernel_rfl)) (fun _ _ _ h => h) (Or.inl ⟨by rfl, ?_⟩) ?_ ?_; rotate_left; (focus (intro w'; go_simp; first | done | with_reducible rfl)); rotate_left; (focus (simp only [Act.put, sI_, s0_, s1_, zm, zp]; first | done | rfl))
 refine done_ (zaL HT_.out (by kernel_rfl)) ?_
 clear R_h0 R_ha R_h1 R_hb_ R_q0 R_qa R_q1 R_qb K_a K_b K_q K_t
 have c_r_0 := K_r.out.c0
 have c_r_1 := K_r.out.c1
 go_wp2_with fail
 clear c_r_0 c_r_1
 refine (D5.out w16 R_0.out R_1.out).mono ?_
 rintro e_ w17 ⟨rfl, hb⟩
 replace R_0 := am_ (R_0.out.step hb); replace R_1 := am_ (R_1.out.step hb); replace R_sg := am_ (R_sg.out.step hb); replace R_e := am_ (R_e.out.step hb); replace K_r := am_ (K_r.out.step hb); replace HB := am_ (zh HB.out hb)
 clear hb 
 have c_r_0 := K_r.out.c0
 have c_r_1 := K_r.out.c1
 go_wp2_with fail
 clear c_r_0 c_r_1
 refine (D6.out w17 R_0.out R_1.out).mono ?_
 rintro e_ w18 ⟨rfl, hb⟩
 replace R_0 := am_ (R_0.out.step hb); replace R_1 := am_ (R_1.out.step hb); replace R_sg := am_ (R_sg.out.step hb); replace R_e := am_ (R_e.out.step hb); replace K_r := am_ (K_r.out.step hb); replace HB := am_ (zh HB.out hb)
 clear hb 
 have c_r_0 := K_r.out.c0
 have c_r_1 := K_r.out.c1
 go_wp2_with fail
 clear c_r_0 c_r_1
 refine (D7.out w18 R_0.out R_1.out R_sg.out).mono ?_
 rintro e_ w19 ⟨A_el, c_el, rfl, h0, hb⟩
 replace R_0 := am_ (R_0.out.step hb); replace R_1 := am_ (R_1.out.step hb); replace R_sg := am_ (R_sg.out.step hb); replace R_e := am_ (R_e.out.step hb); replace K_r := am_ (K_r.out.step hb); replace HB := am_ (zh HB.out hb)
 have R_el := am_ h0
 clear hb h0
 have c_r_0 := K_r.out.c0
 have c_r_1 := K_r.out.c1
 go_wp2_with fail
 clear c_r_0 c_r_1
 refine (D8.out w19 R_0.out R_1.out R_sg.out).mono ?_
 rintro e_ w20 ⟨A_fl, c_fl, rfl, h0, hb⟩
 replace R_0 := am_ (R_0.out.step hb); replace R_1 := am_ (R_1.out.step hb); replace R_sg := am_ (R_sg.out.step hb); replace R_e := am_ (R_e.out.step hb); replace R_el := am_ (R_el.out.step hb); replace K_r := am_ (K_r.out.step hb); replace HB := am_ (zh HB.out hb)
 have R_fl := am_ h0
 clear hb h0
 have c_r_0 := K_r.out.c0
 have c_r_1 := K_r.out.c1
 go_wp2_with fail
 refine (ints_c w20 R_el.out R_fl.out M3.out).mono ?_
 rintro e_ w21 ⟨rfl, hb⟩
 replace R_0 := am_ (R_0.out.step hb); replace R_1 := am_ (R_1.out.step hb); replace R_sg := am_ (R_sg.out.step hb); replace R_e := am_ (R_e.out.step hb); replace R_el := am_ (R_el.out.step hb); replace R_fl := am_ (R_fl.out.step hb); replace K_r := am_ (K_r.out.step hb); replace HB := am_ (zh HB.out hb)
 clear hb 
 clear c_r_0 c_r_1
 go_wp2_with fail
 have hb : Below w21.heap.size w21 w21.drew := zaH (Below.refl _ _)
 replace R_0 := am_ (R_0.out.step hb); replace R_1 := am_ (R_1.out.step hb); replace R_sg := am_ (R_sg.out.step hb); replace R_e := am_ (R_e.out.step hb); replace R_el := am_ (R_el.out.step hb); replace R_fl := am_ (R_fl.out.step hb); replace K_r := am_ (K_r.out.step hb); replace HB := am_ (zh HB.out hb)
 clear hb
 refine za1 (n := 13) (S := fun w' => w'.cell? ⟨g_r, 0, none⟩ = some (.slice A0 lv.length c0) ∧ w'.cell? ⟨g_r, 1, none⟩ = some (.slice A1 at_.length c1)) (ds := []) (bl_ 13 0) (by kernel_rfl) rfl rfl ⟨K_r.out.c0, K_r.out.c1⟩ (fun hHeld => ?_); refine zav regs.tab11 regs.bits11 (fun HT_ HW_ => ?_)
 generalize w21.drew = w22 at R_0 R_1 R_sg R_e R_el R_fl K_r HB hHeld ⊢
 refine zD (i := 1) (N := some 111) (v := ?_) (a' := ?_) (bl_ 13 2) rfl rfl (zt HT_.out (by kernel_rfl)) (fun _ _ _ h => h) (Or.inl ⟨by rfl, ?_⟩) ?_ ?_; rotate_left; (focus (intro w'; go_simp; first | done | with_reducible rfl)); rotate_left; (focus (simp only [Act.put, sI_, s0_, s1_, zm, zp]; first | done | rfl))
 refine zD (i := 2) (N := some 112) (v := ?_) (a' := ?_) (bl_ 13 6) rfl rfl (zt HT_.out (by kernel_rfl)) (fun _ _ _ h => h) (Or.inl ⟨by rfl, ?_⟩) ?_ ?_; rotate_left; (focus (intro w'; go_simp; first | done | with_reducible rfl)); rotate_left; (focus (simp only [Act.put, sI_, s0_, s1_, zm, zp]; first | done | rfl))
 refine zD (i := 5) (N := some 115) (v := ?_) (a' := ?_) (bl_ 13 38) rfl rfl (zt HT_.out (by kernel_rfl)) (fun _ _ _ h => h) (Or.inl ⟨by rfl, ?_⟩) ?_ ?_; rotate_left; (focus (intro w'; go_simp; first | done | with_reducible rfl)); rotate_left; (focus (simp only [Act.put, sI_, s0_, s1_, zm, zp]; first | done | rfl))
 refine zD (i := 6) (N := some 116) (v := ?_) (a' := ?_) (bl_ 13 102) rfl rfl (zt HT_.out (by kernel_rfl)) (fun _ _ _ h => h) (Or.inl ⟨by rfl, ?_⟩) ?_ ?_; rotate_left; (focus (intro w'; go_simp; first | done | with_reducible rfl)); rotate_left; (focus (simp only [Act.put, sI_, s0_, s1_, zm, zp]; first | done | rfl))
 refine zaq (i := 0) (N := some 110) (v := ?_) (a' := ?_) (bl_ 13 103) rfl rfl (zQ HT_.out HW_.out (by kernel_rfl)) (fun _ _ _ h => h) (Or.inl ⟨by rfl, ?_⟩) hHeld ?_ ?_; rotate_left; (focus (rintro w' ⟨s0, s1⟩; go_simp; first | done | with_reducible rfl)); rotate_left; (focus (simp only [Act.put, sI_, s0_, s1_, zm, zp]; first | done | rfl))
 refine zaq (i := 4) (N := some 114) (v := ?_) (a' := ?_) (bl_ 13 119) rfl rfl (zQ HT_.out HW_.out (by kernel_rfl)) (fun _ _ _ h => h) (Or.inl ⟨by rfl, ?_⟩) hHeld ?_ ?_; rotate_left; (focus (rintro w' ⟨s0, s1⟩; go_simp; first | done | with_reducible rfl)); rotate_left; (focus (simp only [Act.put, sI_, s0_, s1_, zm, zp]; first | done | rfl))
 refine one_ (i := 3) (N := some 113) (bl_ 13 127) rfl rfl (zat HT_.out (by kernel_rfl)) (by decide) (fun K hK => ?_)
 refine goes_ Try.func24 (by kernel_rfl) rfl #[.agg #[.slice A0 lv.length c0, .slice A1 at_.length c1], .slice A5 es.length c5, .int .i64 p] (by rfl) rfl rfl (by (try simp only [List.map_toArray, List.map_cons, List.map_nil]); first | done | rfl) ?_
 refine (win_c p w22 R_0.out R_1.out R_e.out HI.out HU.out).mono ?_
 rintro e_ w23 ⟨rfl, hb⟩
 refine ⟨_, rfl, ?_⟩
 replace R_0 := am_ (R_0.out.step hb); replace R_1 := am_ (R_1.out.step hb); replace R_sg := am_ (R_sg.out.step hb); replace R_e := am_ (R_e.out.step hb); replace R_el := am_ (R_el.out.step hb); replace R_fl := am_ (R_fl.out.step hb); replace K_r := am_ (K_r.out.step hb); replace HB := am_ (zh HB.out hb)
 clear hb 
 refine hK.out _ _ ⟨K_r.out.c0, K_r.out.c1⟩ (fun hHeld => ?_); clear hK K
 refine zaf (a' := ?_) ?_ ?_; rotate_left; (focus (show Act.put _ (some 113) _ = _; simp only [Act.put, sI_, s0_, s1_, zm, zp]; first | done | rfl))
 refine one_ (i := 7) (N := some 117) (bl_ 13 255) rfl rfl (zat HT_.out (by kernel_rfl)) (by decide) (fun K hK => ?_)
 refine goes_ Try.func25 (by kernel_rfl) rfl #[.agg #[.slice A0 lv.length c0, .slice A1 at_.length c1], .slice A5 es.length c5, .int .i64 p] (by rfl) rfl rfl (by (try simp only [List.map_toArray, List.map_cons, List.map_nil]); first | done | rfl) ?_
 refine (rwin_c p w23 R_0.out R_1.out R_e.out HI.out HU.out).mono ?_
 rintro e_ w24 ⟨rfl, hb⟩
 refine ⟨_, rfl, ?_⟩
 replace R_0 := am_ (R_0.out.step hb); replace R_1 := am_ (R_1.out.step hb); replace R_sg := am_ (R_sg.out.step hb); replace R_e := am_ (R_e.out.step hb); replace R_el := am_ (R_el.out.step hb); replace R_fl := am_ (R_fl.out.step hb); replace K_r := am_ (K_r.out.step hb); replace HB := am_ (zh HB.out hb)
 clear hb 
 refine hK.out _ _ ⟨K_r.out.c0, K_r.out.c1⟩ (fun hHeld => ?_); clear hK K
 refine zaf (a' := ?_) ?_ ?_; rotate_left; (focus (show Act.put _ (some 117) _ = _; simp only [Act.put, sI_, s0_, s1_, zm, zp]; first | done | rfl))
 refine zD (i := 8) (N := some 118) (v := ?_) (a' := ?_) (bl_ 13 511) rfl rfl (zt HT_.out (by kernel_rfl)) (fun _ _ _ h => h) (Or.inl ⟨by rfl, ?_⟩) ?_ ?_; rotate_left; (focus (intro w'; go_simp; first | done | with_reducible rfl)); rotate_left; (focus (simp only [Act.put, sI_, s0_, s1_, zm, zp]; first | done | rfl))
 refine zD (i := 9) (N := some 119) (v := ?_) (a' := ?_) (bl_ 13 1023) rfl rfl (zt HT_.out (by kernel_rfl)) (fun _ _ _ h => h) (Or.inl ⟨by rfl, ?_⟩) ?_ ?_; rotate_left; (focus (intro w'; go_simp; first | done | with_reducible rfl)); rotate_left; (focus (simp only [Act.put, sI_, s0_, s1_, zm, zp]; first | done | rfl))
 refine one_ (i := 10) (N := some 120) (bl_ 13 2047) rfl rfl (zat HT_.out (by kernel_rfl)) (by decide) (fun K hK => ?_)
 refine goes_ Try.func14 (by kernel_rfl) rfl #[] (by rfl) rfl rfl (by (try simp only [List.map_toArray, List.map_cons, List.map_nil]); first | done | rfl) ?_
 refine (awake_calls w24).mono ?_
 rintro e_ w25 ⟨rfl, hb⟩
 refine ⟨_, rfl, ?_⟩
 replace R_0 := am_ (R_0.out.step hb); replace R_1 := am_ (R_1.out.step hb); replace R_sg := am_ (R_sg.out.step hb); replace R_e := am_ (R_e.out.step hb); replace R_el := am_ (R_el.out.step hb); replace R_fl := am_ (R_fl.out.step hb); replace K_r := am_ (K_r.out.step hb); replace HB := am_ (zh HB.out hb)
 clear hb 
 refine hK.out _ _ ⟨K_r.out.c0, K_r.out.c1⟩ (fun hHeld => ?_); clear hK K
 refine zaf (a' := ?_) ?_ ?_; rotate_left; (focus (show Act.put _ (some 120) _ = _; simp only [Act.put, sI_, s0_, s1_, zm, zp]; first | done | rfl))
 refine zD (i := 11) (N := some 121) (v := ?_) (a' := ?_) (bl_ 13 4095) rfl rfl (zt HT_.out (by kernel_rfl)) (fun _ _ _ h => h) (Or.inl ⟨by rfl, ?_⟩) ?_ ?_; rotate_left; (focus (intro w'; go_simp; first | done | with_reducible rfl)); rotate_left; (focus (simp only [Act.put, sI_, s0_, s1_, zm, zp]; first | done | rfl))
 refine zD (i := 12) (N := some 14) (v := ?_) (a' := ?_) (bl_ 13 8191) rfl rfl (zt HT_.out (by kernel_rfl)) (fun _ _ _ h => h) (Or.inl ⟨by rfl, ?_⟩) ?_ ?_; rotate_left; (focus (intro w'; go_simp; first | done | with_reducible rfl)); rotate_left; (focus (simp only [Act.put, sI_, s0_, s1_, zm, zp]; first | done | rfl))
 refine done_ (zaL HT_.out (by kernel_rfl)) ?_
 go_wp2_with fail
 go_ret
 exact ⟨by first | done | rfl, HB.out⟩
end Go.Proofs.Ytlidbaejhmamjaa.LW

namespace Go.Proofs.Ytlidbaejhmamjaa.LW
open Go.RowKit Go.ChangeShapes Go.WideShapes Go.Proofs.YtlidbaejhmamjaaW.PrintWords Go.Proofs.YtlidbaejhmamjaaW.PrintLast Go.Proofs.YtlidbaejhmamjaaW.PrintMore Go.Proofs.Ytlidbaejhmamjaa.PB Go.Proofs.Ytlidbaejhmamjaa.LA Go.Proofs.Ytlidbaejhmamjaa.AC
set_option linter.unusedVariables false
set_option linter.unusedSimpArgs false
section
variable {H : Type} {enc : TypeId × Value → H} {W : World} {base : Nat} {spare : Nat → Bool} {held : Bool}
theorem wf_i64 {n : Int} (h : (Lit.int .i64 n).wf = true) : -9223372036854775808 ≤ n ∧ n < 9223372036854775808 := by
 simp [Lit.wf, IntKind.min, IntKind.max, IntKind.signed, IntKind.bits] at h
 omega
theorem ints_of_trod {fuel : Nat} {v : Value} {x : DataW H × List MemPlace} (h : DataW.trod enc Try.prog W base spare held fuel 22 [v] = some x) : ∃ A c xs, v = .slice A xs.length c ∧ Rd W A c xs ∧ I64 xs := by
 rcases open_ints Try.underlying22 Try.underlying3 (by kernel_rfl) h with ⟨hcs, _⟩ | ⟨a, len, cap, zs, hcs, _, hl, hm, hz, _, hcell, hwz⟩
 ·obtain rfl := (List.cons.inj hcs).1
  exact ⟨none, 0, [], rfl, ⟨Kd.C_nil _ _, Nat.le_refl _⟩, fun x hx => by simp at hx⟩
 ·obtain rfl := (List.cons.inj hcs).1
  have hlz : len ≤ zs.length := by rw [hz]; split <;> omega
  have hlen : (zs.take len).length = len := by rw [List.length_take]; omega
  refine ⟨some a, cap, zs.take len, by rw [hlen], ⟨⟨rfl, by rw [hlen]; simp [maxLen] at hm; omega, fun _ => ⟨a, rfl, fun j p hj => ⟨[.int .i64 p], rfl, rfl, fun i u hu => ?_⟩⟩⟩, by rw [hlen]; exact hl⟩, fun x hx => wf_i64 (hwz x (List.mem_of_mem_take hx))⟩
  cases i with
  | succ i => cases hu
  | zero =>
   obtain rfl := Option.some.inj hu
   have hj2 : j < (zs.take len).length := by
    rcases Nat.lt_or_ge j (zs.take len).length with h1 | h1
    ·exact h1
    ·rw [List.getElem?_eq_none h1] at hj; cases hj
   have hj3 : zs[j]? = some p := by
    rw [List.getElem?_take] at hj
    split at hj
    ·exact hj
    ·cases hj
   have := hcell j (by omega)
   rw [List.getD_eq_getElem?_getD, hj3] at this
   show W.cell? (a.add (j * 1 + 0)) = _
   rw [Nat.mul_one, Nat.add_zero]
   exact this
end
end Go.Proofs.Ytlidbaejhmamjaa.LW
