/- Part 3 of the proof of SplitChoosesUpto: what the functions below it compute, each shown by a walk or by plain reasoning; no condition of its own. -/
import Derived.Test.YtlidbaejhmamjaaSC1
import Derived.Test.YtlidbaejhmamjaaSC2
import Derived.Deep.SlicePairs
import Derived.Lib.SmallJoins
import Derived.ChangeSlices
import Derived.ProofKit
set_option linter.unusedVariables false
set_option linter.unusedSimpArgs false
namespace Go.Proofs.Ytlidbaejhmamjaa.PB
open Go.RowKit YtlidbaejhmamjaaW.PrintWords YtlidbaejhmamjaaW.PrintLast YtlidbaejhmamjaaW.PrintMore
attribute [local go_sem] zak zam zaw zau zae zad zal zan   -- for this text's walks alone
def zaf.j0 : Nat → Int → List (S90) → Bool → Option (List Int × List Int × List Int × List Int × Int)
 | 0, _, _, _ => none
 | k + 1, x1, x8, x37 => if x37 = true then (some (([] : List Int), ([] : List Int), ([] : List Int), ([] : List Int), 1)) else (if 0 ≤ x1 then (if x1 < (x8.length : Int) then ((some (x8.set (x1 : Int).toNat (⟨wrap64 (((zt x8 x1).f0) + 1), wrap64 (2 * ((zt x8 x1).f1))⟩ : S90) : List (S90))).bind fun y163 => ((zy.f k y163).bind fun bt164 => ((some (y163.set (x1 : Int).toNat (⟨(zt y163 x1).f0, wrap64 (((zt y163 x1).f1) + 1)⟩ : S90) : List (S90))).bind fun y172 => ((zy.f k y172).bind fun bt173 => (if (((zt y172 x1).f0) == ((zt x8 x1).f0) && (((zt y172 x1).f1) == ((zt x8 x1).f1))) = true then (none) else (some (bt164.1, bt164.2, bt173.1, bt173.2, 0))))))) else (none)) else (none))
def zaf.f (k : Nat) (l0_0 : List Int) (l0_1 : List Int) (a1 : Int) : Option (List Int × List Int × List Int × List Int × Int) := (zz.f k l0_0 l0_1 (l0_0.length : Int)).bind fun t156 => (if t156 = 0 then ((zM.f k l0_0 l0_1).bind fun t157 => (if a1 < 0 then (zaf.j0 k a1 t157 true) else (if a1 ≥ (l0_0.length : Int) then (zaf.j0 k a1 t157 true) else (if 0 ≤ a1 then (if a1 < (t157.length : Int) then (zaf.j0 k a1 t157 (((zt t157 a1).f0) == 8)) else (none)) else (none))))) else (some (([] : List Int), ([] : List Int), ([] : List Int), ([] : List Int), 180)))
theorem zaf.ite2 {a b c d : Int} {x y : Result Next} (h : ((a == b) && (c == d)) = false) : (if a = b then (if c = d then x else y) else y) = y := by
 by_cases e0 : a = b
 ·by_cases e1 : c = d
  ·exact absurd h (by simp [e0, e1])
  ·rw [if_pos e0, if_neg e1]
 ·rw [if_neg e0]
set_option maxHeartbeats 8000000 in
set_option maxRecDepth 100000 in
theorem zaf.calls (k : Nat) (A0_0 : Option Addr) (c0_0 : Nat) (l0_0 : List Int) (A0_1 : Option Addr) (c0_1 : Nat) (l0_1 : List Int) (a1 : Int) (r1 : List Int) (r2 : List Int) (r3 : List Int) (r4 : List Int) (r5 : Int) (w : World) (hr0_0 : Kd.C (Kd.int .i64) w A0_0 l0_0.length l0_0) (hc0_0 : l0_0.length ≤ c0_0) (hr0_1 : Kd.C (Kd.int .i64) w A0_1 l0_1.length l0_1) (hc0_1 : l0_1.length ≤ c0_1) (h : zaf.f k l0_0 l0_1 a1 = some (r1, r2, r3, r4, r5)) :
  Calls Try.prog 15 #[.agg #[.slice A0_0 l0_0.length c0_0, .slice A0_1 l0_1.length c0_1], .int .i64 a1] w fun e w' => ∃ v0_ v1_ v2_ v3_ : Value, e = .returned (.tuple #[.agg #[v0_, v1_], .agg #[v2_, v3_], .int .i64 r5]) ∧ Kd.R (Kd.int .i64) 3 w' w.heap.size (fun k_ => some k_ ≠ (v1_ : Value).ownBlock ∧ some k_ ≠ (v2_ : Value).ownBlock ∧ some k_ ≠ (v3_ : Value).ownBlock) v0_ r1 ∧ Kd.R (Kd.int .i64) 3 w' w.heap.size (fun k_ => some k_ ≠ (v0_ : Value).ownBlock ∧ some k_ ≠ (v2_ : Value).ownBlock ∧ some k_ ≠ (v3_ : Value).ownBlock) v1_ r2 ∧ Kd.R (Kd.int .i64) 3 w' w.heap.size (fun k_ => some k_ ≠ (v0_ : Value).ownBlock ∧ some k_ ≠ (v1_ : Value).ownBlock ∧ some k_ ≠ (v3_ : Value).ownBlock) v2_ r3 ∧ Kd.R (Kd.int .i64) 3 w' w.heap.size (fun k_ => some k_ ≠ (v0_ : Value).ownBlock ∧ some k_ ≠ (v1_ : Value).ownBlock ∧ some k_ ≠ (v2_ : Value).ownBlock) v3_ r4 ∧ Below w.heap.size w w' := by
 have hu24 := Try.underlying24
 have hu90 := Try.underlying90
 have HR0_0 := am_ hr0_0
 have HC0_0 := am_ hc0_0
 clear hr0_0 hc0_0
 have HR0_1 := am_ hr0_1
 have HC0_1 := am_ hc0_1
 clear hr0_1 hc0_1
 have HB := am_ (Below.refl w.heap.size w)
 have H : ((zz.f k l0_0 l0_1 (l0_0.length : Int)).bind fun t156 => (if t156 = 0 then ((zM.f k l0_0 l0_1).bind fun t157 => (if a1 < 0 then (zaf.j0 k a1 t157 true) else (if a1 ≥ (l0_0.length : Int) then (zaf.j0 k a1 t157 true) else (if 0 ≤ a1 then (if a1 < (t157.length : Int) then (zaf.j0 k a1 t157 (((zt t157 a1).f0) == 8)) else (none)) else (none))))) else (some (([] : List Int), ([] : List Int), ([] : List Int), ([] : List Int), 180)))) = some (r1, r2, r3, r4, r5) := h
 clear h
 replace H := Option.bind_eq_some_iff.mp H
 obtain ⟨t156, A30, H⟩ := H
 replace H : (if t156 = 0 then ((zM.f k l0_0 l0_1).bind fun t157 => (if a1 < 0 then (zaf.j0 k a1 t157 true) else (if a1 ≥ (l0_0.length : Int) then (zaf.j0 k a1 t157 true) else (if 0 ≤ a1 then (if a1 < (t157.length : Int) then (zaf.j0 k a1 t157 (((zt t157 a1).f0) == 8)) else (none)) else (none))))) else (some (([] : List Int), ([] : List Int), ([] : List Int), ([] : List Int), 180))) = some (r1, r2, r3, r4, r5) := H
 have A3 := am_ A30
 clear A30
 by_cases c4 : t156 = 0
 ·rw [if_pos c4] at H
  have c4b0 : (t156 == 0) = true := beq_iff_eq.mpr c4
  have c4b1 : (t156 != 0) = false := bne_eq_false_iff_eq.mpr c4
  clear c4
  replace H := Option.bind_eq_some_iff.mp H
  obtain ⟨t157, A50, H⟩ := H
  replace H : (if a1 < 0 then (zaf.j0 k a1 t157 true) else (if a1 ≥ (l0_0.length : Int) then (zaf.j0 k a1 t157 true) else (if 0 ≤ a1 then (if a1 < (t157.length : Int) then (zaf.j0 k a1 t157 (((zt t157 a1).f0) == 8)) else (none)) else (none)))) = some (r1, r2, r3, r4, r5) := H
  have A5 := am_ A50
  clear A50
  have HC6 := am_ H
  clear H
  go_enter Try.func15, Try.ntmps15
  go_upto_region 5 with (first | ((with_reducible refine zk (N := 2) rfl ?_); refine zaq 2 (cs := #[.slice A0_0 l0_0.length c0_0, .slice A0_1 l0_1.length c0_1]) (t := 24) ?_; intro gb153 hg w7 hbox hb; have BK153 := am_ (hbox); have GW153 := am_ ((by rw [hg]; exact (zo bw_) : w.heap.size ≤ gb153)); replace HB := am_ (zb bw_ hb); have GE153 := GW153; clear hb hbox hg) | ((with_reducible refine zk (N := 4) rfl ?_); refine zaq 4 (cs := #[.slice none 0 0, .slice none 0 0]) (t := 24) ?_; intro gb154 hg w8 hbox hb; have BK154 := am_ (hbox); have GW154 := am_ ((by rw [hg]; exact (zo bw_) : w.heap.size ≤ gb154)); replace HB := am_ (zb bw_ hb); have GE154 := GW154; have NB153_154 := am_ ((by rw [hg]; exact Nat.ne_of_lt (fl_ BK153.out) : gb153 ≠ gb154)); replace BK153 := am_ (fr_ BK153.out hb); have NB154_153 := am_ NB153_154.out.symm; clear hb hbox hg) | ((with_reducible refine zk (N := 5) rfl ?_); refine zaq 5 (cs := #[.slice none 0 0, .slice none 0 0]) (t := 24) ?_; intro gb155 hg w9 hbox hb; have BK155 := am_ (hbox); have GW155 := am_ ((by rw [hg]; exact (zo bw_) : w.heap.size ≤ gb155)); replace HB := am_ (zb bw_ hb); have GE155 := GW155; have NB153_155 := am_ ((by rw [hg]; exact Nat.ne_of_lt (fl_ BK153.out) : gb153 ≠ gb155)); replace BK153 := am_ (fr_ BK153.out hb); have NB155_153 := am_ NB153_155.out.symm; have NB154_155 := am_ ((by rw [hg]; exact Nat.ne_of_lt (fl_ BK154.out) : gb154 ≠ gb155)); replace BK154 := am_ (fr_ BK154.out hb); have NB155_154 := am_ NB154_155.out.symm; clear hb hbox hg; have hnb10 := NB153_154.out; have hnc10 := NB154_153.out; have hnb11 := NB153_155.out; have hnc11 := NB155_153.out; have hcz12_0 : w9.cell? ⟨gb153, 0, none⟩ = some (.slice A0_0 l0_0.length c0_0) := (za BK153.out 0).trans rfl; have hcz12_1 : w9.cell? ⟨gb153, 1, none⟩ = some (.slice A0_1 l0_1.length c0_1) := (za BK153.out 1).trans rfl; have hfz12_0 := zd BK153.out 0; have hfz12_1 := zd BK153.out 1) | ((with_reducible refine zac (f := 17) rfl ?_); refine zaZ (some 17) rfl rfl Try.func17 (by kernel_rfl) rfl #[.agg #[.slice A0_0 l0_0.length c0_0, .slice A0_1 l0_1.length c0_1], .int .i64 (l0_0.length : Int)] rfl (by (try simp only [List.map_toArray, List.map_cons, List.map_nil]); first | done | rfl | (simp only [List.length_drop, List.length_take]; rfl)) ?_; (with_reducible refine (zz.calls k _ _ l0_0 _ _ l0_1 (l0_0.length : Int) t156 _ ?side1 ?side2 ?side3 ?side4 A3.out).mono ?_); (case side1 => repeat (first | exact (Kd.zB HR0_0.out HB.out) | (with_reducible refine Kd.zaG ?_ _) | (with_reducible refine Kd.zaF ?_ _) | (with_reducible refine Kd.zaQ ?_))); (case side2 => exact HC0_0.out); (case side3 => repeat (first | exact (Kd.zB HR0_1.out HB.out) | (with_reducible refine Kd.zaG ?_ _) | (with_reducible refine Kd.zaF ?_ _) | (with_reducible refine Kd.zaQ ?_))); (case side4 => exact HC0_1.out); rintro e w13 ⟨rfl, hb⟩; refine ⟨_, rfl, ?_⟩; replace BK153 := am_ (fr_ BK153.out hb); replace BK154 := am_ (fr_ BK154.out hb); replace BK155 := am_ (fr_ BK155.out hb); replace HB := am_ (zb bw_ hb); (try clear hb); (try clear hb2); (try clear hk); (try clear hi); have hcz14_0 : w13.cell? ⟨gb153, 0, none⟩ = some (.slice A0_0 l0_0.length c0_0) := (za BK153.out 0).trans rfl; have hcz14_1 : w13.cell? ⟨gb153, 1, none⟩ = some (.slice A0_1 l0_1.length c0_1) := (za BK153.out 1).trans rfl; have hfz14_0 := zd BK153.out 0; have hfz14_1 := zd BK153.out 1) | ((with_reducible refine zac (f := 39) rfl ?_); refine zaZ (some 22) rfl rfl Try.func39 (by kernel_rfl) rfl #[.agg #[.slice A0_0 l0_0.length c0_0, .slice A0_1 l0_1.length c0_1]] rfl (by (try simp only [List.map_toArray, List.map_cons, List.map_nil]); first | done | rfl | (simp only [List.length_drop, List.length_take]; rfl)) ?_; (with_reducible refine (zM.calls k _ _ l0_0 _ _ l0_1 t157 _ ?side1 ?side2 ?side3 ?side4 A5.out).mono ?_); (case side1 => repeat (first | exact (Kd.zB HR0_0.out HB.out) | (with_reducible refine Kd.zaG ?_ _) | (with_reducible refine Kd.zaF ?_ _) | (with_reducible refine Kd.zaQ ?_))); (case side2 => exact HC0_0.out); (case side3 => repeat (first | exact (Kd.zB HR0_1.out HB.out) | (with_reducible refine Kd.zaG ?_ _) | (with_reducible refine Kd.zaF ?_ _) | (with_reducible refine Kd.zaQ ?_))); (case side4 => exact HC0_1.out); rintro e w15 ⟨v158, rfl, ho0, hb⟩; refine ⟨_, rfl, ?_⟩; have HO159 := am_ (Kd.zag ho0 (zo bw_)); replace BK153 := am_ (fr_ BK153.out hb); replace BK154 := am_ (fr_ BK154.out hb); replace BK155 := am_ (fr_ BK155.out hb); replace HB := am_ (zb bw_ hb); (try clear hb); (try clear hb2); (try clear hk); (try clear hi); (try clear ho0)))
  (try simp only [Act.put, sI_, s0_, s1_])
  go_cut [37] (fun v37 wc => ∃ (kq : Nat) (x37_5 : Bool), v37 = .bool x37_5 ∧ Aside0 (zaf.j0 kq a1 t157 x37_5 = some (r1, r2, r3, r4, r5)) ∧ Aside0 (kq ≤ k) ∧ Aside0 (Kd.R k90 90 wc w.heap.size (fun _ => True) v158 t157) ∧ Aside0 (wc.heap[gb153]? = some (.cells #[(.slice A0_0 l0_0.length c0_0), (.slice A0_1 l0_1.length c0_1)] 24 (0, 0))) ∧ Aside0 (wc.heap[gb154]? = some (.cells #[(.slice none 0 0), (.slice none 0 0)] 24 (0, 0))) ∧ Aside0 (wc.heap[gb155]? = some (.cells #[(.slice none 0 0), (.slice none 0 0)] 24 (0, 0))) ∧ Aside0 (Below w.heap.size w wc))
  case first =>
   have H := HC6.out
   clear HC6
   by_cases c16 : a1 < 0
   ·rw [if_pos c16] at H
    have c16b0 : decide (a1 < 0) = true := decide_eq_true c16
    clear c16
    (first | rw [c16b0] | (simp only [zaA, zaR]; rw [c16b0]) | skip)
    have H' := am_ H
    clear H
    go_wp2
    go_meet
    case rel => exact ⟨_, (true), (by first | rfl | (simp; done) | (simp [*]; done)), H', ⟨by first | omega | exact Nat.le_refl _⟩, ⟨by (with_reducible repeat (first | apply Kd.zL | apply Kd.zH | apply Kd.zP)); exact HO159.out⟩, ⟨by (with_reducible repeat (first | refine zg ?_ _ | refine zi ?_ | refine zf ?_ _)); exact BK153.out⟩, ⟨by (with_reducible repeat (first | refine zg ?_ _ | refine zi ?_ | refine zf ?_ _)); exact BK154.out⟩, ⟨by (with_reducible repeat (first | refine zg ?_ _ | refine zi ?_ | refine zf ?_ _)); exact BK155.out⟩, ⟨by repeat (first | (with_reducible first | exact HB.out | apply zj | apply ze | apply zl | refine zm ?_ GE153.out | refine zm ?_ GE154.out | refine zm ?_ GE155.out) | exact HB.out)⟩⟩
   ·rw [if_neg c16] at H
    have c16b0 : decide (a1 < 0) = false := decide_eq_false c16
    clear c16
    (first | rw [c16b0] | (simp only [zaA, zaR]; rw [c16b0]) | skip)
    by_cases c17 : a1 ≥ (l0_0.length : Int)
    ·rw [if_pos c17] at H
     have c17b0 : decide ((l0_0.length : Int) ≤ a1) = true := decide_eq_true c17
     clear c17
     have H' := am_ H
     clear H
     go_wp2
     go_meet
     case rel => exact ⟨_, (true), (by first | rfl | (simp; done) | (simp [*]; done)), H', ⟨by first | omega | exact Nat.le_refl _⟩, ⟨by (with_reducible repeat (first | apply Kd.zL | apply Kd.zH | apply Kd.zP)); exact HO159.out⟩, ⟨by (with_reducible repeat (first | refine zg ?_ _ | refine zi ?_ | refine zf ?_ _)); exact BK153.out⟩, ⟨by (with_reducible repeat (first | refine zg ?_ _ | refine zi ?_ | refine zf ?_ _)); exact BK154.out⟩, ⟨by (with_reducible repeat (first | refine zg ?_ _ | refine zi ?_ | refine zf ?_ _)); exact BK155.out⟩, ⟨by repeat (first | (with_reducible first | exact HB.out | apply zj | apply ze | apply zl | refine zm ?_ GE153.out | refine zm ?_ GE154.out | refine zm ?_ GE155.out) | exact HB.out)⟩⟩
    ·rw [if_neg c17] at H
     have c17b0 : decide ((l0_0.length : Int) ≤ a1) = false := decide_eq_false c17
     clear c17
     by_cases c18 : 0 ≤ a1
     ·rw [if_pos c18] at H
      have c18b0 : decide (0 ≤ a1) = true := decide_eq_true c18
      clear c18
      by_cases c19 : a1 < (t157.length : Int)
      ·rw [if_pos c19] at H
       have c19b0 : decide (a1 < (t157.length : Int)) = true := decide_eq_true c19
       clear c19
       have H' := am_ H
       clear H
       obtain ⟨Ao20, co20, eo20⟩ := Kd.zY HO159.out
       subst eo20
       have p160 : 0 ≤ (a1 : Int) := of_decide_eq_true (by first | (with_reducible assumption) | assumption)
       have q160 : a1 < (t157.length : Int) := of_decide_eq_true (by first | (with_reducible assumption) | assumption)
       obtain ⟨ad160, e160, hx160_0, hx160_1⟩ := at_T90 (Kd.zQ HO159.out).2.2 a1 p160 q160
       cases e160
       replace p160 := eq_true p160
       replace q160 := eq_true q160
       go_wp2
       go_meet
       case rel => exact ⟨_, ((((zt t157 a1).f0) == 8)), (by first | rfl | (simp; done) | (simp [*]; done)), H', ⟨by first | omega | exact Nat.le_refl _⟩, ⟨by (with_reducible repeat (first | apply Kd.zL | apply Kd.zH | apply Kd.zP)); exact HO159.out⟩, ⟨by (with_reducible repeat (first | refine zg ?_ _ | refine zi ?_ | refine zf ?_ _)); exact BK153.out⟩, ⟨by (with_reducible repeat (first | refine zg ?_ _ | refine zi ?_ | refine zf ?_ _)); exact BK154.out⟩, ⟨by (with_reducible repeat (first | refine zg ?_ _ | refine zi ?_ | refine zf ?_ _)); exact BK155.out⟩, ⟨by repeat (first | (with_reducible first | exact HB.out | apply zj | apply ze | apply zl | refine zm ?_ GE153.out | refine zm ?_ GE154.out | refine zm ?_ GE155.out) | exact HB.out)⟩⟩
      ·rw [if_neg c19] at H
       exact absurd H (by simp)
     ·rw [if_neg c18] at H
      exact absurd H (by simp)
  case rest =>
   clear HC6
   try clear c1
   try clear p1
   try clear q1
   try clear hx1
   try clear p2
   try clear c3
   try clear c4
   try clear c4b0
   try clear c4b1
   try clear c10
   try clear c11
   try clear c15
   try clear c16
   try clear c16b0
   try clear p16
   try clear q16
   try clear hx16
   try clear c17
   try clear c17b0
   try clear c18
   try clear c18b0
   try clear c19
   try clear c19b0
   try clear hcz12_0
   try clear hcz12_1
   try clear hcz14_0
   try clear hcz14_1
   try clear hfz12_0
   try clear hfz12_1
   try clear hfz14_0
   try clear hfz14_1
   try clear hx160_0
   try clear hx160_1
   try clear p160
   try clear q160
   obtain ⟨kq, x37_5, rfl, HA, HJ5, HO_8, BK153, BK154, BK155, HB⟩ := hcut
   cases kq with
   | zero => exact absurd HA.out (by simp [zaf.j0])
   | succ kj5 =>
    have H := HA.out
    clear HA
    simp only [zaf.j0] at H
    by_cases c21 : x37_5 = true
    ·subst c21
     have H1 : (some (([] : List Int), ([] : List Int), ([] : List Int), ([] : List Int), 1)) = some (r1, r2, r3, r4, r5) := by rw [if_pos rfl] at H; exact H
     clear H
     have H := H1
     clear H1
     simp only [Option.some.injEq, Prod.mk.injEq] at H
     obtain ⟨rfl, rfl, rfl, rfl, rfl⟩ := H
     have hnb22 := NB154_153.out
     have hnc22 := NB153_154.out
     have hnb23 := NB154_155.out
     have hnc23 := NB155_154.out
     have hcz24_0 : wc.cell? ⟨gb154, 0, none⟩ = some (.slice none 0 0) := (za BK154.out 0).trans rfl
     have hcz24_1 : wc.cell? ⟨gb154, 1, none⟩ = some (.slice none 0 0) := (za BK154.out 1).trans rfl
     have hfz24_0 := zd BK154.out 0
     have hfz24_1 := zd BK154.out 1
     have hnb25 := NB155_153.out
     have hnc25 := NB153_155.out
     have hcz26_0 : wc.cell? ⟨gb155, 0, none⟩ = some (.slice none 0 0) := (za BK155.out 0).trans rfl
     have hcz26_1 : wc.cell? ⟨gb155, 1, none⟩ = some (.slice none 0 0) := (za BK155.out 1).trans rfl
     have hfz26_0 := zd BK155.out 0
     have hfz26_1 := zd BK155.out 1
     go_wp2
     refine bodyPost_ret (results_list (rs := [.cell 4 24, .cell 5 24, .tmp 6]) rfl (by simp) (.cell gb154 24 #[.slice none 0 0, .slice none 0 0] (0, 0) _ rfl (by (with_reducible repeat (first | refine zg ?_ _ | refine zi ?_ | refine zf ?_ _)); refine zW ?_ NB154_155.out _; (with_reducible repeat (first | refine zg ?_ _ | refine zi ?_ | refine zf ?_ _)); refine zW ?_ NB154_155.out _; (with_reducible repeat (first | refine zg ?_ _ | refine zi ?_ | refine zf ?_ _)); refine zO (cs := #[.slice none 0 0, .slice none 0 0]) ?_ 1 _ rfl; (with_reducible repeat (first | refine zg ?_ _ | refine zi ?_ | refine zf ?_ _)); refine zO (cs := #[.slice none 0 0, .slice none 0 0]) ?_ 0 _ rfl; (with_reducible repeat (first | refine zg ?_ _ | refine zi ?_ | refine zf ?_ _)); exact BK154.out) Try.underlying24 rfl (by kernel_rfl) (.cell gb155 24 #[.slice none 0 0, .slice none 0 0] (0, 0) _ rfl (by (with_reducible repeat (first | refine zg ?_ _ | refine zi ?_ | refine zf ?_ _)); refine zO (cs := #[.slice none 0 0, .slice none 0 0]) ?_ 1 _ rfl; (with_reducible repeat (first | refine zg ?_ _ | refine zi ?_ | refine zf ?_ _)); refine zO (cs := #[.slice none 0 0, .slice none 0 0]) ?_ 0 _ rfl; (with_reducible repeat (first | refine zg ?_ _ | refine zi ?_ | refine zf ?_ _)); refine zW ?_ NB155_154.out _; (with_reducible repeat (first | refine zg ?_ _ | refine zi ?_ | refine zf ?_ _)); refine zW ?_ NB155_154.out _; (with_reducible repeat (first | refine zg ?_ _ | refine zi ?_ | refine zf ?_ _)); exact BK155.out) Try.underlying24 rfl (by kernel_rfl) (.tmp .nil)))) rfl ?_
     exact ⟨_, _, _, _, by first | rfl | (simp [zp, zq] <;> rfl) | (simp [*, zp, zq] <;> rfl), by first | exact Kd.zaY _ _ _ _ _ | exact Kd.N_nil _ _ _ _ _ | exact Kd.V_nil _ _ _ _ _ | exact Kd.Q_nil _ _ _ _ _ | exact Kd.S_nil _ _ _ _ _, by first | exact Kd.zaY _ _ _ _ _ | exact Kd.N_nil _ _ _ _ _ | exact Kd.V_nil _ _ _ _ _ | exact Kd.Q_nil _ _ _ _ _ | exact Kd.S_nil _ _ _ _ _, by first | exact Kd.zaY _ _ _ _ _ | exact Kd.N_nil _ _ _ _ _ | exact Kd.V_nil _ _ _ _ _ | exact Kd.Q_nil _ _ _ _ _ | exact Kd.S_nil _ _ _ _ _, by first | exact Kd.zaY _ _ _ _ _ | exact Kd.N_nil _ _ _ _ _ | exact Kd.V_nil _ _ _ _ _ | exact Kd.Q_nil _ _ _ _ _ | exact Kd.S_nil _ _ _ _ _, by repeat (first | (with_reducible first | exact HB.out | apply zj | apply ze | apply zl | refine zm ?_ GE153.out | refine zm ?_ GE154.out | refine zm ?_ GE155.out) | exact HB.out)⟩
    ·replace c21 := Bool.eq_false_iff.mpr c21
     subst c21
     have H1 : (if 0 ≤ a1 then (if a1 < (t157.length : Int) then ((some (t157.set (a1 : Int).toNat (⟨wrap64 (((zt t157 a1).f0) + 1), wrap64 (2 * ((zt t157 a1).f1))⟩ : S90) : List (S90))).bind fun y163 => ((zy.f kj5 y163).bind fun bt164 => ((some (y163.set (a1 : Int).toNat (⟨(zt y163 a1).f0, wrap64 (((zt y163 a1).f1) + 1)⟩ : S90) : List (S90))).bind fun y172 => ((zy.f kj5 y172).bind fun bt173 => (if (((zt y172 a1).f0) == ((zt t157 a1).f0) && (((zt y172 a1).f1) == ((zt t157 a1).f1))) = true then (none) else (some (bt164.1, bt164.2, bt173.1, bt173.2, 0))))))) else (none)) else (none)) = some (r1, r2, r3, r4, r5) := by rw [if_neg (show ¬ (false = true) by decide)] at H; exact H
     clear H
     have H := H1
     clear H1
     by_cases c27 : 0 ≤ a1
     ·rw [if_pos c27] at H
      have c27b0 : decide (0 ≤ a1) = true := decide_eq_true c27
      clear c27
      by_cases c28 : a1 < (t157.length : Int)
      ·rw [if_pos c28] at H
       have c28b0 : decide (a1 < (t157.length : Int)) = true := decide_eq_true c28
       clear c28
       obtain ⟨y163, hy163⟩ : ∃ y_ : List (S90), y_ = (t157.set (a1 : Int).toNat (⟨wrap64 (((zt t157 a1).f0) + 1), wrap64 (2 * ((zt t157 a1).f1))⟩ : S90)) := ⟨_, rfl⟩
       replace H : ((zy.f kj5 y163).bind fun bt164 => ((some (y163.set (a1 : Int).toNat (⟨(zt y163 a1).f0, wrap64 (((zt y163 a1).f1) + 1)⟩ : S90) : List (S90))).bind fun y172 => ((zy.f kj5 y172).bind fun bt173 => (if (((zt y172 a1).f0) == ((zt t157 a1).f0) && (((zt y172 a1).f1) == ((zt t157 a1).f1))) = true then (none) else (some (bt164.1, bt164.2, bt173.1, bt173.2, 0)))))) = some (r1, r2, r3, r4, r5) := by first | (rw [hy163]; with_reducible exact H) | (have H2_ := (Option.bind_some _ _).symm.trans H; rw [hy163]; with_reducible exact H2_) | (have H2_ := (Option.bind_some _ _).symm.trans H; with_reducible exact H2_) | with_reducible exact H | (rw [hy163]; exact H) | exact H
       have Ny163 := am_ hy163
       clear hy163
       replace H := Option.bind_eq_some_iff.mp H
       obtain ⟨⟨t164, t167⟩, A300, H⟩ := H
       replace H : ((some (y163.set (a1 : Int).toNat (⟨(zt y163 a1).f0, wrap64 (((zt y163 a1).f1) + 1)⟩ : S90) : List (S90))).bind fun y172 => ((zy.f kj5 y172).bind fun bt173 => (if (((zt y172 a1).f0) == ((zt t157 a1).f0) && (((zt y172 a1).f1) == ((zt t157 a1).f1))) = true then (none) else (some (t164, t167, bt173.1, bt173.2, 0))))) = some (r1, r2, r3, r4, r5) := H
       have A30 := am_ A300
       clear A300
       obtain ⟨y172, hy172⟩ : ∃ y_ : List (S90), y_ = (y163.set (a1 : Int).toNat (⟨(zt y163 a1).f0, wrap64 (((zt y163 a1).f1) + 1)⟩ : S90)) := ⟨_, rfl⟩
       replace H : ((zy.f kj5 y172).bind fun bt173 => (if (((zt y172 a1).f0) == ((zt t157 a1).f0) && (((zt y172 a1).f1) == ((zt t157 a1).f1))) = true then (none) else (some (t164, t167, bt173.1, bt173.2, 0)))) = some (r1, r2, r3, r4, r5) := by first | (rw [hy172]; with_reducible exact H) | (have H2_ := (Option.bind_some _ _).symm.trans H; rw [hy172]; with_reducible exact H2_) | (have H2_ := (Option.bind_some _ _).symm.trans H; with_reducible exact H2_) | with_reducible exact H | (rw [hy172]; exact H) | exact H
       have Ny172 := am_ hy172
       clear hy172
       replace H := Option.bind_eq_some_iff.mp H
       obtain ⟨⟨t173, t176⟩, A320, H⟩ := H
       replace H : (if (((zt y172 a1).f0) == ((zt t157 a1).f0) && (((zt y172 a1).f1) == ((zt t157 a1).f1))) = true then (none) else (some (t164, t167, t173, t176, 0))) = some (r1, r2, r3, r4, r5) := H
       have A32 := am_ A320
       clear A320
       by_cases c33 : (((zt y172 a1).f0) == ((zt t157 a1).f0) && (((zt y172 a1).f1) == ((zt t157 a1).f1))) = true
       ·rw [if_pos c33] at H
        exact absurd H (by simp)
       ·rw [if_neg c33] at H
        have c33b0 : (((zt y172 a1).f0) == ((zt t157 a1).f0) && (((zt y172 a1).f1) == ((zt t157 a1).f1))) = false := by simpa using c33
        (try (have c33b1 : decide (((zt y172 a1).f0) = ((zt t157 a1).f0) && (((zt y172 a1).f1) == ((zt t157 a1).f1))) = false := by simpa using c33))
        (try (have c33b2 : (((zt y172 a1).f0) == ((zt t157 a1).f0) && (((zt y172 a1).f1) == ((zt t157 a1).f1))) = false := by simpa using c33))
        (try (have c33b3 : ¬ (((zt y172 a1).f0) = ((zt t157 a1).f0) && (((zt y172 a1).f1) == ((zt t157 a1).f1))) := by simpa using c33))
        clear c33
        simp only [Option.some.injEq, Prod.mk.injEq] at H
        obtain ⟨rfl, rfl, rfl, rfl, rfl⟩ := H
        obtain ⟨Ao34, co34, eo34⟩ := Kd.zY HO_8.out
        subst eo34
        have p161 : 0 ≤ (a1 : Int) := of_decide_eq_true (by first | (with_reducible assumption) | assumption)
        have q161 : a1 < (t157.length : Int) := of_decide_eq_true (by first | (with_reducible assumption) | assumption)
        obtain ⟨ad161, e161, hx161_0, hx161_1⟩ := at_T90 (Kd.zQ HO_8.out).2.2 a1 p161 q161
        cases e161
        replace p161 := eq_true p161
        replace q161 := eq_true q161
        try go_wp2_with (first | ((with_reducible refine zk (N := 9) rfl ?_); refine zaq 9 (cs := #[.int .i64 0, .int .i64 0]) (t := 90) ?_; intro gb162 hg w35 hbox hb; replace HO_8 := am_ (Kd.zI (Kd.R_elderB (pk_ HO_8.out) gb162 (Nat.le_of_eq hg.symm)) hb); have BK162 := am_ (hbox); have GW162 := am_ ((by rw [hg]; exact (zo bw_) : w.heap.size ≤ gb162)); replace HB := am_ (zb bw_ hb); have GE162 := GW162; have NB153_162 := am_ ((by rw [hg]; exact Nat.ne_of_lt (fl_ BK153.out) : gb153 ≠ gb162)); replace BK153 := am_ (fr_ BK153.out hb); have NB162_153 := am_ NB153_162.out.symm; have NB154_162 := am_ ((by rw [hg]; exact Nat.ne_of_lt (fl_ BK154.out) : gb154 ≠ gb162)); replace BK154 := am_ (fr_ BK154.out hb); have NB162_154 := am_ NB154_162.out.symm; have NB155_162 := am_ ((by rw [hg]; exact Nat.ne_of_lt (fl_ BK155.out) : gb155 ≠ gb162)); replace BK155 := am_ (fr_ BK155.out hb); have NB162_155 := am_ NB155_162.out.symm; clear hb hbox hg; have hnb36 := NB162_153.out; have hnc36 := NB153_162.out; have hnb37 := NB162_154.out; have hnc37 := NB154_162.out; have hnb38 := NB162_155.out; have hnc38 := NB155_162.out; have hcz39_0 : w35.cell? ⟨gb162, 0, none⟩ = some (.int .i64 0) := (za BK162.out 0).trans rfl; have hcz39_1 : w35.cell? ⟨gb162, 1, none⟩ = some (.int .i64 0) := (za BK162.out 1).trans rfl; have hfz39_0 := zd BK162.out 0; have hfz39_1 := zd BK162.out 1) | ((with_reducible refine zr (t := 90) (p := 9) rfl ?_); refine store_ 90 9 (((w35.setCell ⟨gb162, 0, none⟩ (.int .i64 ((zt t157 a1).f0))).setCell ⟨gb162, 1, none⟩ (.int .i64 ((zt t157 a1).f1)))) ?_; intro w40 hw; replace HO_8 : Aside0 (Kd.R k90 90 w40 w.heap.size (fun k_ => k_ ≠ gb162) (.slice (some ad161) t157.length co34) t157) := ⟨(by rw [hw]; exact (by (with_reducible repeat (first | apply Kd.zL | apply Kd.zH | apply Kd.zP)); exact Kd.zS (Kd.zap (p := ⟨gb162, 1, none⟩) (Kd.zap (p := ⟨gb162, 0, none⟩) (Kd.zS HO_8.out (fun k_ hk => (⟨hk, hk.2⟩ : _ ∧ k_ ≠ gb162))) (fun _ hk => hk.2) (.int .i64 ((zt t157 a1).f0))) (fun _ hk => hk.2) (.int .i64 ((zt t157 a1).f1))) (fun _ hk => hk.1.2)))⟩; replace BK153 : Aside0 (w40.heap[gb153]? = some (.cells #[.slice A0_0 l0_0.length c0_0, .slice A0_1 l0_1.length c0_1] 24 (0, 0))) := ⟨(by rw [hw]; exact (by (with_reducible repeat (first | refine zg ?_ _ | refine zi ?_ | refine zf ?_ _)); refine zW ?_ NB153_162.out _; (with_reducible repeat (first | refine zg ?_ _ | refine zi ?_ | refine zf ?_ _)); refine zW ?_ NB153_162.out _; (with_reducible repeat (first | refine zg ?_ _ | refine zi ?_ | refine zf ?_ _)); exact BK153.out))⟩; replace BK154 : Aside0 (w40.heap[gb154]? = some (.cells #[.slice none 0 0, .slice none 0 0] 24 (0, 0))) := ⟨(by rw [hw]; exact (by (with_reducible repeat (first | refine zg ?_ _ | refine zi ?_ | refine zf ?_ _)); refine zW ?_ NB154_162.out _; (with_reducible repeat (first | refine zg ?_ _ | refine zi ?_ | refine zf ?_ _)); refine zW ?_ NB154_162.out _; (with_reducible repeat (first | refine zg ?_ _ | refine zi ?_ | refine zf ?_ _)); exact BK154.out))⟩; replace BK155 : Aside0 (w40.heap[gb155]? = some (.cells #[.slice none 0 0, .slice none 0 0] 24 (0, 0))) := ⟨(by rw [hw]; exact (by (with_reducible repeat (first | refine zg ?_ _ | refine zi ?_ | refine zf ?_ _)); refine zW ?_ NB155_162.out _; (with_reducible repeat (first | refine zg ?_ _ | refine zi ?_ | refine zf ?_ _)); refine zW ?_ NB155_162.out _; (with_reducible repeat (first | refine zg ?_ _ | refine zi ?_ | refine zf ?_ _)); exact BK155.out))⟩; replace BK162 : Aside0 (w40.heap[gb162]? = some (.cells #[.int .i64 ((zt t157 a1).f0), .int .i64 ((zt t157 a1).f1)] 90 (0, 0))) := ⟨(by rw [hw]; exact (by (with_reducible repeat (first | refine zg ?_ _ | refine zi ?_ | refine zf ?_ _)); refine zO (cs := #[.int .i64 ((zt t157 a1).f0), .int .i64 0]) ?_ 1 _ rfl; (with_reducible repeat (first | refine zg ?_ _ | refine zi ?_ | refine zf ?_ _)); refine zO (cs := #[.int .i64 0, .int .i64 0]) ?_ 0 _ rfl; (with_reducible repeat (first | refine zg ?_ _ | refine zi ?_ | refine zf ?_ _)); exact BK162.out))⟩; replace HB : Aside0 (Below w.heap.size w w40) := ⟨(by rw [hw]; exact bw_)⟩; clear hw; have hcz41_0 : w40.cell? ⟨gb162, 0, none⟩ = some (.int .i64 ((zt t157 a1).f0)) := (za BK162.out 0).trans rfl; have hcz41_1 : w40.cell? ⟨gb162, 1, none⟩ = some (.int .i64 ((zt t157 a1).f1)) := (za BK162.out 1).trans rfl; have hfz41_0 := zd BK162.out 0; have hfz41_1 := zd BK162.out 1; have p29 : 0 ≤ (a1 : Int) := of_decide_eq_true (by first | (with_reducible assumption) | assumption); have q29 : (a1 : Int) < ((t157.length : Int) : Int) := of_decide_eq_true (by first | (with_reducible assumption) | assumption); obtain ⟨go29, co29, eo29, gb29, gl29, cl29, HG29⟩ := Kd.R_form HO_8.out (by omega); (first | cases eo29 | (injection eo29 with ea_ en_ ec_; (first | subst ea_ | (injection ea_ with ea_; subst ea_)); subst ec_; clear en_)); have GB29 := am_ gb29; have GG29 := am_ HG29; clear gb29 gl29 HG29; (first | simp only [add_plain] at hx161_0 | skip); (first | simp only [add_plain] at hx161_1 | skip); obtain ⟨ce29, hcl29, hM29, hcc29, hfr29⟩ := Kd.R_elem HO_8.out z90 (a1 : Int) p29 q29; obtain rfl := k90_openM hM29; have hx29_0 : w40.cell? ⟨go29, (a1 : Int).toNat * 2, none⟩ = some (.int .i64 ((zt t157 a1).f0)) := hcc29 0 _ rfl; have hx29_1 : w40.cell? ⟨go29, (a1 : Int).toNat * 2 + 1, none⟩ = some (.int .i64 ((zt t157 a1).f1)) := hcc29 1 _ rfl; have hf29_0 : w40.frozen? ⟨go29, (a1 : Int).toNat * 2, none⟩ = false := hfr29 0; have hf29_1 : w40.frozen? ⟨go29, (a1 : Int).toNat * 2 + 1, none⟩ = false := hfr29 1; clear hcl29 hcc29 hfr29 hM29; replace p29 := eq_true p29; replace q29 := eq_true q29; have HX42 := am_ (show Kd.R k90 90 w40 w.heap.size (fun k_ => k_ ≠ gb162) (.slice (some ⟨go29, 0, none⟩) t157.length co34) t157 from (pk_ HO_8.out)); obtain ⟨ce42, hcl42, hM42, hcc42, hfr42⟩ := Kd.R_elem HX42.out z90 (a1 : Int) (of_decide_eq_true (by first | (with_reducible assumption) | assumption)) (by have h_ : (a1 : Int) < ((t157.length : Int) : Int) := of_decide_eq_true (by first | (with_reducible assumption) | assumption); first | exact h_ | (have e_ := (Kd.zQ HO_8.out).1; omega) | simpa using h_); obtain rfl := k90_openM hM42; have HP42 := Kd.R_seg HX42.out (a1 : Int) (of_decide_eq_true (by first | (with_reducible assumption) | assumption)) (by have h_ : (a1 : Int) < ((t157.length : Int) : Int) := of_decide_eq_true (by first | (with_reducible assumption) | assumption); first | exact h_ | (have e_ := (Kd.zQ HO_8.out).1; omega) | simpa using h_) (seg := [.int .i64 (wrap64 (((zt t157 a1).f0) + 1)), .int .i64 (wrap64 (2 * ((zt t157 a1).f1)))]) (j := 0) hcl42 hcc42 (show 2 ≤ 2 from by decide) (x' := (⟨wrap64 (((zt t157 a1).f0) + 1), wrap64 (2 * ((zt t157 a1).f1))⟩ : S90)) (k90_mkM _ _ _ (⟨wrap64 (((zt t157 a1).f0) + 1), wrap64 (2 * ((zt t157 a1).f1))⟩ : S90) ) (fun _ hk => hk); have hx42_0 := hcc42 0 _ rfl; (try simp only [show (k90).sz = 2 from rfl, Nat.mul_one, Nat.add_zero] at hx42_0); have hf42_0 := hfr42 0; (try simp only [show (k90).sz = 2 from rfl, Nat.mul_one, Nat.add_zero] at hf42_0); have hx42_1 := hcc42 1 _ rfl; (try simp only [show (k90).sz = 2 from rfl, Nat.mul_one, Nat.add_zero] at hx42_1); have hf42_1 := hfr42 1; (try simp only [show (k90).sz = 2 from rfl, Nat.mul_one, Nat.add_zero] at hf42_1); clear hcl42 hcc42 hfr42 hM42) | ((with_reducible refine zr (t := 90) (p := 53) rfl ?_); refine store_ 90 53 (((w40.setCell ⟨go29, (a1 : Int).toNat * 2, none⟩ (.int .i64 (wrap64 (((zt t157 a1).f0) + 1)))).setCell ⟨go29, (a1 : Int).toNat * 2 + 1, none⟩ (.int .i64 (wrap64 (2 * ((zt t157 a1).f1)))))) ?_; intro w43 hw; have hg : w40.grownBy w43 (some go29) := (by rw [hw]; exact HP42.2); have hp_ : Kd.R k90 90 w43 w.heap.size (fun k_ => k_ ≠ gb162) (.slice (some ⟨go29, 0, none⟩) t157.length co34) y163 := (by rw [hw, Ny163.out]; exact HP42.1); clear HP42; replace BK153 := am_ (zaV (g := gb153) (o := .cells #[.slice A0_0 l0_0.length c0_0, .slice A0_1 l0_1.length c0_1] 24 (0, 0)) (pe_ BK153.out) hg (Kd.R_ne HO_8.out BK153.out (by decide))); replace BK154 := am_ (zaV (g := gb154) (o := .cells #[.slice none 0 0, .slice none 0 0] 24 (0, 0)) (pe_ BK154.out) hg (Kd.R_ne HO_8.out BK154.out (by decide))); replace BK155 := am_ (zaV (g := gb155) (o := .cells #[.slice none 0 0, .slice none 0 0] 24 (0, 0)) (pe_ BK155.out) hg (Kd.R_ne HO_8.out BK155.out (by decide))); replace BK162 := am_ (zaV (g := gb162) (o := .cells #[.int .i64 ((zt t157 a1).f0), .int .i64 ((zt t157 a1).f1)] 90 (0, 0)) (pe_ BK162.out) hg (Kd.R_away HO_8.out (fun _ hk => hk))); replace HO_8 := am_ (hp_); replace HB := am_ ((by rw [hw]; exact zm (zm (HB.out) GB29.out) GB29.out : Below w.heap.size w w43)); clear hg hw hp_) | ((with_reducible refine zac (f := 37) rfl ?_); refine zaZ (some 55) rfl rfl Try.func37 (by kernel_rfl) rfl #[.slice (some ⟨go29, 0, none⟩) y163.length co34] rfl (by (try simp only [List.map_toArray, List.map_cons, List.map_nil]); first | done | (rw [show y163.length = t157.length from (Kd.zQ HO_8.out).1.symm] <;> rfl) | rfl | (simp only [List.length_drop, List.length_take]; rfl)) ?_; (with_reducible refine (zy.calls kj5 _ _ y163 t164 t167 _ ?side1 ?side2 A30.out).mono ?_); (case side1 => repeat (first | exact (Kd.zQ HO_8.out).2.2 | (with_reducible refine Kd.zaG ?_ _) | (with_reducible refine Kd.zaF ?_ _) | (with_reducible refine Kd.zaQ ?_))); (case side2 => rw [show y163.length = t157.length from (Kd.zQ HO_8.out).1.symm]; exact (Kd.zQ HO_8.out).2.1); rintro e w44 ⟨v165, v168, rfl, ho0, ho1, hb⟩; refine ⟨_, rfl, ?_⟩; replace HO_8 := am_ (Kd.zI (pk_ HO_8.out) hb); have HO166 := am_ (Kd.zag ho0 (zo bw_)); have HO169 := am_ (Kd.zag ho1 (zo bw_)); replace BK153 := am_ (fr_ BK153.out hb); replace BK154 := am_ (fr_ BK154.out hb); replace BK155 := am_ (fr_ BK155.out hb); replace BK162 := am_ (fr_ BK162.out hb); replace HB := am_ (zb bw_ hb); (try clear hb); (try clear hb2); (try clear hk); (try clear hi); (try clear ho0); (try clear ho1)) | ((with_reducible refine zk (N := 10) rfl ?_); refine zaq 10 (cs := #[.slice none 0 0, .slice none 0 0]) (t := 24) ?_; intro gb170 hg w45 hbox hb; replace HO_8 := am_ (Kd.zI (pk_ HO_8.out) hb); replace HO166 := am_ (Kd.zI (pk_ HO166.out) hb); replace HO169 := am_ (Kd.zI (pk_ HO169.out) hb); have BK170 := am_ (hbox); have GW170 := am_ ((by rw [hg]; exact (zo bw_) : w.heap.size ≤ gb170)); replace HB := am_ (zb bw_ hb); have GE170 := GW170; have NB153_170 := am_ ((by rw [hg]; exact Nat.ne_of_lt (fl_ BK153.out) : gb153 ≠ gb170)); replace BK153 := am_ (fr_ BK153.out hb); have NB170_153 := am_ NB153_170.out.symm; have NB154_170 := am_ ((by rw [hg]; exact Nat.ne_of_lt (fl_ BK154.out) : gb154 ≠ gb170)); replace BK154 := am_ (fr_ BK154.out hb); have NB170_154 := am_ NB154_170.out.symm; have NB155_170 := am_ ((by rw [hg]; exact Nat.ne_of_lt (fl_ BK155.out) : gb155 ≠ gb170)); replace BK155 := am_ (fr_ BK155.out hb); have NB170_155 := am_ NB155_170.out.symm; have NB162_170 := am_ ((by rw [hg]; exact Nat.ne_of_lt (fl_ BK162.out) : gb162 ≠ gb170)); replace BK162 := am_ (fr_ BK162.out hb); have NB170_162 := am_ NB162_170.out.symm; clear hb hbox hg; obtain ⟨Ao46, co46, eo46⟩ := Kd.zY HO166.out; subst eo46; have hnb47 := NB170_153.out; have hnc47 := NB153_170.out; have hnb48 := NB170_154.out; have hnc48 := NB154_170.out; have hnb49 := NB170_155.out; have hnc49 := NB155_170.out; have hnb50 := NB170_162.out; have hnc50 := NB162_170.out; have hcz51_0 : w45.cell? ⟨gb170, 0, none⟩ = some (.slice none 0 0) := (za BK170.out 0).trans rfl; have hcz51_1 : w45.cell? ⟨gb170, 1, none⟩ = some (.slice none 0 0) := (za BK170.out 1).trans rfl; have hfz51_0 := zd BK170.out 0; have hfz51_1 := zd BK170.out 1; obtain ⟨Ao52, co52, eo52⟩ := Kd.zY HO169.out; subst eo52) | ((with_reducible refine zr (t := 24) (p := 10) rfl ?_); refine store_ 24 10 (((w45.setCell ⟨gb170, 0, none⟩ (.slice Ao46 t164.length co46)).setCell ⟨gb170, 1, none⟩ (.slice Ao52 t167.length co52))) ?_; intro w53 hw; replace HO_8 : Aside0 (Kd.R k90 90 w53 w.heap.size (fun k_ => k_ ≠ gb162) (.slice (some ⟨go29, 0, none⟩) t157.length co34) y163) := ⟨(by rw [hw]; exact (by (with_reducible repeat (first | apply Kd.zL | apply Kd.zH | apply Kd.zP)); exact Kd.zS (Kd.zap (p := ⟨gb170, 1, none⟩) (Kd.zap (p := ⟨gb170, 0, none⟩) (Kd.zar HO_8.out BK170.out (by decide)) (fun _ hk => hk.2) (.slice Ao46 t164.length co46)) (fun _ hk => hk.2) (.slice Ao52 t167.length co52)) (fun _ hk => hk.1)))⟩; replace HO166 : Aside0 (Kd.R (Kd.int .i64) 3 w53 w.heap.size (fun k_ => some k_ ≠ (.slice Ao52 t167.length co52 : Value).ownBlock) (.slice Ao46 t164.length co46) t164) := ⟨(by rw [hw]; exact (by (with_reducible repeat (first | apply Kd.zL | apply Kd.zH | apply Kd.zP)); exact Kd.zS (Kd.zap (p := ⟨gb170, 1, none⟩) (Kd.zap (p := ⟨gb170, 0, none⟩) (Kd.zar HO166.out BK170.out (by decide)) (fun _ hk => hk.2) (.slice Ao46 t164.length co46)) (fun _ hk => hk.2) (.slice Ao52 t167.length co52)) (fun _ hk => hk.1)))⟩; replace HO169 : Aside0 (Kd.R (Kd.int .i64) 3 w53 w.heap.size (fun k_ => some k_ ≠ (.slice Ao46 t164.length co46 : Value).ownBlock) (.slice Ao52 t167.length co52) t167) := ⟨(by rw [hw]; exact (by (with_reducible repeat (first | apply Kd.zL | apply Kd.zH | apply Kd.zP)); exact Kd.zS (Kd.zap (p := ⟨gb170, 1, none⟩) (Kd.zap (p := ⟨gb170, 0, none⟩) (Kd.zar HO169.out BK170.out (by decide)) (fun _ hk => hk.2) (.slice Ao46 t164.length co46)) (fun _ hk => hk.2) (.slice Ao52 t167.length co52)) (fun _ hk => hk.1)))⟩; replace BK153 : Aside0 (w53.heap[gb153]? = some (.cells #[.slice A0_0 l0_0.length c0_0, .slice A0_1 l0_1.length c0_1] 24 (0, 0))) := ⟨(by rw [hw]; exact (by (with_reducible repeat (first | refine zg ?_ _ | refine zi ?_ | refine zf ?_ _)); refine zW ?_ NB153_170.out _; (with_reducible repeat (first | refine zg ?_ _ | refine zi ?_ | refine zf ?_ _)); refine zW ?_ NB153_170.out _; (with_reducible repeat (first | refine zg ?_ _ | refine zi ?_ | refine zf ?_ _)); exact BK153.out))⟩; replace BK154 : Aside0 (w53.heap[gb154]? = some (.cells #[.slice none 0 0, .slice none 0 0] 24 (0, 0))) := ⟨(by rw [hw]; exact (by (with_reducible repeat (first | refine zg ?_ _ | refine zi ?_ | refine zf ?_ _)); refine zW ?_ NB154_170.out _; (with_reducible repeat (first | refine zg ?_ _ | refine zi ?_ | refine zf ?_ _)); refine zW ?_ NB154_170.out _; (with_reducible repeat (first | refine zg ?_ _ | refine zi ?_ | refine zf ?_ _)); exact BK154.out))⟩; replace BK155 : Aside0 (w53.heap[gb155]? = some (.cells #[.slice none 0 0, .slice none 0 0] 24 (0, 0))) := ⟨(by rw [hw]; exact (by (with_reducible repeat (first | refine zg ?_ _ | refine zi ?_ | refine zf ?_ _)); refine zW ?_ NB155_170.out _; (with_reducible repeat (first | refine zg ?_ _ | refine zi ?_ | refine zf ?_ _)); refine zW ?_ NB155_170.out _; (with_reducible repeat (first | refine zg ?_ _ | refine zi ?_ | refine zf ?_ _)); exact BK155.out))⟩; replace BK162 : Aside0 (w53.heap[gb162]? = some (.cells #[.int .i64 ((zt t157 a1).f0), .int .i64 ((zt t157 a1).f1)] 90 (0, 0))) := ⟨(by rw [hw]; exact (by (with_reducible repeat (first | refine zg ?_ _ | refine zi ?_ | refine zf ?_ _)); refine zW ?_ NB162_170.out _; (with_reducible repeat (first | refine zg ?_ _ | refine zi ?_ | refine zf ?_ _)); refine zW ?_ NB162_170.out _; (with_reducible repeat (first | refine zg ?_ _ | refine zi ?_ | refine zf ?_ _)); exact BK162.out))⟩; replace BK170 : Aside0 (w53.heap[gb170]? = some (.cells #[.slice Ao46 t164.length co46, .slice Ao52 t167.length co52] 24 (0, 0))) := ⟨(by rw [hw]; exact (by (with_reducible repeat (first | refine zg ?_ _ | refine zi ?_ | refine zf ?_ _)); refine zO (cs := #[.slice Ao46 t164.length co46, .slice none 0 0]) ?_ 1 _ rfl; (with_reducible repeat (first | refine zg ?_ _ | refine zi ?_ | refine zf ?_ _)); refine zO (cs := #[.slice none 0 0, .slice none 0 0]) ?_ 0 _ rfl; (with_reducible repeat (first | refine zg ?_ _ | refine zi ?_ | refine zf ?_ _)); exact BK170.out))⟩; replace HB : Aside0 (Below w.heap.size w w53) := ⟨(by rw [hw]; exact bw_)⟩; clear hw; have p171 : 0 ≤ (a1 : Int) := of_decide_eq_true (by first | (with_reducible assumption) | assumption); have q171 : a1 < (y163.length : Int) := (by have h_ : (a1 : Int) < ((t157.length : Int) : Int) := of_decide_eq_true (by first | (with_reducible assumption) | assumption); first | (have e_ := (Kd.zQ HO_8.out).1; omega) | simpa only [Ny163.out, List.length_set] using h_); have ql171 : ((a1 : Int) < ((t157.length : Int) : Int)) = True := eq_true (of_decide_eq_true (by first | (with_reducible assumption) | assumption)); obtain ⟨ad171, e171, hx171_0, hx171_1⟩ := at_T90 (Kd.zQ HO_8.out).2.2 a1 p171 q171; obtain rfl : (⟨go29, 0, none⟩ : Addr) = ad171 := (by injection e171); (first | simp only [add_plain] at hx171_0 | simp only [add_at] at hx171_0 | simp only [Addr.add, Nat.zero_add] at hx171_0 | skip); (first | simp only [add_plain] at hx171_1 | simp only [add_at] at hx171_1 | simp only [Addr.add, Nat.zero_add] at hx171_1 | skip); replace p171 := eq_true p171; replace q171 := eq_true q171; have p31 : 0 ≤ (a1 : Int) := of_decide_eq_true (by first | (with_reducible assumption) | assumption); have q31 : (a1 : Int) < ((t157.length : Int) : Int) := of_decide_eq_true (by first | (with_reducible assumption) | assumption); obtain ⟨ce31, hcl31, hM31, hcc31, hfr31⟩ := Kd.R_elem HO_8.out z90 (a1 : Int) p31 q31; obtain rfl := k90_openM hM31; have hx31_0 : w53.cell? ⟨go29, (a1 : Int).toNat * 2, none⟩ = some (.int .i64 ((zt y163 a1).f0)) := hcc31 0 _ rfl; have hx31_1 : w53.cell? ⟨go29, (a1 : Int).toNat * 2 + 1, none⟩ = some (.int .i64 ((zt y163 a1).f1)) := hcc31 1 _ rfl; have hf31_0 : w53.frozen? ⟨go29, (a1 : Int).toNat * 2, none⟩ = false := hfr31 0; have hf31_1 : w53.frozen? ⟨go29, (a1 : Int).toNat * 2 + 1, none⟩ = false := hfr31 1; clear hcl31 hcc31 hfr31 hM31; replace p31 := eq_true p31; replace q31 := eq_true q31; have HX54 := am_ (show Kd.R k90 90 w53 w.heap.size (fun k_ => k_ ≠ gb162) (.slice (some ⟨go29, 0, none⟩) t157.length co34) y163 from (pk_ HO_8.out)); obtain ⟨ce54, hcl54, hM54, hcc54, hfr54⟩ := Kd.R_elem HX54.out z90 (a1 : Int) (of_decide_eq_true (by first | (with_reducible assumption) | assumption)) (by have h_ : (a1 : Int) < ((t157.length : Int) : Int) := of_decide_eq_true (by first | (with_reducible assumption) | assumption); first | exact h_ | (have e_ := (Kd.zQ HO_8.out).1; omega) | simpa using h_); obtain rfl := k90_openM hM54; have HP54 := Kd.R_seg HX54.out (a1 : Int) (of_decide_eq_true (by first | (with_reducible assumption) | assumption)) (by have h_ : (a1 : Int) < ((t157.length : Int) : Int) := of_decide_eq_true (by first | (with_reducible assumption) | assumption); first | exact h_ | (have e_ := (Kd.zQ HO_8.out).1; omega) | simpa using h_) (seg := [.int .i64 (wrap64 (((zt y163 a1).f1) + 1))]) (j := 1) hcl54 hcc54 (show 2 ≤ 2 from by decide) (x' := (⟨(zt y163 a1).f0, wrap64 (((zt y163 a1).f1) + 1)⟩ : S90)) (k90_mkM _ _ _ (⟨(zt y163 a1).f0, wrap64 (((zt y163 a1).f1) + 1)⟩ : S90) ) (fun _ hk => hk); have hx54_1 := hcc54 1 _ rfl; (try simp only [show (k90).sz = 2 from rfl, Nat.mul_one, Nat.add_zero] at hx54_1); have hf54_1 := hfr54 1; (try simp only [show (k90).sz = 2 from rfl, Nat.mul_one, Nat.add_zero] at hf54_1); clear hcl54 hcc54 hfr54 hM54) | ((with_reducible refine zr (t := 3) (p := 63) rfl ?_); refine store_ 3 63 ((w53.setCell ⟨go29, (a1 : Int).toNat * 2 + 1, none⟩ (.int .i64 (wrap64 (((zt y163 a1).f1) + 1))))) ?_; intro w55 hw; have hg : w53.grownBy w55 (some go29) := (by rw [hw]; exact HP54.2); have hp_ : Kd.R k90 90 w55 w.heap.size (fun k_ => k_ ≠ gb162) (.slice (some ⟨go29, 0, none⟩) t157.length co34) y172 := (by rw [hw, Ny172.out]; exact HP54.1); clear HP54; replace BK153 := am_ (zaV (g := gb153) (o := .cells #[.slice A0_0 l0_0.length c0_0, .slice A0_1 l0_1.length c0_1] 24 (0, 0)) (pe_ BK153.out) hg (Kd.R_ne HO_8.out BK153.out (by decide))); replace BK154 := am_ (zaV (g := gb154) (o := .cells #[.slice none 0 0, .slice none 0 0] 24 (0, 0)) (pe_ BK154.out) hg (Kd.R_ne HO_8.out BK154.out (by decide))); replace BK155 := am_ (zaV (g := gb155) (o := .cells #[.slice none 0 0, .slice none 0 0] 24 (0, 0)) (pe_ BK155.out) hg (Kd.R_ne HO_8.out BK155.out (by decide))); replace BK162 := am_ (zaV (g := gb162) (o := .cells #[.int .i64 ((zt t157 a1).f0), .int .i64 ((zt t157 a1).f1)] 90 (0, 0)) (pe_ BK162.out) hg (Kd.R_away HO_8.out (fun _ hk => hk))); replace HO166 := am_ (Kd.R_over' (v := (.slice (some ⟨go29, 0, none⟩) t157.length co34)) (pk_ HO166.out) (Kd.R_typed HO_8.out) (by decide) hg); replace HO169 := am_ (Kd.R_over' (v := (.slice (some ⟨go29, 0, none⟩) t157.length co34)) (pk_ HO169.out) (Kd.R_typed HO_8.out) (by decide) hg); replace BK170 := am_ (zaV (g := gb170) (o := .cells #[.slice Ao46 t164.length co46, .slice Ao52 t167.length co52] 24 (0, 0)) (pe_ BK170.out) hg (Kd.R_ne HO_8.out BK170.out (by decide))); replace HO_8 := am_ (hp_); replace HB := am_ ((by rw [hw]; exact zm (HB.out) GB29.out : Below w.heap.size w w55)); clear hg hw hp_) | ((with_reducible refine zac (f := 37) rfl ?_); refine zaZ (some 65) rfl rfl Try.func37 (by kernel_rfl) rfl #[.slice (some ⟨go29, 0, none⟩) y172.length co34] rfl (by (try simp only [List.map_toArray, List.map_cons, List.map_nil]); first | done | (rw [show y172.length = t157.length from (Kd.zQ HO_8.out).1.symm] <;> rfl) | rfl | (simp only [List.length_drop, List.length_take]; rfl)) ?_; (with_reducible refine (zy.calls kj5 _ _ y172 t173 t176 _ ?side1 ?side2 A32.out).mono ?_); (case side1 => repeat (first | exact (Kd.zQ HO_8.out).2.2 | (with_reducible refine Kd.zaG ?_ _) | (with_reducible refine Kd.zaF ?_ _) | (with_reducible refine Kd.zaQ ?_))); (case side2 => rw [show y172.length = t157.length from (Kd.zQ HO_8.out).1.symm]; exact (Kd.zQ HO_8.out).2.1); rintro e w56 ⟨v174, v177, rfl, ho0, ho1, hb⟩; refine ⟨_, rfl, ?_⟩; replace HO_8 := am_ (Kd.zI (pk_ HO_8.out) hb); have HO175 := am_ (Kd.zag (Kd.R_new' (Kd.R_new' ho0 (Kd.R_lt (pk_ HO166.out))) (Kd.R_lt (pk_ HO169.out))) (zo bw_)); have HO178 := am_ (Kd.zag (Kd.R_new' (Kd.R_new' ho1 (Kd.R_lt (pk_ HO166.out))) (Kd.R_lt (pk_ HO169.out))) (zo bw_)); replace HO166 := am_ (Kd.zS (Kd.R_told (Kd.R_told (Kd.R_old (pk_ HO166.out) hb) (Kd.R_base ho0)) (Kd.R_base ho1)) (fun _ h_ => h_.1)); replace HO169 := am_ (Kd.zS (Kd.R_told (Kd.R_told (Kd.R_old (pk_ HO169.out) hb) (Kd.R_base ho0)) (Kd.R_base ho1)) (fun _ h_ => h_.1)); replace BK153 := am_ (fr_ BK153.out hb); replace BK154 := am_ (fr_ BK154.out hb); replace BK155 := am_ (fr_ BK155.out hb); replace BK162 := am_ (fr_ BK162.out hb); replace BK170 := am_ (fr_ BK170.out hb); replace HB := am_ (zb bw_ hb); (try clear hb); (try clear hb2); (try clear hk); (try clear hi); (try clear ho0); (try clear ho1)) | ((with_reducible refine zk (N := 11) rfl ?_); refine zaq 11 (cs := #[.slice none 0 0, .slice none 0 0]) (t := 24) ?_; intro gb179 hg w57 hbox hb; replace HO_8 := am_ (Kd.zI (pk_ HO_8.out) hb); replace HO166 := am_ (Kd.zI (pk_ HO166.out) hb); replace HO169 := am_ (Kd.zI (pk_ HO169.out) hb); replace HO175 := am_ (Kd.zI (pk_ HO175.out) hb); replace HO178 := am_ (Kd.zI (pk_ HO178.out) hb); have BK179 := am_ (hbox); have GW179 := am_ ((by rw [hg]; exact (zo bw_) : w.heap.size ≤ gb179)); replace HB := am_ (zb bw_ hb); have GE179 := GW179; have NB153_179 := am_ ((by rw [hg]; exact Nat.ne_of_lt (fl_ BK153.out) : gb153 ≠ gb179)); replace BK153 := am_ (fr_ BK153.out hb); have NB179_153 := am_ NB153_179.out.symm; have NB154_179 := am_ ((by rw [hg]; exact Nat.ne_of_lt (fl_ BK154.out) : gb154 ≠ gb179)); replace BK154 := am_ (fr_ BK154.out hb); have NB179_154 := am_ NB154_179.out.symm; have NB155_179 := am_ ((by rw [hg]; exact Nat.ne_of_lt (fl_ BK155.out) : gb155 ≠ gb179)); replace BK155 := am_ (fr_ BK155.out hb); have NB179_155 := am_ NB155_179.out.symm; have NB162_179 := am_ ((by rw [hg]; exact Nat.ne_of_lt (fl_ BK162.out) : gb162 ≠ gb179)); replace BK162 := am_ (fr_ BK162.out hb); have NB179_162 := am_ NB162_179.out.symm; have NB170_179 := am_ ((by rw [hg]; exact Nat.ne_of_lt (fl_ BK170.out) : gb170 ≠ gb179)); replace BK170 := am_ (fr_ BK170.out hb); have NB179_170 := am_ NB170_179.out.symm; clear hb hbox hg; obtain ⟨Ao58, co58, eo58⟩ := Kd.zY HO175.out; subst eo58; have hnb59 := NB179_153.out; have hnc59 := NB153_179.out; have hnb60 := NB179_154.out; have hnc60 := NB154_179.out; have hnb61 := NB179_155.out; have hnc61 := NB155_179.out; have hnb62 := NB179_162.out; have hnc62 := NB162_179.out; have hnb63 := NB179_170.out; have hnc63 := NB170_179.out; have hcz64_0 : w57.cell? ⟨gb179, 0, none⟩ = some (.slice none 0 0) := (za BK179.out 0).trans rfl; have hcz64_1 : w57.cell? ⟨gb179, 1, none⟩ = some (.slice none 0 0) := (za BK179.out 1).trans rfl; have hfz64_0 := zd BK179.out 0; have hfz64_1 := zd BK179.out 1; obtain ⟨Ao65, co65, eo65⟩ := Kd.zY HO178.out; subst eo65))
        have n0_ : Aside0 (Kd.R k90 90 ((w57.setCell ⟨gb179, 0, none⟩ (.slice Ao58 t173.length co58)).setCell ⟨gb179, 1, none⟩ (.slice Ao65 t176.length co65)) w.heap.size (fun k_ => k_ ≠ gb162) (.slice (some ⟨go29, 0, none⟩) t157.length co34) y172) := ⟨by (with_reducible repeat (first | apply Kd.zL | apply Kd.zH | apply Kd.zP)); exact Kd.zS (Kd.zap (p := ⟨gb179, 1, none⟩) (Kd.zap (p := ⟨gb179, 0, none⟩) (Kd.zar HO_8.out BK179.out (by decide)) (fun _ hk => hk.2) (.slice Ao58 t173.length co58)) (fun _ hk => hk.2) (.slice Ao65 t176.length co65)) (fun _ hk => hk.1)⟩
        have n1_ : Aside0 (Kd.R (Kd.int .i64) 3 ((w57.setCell ⟨gb179, 0, none⟩ (.slice Ao58 t173.length co58)).setCell ⟨gb179, 1, none⟩ (.slice Ao65 t176.length co65)) w.heap.size (fun k_ => some k_ ≠ (.slice Ao52 t167.length co52 : Value).ownBlock ∧ some k_ ≠ (.slice Ao58 t173.length co58 : Value).ownBlock ∧ some k_ ≠ (.slice Ao65 t176.length co65 : Value).ownBlock) (.slice Ao46 t164.length co46) t164) := ⟨by (with_reducible repeat (first | apply Kd.zL | apply Kd.zH | apply Kd.zP)); exact Kd.zS (Kd.zap (p := ⟨gb179, 1, none⟩) (Kd.zap (p := ⟨gb179, 0, none⟩) (Kd.zar HO166.out BK179.out (by decide)) (fun _ hk => hk.2) (.slice Ao58 t173.length co58)) (fun _ hk => hk.2) (.slice Ao65 t176.length co65)) (fun _ hk => ⟨hk.1.1.1, ⟨hk.1.1.2, hk.1.2⟩⟩)⟩
        have n2_ : Aside0 (Kd.R (Kd.int .i64) 3 ((w57.setCell ⟨gb179, 0, none⟩ (.slice Ao58 t173.length co58)).setCell ⟨gb179, 1, none⟩ (.slice Ao65 t176.length co65)) w.heap.size (fun k_ => some k_ ≠ (.slice Ao46 t164.length co46 : Value).ownBlock ∧ some k_ ≠ (.slice Ao58 t173.length co58 : Value).ownBlock ∧ some k_ ≠ (.slice Ao65 t176.length co65 : Value).ownBlock) (.slice Ao52 t167.length co52) t167) := ⟨by (with_reducible repeat (first | apply Kd.zL | apply Kd.zH | apply Kd.zP)); exact Kd.zS (Kd.zap (p := ⟨gb179, 1, none⟩) (Kd.zap (p := ⟨gb179, 0, none⟩) (Kd.zar HO169.out BK179.out (by decide)) (fun _ hk => hk.2) (.slice Ao58 t173.length co58)) (fun _ hk => hk.2) (.slice Ao65 t176.length co65)) (fun _ hk => ⟨hk.1.1.1, ⟨hk.1.1.2, hk.1.2⟩⟩)⟩
        have n3_ : Aside0 (Kd.R (Kd.int .i64) 3 ((w57.setCell ⟨gb179, 0, none⟩ (.slice Ao58 t173.length co58)).setCell ⟨gb179, 1, none⟩ (.slice Ao65 t176.length co65)) w.heap.size (fun k_ => some k_ ≠ (.slice Ao46 t164.length co46 : Value).ownBlock ∧ some k_ ≠ (.slice Ao52 t167.length co52 : Value).ownBlock ∧ some k_ ≠ (.slice Ao65 t176.length co65 : Value).ownBlock) (.slice Ao58 t173.length co58) t173) := ⟨by (with_reducible repeat (first | apply Kd.zL | apply Kd.zH | apply Kd.zP)); exact Kd.zS (Kd.zap (p := ⟨gb179, 1, none⟩) (Kd.zap (p := ⟨gb179, 0, none⟩) (Kd.zar HO175.out BK179.out (by decide)) (fun _ hk => hk.2) (.slice Ao58 t173.length co58)) (fun _ hk => hk.2) (.slice Ao65 t176.length co65)) (fun _ hk => ⟨hk.1.1.2, ⟨hk.1.2, hk.1.1.1⟩⟩)⟩
        have n4_ : Aside0 (Kd.R (Kd.int .i64) 3 ((w57.setCell ⟨gb179, 0, none⟩ (.slice Ao58 t173.length co58)).setCell ⟨gb179, 1, none⟩ (.slice Ao65 t176.length co65)) w.heap.size (fun k_ => some k_ ≠ (.slice Ao46 t164.length co46 : Value).ownBlock ∧ some k_ ≠ (.slice Ao52 t167.length co52 : Value).ownBlock ∧ some k_ ≠ (.slice Ao58 t173.length co58 : Value).ownBlock) (.slice Ao65 t176.length co65) t176) := ⟨by (with_reducible repeat (first | apply Kd.zL | apply Kd.zH | apply Kd.zP)); exact Kd.zS (Kd.zap (p := ⟨gb179, 1, none⟩) (Kd.zap (p := ⟨gb179, 0, none⟩) (Kd.zar HO178.out BK179.out (by decide)) (fun _ hk => hk.2) (.slice Ao58 t173.length co58)) (fun _ hk => hk.2) (.slice Ao65 t176.length co65)) (fun _ hk => ⟨hk.1.1.2, ⟨hk.1.2, hk.1.1.1⟩⟩)⟩
        have n5_ : Aside0 (((w57.setCell ⟨gb179, 0, none⟩ (.slice Ao58 t173.length co58)).setCell ⟨gb179, 1, none⟩ (.slice Ao65 t176.length co65)).heap[gb153]? = some (.cells #[.slice A0_0 l0_0.length c0_0, .slice A0_1 l0_1.length c0_1] 24 (0, 0))) := ⟨by (with_reducible repeat (first | refine zg ?_ _ | refine zi ?_ | refine zf ?_ _)); refine zW ?_ NB153_179.out _; (with_reducible repeat (first | refine zg ?_ _ | refine zi ?_ | refine zf ?_ _)); refine zW ?_ NB153_179.out _; (with_reducible repeat (first | refine zg ?_ _ | refine zi ?_ | refine zf ?_ _)); exact BK153.out⟩
        have n6_ : Aside0 (((w57.setCell ⟨gb179, 0, none⟩ (.slice Ao58 t173.length co58)).setCell ⟨gb179, 1, none⟩ (.slice Ao65 t176.length co65)).heap[gb154]? = some (.cells #[.slice none 0 0, .slice none 0 0] 24 (0, 0))) := ⟨by (with_reducible repeat (first | refine zg ?_ _ | refine zi ?_ | refine zf ?_ _)); refine zW ?_ NB154_179.out _; (with_reducible repeat (first | refine zg ?_ _ | refine zi ?_ | refine zf ?_ _)); refine zW ?_ NB154_179.out _; (with_reducible repeat (first | refine zg ?_ _ | refine zi ?_ | refine zf ?_ _)); exact BK154.out⟩
        have n7_ : Aside0 (((w57.setCell ⟨gb179, 0, none⟩ (.slice Ao58 t173.length co58)).setCell ⟨gb179, 1, none⟩ (.slice Ao65 t176.length co65)).heap[gb155]? = some (.cells #[.slice none 0 0, .slice none 0 0] 24 (0, 0))) := ⟨by (with_reducible repeat (first | refine zg ?_ _ | refine zi ?_ | refine zf ?_ _)); refine zW ?_ NB155_179.out _; (with_reducible repeat (first | refine zg ?_ _ | refine zi ?_ | refine zf ?_ _)); refine zW ?_ NB155_179.out _; (with_reducible repeat (first | refine zg ?_ _ | refine zi ?_ | refine zf ?_ _)); exact BK155.out⟩
        have n8_ : Aside0 (((w57.setCell ⟨gb179, 0, none⟩ (.slice Ao58 t173.length co58)).setCell ⟨gb179, 1, none⟩ (.slice Ao65 t176.length co65)).heap[gb162]? = some (.cells #[.int .i64 ((zt t157 a1).f0), .int .i64 ((zt t157 a1).f1)] 90 (0, 0))) := ⟨by (with_reducible repeat (first | refine zg ?_ _ | refine zi ?_ | refine zf ?_ _)); refine zW ?_ NB162_179.out _; (with_reducible repeat (first | refine zg ?_ _ | refine zi ?_ | refine zf ?_ _)); refine zW ?_ NB162_179.out _; (with_reducible repeat (first | refine zg ?_ _ | refine zi ?_ | refine zf ?_ _)); exact BK162.out⟩
        have n9_ : Aside0 (((w57.setCell ⟨gb179, 0, none⟩ (.slice Ao58 t173.length co58)).setCell ⟨gb179, 1, none⟩ (.slice Ao65 t176.length co65)).heap[gb170]? = some (.cells #[.slice Ao46 t164.length co46, .slice Ao52 t167.length co52] 24 (0, 0))) := ⟨by (with_reducible repeat (first | refine zg ?_ _ | refine zi ?_ | refine zf ?_ _)); refine zW ?_ NB170_179.out _; (with_reducible repeat (first | refine zg ?_ _ | refine zi ?_ | refine zf ?_ _)); refine zW ?_ NB170_179.out _; (with_reducible repeat (first | refine zg ?_ _ | refine zi ?_ | refine zf ?_ _)); exact BK170.out⟩
        have n10_ : Aside0 (((w57.setCell ⟨gb179, 0, none⟩ (.slice Ao58 t173.length co58)).setCell ⟨gb179, 1, none⟩ (.slice Ao65 t176.length co65)).heap[gb179]? = some (.cells #[.slice Ao58 t173.length co58, .slice Ao65 t176.length co65] 24 (0, 0))) := ⟨by (with_reducible repeat (first | refine zg ?_ _ | refine zi ?_ | refine zf ?_ _)); refine zO (cs := #[.slice Ao58 t173.length co58, .slice none 0 0]) ?_ 1 _ rfl; (with_reducible repeat (first | refine zg ?_ _ | refine zi ?_ | refine zf ?_ _)); refine zO (cs := #[.slice none 0 0, .slice none 0 0]) ?_ 0 _ rfl; (with_reducible repeat (first | refine zg ?_ _ | refine zi ?_ | refine zf ?_ _)); exact BK179.out⟩
        have n11_ : Aside0 (Below w.heap.size w ((w57.setCell ⟨gb179, 0, none⟩ (.slice Ao58 t173.length co58)).setCell ⟨gb179, 1, none⟩ (.slice Ao65 t176.length co65))) := ⟨by repeat (first | (with_reducible first | exact HB.out | apply zj | apply ze | apply zl | refine zm ?_ GE153.out | refine zm ?_ GE154.out | refine zm ?_ GE155.out | refine zm ?_ GE162.out | refine zm ?_ GE170.out | refine zm ?_ GE179.out) | exact HB.out)⟩
        (try clear HO_8)
        (try clear HO166)
        (try clear HO169)
        (try clear HO175)
        (try clear HO178)
        (try clear BK153)
        (try clear BK154)
        (try clear BK155)
        (try clear BK162)
        (try clear BK170)
        (try clear BK179)
        (try clear HB)
        generalize ((w57.setCell ⟨gb179, 0, none⟩ (.slice Ao58 t173.length co58)).setCell ⟨gb179, 1, none⟩ (.slice Ao65 t176.length co65)) = w66 at n0_ n1_ n2_ n3_ n4_ n5_ n6_ n7_ n8_ n9_ n10_ n11_ ⊢
        have HO_8 := n0_
        have HO166 := n1_
        have HO169 := n2_
        have HO175 := n3_
        have HO178 := n4_
        have BK153 := n5_
        have BK154 := n6_
        have BK155 := n7_
        have BK162 := n8_
        have BK170 := n9_
        have BK179 := n10_
        have HB := n11_
        clear n0_ n1_ n2_ n3_ n4_ n5_ n6_ n7_ n8_ n9_ n10_ n11_
        have n0_ := am_ (Kd.zP HO_8.out)
        have n1_ := am_ (Kd.zP HO166.out)
        have n2_ := am_ (Kd.zP HO169.out)
        have n3_ := am_ (Kd.zP HO175.out)
        have n4_ := am_ (Kd.zP HO178.out)
        have n5_ := am_ (zi BK153.out)
        have n6_ := am_ (zi BK154.out)
        have n7_ := am_ (zi BK155.out)
        have n8_ := am_ (zi BK162.out)
        have n9_ := am_ (zi BK170.out)
        have n10_ := am_ (zi BK179.out)
        have n11_ := am_ (zl HB.out)
        clear HO_8
        clear HO166
        clear HO169
        clear HO175
        clear HO178
        clear BK153
        clear BK154
        clear BK155
        clear BK162
        clear BK170
        clear BK179
        clear HB
        have HO_8 := n0_
        have HO166 := n1_
        have HO169 := n2_
        have HO175 := n3_
        have HO178 := n4_
        have BK153 := n5_
        have BK154 := n6_
        have BK155 := n7_
        have BK162 := n8_
        have BK170 := n9_
        have BK179 := n10_
        have HB := n11_
        clear n0_ n1_ n2_ n3_ n4_ n5_ n6_ n7_ n8_ n9_ n10_ n11_
        have p180 : 0 ≤ (a1 : Int) := of_decide_eq_true (by first | (with_reducible assumption) | assumption)
        have q180 : a1 < (y172.length : Int) := (by have h_ : (a1 : Int) < ((t157.length : Int) : Int) := of_decide_eq_true (by first | (with_reducible assumption) | assumption); first | (have e_ := (Kd.zQ HO_8.out).1; omega) | simpa only [Ny163.out, Ny172.out, List.length_set] using h_)
        have ql180 : ((a1 : Int) < ((t157.length : Int) : Int)) = True := eq_true (of_decide_eq_true (by first | (with_reducible assumption) | assumption))
        obtain ⟨ad180, e180, hx180_0, hx180_1⟩ := at_T90 (Kd.zQ HO_8.out).2.2 a1 p180 q180
        obtain rfl : (⟨go29, 0, none⟩ : Addr) = ad180 := (by injection e180)
        (first | simp only [add_plain] at hx180_0 | simp only [add_at] at hx180_0 | simp only [Addr.add, Nat.zero_add] at hx180_0 | skip)
        (first | simp only [add_plain] at hx180_1 | simp only [add_at] at hx180_1 | simp only [Addr.add, Nat.zero_add] at hx180_1 | skip)
        replace p180 := eq_true p180
        replace q180 := eq_true q180
        refine zay (n := 6) (S := fun w' => w'.cell? ⟨gb162, 0, none⟩ = some (.int .i64 ((zt t157 a1).f0)) ∧ w'.cell? ⟨gb162, 1, none⟩ = some (.int .i64 ((zt t157 a1).f1)) ∧ w'.cell? ⟨go29, (a1).toNat * 2, none⟩ = some (.int .i64 ((zt y172 a1).f0)) ∧ w'.cell? ⟨go29, (a1).toNat * 2 + 1, none⟩ = some (.int .i64 ((zt y172 a1).f1))) (ds := []) (bl_ 6 0) (by kernel_rfl) rfl rfl ⟨(za BK162.out 0).trans rfl, (za BK162.out 1).trans rfl, hx180_0, hx180_1⟩ (fun hHeld => ?_)
        generalize w66.drew = w67 at HO_8 HO166 HO169 HO175 HO178 BK153 BK154 BK155 BK162 BK170 BK179 HB hx180_0 hx180_1 hHeld ⊢
        refine pure_ (i := 0) (N := some 66) (v := ?_) (a' := ?_) (bl_ 6 1) rfl rfl (by kernel_rfl) (fun _ _ _ h => h) (Or.inl ⟨by rfl, ?_⟩) ?_ ?_
        rotate_left
        ·intro w'
         go_simp
         with_reducible rfl
        rotate_left
        ·simp only [Act.put, sI_, s0_, s1_, zaA, zaR]
         rfl
        refine pure_ (i := 1) (N := some 67) (v := ?_) (a' := ?_) (bl_ 6 3) rfl rfl (by kernel_rfl) (fun _ _ _ h => h) (Or.inl ⟨by rfl, ?_⟩) ?_ ?_
        rotate_left
        ·intro w'
         go_simp
         with_reducible rfl
        rotate_left
        ·simp only [Act.put, sI_, s0_, s1_, zaA, zaR]
         rfl
        refine pure_ (i := 2) (N := some 68) (v := ?_) (a' := ?_) (bl_ 6 7) rfl rfl (by kernel_rfl) (fun _ _ _ h => h) (Or.inl ⟨by rfl, ?_⟩) ?_ ?_
        rotate_left
        ·intro w'
         go_simp
         with_reducible rfl
        rotate_left
        ·simp only [Act.put, sI_, s0_, s1_, zaA, zaR]
         rfl
        refine take_ (i := 3) (N := some 69) (v := ?_) (a' := ?_) (bl_ 6 15) rfl rfl (by kernel_rfl) (fun _ _ _ h => h) (Or.inl ⟨by rfl, ?_⟩) hHeld ?_ ?_
        rotate_left
        ·rintro w' ⟨s0, s1, s2, s3⟩
         go_simp
         with_reducible rfl
        rotate_left
        ·simp only [Act.put, sI_, s0_, s1_, zaA, zaR]
         rfl
        refine take_ (i := 4) (N := some 70) (v := ?_) (a' := ?_) (bl_ 6 31) rfl rfl (by kernel_rfl) (fun _ _ _ h => h) (Or.inl ⟨by rfl, ?_⟩) hHeld ?_ ?_
        rotate_left
        ·rintro w' ⟨s0, s1, s2, s3⟩
         go_simp
         with_reducible rfl
        rotate_left
        ·simp only [Act.put, sI_, s0_, s1_, zaA, zaR]
         rfl
        refine pure_ (i := 5) (N := some 71) (v := ?_) (a' := ?_) (bl_ 6 63) rfl rfl (by kernel_rfl) (fun _ _ _ h => h) (Or.inl ⟨by rfl, ?_⟩) ?_ ?_
        rotate_left
        ·intro w'
         go_simp
         rw [zaf.ite2 c33b0]
        rotate_left
        ·simp only [Act.put, sI_, s0_, s1_, zaA, zaR]
         rfl
        refine zaP (by kernel_rfl) ?_
        try go_wp2
        have n0_ := am_ (Kd.zP HO_8.out)
        have n1_ := am_ (Kd.zP HO166.out)
        have n2_ := am_ (Kd.zP HO169.out)
        have n3_ := am_ (Kd.zP HO175.out)
        have n4_ := am_ (Kd.zP HO178.out)
        have n5_ := am_ (zi BK153.out)
        have n6_ := am_ (zi BK154.out)
        have n7_ := am_ (zi BK155.out)
        have n8_ := am_ (zi BK162.out)
        have n9_ := am_ (zi BK170.out)
        have n10_ := am_ (zi BK179.out)
        have n11_ := am_ (zl HB.out)
        clear HO_8
        clear HO166
        clear HO169
        clear HO175
        clear HO178
        clear BK153
        clear BK154
        clear BK155
        clear BK162
        clear BK170
        clear BK179
        clear HB
        have HO_8 := n0_
        have HO166 := n1_
        have HO169 := n2_
        have HO175 := n3_
        have HO178 := n4_
        have BK153 := n5_
        have BK154 := n6_
        have BK155 := n7_
        have BK162 := n8_
        have BK170 := n9_
        have BK179 := n10_
        have HB := n11_
        clear n0_ n1_ n2_ n3_ n4_ n5_ n6_ n7_ n8_ n9_ n10_ n11_
        refine zay (n := 5) (S := fun w' => w'.cell? ⟨gb170, 0, none⟩ = some (.slice Ao46 t164.length co46) ∧ w'.cell? ⟨gb170, 1, none⟩ = some (.slice Ao52 t167.length co52) ∧ w'.cell? ⟨gb179, 0, none⟩ = some (.slice Ao58 t173.length co58) ∧ w'.cell? ⟨gb179, 1, none⟩ = some (.slice Ao65 t176.length co65)) (ds := []) (bl_ 5 0) (by kernel_rfl) rfl rfl ⟨(za BK170.out 0).trans rfl, (za BK170.out 1).trans rfl, (za BK179.out 0).trans rfl, (za BK179.out 1).trans rfl⟩ (fun hHeld => ?_)
        generalize w67.drew = w68 at HO_8 HO166 HO169 HO175 HO178 BK153 BK154 BK155 BK162 BK170 BK179 HB hHeld ⊢
        refine take_ (i := 0) (N := some 74) (v := ?_) (a' := ?_) (bl_ 5 1) rfl rfl (by kernel_rfl) (fun _ _ _ h => h) (Or.inl ⟨by rfl, ?_⟩) hHeld ?_ ?_
        rotate_left
        ·rintro w' ⟨s0, s1, s2, s3⟩
         go_simp
         with_reducible rfl
        rotate_left
        ·simp only [Act.put, sI_, s0_, s1_, zaA, zaR]
         rfl
        refine take_ (i := 1) (N := some 75) (v := ?_) (a' := ?_) (bl_ 5 3) rfl rfl (by kernel_rfl) (fun _ _ _ h => h) (Or.inl ⟨by rfl, ?_⟩) hHeld ?_ ?_
        rotate_left
        ·rintro w' ⟨s0, s1, s2, s3⟩
         go_simp
         with_reducible rfl
        rotate_left
        ·simp only [Act.put, sI_, s0_, s1_, zaA, zaR]
         rfl
        refine one_ (i := 2) (N := none) (bl_ 5 7) rfl rfl (by kernel_rfl) (by decide) (fun K hK => ?_)
        have hs69 : w68.cell? ⟨gb154, 0, none⟩ = some (.slice none 0 0) := (za BK154.out 0).trans rfl
        have hfs69 := zd BK154.out 0
        have hns69_0 := NB153_154.out
        have hns69_2 := NB155_154.out
        have hns69_3 := NB162_154.out
        have hns69_4 := NB170_154.out
        have hns69_5 := NB179_154.out
        have hms69_0 := NB154_153.out
        have hms69_2 := NB154_155.out
        have hms69_3 := NB154_162.out
        have hms69_4 := NB154_170.out
        have hms69_5 := NB154_179.out
        have hs70 : w68.cell? ⟨gb154, 1, none⟩ = some (.slice none 0 0) := (za BK154.out 1).trans rfl
        have hfs70 := zd BK154.out 1
        have hns70_0 := NB153_154.out
        have hns70_2 := NB155_154.out
        have hns70_3 := NB162_154.out
        have hns70_4 := NB170_154.out
        have hns70_5 := NB179_154.out
        have hms70_0 := NB154_153.out
        have hms70_2 := NB154_155.out
        have hms70_3 := NB154_162.out
        have hms70_4 := NB154_170.out
        have hms70_5 := NB154_179.out
        refine skip_ (w1 := ?_) (by rfl) rfl ?_ ?_
        rotate_left
        ·go_simp
         rfl
        refine hK.out _ _ ⟨((cell_far (p := ⟨gb154, _, none⟩) NB170_154.out _).trans (((cell_far (p := ⟨gb154, _, none⟩) NB170_154.out _).trans (hHeld.1)))), ((cell_far (p := ⟨gb154, _, none⟩) NB170_154.out _).trans (((cell_far (p := ⟨gb154, _, none⟩) NB170_154.out _).trans (hHeld.2.1)))), ((cell_far (p := ⟨gb154, _, none⟩) NB179_154.out _).trans (((cell_far (p := ⟨gb154, _, none⟩) NB179_154.out _).trans (hHeld.2.2.1)))), ((cell_far (p := ⟨gb154, _, none⟩) NB179_154.out _).trans (((cell_far (p := ⟨gb154, _, none⟩) NB179_154.out _).trans (hHeld.2.2.2))))⟩ (fun hHeld => ?_)
        clear hK K
        refine one_ (i := 3) (N := none) (bl_ 5 15) rfl rfl (by kernel_rfl) (by decide) (fun K hK => ?_)
        have hs71 : w68.cell? ⟨gb155, 0, none⟩ = some (.slice none 0 0) := (za BK155.out 0).trans rfl
        have hfs71 := zd BK155.out 0
        have hns71_0 := NB153_155.out
        have hns71_1 := NB154_155.out
        have hns71_3 := NB162_155.out
        have hns71_4 := NB170_155.out
        have hns71_5 := NB179_155.out
        have hms71_0 := NB155_153.out
        have hms71_1 := NB155_154.out
        have hms71_3 := NB155_162.out
        have hms71_4 := NB155_170.out
        have hms71_5 := NB155_179.out
        have hs72 : w68.cell? ⟨gb155, 1, none⟩ = some (.slice none 0 0) := (za BK155.out 1).trans rfl
        have hfs72 := zd BK155.out 1
        have hns72_0 := NB153_155.out
        have hns72_1 := NB154_155.out
        have hns72_3 := NB162_155.out
        have hns72_4 := NB170_155.out
        have hns72_5 := NB179_155.out
        have hms72_0 := NB155_153.out
        have hms72_1 := NB155_154.out
        have hms72_3 := NB155_162.out
        have hms72_4 := NB155_170.out
        have hms72_5 := NB155_179.out
        refine skip_ (w1 := ?_) (by rfl) rfl ?_ ?_
        rotate_left
        ·go_simp
         rfl
        refine hK.out _ _ ⟨((cell_far (p := ⟨gb155, _, none⟩) NB170_155.out _).trans (((cell_far (p := ⟨gb155, _, none⟩) NB170_155.out _).trans (hHeld.1)))), ((cell_far (p := ⟨gb155, _, none⟩) NB170_155.out _).trans (((cell_far (p := ⟨gb155, _, none⟩) NB170_155.out _).trans (hHeld.2.1)))), ((cell_far (p := ⟨gb155, _, none⟩) NB179_155.out _).trans (((cell_far (p := ⟨gb155, _, none⟩) NB179_155.out _).trans (hHeld.2.2.1)))), ((cell_far (p := ⟨gb155, _, none⟩) NB179_155.out _).trans (((cell_far (p := ⟨gb155, _, none⟩) NB179_155.out _).trans (hHeld.2.2.2))))⟩ (fun hHeld => ?_)
        clear hK K
        refine pure_ (i := 4) (N := some 6) (v := ?_) (a' := ?_) (bl_ 5 31) rfl rfl (by kernel_rfl) (fun _ _ _ h => h) (Or.inl ⟨by rfl, ?_⟩) ?_ ?_
        rotate_left
        ·intro w'
         go_simp
         with_reducible rfl
        rotate_left
        ·simp only [Act.put, sI_, s0_, s1_, zaA, zaR]
         rfl
        refine zaP (by kernel_rfl) ?_
        try go_wp2
        refine bodyPost_ret (results_list (rs := [.cell 4 24, .cell 5 24, .tmp 6]) rfl (by simp) (.cell gb154 24 #[.slice Ao46 t164.length co46, .slice Ao52 t167.length co52] (0, 0) _ rfl (by (with_reducible repeat (first | refine zg ?_ _ | refine zi ?_ | refine zf ?_ _)); refine zW ?_ NB154_155.out _; (with_reducible repeat (first | refine zg ?_ _ | refine zi ?_ | refine zf ?_ _)); refine zW ?_ NB154_155.out _; (with_reducible repeat (first | refine zg ?_ _ | refine zi ?_ | refine zf ?_ _)); refine zO (cs := #[.slice Ao46 t164.length co46, .slice none 0 0]) ?_ 1 _ rfl; (with_reducible repeat (first | refine zg ?_ _ | refine zi ?_ | refine zf ?_ _)); refine zO (cs := #[.slice none 0 0, .slice none 0 0]) ?_ 0 _ rfl; (with_reducible repeat (first | refine zg ?_ _ | refine zi ?_ | refine zf ?_ _)); exact BK154.out) Try.underlying24 rfl (by kernel_rfl) (.cell gb155 24 #[.slice Ao58 t173.length co58, .slice Ao65 t176.length co65] (0, 0) _ rfl (by (with_reducible repeat (first | refine zg ?_ _ | refine zi ?_ | refine zf ?_ _)); refine zO (cs := #[.slice Ao58 t173.length co58, .slice none 0 0]) ?_ 1 _ rfl; (with_reducible repeat (first | refine zg ?_ _ | refine zi ?_ | refine zf ?_ _)); refine zO (cs := #[.slice none 0 0, .slice none 0 0]) ?_ 0 _ rfl; (with_reducible repeat (first | refine zg ?_ _ | refine zi ?_ | refine zf ?_ _)); refine zW ?_ NB155_154.out _; (with_reducible repeat (first | refine zg ?_ _ | refine zi ?_ | refine zf ?_ _)); refine zW ?_ NB155_154.out _; (with_reducible repeat (first | refine zg ?_ _ | refine zi ?_ | refine zf ?_ _)); exact BK155.out) Try.underlying24 rfl (by kernel_rfl) (.tmp .nil)))) rfl ?_
        exact ⟨_, _, _, _, by first | rfl | (simp [zp, zq] <;> rfl) | (simp [*, zp, zq] <;> rfl), by (with_reducible repeat (first | apply Kd.zL | apply Kd.zH | apply Kd.zP)); exact Kd.zS (Kd.zap (p := ⟨gb155, 1, none⟩) (Kd.zap (p := ⟨gb155, 0, none⟩) (Kd.zap (p := ⟨gb154, 1, none⟩) (Kd.zap (p := ⟨gb154, 0, none⟩) (Kd.zar (Kd.zar HO166.out BK154.out (by decide)) BK155.out (by decide)) (fun _ hk => hk.1.2) (.slice Ao46 t164.length co46)) (fun _ hk => hk.1.2) (.slice Ao52 t167.length co52)) (fun _ hk => hk.2) (.slice Ao58 t173.length co58)) (fun _ hk => hk.2) (.slice Ao65 t176.length co65)) (fun _ hk => ⟨hk.1.1.1, ⟨hk.1.1.2.1, hk.1.1.2.2⟩⟩), by (with_reducible repeat (first | apply Kd.zL | apply Kd.zH | apply Kd.zP)); exact Kd.zS (Kd.zap (p := ⟨gb155, 1, none⟩) (Kd.zap (p := ⟨gb155, 0, none⟩) (Kd.zap (p := ⟨gb154, 1, none⟩) (Kd.zap (p := ⟨gb154, 0, none⟩) (Kd.zar (Kd.zar HO169.out BK154.out (by decide)) BK155.out (by decide)) (fun _ hk => hk.1.2) (.slice Ao46 t164.length co46)) (fun _ hk => hk.1.2) (.slice Ao52 t167.length co52)) (fun _ hk => hk.2) (.slice Ao58 t173.length co58)) (fun _ hk => hk.2) (.slice Ao65 t176.length co65)) (fun _ hk => ⟨hk.1.1.1, ⟨hk.1.1.2.1, hk.1.1.2.2⟩⟩), by (with_reducible repeat (first | apply Kd.zL | apply Kd.zH | apply Kd.zP)); exact Kd.zS (Kd.zap (p := ⟨gb155, 1, none⟩) (Kd.zap (p := ⟨gb155, 0, none⟩) (Kd.zap (p := ⟨gb154, 1, none⟩) (Kd.zap (p := ⟨gb154, 0, none⟩) (Kd.zar (Kd.zar HO175.out BK154.out (by decide)) BK155.out (by decide)) (fun _ hk => hk.1.2) (.slice Ao46 t164.length co46)) (fun _ hk => hk.1.2) (.slice Ao52 t167.length co52)) (fun _ hk => hk.2) (.slice Ao58 t173.length co58)) (fun _ hk => hk.2) (.slice Ao65 t176.length co65)) (fun _ hk => ⟨hk.1.1.1, ⟨hk.1.1.2.1, hk.1.1.2.2⟩⟩), by (with_reducible repeat (first | apply Kd.zL | apply Kd.zH | apply Kd.zP)); exact Kd.zS (Kd.zap (p := ⟨gb155, 1, none⟩) (Kd.zap (p := ⟨gb155, 0, none⟩) (Kd.zap (p := ⟨gb154, 1, none⟩) (Kd.zap (p := ⟨gb154, 0, none⟩) (Kd.zar (Kd.zar HO178.out BK154.out (by decide)) BK155.out (by decide)) (fun _ hk => hk.1.2) (.slice Ao46 t164.length co46)) (fun _ hk => hk.1.2) (.slice Ao52 t167.length co52)) (fun _ hk => hk.2) (.slice Ao58 t173.length co58)) (fun _ hk => hk.2) (.slice Ao65 t176.length co65)) (fun _ hk => ⟨hk.1.1.1, ⟨hk.1.1.2.1, hk.1.1.2.2⟩⟩), by repeat (first | (with_reducible first | exact HB.out | apply zj | apply ze | apply zl | refine zm ?_ GE153.out | refine zm ?_ GE154.out | refine zm ?_ GE155.out | refine zm ?_ GE162.out | refine zm ?_ GE170.out | refine zm ?_ GE179.out) | exact HB.out)⟩
      ·rw [if_neg c28] at H
       exact absurd H (by simp)
     ·rw [if_neg c27] at H
      exact absurd H (by simp)
 ·rw [if_neg c4] at H
  have c4b0 : (t156 == 0) = false := beq_eq_false_iff_ne.mpr c4
  have c4b1 : (t156 != 0) = true := bne_iff_ne.mpr c4
  simp only [Option.some.injEq, Prod.mk.injEq] at H
  obtain ⟨rfl, rfl, rfl, rfl, rfl⟩ := H
  go_enter Try.func15, Try.ntmps15
  go_wp2_with (first | ((with_reducible refine zk (N := 2) rfl ?_); refine zaq 2 (cs := #[.slice A0_0 l0_0.length c0_0, .slice A0_1 l0_1.length c0_1]) (t := 24) ?_; intro gb153 hg w73 hbox hb; have BK153 := am_ (hbox); have GW153 := am_ ((by rw [hg]; exact (zo bw_) : w.heap.size ≤ gb153)); replace HB := am_ (zb bw_ hb); have GE153 := GW153; clear hb hbox hg) | ((with_reducible refine zk (N := 4) rfl ?_); refine zaq 4 (cs := #[.slice none 0 0, .slice none 0 0]) (t := 24) ?_; intro gb154 hg w74 hbox hb; have BK154 := am_ (hbox); have GW154 := am_ ((by rw [hg]; exact (zo bw_) : w.heap.size ≤ gb154)); replace HB := am_ (zb bw_ hb); have GE154 := GW154; have NB153_154 := am_ ((by rw [hg]; exact Nat.ne_of_lt (fl_ BK153.out) : gb153 ≠ gb154)); replace BK153 := am_ (fr_ BK153.out hb); have NB154_153 := am_ NB153_154.out.symm; clear hb hbox hg) | ((with_reducible refine zk (N := 5) rfl ?_); refine zaq 5 (cs := #[.slice none 0 0, .slice none 0 0]) (t := 24) ?_; intro gb155 hg w75 hbox hb; have BK155 := am_ (hbox); have GW155 := am_ ((by rw [hg]; exact (zo bw_) : w.heap.size ≤ gb155)); replace HB := am_ (zb bw_ hb); have GE155 := GW155; have NB153_155 := am_ ((by rw [hg]; exact Nat.ne_of_lt (fl_ BK153.out) : gb153 ≠ gb155)); replace BK153 := am_ (fr_ BK153.out hb); have NB155_153 := am_ NB153_155.out.symm; have NB154_155 := am_ ((by rw [hg]; exact Nat.ne_of_lt (fl_ BK154.out) : gb154 ≠ gb155)); replace BK154 := am_ (fr_ BK154.out hb); have NB155_154 := am_ NB154_155.out.symm; clear hb hbox hg; have hnb76 := NB153_154.out; have hnc76 := NB154_153.out; have hnb77 := NB153_155.out; have hnc77 := NB155_153.out; have hcz78_0 : w75.cell? ⟨gb153, 0, none⟩ = some (.slice A0_0 l0_0.length c0_0) := (za BK153.out 0).trans rfl; have hcz78_1 : w75.cell? ⟨gb153, 1, none⟩ = some (.slice A0_1 l0_1.length c0_1) := (za BK153.out 1).trans rfl; have hfz78_0 := zd BK153.out 0; have hfz78_1 := zd BK153.out 1) | ((with_reducible refine zac (f := 17) rfl ?_); refine zaZ (some 17) rfl rfl Try.func17 (by kernel_rfl) rfl #[.agg #[.slice A0_0 l0_0.length c0_0, .slice A0_1 l0_1.length c0_1], .int .i64 (l0_0.length : Int)] rfl (by (try simp only [List.map_toArray, List.map_cons, List.map_nil]); first | done | rfl | (simp only [List.length_drop, List.length_take]; rfl)) ?_; (with_reducible refine (zz.calls k _ _ l0_0 _ _ l0_1 (l0_0.length : Int) t156 _ ?side1 ?side2 ?side3 ?side4 A3.out).mono ?_); (case side1 => repeat (first | exact (Kd.zB HR0_0.out HB.out) | (with_reducible refine Kd.zaG ?_ _) | (with_reducible refine Kd.zaF ?_ _) | (with_reducible refine Kd.zaQ ?_))); (case side2 => exact HC0_0.out); (case side3 => repeat (first | exact (Kd.zB HR0_1.out HB.out) | (with_reducible refine Kd.zaG ?_ _) | (with_reducible refine Kd.zaF ?_ _) | (with_reducible refine Kd.zaQ ?_))); (case side4 => exact HC0_1.out); rintro e w79 ⟨rfl, hb⟩; refine ⟨_, rfl, ?_⟩; replace BK153 := am_ (fr_ BK153.out hb); replace BK154 := am_ (fr_ BK154.out hb); replace BK155 := am_ (fr_ BK155.out hb); replace HB := am_ (zb bw_ hb); (try clear hb); (try clear hb2); (try clear hk); (try clear hi); have hnb80 := NB154_155.out; have hnc80 := NB155_154.out; have hcz81_0 : w79.cell? ⟨gb154, 0, none⟩ = some (.slice none 0 0) := (za BK154.out 0).trans rfl; have hcz81_1 : w79.cell? ⟨gb154, 1, none⟩ = some (.slice none 0 0) := (za BK154.out 1).trans rfl; have hfz81_0 := zd BK154.out 0; have hfz81_1 := zd BK154.out 1; have hcz82_0 : w79.cell? ⟨gb155, 0, none⟩ = some (.slice none 0 0) := (za BK155.out 0).trans rfl; have hcz82_1 : w79.cell? ⟨gb155, 1, none⟩ = some (.slice none 0 0) := (za BK155.out 1).trans rfl; have hfz82_0 := zd BK155.out 0; have hfz82_1 := zd BK155.out 1))
  refine bodyPost_ret (results_list (rs := [.cell 4 24, .cell 5 24, .tmp 6]) rfl (by simp) (.cell gb154 24 #[.slice none 0 0, .slice none 0 0] (0, 0) _ rfl (by (with_reducible repeat (first | refine zg ?_ _ | refine zi ?_ | refine zf ?_ _)); refine zW ?_ NB154_155.out _; (with_reducible repeat (first | refine zg ?_ _ | refine zi ?_ | refine zf ?_ _)); refine zW ?_ NB154_155.out _; (with_reducible repeat (first | refine zg ?_ _ | refine zi ?_ | refine zf ?_ _)); refine zO (cs := #[.slice none 0 0, .slice none 0 0]) ?_ 1 _ rfl; (with_reducible repeat (first | refine zg ?_ _ | refine zi ?_ | refine zf ?_ _)); refine zO (cs := #[.slice none 0 0, .slice none 0 0]) ?_ 0 _ rfl; (with_reducible repeat (first | refine zg ?_ _ | refine zi ?_ | refine zf ?_ _)); exact BK154.out) Try.underlying24 rfl (by kernel_rfl) (.cell gb155 24 #[.slice none 0 0, .slice none 0 0] (0, 0) _ rfl (by (with_reducible repeat (first | refine zg ?_ _ | refine zi ?_ | refine zf ?_ _)); refine zO (cs := #[.slice none 0 0, .slice none 0 0]) ?_ 1 _ rfl; (with_reducible repeat (first | refine zg ?_ _ | refine zi ?_ | refine zf ?_ _)); refine zO (cs := #[.slice none 0 0, .slice none 0 0]) ?_ 0 _ rfl; (with_reducible repeat (first | refine zg ?_ _ | refine zi ?_ | refine zf ?_ _)); refine zW ?_ NB155_154.out _; (with_reducible repeat (first | refine zg ?_ _ | refine zi ?_ | refine zf ?_ _)); refine zW ?_ NB155_154.out _; (with_reducible repeat (first | refine zg ?_ _ | refine zi ?_ | refine zf ?_ _)); exact BK155.out) Try.underlying24 rfl (by kernel_rfl) (.tmp .nil)))) rfl ?_
  exact ⟨_, _, _, _, by first | rfl | (simp [zp, zq] <;> rfl) | (simp [*, zp, zq] <;> rfl), by first | exact Kd.zaY _ _ _ _ _ | exact Kd.N_nil _ _ _ _ _ | exact Kd.V_nil _ _ _ _ _ | exact Kd.Q_nil _ _ _ _ _ | exact Kd.S_nil _ _ _ _ _, by first | exact Kd.zaY _ _ _ _ _ | exact Kd.N_nil _ _ _ _ _ | exact Kd.V_nil _ _ _ _ _ | exact Kd.Q_nil _ _ _ _ _ | exact Kd.S_nil _ _ _ _ _, by first | exact Kd.zaY _ _ _ _ _ | exact Kd.N_nil _ _ _ _ _ | exact Kd.V_nil _ _ _ _ _ | exact Kd.Q_nil _ _ _ _ _ | exact Kd.S_nil _ _ _ _ _, by first | exact Kd.zaY _ _ _ _ _ | exact Kd.N_nil _ _ _ _ _ | exact Kd.V_nil _ _ _ _ _ | exact Kd.Q_nil _ _ _ _ _ | exact Kd.S_nil _ _ _ _ _, by repeat (first | (with_reducible first | exact HB.out | apply zj | apply ze | apply zl | refine zm ?_ GE153.out | refine zm ?_ GE154.out | refine zm ?_ GE155.out) | exact HB.out)⟩
end Go.Proofs.Ytlidbaejhmamjaa.PB
namespace Go.Proofs.Ytlidbaejhmamjaa.PB
open Go.RowKit YtlidbaejhmamjaaW.PrintWords YtlidbaejhmamjaaW.PrintLast YtlidbaejhmamjaaW.PrintMore
attribute [local go_sem] zak zam zaw zau zae zad zal zan   -- for this text's walks alone
def zaT.l0 : Nat → Int → List Int → Int → Int → Option (Int × Int)
 | 0, _, _, _, _ => none
 | k + 1, x4, x14, x15, x16 => if x16 < x15 then (if 0 ≤ x16 then (if x16 < (x14.length : Int) then (zaT.l0 k (wrap64 (x4 + (rd x14 x16))) x14 x15 (wrap64 (x16 + 1))) else (none)) else (none)) else (some (x4, 0))
def zaT.f (k : Nat) (l0_0 : List Int) (l0_1 : List Int) : Option (Int × Int) := (zz.f k l0_0 l0_1 (l0_0.length : Int)).bind fun t182 => (if t182 = 0 then (zaT.l0 k 0 l0_0 (l0_0.length : Int) 0) else (some (0, 180)))
set_option maxHeartbeats 8000000 in
set_option maxRecDepth 100000 in
theorem zaT.calls (k : Nat) (A0_0 : Option Addr) (c0_0 : Nat) (l0_0 : List Int) (A0_1 : Option Addr) (c0_1 : Nat) (l0_1 : List Int) (r1 : Int) (r2 : Int) (w : World) (hr0_0 : Kd.C (Kd.int .i64) w A0_0 l0_0.length l0_0) (hc0_0 : l0_0.length ≤ c0_0) (hr0_1 : Kd.C (Kd.int .i64) w A0_1 l0_1.length l0_1) (hc0_1 : l0_1.length ≤ c0_1) (h : zaT.f k l0_0 l0_1 = some (r1, r2)) :
  Calls Try.prog 19 #[.agg #[.slice A0_0 l0_0.length c0_0, .slice A0_1 l0_1.length c0_1]] w fun e w' => e = .returned (.tuple #[.int .i64 r1, .int .i64 r2]) ∧ Below w.heap.size w w' := by
 have hu24 := Try.underlying24
 have HR0_0 := am_ hr0_0
 have HC0_0 := am_ hc0_0
 clear hr0_0 hc0_0
 have HR0_1 := am_ hr0_1
 have HC0_1 := am_ hc0_1
 clear hr0_1 hc0_1
 have HB := am_ (Below.refl w.heap.size w)
 have H : ((zz.f k l0_0 l0_1 (l0_0.length : Int)).bind fun t182 => (if t182 = 0 then (zaT.l0 k 0 l0_0 (l0_0.length : Int) 0) else (some (0, 180)))) = some (r1, r2) := h
 clear h
 replace H := Option.bind_eq_some_iff.mp H
 obtain ⟨t182, A20, H⟩ := H
 replace H : (if t182 = 0 then (zaT.l0 k 0 l0_0 (l0_0.length : Int) 0) else (some (0, 180))) = some (r1, r2) := H
 have A2 := am_ A20
 clear A20
 by_cases c3 : t182 = 0
 ·rw [if_pos c3] at H
  have c3b0 : (t182 == 0) = true := beq_iff_eq.mpr c3
  have c3b1 : (t182 != 0) = false := bne_eq_false_iff_eq.mpr c3
  clear c3
  have H' := am_ H
  clear H
  go_enter Try.func19, Try.ntmps19
  go_wp2_with (first | ((with_reducible refine zk (N := 1) rfl ?_); refine zaq 1 (cs := #[.slice A0_0 l0_0.length c0_0, .slice A0_1 l0_1.length c0_1]) (t := 24) ?_; intro gb181 hg w4 hbox hb; have BK181 := am_ (hbox); have GW181 := am_ ((by rw [hg]; exact (zo bw_) : w.heap.size ≤ gb181)); replace HB := am_ (zb bw_ hb); have GE181 := GW181; clear hb hbox hg; have hcz5_0 : w4.cell? ⟨gb181, 0, none⟩ = some (.slice A0_0 l0_0.length c0_0) := (za BK181.out 0).trans rfl; have hcz5_1 : w4.cell? ⟨gb181, 1, none⟩ = some (.slice A0_1 l0_1.length c0_1) := (za BK181.out 1).trans rfl; have hfz5_0 := zd BK181.out 0; have hfz5_1 := zd BK181.out 1) | ((with_reducible refine zac (f := 17) rfl ?_); refine zaZ (some 11) rfl rfl Try.func17 (by kernel_rfl) rfl #[.agg #[.slice A0_0 l0_0.length c0_0, .slice A0_1 l0_1.length c0_1], .int .i64 (l0_0.length : Int)] rfl (by (try simp only [List.map_toArray, List.map_cons, List.map_nil]); first | done | rfl | (simp only [List.length_drop, List.length_take]; rfl)) ?_; (with_reducible refine (zz.calls k _ _ l0_0 _ _ l0_1 (l0_0.length : Int) t182 _ ?side1 ?side2 ?side3 ?side4 A2.out).mono ?_); (case side1 => repeat (first | exact (Kd.zB HR0_0.out HB.out) | (with_reducible refine Kd.zaG ?_ _) | (with_reducible refine Kd.zaF ?_ _) | (with_reducible refine Kd.zaQ ?_))); (case side2 => exact HC0_0.out); (case side3 => repeat (first | exact (Kd.zB HR0_1.out HB.out) | (with_reducible refine Kd.zaG ?_ _) | (with_reducible refine Kd.zaF ?_ _) | (with_reducible refine Kd.zaQ ?_))); (case side4 => exact HC0_1.out); rintro e w6 ⟨rfl, hb⟩; refine ⟨_, rfl, ?_⟩; replace BK181 := am_ (fr_ BK181.out hb); replace HB := am_ (zb bw_ hb); (try clear hb); (try clear hb2); (try clear hk); (try clear hi); have hcz7_0 : w6.cell? ⟨gb181, 0, none⟩ = some (.slice A0_0 l0_0.length c0_0) := (za BK181.out 0).trans rfl; have hcz7_1 : w6.cell? ⟨gb181, 1, none⟩ = some (.slice A0_1 l0_1.length c0_1) := (za BK181.out 1).trans rfl; have hfz7_0 := zd BK181.out 0; have hfz7_1 := zd BK181.out 1))
  go_loopg [4, 16] k (fun kq v4 v16 w' => ∃ (x4_1 : Int) (x16_1 : Int), v4 = .int .i64 x4_1 ∧ v16 = .int .i64 x16_1 ∧ Aside0 (zaT.l0 kq x4_1 l0_0 (l0_0.length : Int) x16_1 = some (r1, r2)) ∧ Aside0 (kq ≤ k) ∧ Aside0 (w'.heap[gb181]? = some (.cells #[(.slice A0_0 l0_0.length c0_0), (.slice A0_1 l0_1.length c0_1)] 24 (0, 0))) ∧ Aside0 (Below w.heap.size w w'))
  case atStart => exact ⟨(0), (0), (by first | rfl | (simp; done) | (simp [*]; done)), (by first | rfl | (simp; done) | (simp [*]; done)), H', ⟨Nat.le_refl _⟩, ⟨by (with_reducible repeat (first | refine zg ?_ _ | refine zi ?_ | refine zf ?_ _)); exact BK181.out⟩, ⟨by repeat (first | (with_reducible first | exact HB.out | apply zj | apply ze | apply zl | refine zm ?_ GE181.out) | exact HB.out)⟩⟩
  case round =>
   clear H'
   try clear c1
   try clear p2
   try clear c3
   try clear c3b0
   try clear c3b1
   try clear hcz5_0
   try clear hcz5_1
   try clear hcz7_0
   try clear hcz7_1
   try clear hfz5_0
   try clear hfz5_1
   try clear hfz7_0
   try clear hfz7_1
   obtain ⟨x4_1, x16_1, rfl, rfl, HA, HK1, BK181, HB⟩ := hrel
   cases gk with
   | zero => exact absurd HA.out (by simp [zaT.l0])
   | succ k1 =>
    have H := HA.out
    clear HA
    simp only [zaT.l0] at H
    by_cases c8 : x16_1 < (l0_0.length : Int)
    ·rw [if_pos c8] at H
     have c8b0 : decide (x16_1 < (l0_0.length : Int)) = true := decide_eq_true c8
     clear c8
     by_cases c9 : 0 ≤ x16_1
     ·rw [if_pos c9] at H
      have c9b0 : decide (0 ≤ x16_1) = true := decide_eq_true c9
      clear c9
      by_cases c10 : x16_1 < (l0_0.length : Int)
      ·rw [if_pos c10] at H
       have c10b0 : decide (x16_1 < (l0_0.length : Int)) = true := decide_eq_true c10
       clear c10
       have H' := am_ H
       clear H
       have p183 : 0 ≤ (x16_1 : Int) := of_decide_eq_true (by first | (with_reducible assumption) | assumption)
       have q183 : x16_1 < (l0_0.length : Int) := of_decide_eq_true (by first | (with_reducible assumption) | assumption)
       obtain ⟨ad183, e183, hx183_0⟩ := Kd.z8 HR0_0.out x16_1 p183 q183
       cases e183
       replace hx183_0 := (HB.out.cell (World.block_lt_of_cell? w _ hx183_0)).trans hx183_0
       replace p183 := eq_true p183
       replace q183 := eq_true q183
       go_wp2
       go_roundg k1
       case measure => have := HK1.out; omega
       case rel => exact ⟨(wrap64 (x4_1 + (rd l0_0 x16_1))), (wrap64 (x16_1 + 1)), (by first | rfl | (simp; done) | (simp [*]; done)), (by first | rfl | (simp; done) | (simp [*]; done)), H', ⟨by have := HK1.out; omega⟩, ⟨by (with_reducible repeat (first | refine zg ?_ _ | refine zi ?_ | refine zf ?_ _)); exact BK181.out⟩, ⟨by repeat (first | (with_reducible first | exact HB.out | apply zj | apply ze | apply zl | refine zm ?_ GE181.out) | exact HB.out)⟩⟩
      ·rw [if_neg c10] at H
       exact absurd H (by simp)
     ·rw [if_neg c9] at H
      exact absurd H (by simp)
    ·rw [if_neg c8] at H
     have c8b0 : decide (x16_1 < (l0_0.length : Int)) = false := decide_eq_false c8
     clear c8
     simp only [Option.some.injEq, Prod.mk.injEq] at H
     obtain ⟨rfl, rfl⟩ := H
     go_wp2
     go_ret2
     exact ⟨by first | rfl | (simp [zp, zq] <;> rfl) | (simp [*, zp, zq] <;> rfl), by repeat (first | (with_reducible first | exact HB.out | apply zj | apply ze | apply zl | refine zm ?_ GE181.out) | exact HB.out)⟩
 ·rw [if_neg c3] at H
  have c3b0 : (t182 == 0) = false := beq_eq_false_iff_ne.mpr c3
  have c3b1 : (t182 != 0) = true := bne_iff_ne.mpr c3
  simp only [Option.some.injEq, Prod.mk.injEq] at H
  obtain ⟨rfl, rfl⟩ := H
  go_enter Try.func19, Try.ntmps19
  go_wp2_with (first | ((with_reducible refine zk (N := 1) rfl ?_); refine zaq 1 (cs := #[.slice A0_0 l0_0.length c0_0, .slice A0_1 l0_1.length c0_1]) (t := 24) ?_; intro gb181 hg w11 hbox hb; have BK181 := am_ (hbox); have GW181 := am_ ((by rw [hg]; exact (zo bw_) : w.heap.size ≤ gb181)); replace HB := am_ (zb bw_ hb); have GE181 := GW181; clear hb hbox hg; have hcz12_0 : w11.cell? ⟨gb181, 0, none⟩ = some (.slice A0_0 l0_0.length c0_0) := (za BK181.out 0).trans rfl; have hcz12_1 : w11.cell? ⟨gb181, 1, none⟩ = some (.slice A0_1 l0_1.length c0_1) := (za BK181.out 1).trans rfl; have hfz12_0 := zd BK181.out 0; have hfz12_1 := zd BK181.out 1) | ((with_reducible refine zac (f := 17) rfl ?_); refine zaZ (some 11) rfl rfl Try.func17 (by kernel_rfl) rfl #[.agg #[.slice A0_0 l0_0.length c0_0, .slice A0_1 l0_1.length c0_1], .int .i64 (l0_0.length : Int)] rfl (by (try simp only [List.map_toArray, List.map_cons, List.map_nil]); first | done | rfl | (simp only [List.length_drop, List.length_take]; rfl)) ?_; (with_reducible refine (zz.calls k _ _ l0_0 _ _ l0_1 (l0_0.length : Int) t182 _ ?side1 ?side2 ?side3 ?side4 A2.out).mono ?_); (case side1 => repeat (first | exact (Kd.zB HR0_0.out HB.out) | (with_reducible refine Kd.zaG ?_ _) | (with_reducible refine Kd.zaF ?_ _) | (with_reducible refine Kd.zaQ ?_))); (case side2 => exact HC0_0.out); (case side3 => repeat (first | exact (Kd.zB HR0_1.out HB.out) | (with_reducible refine Kd.zaG ?_ _) | (with_reducible refine Kd.zaF ?_ _) | (with_reducible refine Kd.zaQ ?_))); (case side4 => exact HC0_1.out); rintro e w13 ⟨rfl, hb⟩; refine ⟨_, rfl, ?_⟩; replace BK181 := am_ (fr_ BK181.out hb); replace HB := am_ (zb bw_ hb); (try clear hb); (try clear hb2); (try clear hk); (try clear hi)))
  go_ret2
  exact ⟨by first | rfl | (simp [zp, zq] <;> rfl) | (simp [*, zp, zq] <;> rfl), by repeat (first | (with_reducible first | exact HB.out | apply zj | apply ze | apply zl | refine zm ?_ GE181.out) | exact HB.out)⟩
end Go.Proofs.Ytlidbaejhmamjaa.PB
namespace Go.Proofs.Ytlidbaejhmamjaa.PB
open Go.RowKit YtlidbaejhmamjaaW.PrintWords YtlidbaejhmamjaaW.PrintLast YtlidbaejhmamjaaW.PrintMore
attribute [local go_sem] zak zam zaw zau zae zad zal zan   -- for this text's walks alone
mutual
def zE.j0 : Nat → List Int → Option (Int)
 | 0, _ => none
 | k + 1, x0 => if 0 < (x0.length : Int) then (zE.l0 k x0 (rd x0 0) 1) else (none)
def zE.l0 : Nat → List Int → Int → Int → Option (Int)
 | 0, _, _, _ => none
 | k + 1, x0, x3, x4 => if x4 < (x0.length : Int) then (if 0 ≤ x4 then (zE.l0 k x0 (mx x3 (rd x0 x4)) (wrap64 (x4 + 1))) else (none)) else (some x3)
end
def zE.f (k : Nat) (l0 : List Int) : Option (Int) := if (l0.length : Int) < 1 then (zE.j0 k l0) else (zE.j0 k l0)
set_option maxHeartbeats 8000000 in
set_option maxRecDepth 100000 in
theorem zE.calls (k : Nat) (A0 : Option Addr) (c0 : Nat) (l0 : List Int) (r : Int) (w : World) (hr0 : Kd.C (Kd.int .i64) w A0 l0.length l0) (hc0 : l0.length ≤ c0) (h : zE.f k l0 = some r) :
  Calls Try.prog 41 #[.slice A0 l0.length c0] w fun e w' => e = .returned (.int .i64 r) ∧ Below w.heap.size w w' := by
 have HR0 := am_ hr0
 have HC0 := am_ hc0
 clear hr0 hc0
 have HB := am_ (Below.refl w.heap.size w)
 have H : (if (l0.length : Int) < 1 then (zE.j0 k l0) else (zE.j0 k l0)) = some r := h
 clear h
 have HC2 := am_ H
 clear H
 go_enter Try.func41, Try.ntmps41
 go_upto_if 7 with (fail)
 go_cut [] (fun wc => ∃ (kq : Nat), Aside0 (zE.j0 kq l0 = some r) ∧ Aside0 (kq ≤ k) ∧ Aside0 (Below w.heap.size w wc))
 case first =>
  have H := HC2.out
  clear HC2
  by_cases c3 : (l0.length : Int) < 1
  ·rw [if_pos c3] at H
   exfalso
   cases k with
   | zero => exact absurd H (by simp [zE.j0])
   | succ k => simp only [zE.j0] at H; rw [if_neg (by omega)] at H; exact absurd H (by simp)
  ·rw [if_neg c3] at H
   have c3b0 : decide ((l0.length : Int) < 1) = false := decide_eq_false c3
   have c3b1 : decide (l0.length < 1) = false := decide_eq_false (by omega)
   clear c3
   (first | rw [c3b0] | (simp only [zaA, zaR]; rw [c3b0]) | skip)
   have H' := am_ H
   clear H
   go_wp2
   go_meet
   case rel => exact ⟨_, H', ⟨by first | omega | exact Nat.le_refl _⟩, ⟨by repeat (first | (with_reducible first | exact HB.out | apply zj | apply ze | apply zl) | exact HB.out)⟩⟩
 case rest =>
  clear HC2
  try clear p2
  try clear c3
  try clear c3b0
  try clear c3b1
  obtain ⟨kq, HA, HJ1, HB⟩ := hcut
  cases kq with
  | zero => exact absurd HA.out (by simp [zE.j0])
  | succ kj1 =>
   have H := HA.out
   clear HA
   simp only [zE.j0] at H
   by_cases c4 : 0 < (l0.length : Int)
   ·rw [if_pos c4] at H
    have c4b0 : decide (0 < (l0.length : Int)) = true := decide_eq_true c4
    have c4b1 : decide (0 < l0.length) = true := decide_eq_true (by omega)
    clear c4
    have H' := am_ H
    clear H
    have p184 : 0 ≤ (0 : Int) := (by omega)
    have q184 : 0 < (l0.length : Int) := of_decide_eq_true (by first | (with_reducible assumption) | assumption)
    obtain ⟨ad184, e184, hx184_0⟩ := Kd.z8 HR0.out 0 p184 q184
    cases e184
    have qi184 : (0 < l0.length) = True := eq_true (by omega)
    (try rw [show ((0 : Int)).toNat = 0 from rfl] at hx184_0)
    (try rw [Addr.add_zero'] at hx184_0)
    replace hx184_0 := (HB.out.cell (World.block_lt_of_cell? w _ hx184_0)).trans hx184_0
    replace p184 := eq_true p184
    replace q184 := eq_true q184
    go_wp2
    go_loopg [3, 4] kj1 (fun kq v3 v4 w' => ∃ (x3_2 : Int) (x4_2 : Int), v3 = .int .i64 x3_2 ∧ v4 = .int .i64 x4_2 ∧ Aside0 (zE.l0 kq l0 x3_2 x4_2 = some r) ∧ Aside0 (kq ≤ kj1) ∧ Aside0 (Below w.heap.size w w'))
    case atStart => exact ⟨(rd l0 0), (1), (by first | rfl | (simp; done) | (simp [*]; done)), (by first | rfl | (simp; done) | (simp [*]; done)), H', ⟨Nat.le_refl _⟩, ⟨by repeat (first | (with_reducible first | exact HB.out | apply zj | apply ze | apply zl) | exact HB.out)⟩⟩
    case round =>
     clear H'
     try clear p1
     try clear q1
     try clear hx1
     try clear qi1
     try clear p2
     try clear c3
     try clear c3b0
     try clear c3b1
     try clear c4
     try clear c4b0
     try clear c4b1
     try clear hx184_0
     try clear p184
     try clear p2
     try clear q184
     obtain ⟨x3_2, x4_2, rfl, rfl, HA, HK2, HB⟩ := hrel
     cases gk with
     | zero => exact absurd HA.out (by simp [zE.l0])
     | succ k2 =>
      have H := HA.out
      clear HA
      simp only [zE.l0] at H
      by_cases c5 : x4_2 < (l0.length : Int)
      ·rw [if_pos c5] at H
       have c5b0 : decide (x4_2 < (l0.length : Int)) = true := decide_eq_true c5
       clear c5
       by_cases c6 : 0 ≤ x4_2
       ·rw [if_pos c6] at H
        have c6b0 : decide (0 ≤ x4_2) = true := decide_eq_true c6
        clear c6
        obtain ⟨ji7, hji7⟩ : ∃ j_ : Int, (mx x3_2 (rd l0 x4_2)) = j_ := ⟨_, rfl⟩
        replace H : (zE.l0 k2 l0 ji7 (wrap64 (x4_2 + 1))) = some r := by first | (rw [hji7] at H; exact H) | (simp only [hji7] at H ⊢; exact H)
        have hji7_ : (if x3_2 < (rd l0 x4_2) then (rd l0 x4_2) else x3_2) = ji7 := hji7
        have H' := am_ H
        clear H
        have p185 : 0 ≤ (x4_2 : Int) := of_decide_eq_true (by first | (with_reducible assumption) | assumption)
        have q185 : x4_2 < (l0.length : Int) := of_decide_eq_true (by first | (with_reducible assumption) | assumption)
        obtain ⟨ad185, e185, hx185_0⟩ := Kd.z8 HR0.out x4_2 p185 q185
        obtain rfl : ad184 = ad185 := (by injection e185)
        replace hx185_0 := (HB.out.cell (World.block_lt_of_cell? w _ hx185_0)).trans hx185_0
        replace p185 := eq_true p185
        replace q185 := eq_true q185
        go_wp2
        go_roundg k2
        case measure => have := HJ1.out; have := HK2.out; omega
        case rel => exact ⟨(ji7), (wrap64 (x4_2 + 1)), (by first | rfl | (simp; done) | (simp only [← hji7] <;> (first | rfl | simp)) | (simp [*]; done)), (by first | rfl | (simp; done) | (simp [*]; done)), H', ⟨by have := HJ1.out; have := HK2.out; omega⟩, ⟨by repeat (first | (with_reducible first | exact HB.out | apply zj | apply ze | apply zl) | exact HB.out)⟩⟩
       ·rw [if_neg c6] at H
        exact absurd H (by simp)
      ·rw [if_neg c5] at H
       have c5b0 : decide (x4_2 < (l0.length : Int)) = false := decide_eq_false c5
       clear c5
       obtain rfl := Option.some.inj H
       go_wp2
       go_ret
       exact ⟨by first | rfl | (simp [zp, zq] <;> rfl) | (simp [*, zp, zq] <;> rfl), by repeat (first | (with_reducible first | exact HB.out | apply zj | apply ze | apply zl) | exact HB.out)⟩
   ·rw [if_neg c4] at H
    exact absurd H (by simp)
end Go.Proofs.Ytlidbaejhmamjaa.PB
namespace Go.Proofs.Ytlidbaejhmamjaa.PB
open Go.RowKit YtlidbaejhmamjaaW.PrintWords YtlidbaejhmamjaaW.PrintLast YtlidbaejhmamjaaW.PrintMore
attribute [local go_sem] zak zam zaw zau zae zad zal zan   -- for this text's walks alone
mutual
def zK.l0 : Nat → List Int → Int → List Int → Int → Int → List Int → List Int → Option (List Int × Int)
 | 0, _, _, _, _, _, _, _ => none
 | k + 1, x1, x2, x25, x26, x27, x187000, x187001 => if x27 < x26 then (if 0 ≤ x27 then (if x27 < (x25.length : Int) then (if (rd x25 x27) < (-1) then (some (([] : List Int), 1)) else (if (rd x25 x27) > 1 then (some (([] : List Int), 1)) else (zK.l0 k x1 x2 x25 x26 (wrap64 (x27 + 1)) x187000 x187001))) else (none)) else (none)) else (if x2 < 0 then (zK.j1 k x1 x2 true x187000 x187001) else (if x2 > 8 then (zK.j1 k x1 x2 true x187000 x187001) else (if (x187000.length : Int) > 0 then ((zE.f k x187000).bind fun t189 => (zK.j1 k x1 x2 (decide (x2 < t189)) x187000 x187001)) else (zK.j1 k x1 x2 false x187000 x187001))))
def zK.j1 : Nat → List Int → Int → Bool → List Int → List Int → Option (List Int × Int)
 | 0, _, _, _, _, _ => none
 | k + 1, x1, x2, x56, x187000, x187001 => if x56 = true then (some (([] : List Int), 1)) else (if 0 ≤ (x1.length : Int) then (if ((x1.length : Int) : Int).toNat ≤ 35184372088832 then ((zM.f k x187000 x187001).bind fun t193 => (zK.l1 k x1 x2 (List.replicate ((x1.length : Int) : Int).toNat 0) t193 (t193.length : Int) 0)) else (none)) else (none))
def zK.l1 : Nat → List Int → Int → List Int → List (S90) → Int → Int → Option (List Int × Int)
 | 0, _, _, _, _, _, _ => none
 | k + 1, x1, x2, x10, x61, x62, x63 => if x63 < x62 then (if 0 ≤ x63 then (if x63 < (x61.length : Int) then (if 0 ≤ x2 then (if x63 < (x1.length : Int) then (if 0 ≤ (wrap64 (x2 - ((zt x61 x63).f0))) then (if x63 < (x10.length : Int) then (zK.l1 k x1 x2 (x10.set (x63 : Int).toNat (wrap64 ((shl .i64 (-1) x2) + (shl .i64 (wrap64 ((wrap64 ((wrap64 (2 * ((zt x61 x63).f1))) + 1)) + (rd x1 x63))) (wrap64 (x2 - ((zt x61 x63).f0))))))) x61 x62 (wrap64 (x63 + 1))) else (none)) else (none)) else (none)) else (none)) else (none)) else (none)) else (some (x10, 0))
end
def zK.f (k : Nat) (l0_0 : List Int) (l0_1 : List Int) (l1 : List Int) (a2 : Int) : Option (List Int × Int) := (zz.f k l0_0 l0_1 (l0_0.length : Int)).bind fun t187 => (if t187 = 0 then (if (l1.length : Int) = (l0_0.length : Int) then (zK.l0 k l1 a2 l1 (l1.length : Int) 0 l0_0 l0_1) else (some (([] : List Int), 63))) else (some (([] : List Int), 180)))
def zK.T17 : Bool × List (List Nat × List Nat) := (true, [([], []), ([], []), ([], []), ([2], [2]), ([], []), ([4], [4]), ([5], [5]), ([6], [6]), ([], []), ([], []), ([8, 9], [8, 9]), ([10], [10]), ([7, 11], [7, 11]), ([], []), ([], []), ([14], [14]), ([13, 15], [13, 15]), ([12, 16], [12, 16]), ([3, 17], [3, 17]), ([0, 1, 0, 1, 2, 3, 4, 5, 6, 7, 8, 9, 10, 11, 12, 13, 14, 15, 16, 17, 18], [0, 1]), ([19, 18, 0, 1, 2, 3, 4, 5, 6, 7, 8, 9, 10, 11, 12, 13, 14, 15, 16, 17, 18], [18, 19])])
def zK.B17 : List Nat := [0, 0, 0, 4, 0, 16, 48, 112, 0, 0, 768, 1792, 4080, 0, 0, 16384, 57344, 131056, 262140, 524287, 1048575]
theorem zK.tab17 : rtab .any (opsOf Try.f21 17) = zK.T17 := by kernel_rfl
theorem zK.bits17 : zat zK.T17.2 zK.B17 = true := by kernel_rfl
set_option maxHeartbeats 8000000 in
set_option maxRecDepth 100000 in
theorem zK.calls (k : Nat) (A0_0 : Option Addr) (c0_0 : Nat) (l0_0 : List Int) (A0_1 : Option Addr) (c0_1 : Nat) (l0_1 : List Int) (A1 : Option Addr) (c1 : Nat) (l1 : List Int) (a2 : Int) (r1 : List Int) (r2 : Int) (w : World) (hr0_0 : Kd.C (Kd.int .i64) w A0_0 l0_0.length l0_0) (hc0_0 : l0_0.length ≤ c0_0) (hr0_1 : Kd.C (Kd.int .i64) w A0_1 l0_1.length l0_1) (hc0_1 : l0_1.length ≤ c0_1) (hr1 : Kd.C (Kd.int .i64) w A1 l1.length l1) (hc1 : l1.length ≤ c1) (h : zK.f k l0_0 l0_1 l1 a2 = some (r1, r2)) :
  Calls Try.prog 21 #[.agg #[.slice A0_0 l0_0.length c0_0, .slice A0_1 l0_1.length c0_1], .slice A1 l1.length c1, .int .i64 a2] w fun e w' => ∃ v0_ : Value, e = .returned (.tuple #[v0_, .int .i64 r2]) ∧ Kd.R (Kd.int .i64) 3 w' w.heap.size (fun _ => True) v0_ r1 ∧ Below w.heap.size w w' := by
 have hu24 := Try.underlying24
 have hu90 := Try.underlying90
 have HR0_0 := am_ hr0_0
 have HC0_0 := am_ hc0_0
 clear hr0_0 hc0_0
 have HR0_1 := am_ hr0_1
 have HC0_1 := am_ hc0_1
 clear hr0_1 hc0_1
 have HR1 := am_ hr1
 have HC1 := am_ hc1
 clear hr1 hc1
 have HB := am_ (Below.refl w.heap.size w)
 have H : ((zz.f k l0_0 l0_1 (l0_0.length : Int)).bind fun t187 => (if t187 = 0 then (if (l1.length : Int) = (l0_0.length : Int) then (zK.l0 k l1 a2 l1 (l1.length : Int) 0 l0_0 l0_1) else (some (([] : List Int), 63))) else (some (([] : List Int), 180)))) = some (r1, r2) := h
 clear h
 replace H := Option.bind_eq_some_iff.mp H
 obtain ⟨t187, A40, H⟩ := H
 replace H : (if t187 = 0 then (if (l1.length : Int) = (l0_0.length : Int) then (zK.l0 k l1 a2 l1 (l1.length : Int) 0 l0_0 l0_1) else (some (([] : List Int), 63))) else (some (([] : List Int), 180))) = some (r1, r2) := H
 have A4 := am_ A40
 clear A40
 by_cases c5 : t187 = 0
 ·rw [if_pos c5] at H
  have c5b0 : (t187 == 0) = true := beq_iff_eq.mpr c5
  have c5b1 : (t187 != 0) = false := bne_eq_false_iff_eq.mpr c5
  clear c5
  by_cases c6 : (l1.length : Int) = (l0_0.length : Int)
  ·rw [if_pos c6] at H
   have c6b0 : ((l1.length : Int) == (l0_0.length : Int)) = true := beq_iff_eq.mpr c6
   have c6b1 : ((l1.length : Int) != (l0_0.length : Int)) = false := bne_eq_false_iff_eq.mpr c6
   have c6b2 : (l1.length == l0_0.length) = true := by first | simpa using c6 | (simp at c6 ⊢; omega)
   clear c6
   have H' := am_ H
   clear H
   go_enter Try.func21, Try.ntmps21
   go_wp2_with (first | ((with_reducible refine zk (N := 3) rfl ?_); (try (refine zZ (by rfl) ?_; dsimp only)); refine zaq 3 (cs := #[.slice A0_0 l0_0.length c0_0, .slice A0_1 l0_1.length c0_1]) (t := 24) ?_; intro gb186 hg w7 hbox hb; have BK186 := am_ (hbox); have GW186 := am_ ((by rw [hg]; exact (zo bw_) : w.heap.size ≤ gb186)); replace HB := am_ (zb bw_ hb); have GE186 := GW186; clear hb hbox hg; have hcz8_0 : w7.cell? ⟨gb186, 0, none⟩ = some (.slice A0_0 l0_0.length c0_0) := (za BK186.out 0).trans rfl; have hcz8_1 : w7.cell? ⟨gb186, 1, none⟩ = some (.slice A0_1 l0_1.length c0_1) := (za BK186.out 1).trans rfl; have hfz8_0 := zd BK186.out 0; have hfz8_1 := zd BK186.out 1) | ((with_reducible refine zac (f := 17) rfl ?_); refine zaZ (some 17) rfl rfl Try.func17 (by kernel_rfl) rfl #[.agg #[.slice A0_0 l0_0.length c0_0, .slice A0_1 l0_1.length c0_1], .int .i64 (l0_0.length : Int)] rfl (by (try simp only [List.map_toArray, List.map_cons, List.map_nil]); first | done | rfl | (simp only [List.length_drop, List.length_take]; rfl)) ?_; (with_reducible refine (zz.calls k _ _ l0_0 _ _ l0_1 (l0_0.length : Int) t187 _ ?side1 ?side2 ?side3 ?side4 A4.out).mono ?_); (case side1 => repeat (first | exact (Kd.zB HR0_0.out HB.out) | (with_reducible refine Kd.zaG ?_ _) | (with_reducible refine Kd.zaF ?_ _) | (with_reducible refine Kd.zaQ ?_))); (case side2 => exact HC0_0.out); (case side3 => repeat (first | exact (Kd.zB HR0_1.out HB.out) | (with_reducible refine Kd.zaG ?_ _) | (with_reducible refine Kd.zaF ?_ _) | (with_reducible refine Kd.zaQ ?_))); (case side4 => exact HC0_1.out); rintro e w9 ⟨rfl, hb⟩; refine ⟨_, rfl, ?_⟩; replace BK186 := am_ (fr_ BK186.out hb); replace HB := am_ (zb bw_ hb); (try clear hb); (try clear hb2); (try clear hk); (try clear hi); have hcz10_0 : w9.cell? ⟨gb186, 0, none⟩ = some (.slice A0_0 l0_0.length c0_0) := (za BK186.out 0).trans rfl; have hcz10_1 : w9.cell? ⟨gb186, 1, none⟩ = some (.slice A0_1 l0_1.length c0_1) := (za BK186.out 1).trans rfl; have hfz10_0 := zd BK186.out 0; have hfz10_1 := zd BK186.out 1))
   go_loopg [27] k (fun kq v27 w' => ∃ (x27_1 : Int), v27 = .int .i64 x27_1 ∧ Aside0 (zK.l0 kq l1 a2 l1 (l1.length : Int) x27_1 l0_0 l0_1 = some (r1, r2)) ∧ Aside0 (kq ≤ k) ∧ Aside0 (w'.heap[gb186]? = some (.cells #[(.slice A0_0 l0_0.length c0_0), (.slice A0_1 l0_1.length c0_1)] 24 (0, 0))) ∧ Aside0 (Below w.heap.size w w'))
   case atStart => exact ⟨(0), (by first | rfl | (simp; done) | (simp [*]; done)), H', ⟨Nat.le_refl _⟩, ⟨by (with_reducible repeat (first | refine zg ?_ _ | refine zi ?_ | refine zf ?_ _)); exact BK186.out⟩, ⟨by repeat (first | (with_reducible first | exact HB.out | apply zj | apply ze | apply zl | refine zm ?_ GE186.out) | exact HB.out)⟩⟩
   case round =>
    clear H'
    try clear c1
    try clear c2
    try clear p2
    try clear c5
    try clear c5b0
    try clear c5b1
    try clear c6
    try clear c6b0
    try clear c6b1
    try clear c6b2
    try clear hcz10_0
    try clear hcz10_1
    try clear hcz8_0
    try clear hcz8_1
    try clear hfz10_0
    try clear hfz10_1
    try clear hfz8_0
    try clear hfz8_1
    obtain ⟨x27_1, rfl, HA, HK1, BK186, HB⟩ := hrel
    cases gk with
    | zero => exact absurd HA.out (by simp [zK.l0])
    | succ k1 =>
     have H := HA.out
     clear HA
     simp only [zK.l0] at H
     by_cases c11 : x27_1 < (l1.length : Int)
     ·rw [if_pos c11] at H
      have c11b0 : decide (x27_1 < (l1.length : Int)) = true := decide_eq_true c11
      clear c11
      by_cases c12 : 0 ≤ x27_1
      ·rw [if_pos c12] at H
       have c12b0 : decide (0 ≤ x27_1) = true := decide_eq_true c12
       clear c12
       by_cases c13 : x27_1 < (l1.length : Int)
       ·rw [if_pos c13] at H
        have c13b0 : decide (x27_1 < (l1.length : Int)) = true := decide_eq_true c13
        clear c13
        by_cases c14 : (rd l1 x27_1) < (-1)
        ·rw [if_pos c14] at H
         have c14b0 : decide ((rd l1 x27_1) < (-1)) = true := decide_eq_true c14
         clear c14
         simp only [Option.some.injEq, Prod.mk.injEq] at H
         obtain ⟨rfl, rfl⟩ := H
         have p188 : 0 ≤ (x27_1 : Int) := of_decide_eq_true (by first | (with_reducible assumption) | assumption)
         have q188 : x27_1 < (l1.length : Int) := of_decide_eq_true (by first | (with_reducible assumption) | assumption)
         obtain ⟨ad188, e188, hx188_0⟩ := Kd.z8 HR1.out x27_1 p188 q188
         cases e188
         replace hx188_0 := (HB.out.cell (World.block_lt_of_cell? w _ hx188_0)).trans hx188_0
         replace p188 := eq_true p188
         replace q188 := eq_true q188
         go_wp2
         go_ret2
         exact ⟨_, by first | rfl | (simp [zp, zq] <;> rfl) | (simp [*, zp, zq] <;> rfl), by first | exact Kd.zaY _ _ _ _ _ | exact Kd.N_nil _ _ _ _ _ | exact Kd.V_nil _ _ _ _ _ | exact Kd.Q_nil _ _ _ _ _ | exact Kd.S_nil _ _ _ _ _, by repeat (first | (with_reducible first | exact HB.out | apply zj | apply ze | apply zl | refine zm ?_ GE186.out) | exact HB.out)⟩
        ·rw [if_neg c14] at H
         have c14b0 : decide ((rd l1 x27_1) < (-1)) = false := decide_eq_false c14
         clear c14
         by_cases c15 : (rd l1 x27_1) > 1
         ·rw [if_pos c15] at H
          have c15b0 : decide (1 < (rd l1 x27_1)) = true := decide_eq_true c15
          clear c15
          simp only [Option.some.injEq, Prod.mk.injEq] at H
          obtain ⟨rfl, rfl⟩ := H
          have p188 : 0 ≤ (x27_1 : Int) := of_decide_eq_true (by first | (with_reducible assumption) | assumption)
          have q188 : x27_1 < (l1.length : Int) := of_decide_eq_true (by first | (with_reducible assumption) | assumption)
          obtain ⟨ad188, e188, hx188_0⟩ := Kd.z8 HR1.out x27_1 p188 q188
          cases e188
          replace hx188_0 := (HB.out.cell (World.block_lt_of_cell? w _ hx188_0)).trans hx188_0
          replace p188 := eq_true p188
          replace q188 := eq_true q188
          go_wp2
          go_ret2
          exact ⟨_, by first | rfl | (simp [zp, zq] <;> rfl) | (simp [*, zp, zq] <;> rfl), by first | exact Kd.zaY _ _ _ _ _ | exact Kd.N_nil _ _ _ _ _ | exact Kd.V_nil _ _ _ _ _ | exact Kd.Q_nil _ _ _ _ _ | exact Kd.S_nil _ _ _ _ _, by repeat (first | (with_reducible first | exact HB.out | apply zj | apply ze | apply zl | refine zm ?_ GE186.out) | exact HB.out)⟩
         ·rw [if_neg c15] at H
          have c15b0 : decide (1 < (rd l1 x27_1)) = false := decide_eq_false c15
          clear c15
          have H' := am_ H
          clear H
          have p188 : 0 ≤ (x27_1 : Int) := of_decide_eq_true (by first | (with_reducible assumption) | assumption)
          have q188 : x27_1 < (l1.length : Int) := of_decide_eq_true (by first | (with_reducible assumption) | assumption)
          obtain ⟨ad188, e188, hx188_0⟩ := Kd.z8 HR1.out x27_1 p188 q188
          cases e188
          replace hx188_0 := (HB.out.cell (World.block_lt_of_cell? w _ hx188_0)).trans hx188_0
          replace p188 := eq_true p188
          replace q188 := eq_true q188
          go_wp2
          go_roundg k1
          case measure => have := HK1.out; omega
          case rel => exact ⟨(wrap64 (x27_1 + 1)), (by first | rfl | (simp; done) | (simp [*]; done)), H', ⟨by have := HK1.out; omega⟩, ⟨by (with_reducible repeat (first | refine zg ?_ _ | refine zi ?_ | refine zf ?_ _)); exact BK186.out⟩, ⟨by repeat (first | (with_reducible first | exact HB.out | apply zj | apply ze | apply zl | refine zm ?_ GE186.out) | exact HB.out)⟩⟩
       ·rw [if_neg c13] at H
        exact absurd H (by simp)
      ·rw [if_neg c12] at H
       exact absurd H (by simp)
     ·rw [if_neg c11] at H
      have c11b0 : decide (x27_1 < (l1.length : Int)) = false := decide_eq_false c11
      clear c11
      have HC16 := am_ H
      clear H
      go_upto_region 11 with (fail)
      go_cut [56] (fun v56 wc => ∃ (kq : Nat) (x56_15 : Bool), v56 = .bool x56_15 ∧ Aside0 (zK.j1 kq l1 a2 x56_15 l0_0 l0_1 = some (r1, r2)) ∧ Aside0 (kq ≤ k1) ∧ Aside0 (wc.heap[gb186]? = some (.cells #[(.slice A0_0 l0_0.length c0_0), (.slice A0_1 l0_1.length c0_1)] 24 (0, 0))) ∧ Aside0 (Below w.heap.size w wc))
      case first =>
       have H := HC16.out
       clear HC16
       by_cases c17 : a2 < 0
       ·rw [if_pos c17] at H
        have c17b0 : decide (a2 < 0) = true := decide_eq_true c17
        clear c17
        (first | rw [c17b0] | (simp only [zaA, zaR]; rw [c17b0]) | skip)
        have H' := am_ H
        clear H
        go_wp2
        go_meet
        case rel => exact ⟨_, (true), (by first | rfl | (simp; done) | (simp [*]; done)), H', ⟨by have := HK1.out; first | omega | exact Nat.le_refl _⟩, ⟨by (with_reducible repeat (first | refine zg ?_ _ | refine zi ?_ | refine zf ?_ _)); exact BK186.out⟩, ⟨by repeat (first | (with_reducible first | exact HB.out | apply zj | apply ze | apply zl | refine zm ?_ GE186.out) | exact HB.out)⟩⟩
       ·rw [if_neg c17] at H
        have c17b0 : decide (a2 < 0) = false := decide_eq_false c17
        clear c17
        (first | rw [c17b0] | (simp only [zaA, zaR]; rw [c17b0]) | skip)
        by_cases c18 : a2 > 8
        ·rw [if_pos c18] at H
         have c18b0 : decide (8 < a2) = true := decide_eq_true c18
         clear c18
         have H' := am_ H
         clear H
         go_wp2
         go_meet
         case rel => exact ⟨_, (true), (by first | rfl | (simp; done) | (simp [*]; done)), H', ⟨by have := HK1.out; first | omega | exact Nat.le_refl _⟩, ⟨by (with_reducible repeat (first | refine zg ?_ _ | refine zi ?_ | refine zf ?_ _)); exact BK186.out⟩, ⟨by repeat (first | (with_reducible first | exact HB.out | apply zj | apply ze | apply zl | refine zm ?_ GE186.out) | exact HB.out)⟩⟩
        ·rw [if_neg c18] at H
         have c18b0 : decide (8 < a2) = false := decide_eq_false c18
         clear c18
         by_cases c19 : (l0_0.length : Int) > 0
         ·rw [if_pos c19] at H
          have c19b0 : decide (0 < (l0_0.length : Int)) = true := decide_eq_true c19
          have c19b1 : decide (0 < l0_0.length) = true := decide_eq_true (by omega)
          clear c19
          replace H := Option.bind_eq_some_iff.mp H
          obtain ⟨t189, A200, H⟩ := H
          replace H : (zK.j1 k1 l1 a2 (decide (a2 < t189)) l0_0 l0_1) = some (r1, r2) := H
          have A20 := am_ A200
          clear A200
          have H' := am_ H
          clear H
          have hcz21_0 : wr.cell? ⟨gb186, 0, none⟩ = some (.slice A0_0 l0_0.length c0_0) := (za BK186.out 0).trans rfl
          have hcz21_1 : wr.cell? ⟨gb186, 1, none⟩ = some (.slice A0_1 l0_1.length c0_1) := (za BK186.out 1).trans rfl
          have hfz21_0 := zd BK186.out 0
          have hfz21_1 := zd BK186.out 1
          go_wp2_with (first | (go_at_call 41; (with_reducible refine (zE.calls k1 _ _ l0_0 t189 _ ?side1 ?side2 A20.out).mono ?_); (case side1 => repeat (first | exact (Kd.zB HR0_0.out HB.out) | (with_reducible refine Kd.zaG ?_ _) | (with_reducible refine Kd.zaF ?_ _) | (with_reducible refine Kd.zaQ ?_))); (case side2 => exact HC0_0.out); rintro e w22 ⟨rfl, hb⟩; replace BK186 := am_ (fr_ BK186.out hb); replace HB := am_ (zb bw_ hb); (try clear hb); (try clear hb2); (try clear hk); (try clear hi)))
          go_meet
          case rel => exact ⟨_, (decide (a2 < t189)), (by first | rfl | (simp; done) | (simp [*]; done)), H', ⟨by have := HK1.out; first | omega | exact Nat.le_refl _⟩, ⟨by (with_reducible repeat (first | refine zg ?_ _ | refine zi ?_ | refine zf ?_ _)); exact BK186.out⟩, ⟨by repeat (first | (with_reducible first | exact HB.out | apply zj | apply ze | apply zl | refine zm ?_ GE186.out) | exact HB.out)⟩⟩
         ·rw [if_neg c19] at H
          have c19b0 : decide (0 < (l0_0.length : Int)) = false := decide_eq_false c19
          have c19b1 : decide (0 < l0_0.length) = false := decide_eq_false (by omega)
          clear c19
          have H' := am_ H
          clear H
          have hcz23_0 : wr.cell? ⟨gb186, 0, none⟩ = some (.slice A0_0 l0_0.length c0_0) := (za BK186.out 0).trans rfl
          have hcz23_1 : wr.cell? ⟨gb186, 1, none⟩ = some (.slice A0_1 l0_1.length c0_1) := (za BK186.out 1).trans rfl
          have hfz23_0 := zd BK186.out 0
          have hfz23_1 := zd BK186.out 1
          go_wp2
          go_meet
          case rel => exact ⟨_, (false), (by first | rfl | (simp; done) | (simp [*]; done)), H', ⟨by have := HK1.out; first | omega | exact Nat.le_refl _⟩, ⟨by (with_reducible repeat (first | refine zg ?_ _ | refine zi ?_ | refine zf ?_ _)); exact BK186.out⟩, ⟨by repeat (first | (with_reducible first | exact HB.out | apply zj | apply ze | apply zl | refine zm ?_ GE186.out) | exact HB.out)⟩⟩
      case rest =>
       clear HC16
       try clear c1
       try clear p1
       try clear q1
       try clear hx1
       try clear c2
       try clear p2
       try clear c5
       try clear c5b0
       try clear c5b1
       try clear c6
       try clear c6b0
       try clear c6b1
       try clear c6b2
       try clear p6
       try clear c11
       try clear c11b0
       try clear c12
       try clear c12b0
       try clear c13
       try clear c13b0
       try clear c14
       try clear c14b0
       try clear c15
       try clear c15b0
       try clear c17
       try clear c17b0
       try clear c18
       try clear c18b0
       try clear p18
       try clear q18
       try clear hx18
       try clear c19
       try clear c19b0
       try clear c19b1
       try clear c21
       try clear hcz10_0
       try clear hcz10_1
       try clear hcz21_0
       try clear hcz21_1
       try clear hcz23_0
       try clear hcz23_1
       try clear hcz8_0
       try clear hcz8_1
       try clear hfz10_0
       try clear hfz10_1
       try clear hfz21_0
       try clear hfz21_1
       try clear hfz23_0
       try clear hfz23_1
       try clear hfz8_0
       try clear hfz8_1
       try clear hx188_0
       try clear p188
       try clear p2
       try clear q188
       obtain ⟨kq, x56_15, rfl, HA, HJ15, BK186, HB⟩ := hcut
       cases kq with
       | zero => exact absurd HA.out (by simp [zK.j1])
       | succ kj15 =>
        have H := HA.out
        clear HA
        simp only [zK.j1] at H
        by_cases c24 : x56_15 = true
        ·subst c24
         have H1 : (some (([] : List Int), 1)) = some (r1, r2) := by rw [if_pos rfl] at H; exact H
         clear H
         have H := H1
         clear H1
         simp only [Option.some.injEq, Prod.mk.injEq] at H
         obtain ⟨rfl, rfl⟩ := H
         go_wp2
         go_ret2
         exact ⟨_, by first | rfl | (simp [zp, zq] <;> rfl) | (simp [*, zp, zq] <;> rfl), by first | exact Kd.zaY _ _ _ _ _ | exact Kd.N_nil _ _ _ _ _ | exact Kd.V_nil _ _ _ _ _ | exact Kd.Q_nil _ _ _ _ _ | exact Kd.S_nil _ _ _ _ _, by repeat (first | (with_reducible first | exact HB.out | apply zj | apply ze | apply zl | refine zm ?_ GE186.out) | exact HB.out)⟩
        ·replace c24 := Bool.eq_false_iff.mpr c24
         subst c24
         have H1 : (if 0 ≤ (l1.length : Int) then (if ((l1.length : Int) : Int).toNat ≤ 35184372088832 then ((zM.f kj15 l0_0 l0_1).bind fun t193 => (zK.l1 kj15 l1 a2 (List.replicate ((l1.length : Int) : Int).toNat 0) t193 (t193.length : Int) 0)) else (none)) else (none)) = some (r1, r2) := by rw [if_neg (show ¬ (false = true) by decide)] at H; exact H
         clear H
         have H := H1
         clear H1
         by_cases c25 : 0 ≤ (l1.length : Int)
         ·rw [if_pos c25] at H
          have c25b0 := eq_true c25
          have c25b1 : decide (0 ≤ (l1.length : Int)) = true := decide_eq_true c25
          clear c25
          by_cases c26 : ((l1.length : Int) : Int).toNat ≤ 35184372088832
          ·rw [if_pos c26] at H
           have c26b0 := eq_true c26
           have c26b1 : decide (((l1.length : Int) : Int).toNat ≤ 35184372088832) = true := decide_eq_true c26
           clear c26
           obtain ⟨y190, hy190⟩ : ∃ y_ : List Int, y_ = (List.replicate ((l1.length : Int) : Int).toNat 0) := ⟨_, rfl⟩
           replace H : ((zM.f kj15 l0_0 l0_1).bind fun t193 => (zK.l1 kj15 l1 a2 y190 t193 (t193.length : Int) 0)) = some (r1, r2) := by first | (rw [hy190]; with_reducible exact H) | (have H2_ := (Option.bind_some _ _).symm.trans H; rw [hy190]; with_reducible exact H2_) | (have H2_ := (Option.bind_some _ _).symm.trans H; with_reducible exact H2_) | with_reducible exact H | (rw [hy190]; exact H) | exact H
           have Ny190 := am_ hy190
           clear hy190
           replace H := Option.bind_eq_some_iff.mp H
           obtain ⟨t193, A270, H⟩ := H
           replace H : (zK.l1 kj15 l1 a2 y190 t193 (t193.length : Int) 0) = some (r1, r2) := H
           have A27 := am_ A270
           clear A270
           have H' := am_ H
           clear H
           go_wp2_with (first | ((with_reducible refine zk (N := 59) rfl ?_); (try (refine zZ (by rfl) ?_; dsimp only)); refine Kd.R_make (Kd.int .i64) _ 3 rfl (N := 59) rfl 22 _ _ rfl (l1.length : Int) rfl rfl Try.underlying22 (.int .i64 0) 8 info3 rfl (by decide) (by omega) 0 (ok := fun _ => True) (okp := fun _ => True) rfl (fun _ hk => hk) trivial (of_decide_eq_true (by first | (with_reducible assumption) | assumption)) (Nat.le_trans (Nat.mul_le_mul_right _ (of_decide_eq_true (by first | (with_reducible assumption) | assumption) : (l1.length : Int).toNat ≤ 35184372088832)) (by omega)) (Below.refl _ _) (Nat.le_refl _) ?_; intro v191 w28 ho29 hb hg_ hnew_; clear hg_ hnew_; (first | rw [← Ny190.out] at ho29 | (simp only [Int.reduceToNat] at ho29; rw [← Ny190.out] at ho29)); have HO192 := am_ (Kd.zag ho29 (zo bw_)); replace BK186 := am_ (fr_ BK186.out hb); replace HB := am_ (zb bw_ hb); clear hb ho29; have hcz30_0 : w28.cell? ⟨gb186, 0, none⟩ = some (.slice A0_0 l0_0.length c0_0) := (za BK186.out 0).trans rfl; have hcz30_1 : w28.cell? ⟨gb186, 1, none⟩ = some (.slice A0_1 l0_1.length c0_1) := (za BK186.out 1).trans rfl; have hfz30_0 := zd BK186.out 0; have hfz30_1 := zd BK186.out 1) | ((with_reducible refine zac (f := 39) rfl ?_); refine zaZ (some 61) rfl rfl Try.func39 (by kernel_rfl) rfl #[.agg #[.slice A0_0 l0_0.length c0_0, .slice A0_1 l0_1.length c0_1]] rfl (by (try simp only [List.map_toArray, List.map_cons, List.map_nil]); first | done | rfl | (simp only [List.length_drop, List.length_take]; rfl)) ?_; (with_reducible refine (zM.calls kj15 _ _ l0_0 _ _ l0_1 t193 _ ?side1 ?side2 ?side3 ?side4 A27.out).mono ?_); (case side1 => repeat (first | exact (Kd.zB HR0_0.out HB.out) | (with_reducible refine Kd.zaG ?_ _) | (with_reducible refine Kd.zaF ?_ _) | (with_reducible refine Kd.zaQ ?_))); (case side2 => exact HC0_0.out); (case side3 => repeat (first | exact (Kd.zB HR0_1.out HB.out) | (with_reducible refine Kd.zaG ?_ _) | (with_reducible refine Kd.zaF ?_ _) | (with_reducible refine Kd.zaQ ?_))); (case side4 => exact HC0_1.out); rintro e w31 ⟨v194, rfl, ho0, hb⟩; refine ⟨_, rfl, ?_⟩; replace HO192 := am_ (Kd.zI (pk_ HO192.out) hb); have HO195 := am_ (Kd.zag ho0 (zo bw_)); replace BK186 := am_ (fr_ BK186.out hb); replace HB := am_ (zb bw_ hb); (try clear hb); (try clear hb2); (try clear hk); (try clear hi); (try clear ho0); obtain ⟨Ao32, co32, eo32⟩ := Kd.zY HO195.out; subst eo32))
           go_loopg [63] kj15 (fun kq v63 w' => ∃ (x10_3 : List Int) (x63_3 : Int), v63 = .int .i64 x63_3 ∧ Aside0 (zK.l1 kq l1 a2 x10_3 t193 (t193.length : Int) x63_3 = some (r1, r2)) ∧ Aside0 (kq ≤ kj15) ∧ Aside0 (Kd.R (Kd.int .i64) 3 w' w.heap.size (fun _ => True) v191 x10_3) ∧ Aside0 (Kd.R k90 90 w' w.heap.size (fun _ => True) (.slice Ao32 t193.length co32) t193) ∧ Aside0 (w'.heap[gb186]? = some (.cells #[(.slice A0_0 l0_0.length c0_0), (.slice A0_1 l0_1.length c0_1)] 24 (0, 0))) ∧ Aside0 (Below w.heap.size w w'))
           case atStart => exact ⟨(y190), (0), (by first | rfl | (simp; done) | (simp [*]; done)), H', ⟨Nat.le_refl _⟩, ⟨by (with_reducible repeat (first | apply Kd.zL | apply Kd.zH | apply Kd.zP)); exact HO192.out⟩, ⟨by (with_reducible repeat (first | apply Kd.zL | apply Kd.zH | apply Kd.zP)); exact HO195.out⟩, ⟨by (with_reducible repeat (first | refine zg ?_ _ | refine zi ?_ | refine zf ?_ _)); exact BK186.out⟩, ⟨by repeat (first | (with_reducible first | exact HB.out | apply zj | apply ze | apply zl | refine zm ?_ GE186.out) | exact HB.out)⟩⟩
           case round =>
            clear H'
            try clear c1
            try clear p1
            try clear q1
            try clear hx1
            try clear c2
            try clear p2
            try clear c3
            try clear c5
            try clear c5b0
            try clear c5b1
            try clear c6
            try clear c6b0
            try clear c6b1
            try clear c6b2
            try clear p6
            try clear c11
            try clear c11b0
            try clear c12
            try clear c12b0
            try clear c13
            try clear c13b0
            try clear c14
            try clear c14b0
            try clear c15
            try clear c15b0
            try clear c17
            try clear c17b0
            try clear c18
            try clear c18b0
            try clear p18
            try clear q18
            try clear hx18
            try clear c19
            try clear c19b0
            try clear c19b1
            try clear c21
            try clear c24
            try clear c25
            try clear c25b0
            try clear c25b1
            try clear c26
            try clear c26b0
            try clear c26b1
            try clear hcz10_0
            try clear hcz10_1
            try clear hcz21_0
            try clear hcz21_1
            try clear hcz23_0
            try clear hcz23_1
            try clear hcz30_0
            try clear hcz30_1
            try clear hcz8_0
            try clear hcz8_1
            try clear hfz10_0
            try clear hfz10_1
            try clear hfz21_0
            try clear hfz21_1
            try clear hfz23_0
            try clear hfz23_1
            try clear hfz30_0
            try clear hfz30_1
            try clear hfz8_0
            try clear hfz8_1
            try clear hx188_0
            try clear p1
            try clear p18
            try clear p188
            try clear p2
            try clear p6
            try clear q1
            try clear q18
            try clear q188
            obtain ⟨x10_3, x63_3, rfl, HA, HK3, HO_10, HO_61, BK186, HB⟩ := hrel
            cases gk with
            | zero => exact absurd HA.out (by simp [zK.l1])
            | succ k3 =>
             have H := HA.out
             clear HA
             simp only [zK.l1] at H
             by_cases c33 : x63_3 < (t193.length : Int)
             ·rw [if_pos c33] at H
              have c33b0 : decide (x63_3 < (t193.length : Int)) = true := decide_eq_true c33
              clear c33
              by_cases c34 : 0 ≤ x63_3
              ·rw [if_pos c34] at H
               have c34b0 : decide (0 ≤ x63_3) = true := decide_eq_true c34
               clear c34
               by_cases c35 : x63_3 < (t193.length : Int)
               ·rw [if_pos c35] at H
                have c35b0 : decide (x63_3 < (t193.length : Int)) = true := decide_eq_true c35
                clear c35
                by_cases c36 : 0 ≤ a2
                ·rw [if_pos c36] at H
                 have c36b0 := eq_true c36
                 have c36b1 : decide (0 ≤ a2) = true := decide_eq_true c36
                 clear c36
                 obtain ⟨ji37, hji37⟩ : ∃ j_ : Int, (shl .i64 (-1) a2) = j_ := ⟨_, rfl⟩
                 replace H : (if x63_3 < (l1.length : Int) then (if 0 ≤ (wrap64 (a2 - ((zt t193 x63_3).f0))) then (if x63_3 < (x10_3.length : Int) then (zK.l1 k3 l1 a2 (x10_3.set (x63_3 : Int).toNat (wrap64 ((ji37) + (shl .i64 (wrap64 ((wrap64 ((wrap64 (2 * ((zt t193 x63_3).f1))) + 1)) + (rd l1 x63_3))) (wrap64 (a2 - ((zt t193 x63_3).f0))))))) t193 (t193.length : Int) (wrap64 (x63_3 + 1))) else (none)) else (none)) else (none)) = some (r1, r2) := by first | (rw [hji37] at H; exact H) | (simp only [hji37] at H ⊢; exact H)
                 have hji37_ : (IntKind.i64.wrap ((-1) * 2 ^ min a2.toNat 64)) = ji37 := hji37
                 have hji37z : a2 ≤ 64 → (IntKind.i64.wrap ((-1) * 2 ^ a2.toNat)) = ji37 := shl_small hji37
                 have hji37y : (wrap64 ((-1) * 2 ^ min a2.toNat 64)) = ji37 := (zaA _).symm.trans hji37_
                 have hji37n : wrap64 (-2 ^ min a2.toNat 64) = ji37 := by have h_ := hji37y; rw [Int.neg_mul, Int.one_mul] at h_; exact h_
                 have hji37x : a2 ≤ 64 → (wrap64 ((-1) * 2 ^ a2.toNat)) = ji37 := fun h_ => (zaA _).symm.trans (hji37z h_)
                 by_cases c38 : x63_3 < (l1.length : Int)
                 ·rw [if_pos c38] at H
                  have c38b0 : decide (x63_3 < (l1.length : Int)) = true := decide_eq_true c38
                  clear c38
                  obtain ⟨ji39, hji39⟩ : ∃ j_ : Int, (wrap64 (a2 - ((zt t193 x63_3).f0))) = j_ := ⟨_, rfl⟩
                  replace H : (if 0 ≤ (ji39) then (if x63_3 < (x10_3.length : Int) then (zK.l1 k3 l1 a2 (x10_3.set (x63_3 : Int).toNat (wrap64 ((ji37) + (shl .i64 (wrap64 ((wrap64 ((wrap64 (2 * ((zt t193 x63_3).f1))) + 1)) + (rd l1 x63_3))) (ji39))))) t193 (t193.length : Int) (wrap64 (x63_3 + 1))) else (none)) else (none)) = some (r1, r2) := by first | (rw [hji39] at H; exact H) | (simp only [hji39] at H ⊢; exact H)
                  have hji39w : (IntKind.i64.wrap (a2 - ((zt t193 x63_3).f0))) = ji39 := (zaA _).trans hji39
                  by_cases c40 : 0 ≤ (ji39)
                  ·rw [if_pos c40] at H
                   have c40b0 := eq_true c40
                   have c40b1 : decide (0 ≤ (ji39)) = true := decide_eq_true c40
                   clear c40
                   obtain ⟨ji41, hji41⟩ : ∃ j_ : Int, (shl .i64 (wrap64 ((wrap64 ((wrap64 (2 * ((zt t193 x63_3).f1))) + 1)) + (rd l1 x63_3))) (ji39)) = j_ := ⟨_, rfl⟩
                   replace H : (if x63_3 < (x10_3.length : Int) then (zK.l1 k3 l1 a2 (x10_3.set (x63_3 : Int).toNat (wrap64 ((ji37) + (ji41)))) t193 (t193.length : Int) (wrap64 (x63_3 + 1))) else (none)) = some (r1, r2) := by first | (rw [hji41] at H; exact H) | (simp only [hji41] at H ⊢; exact H)
                   have hji41_ : (IntKind.i64.wrap ((wrap64 ((wrap64 ((wrap64 (2 * ((zt t193 x63_3).f1))) + 1)) + (rd l1 x63_3))) * 2 ^ min (ji39).toNat 64)) = ji41 := hji41
                   have hji41z : (ji39) ≤ 64 → (IntKind.i64.wrap ((wrap64 ((wrap64 ((wrap64 (2 * ((zt t193 x63_3).f1))) + 1)) + (rd l1 x63_3))) * 2 ^ (ji39).toNat)) = ji41 := shl_small hji41
                   have hji41y : (wrap64 ((wrap64 ((wrap64 ((wrap64 (2 * ((zt t193 x63_3).f1))) + 1)) + (rd l1 x63_3))) * 2 ^ min (ji39).toNat 64)) = ji41 := (zaA _).symm.trans hji41_
                   have hji41x : (ji39) ≤ 64 → (wrap64 ((wrap64 ((wrap64 ((wrap64 (2 * ((zt t193 x63_3).f1))) + 1)) + (rd l1 x63_3))) * 2 ^ (ji39).toNat)) = ji41 := fun h_ => (zaA _).symm.trans (hji41z h_)
                   by_cases c42 : x63_3 < (x10_3.length : Int)
                   ·rw [if_pos c42] at H
                    have c42b0 : decide (x63_3 < (x10_3.length : Int)) = true := decide_eq_true c42
                    clear c42
                    obtain ⟨y199, hy199⟩ : ∃ y_ : List Int, y_ = (x10_3.set (x63_3 : Int).toNat (wrap64 ((ji37) + (ji41)))) := ⟨_, rfl⟩
                    replace H : (zK.l1 k3 l1 a2 y199 t193 (t193.length : Int) (wrap64 (x63_3 + 1))) = some (r1, r2) := by first | (rw [hy199]; with_reducible exact H) | (have H2_ := (Option.bind_some _ _).symm.trans H; rw [hy199]; with_reducible exact H2_) | (have H2_ := (Option.bind_some _ _).symm.trans H; with_reducible exact H2_) | with_reducible exact H | (rw [hy199]; exact H) | exact H
                    have Ny199 := am_ hy199
                    clear hy199
                    have H' := am_ H
                    clear H
                    have p196 : 0 ≤ (x63_3 : Int) := of_decide_eq_true (by first | (with_reducible assumption) | assumption)
                    have q196 : x63_3 < (t193.length : Int) := of_decide_eq_true (by first | (with_reducible assumption) | assumption)
                    obtain ⟨ad196, e196, hx196_0, hx196_1⟩ := at_T90 (Kd.zQ HO_61.out).2.2 x63_3 p196 q196
                    cases e196
                    replace p196 := eq_true p196
                    replace q196 := eq_true q196
                    try go_wp2_with (first | ((with_reducible refine zk (N := 12) rfl ?_); (try (refine zZ (by rfl) ?_; dsimp only)); refine zaq 12 (cs := #[.int .i64 0, .int .i64 0]) (t := 90) ?_; intro gb197 hg w44 hbox hb; replace HO_10 := am_ (Kd.zI (pk_ HO_10.out) hb); replace HO_61 := am_ (Kd.zI (Kd.R_elderB (pk_ HO_61.out) gb197 (Nat.le_of_eq hg.symm)) hb); have BK197 := am_ (hbox); have GW197 := am_ ((by rw [hg]; exact (zo bw_) : w.heap.size ≤ gb197)); replace HB := am_ (zb bw_ hb); have GE197 := GW197; have NB186_197 := am_ ((by rw [hg]; exact Nat.ne_of_lt (fl_ BK186.out) : gb186 ≠ gb197)); replace BK186 := am_ (fr_ BK186.out hb); have NB197_186 := am_ NB186_197.out.symm; clear hb hbox hg; have hnb45 := NB197_186.out; have hnc45 := NB186_197.out; have hcz46_0 : w44.cell? ⟨gb197, 0, none⟩ = some (.int .i64 0) := (za BK197.out 0).trans rfl; have hcz46_1 : w44.cell? ⟨gb197, 1, none⟩ = some (.int .i64 0) := (za BK197.out 1).trans rfl; have hfz46_0 := zd BK197.out 0; have hfz46_1 := zd BK197.out 1))
                    have n0_ : Aside0 (Kd.R (Kd.int .i64) 3 ((w44.setCell ⟨gb197, 0, none⟩ (.int .i64 ((zt t193 x63_3).f0))).setCell ⟨gb197, 1, none⟩ (.int .i64 ((zt t193 x63_3).f1))) w.heap.size (fun _ => True) v191 x10_3) := ⟨by (with_reducible repeat (first | apply Kd.zL | apply Kd.zH | apply Kd.zP)); exact Kd.zS (Kd.zap (p := ⟨gb197, 1, none⟩) (Kd.zap (p := ⟨gb197, 0, none⟩) (Kd.zar HO_10.out BK197.out (by decide)) (fun _ hk => hk.2) (.int .i64 ((zt t193 x63_3).f0))) (fun _ hk => hk.2) (.int .i64 ((zt t193 x63_3).f1))) (fun _ hk => trivial)⟩
                    have n1_ : Aside0 (Kd.R k90 90 ((w44.setCell ⟨gb197, 0, none⟩ (.int .i64 ((zt t193 x63_3).f0))).setCell ⟨gb197, 1, none⟩ (.int .i64 ((zt t193 x63_3).f1))) w.heap.size (fun k_ => k_ ≠ gb197) (.slice (some ad196) t193.length co32) t193) := ⟨by (with_reducible repeat (first | apply Kd.zL | apply Kd.zH | apply Kd.zP)); exact Kd.zS (Kd.zap (p := ⟨gb197, 1, none⟩) (Kd.zap (p := ⟨gb197, 0, none⟩) (Kd.zS HO_61.out (fun k_ hk => (⟨hk, hk.2⟩ : _ ∧ k_ ≠ gb197))) (fun _ hk => hk.2) (.int .i64 ((zt t193 x63_3).f0))) (fun _ hk => hk.2) (.int .i64 ((zt t193 x63_3).f1))) (fun _ hk => hk.1.2)⟩
                    have n2_ : Aside0 (((w44.setCell ⟨gb197, 0, none⟩ (.int .i64 ((zt t193 x63_3).f0))).setCell ⟨gb197, 1, none⟩ (.int .i64 ((zt t193 x63_3).f1))).heap[gb186]? = some (.cells #[.slice A0_0 l0_0.length c0_0, .slice A0_1 l0_1.length c0_1] 24 (0, 0))) := ⟨by (with_reducible repeat (first | refine zg ?_ _ | refine zi ?_ | refine zf ?_ _)); refine zW ?_ NB186_197.out _; (with_reducible repeat (first | refine zg ?_ _ | refine zi ?_ | refine zf ?_ _)); refine zW ?_ NB186_197.out _; (with_reducible repeat (first | refine zg ?_ _ | refine zi ?_ | refine zf ?_ _)); exact BK186.out⟩
                    have n3_ : Aside0 (((w44.setCell ⟨gb197, 0, none⟩ (.int .i64 ((zt t193 x63_3).f0))).setCell ⟨gb197, 1, none⟩ (.int .i64 ((zt t193 x63_3).f1))).heap[gb197]? = some (.cells #[.int .i64 ((zt t193 x63_3).f0), .int .i64 ((zt t193 x63_3).f1)] 90 (0, 0))) := ⟨by (with_reducible repeat (first | refine zg ?_ _ | refine zi ?_ | refine zf ?_ _)); refine zO (cs := #[.int .i64 ((zt t193 x63_3).f0), .int .i64 0]) ?_ 1 _ rfl; (with_reducible repeat (first | refine zg ?_ _ | refine zi ?_ | refine zf ?_ _)); refine zO (cs := #[.int .i64 0, .int .i64 0]) ?_ 0 _ rfl; (with_reducible repeat (first | refine zg ?_ _ | refine zi ?_ | refine zf ?_ _)); exact BK197.out⟩
                    have n4_ : Aside0 (Below w.heap.size w ((w44.setCell ⟨gb197, 0, none⟩ (.int .i64 ((zt t193 x63_3).f0))).setCell ⟨gb197, 1, none⟩ (.int .i64 ((zt t193 x63_3).f1)))) := ⟨by repeat (first | (with_reducible first | exact HB.out | apply zj | apply ze | apply zl | refine zm ?_ GE186.out | refine zm ?_ GE197.out) | exact HB.out)⟩
                    (try clear HO_10)
                    (try clear HO_61)
                    (try clear BK186)
                    (try clear BK197)
                    (try clear HB)
                    generalize ((w44.setCell ⟨gb197, 0, none⟩ (.int .i64 ((zt t193 x63_3).f0))).setCell ⟨gb197, 1, none⟩ (.int .i64 ((zt t193 x63_3).f1))) = w47 at n0_ n1_ n2_ n3_ n4_ ⊢
                    have HO_10 := n0_
                    have HO_61 := n1_
                    have BK186 := n2_
                    have BK197 := n3_
                    have HB := n4_
                    clear n0_ n1_ n2_ n3_ n4_
                    have n0_ := am_ (Kd.zP HO_10.out)
                    have n1_ := am_ (Kd.zP HO_61.out)
                    have n2_ := am_ (zi BK186.out)
                    have n3_ := am_ (zi BK197.out)
                    have n4_ := am_ (zl HB.out)
                    clear HO_10
                    clear HO_61
                    clear BK186
                    clear BK197
                    clear HB
                    have HO_10 := n0_
                    have HO_61 := n1_
                    have BK186 := n2_
                    have BK197 := n3_
                    have HB := n4_
                    clear n0_ n1_ n2_ n3_ n4_
                    have p198 : 0 ≤ (x63_3 : Int) := of_decide_eq_true (by first | (with_reducible assumption) | assumption)
                    have q198 : x63_3 < (l1.length : Int) := of_decide_eq_true (by first | (with_reducible assumption) | assumption)
                    obtain ⟨ad198, e198, hx198_0⟩ := Kd.z8 HR1.out x63_3 p198 q198
                    have hw198_0 := hx198_0
                    cases e198
                    replace hx198_0 := (HB.out.cell (World.block_lt_of_cell? w _ hx198_0)).trans hx198_0
                    replace p198 := eq_true p198
                    replace q198 := eq_true q198
                    have p43 : 0 ≤ (x63_3 : Int) := of_decide_eq_true (by first | (with_reducible assumption) | assumption)
                    have q43 : (x63_3 : Int) < ((x10_3.length : Int) : Int) := of_decide_eq_true (by first | (with_reducible assumption) | assumption)
                    obtain ⟨go43, co43, eo43, gb43, gl43, cl43, HG43⟩ := Kd.R_form HO_10.out (by omega)
                    (first | cases eo43 | (injection eo43 with ea_ en_ ec_; (first | subst ea_ | (injection ea_ with ea_; subst ea_)); subst ec_; clear en_))
                    have GB43 := am_ gb43
                    have GG43 := am_ HG43
                    clear gb43 gl43 HG43
                    obtain ⟨hx43_0, hf43_0⟩ := Kd.zbe 0 HO_10.out (x63_3 : Int) p43 q43
                    replace p43 := eq_true p43
                    replace q43 := eq_true q43
                    have HP49 := Kd.R_putn HO_10.out (x63_3 : Int) (wrap64 ((ji37) + (ji41)))
                    rw [← Ny199.out] at HP49
                    have HQ49 := am_ HP49
                    clear HP49
                    refine zay (n := 21) (S := fun w' => w'.cell? ⟨gb197, 0, none⟩ = some (.int .i64 ((zt t193 x63_3).f0)) ∧ w'.cell? ⟨gb197, 1, none⟩ = some (.int .i64 ((zt t193 x63_3).f1)) ∧ w'.cell? (ad198.add (x63_3).toNat) = some (.int .i64 (rd l1 x63_3))) (ds := [20]) (bl_ 21 0) (by kernel_rfl) rfl rfl ⟨(za BK197.out 0).trans rfl, (za BK197.out 1).trans rfl, ((HB.out.cell (World.block_lt_of_cell? w _ hw198_0)).trans hw198_0)⟩ (fun hHeld => ?_); refine zT zK.tab17 zK.bits17 (fun HT_ HW_ => ?_)
                    generalize w47.drew = w48 at HO_10 HO_61 BK186 BK197 HB GG43 HQ49 hf43_0 hx198_0 hx43_0 hHeld ⊢
                    refine pu_ HT_ 0 68 (bl_ 21 1) ?_
                    refine pu_ HT_ 1 69 (bl_ 21 3) ?_
                    refine pu_ HT_ 2 70 (bl_ 21 7) ?_
                    refine pu_ HT_ 3 71 (bl_ 21 15) ?_
                    refine pu_ HT_ 4 72 (bl_ 21 31) ?_
                    refine pu_ HT_ 8 76 (bl_ 21 287) ?_
                    refine pu_ HT_ 9 77 (bl_ 21 799) ?_
                    refine pu_ HT_ 10 78 (bl_ 21 1823) ?_
                    refine pu_ HT_ 13 81 (bl_ 21 10015) ?_
                    refine pu_ HT_ 14 82 (bl_ 21 26399) ?_
                    refine tk_ HT_ HW_ hHeld 5 73 (bl_ 21 26431) ?_
                    refine pu_ HT_ 6 74 (bl_ 21 26495) ?_
                    refine pu_ HT_ 7 75 (bl_ 21 26623) ?_
                    refine tk_ HT_ HW_ hHeld 11 79 (bl_ 21 28671) ?_
                    refine pu_ HT_ 12 80 (bl_ 21 32767) ?_
                    refine tk_ HT_ HW_ hHeld 15 83 (bl_ 21 65535) ?_
                    refine pu_ HT_ 16 84 (bl_ 21 131071) ?_
                    refine pu_ HT_ 17 85 (bl_ 21 262143) ?_
                    refine pu_ HT_ 18 86 (bl_ 21 524287) ?_
                    refine pu_ HT_ 19 87 (bl_ 21 1048575) ?_
                    refine last_ (i := 20) (N := none) (bl_ 21 2097151) rfl rfl (one_of HT_.out (by kernel_rfl)) (by decide) (fun K hK => ?_)
                    refine skip_ (w1 := ?_) (by rfl) rfl ?_ ?_
                    rotate_left
                    ·go_simp
                     rfl
                    refine hK.out _ _ ?_
                    clear hK K
                    refine zaP (zao HT_.out (by kernel_rfl)) ?_
                    try go_wp2
                    go_roundg k3
                    case measure => have := HK1.out; have := HJ15.out; have := HK3.out; omega
                    case rel => exact ⟨(y199), (wrap64 (x63_3 + 1)), (by first | rfl | (simp; done) | (simp [*]; done)), H', ⟨by have := HK1.out; have := HJ15.out; have := HK3.out; omega⟩, ⟨by (with_reducible repeat (first | apply Kd.zL | apply Kd.zH | apply Kd.zP)); exact HQ49.out⟩, ⟨by (with_reducible repeat (first | apply Kd.zL | apply Kd.zH | apply Kd.zP)); exact Kd.zS (Kd.zap (p := ⟨go43, (x63_3 : Int).toNat, none⟩) (Kd.zar HO_61.out GG43.out (by decide)) (fun _ hk => hk.2) (.int .i64 (wrap64 ((ji37) + (ji41))))) (fun _ hk => trivial)⟩, ⟨by (with_reducible repeat (first | refine zg ?_ _ | refine zi ?_ | refine zf ?_ _)); refine zW ?_ (by have h_ := Kd.R_ne HO_10.out BK186.out (by decide); intro e_; exact h_ (by rw [e_]; rfl)) _; (with_reducible repeat (first | refine zg ?_ _ | refine zi ?_ | refine zf ?_ _)); exact BK186.out⟩, ⟨by repeat (first | (with_reducible first | exact HB.out | apply zj | apply ze | apply zl | refine zm ?_ GB43.out | refine zm ?_ GE186.out | refine zm ?_ GE197.out) | exact HB.out)⟩⟩
                   ·rw [if_neg c42] at H
                    exact absurd H (by simp)
                  ·rw [if_neg c40] at H
                   exact absurd H (by simp)
                 ·rw [if_neg c38] at H
                  exact absurd H (by simp)
                ·rw [if_neg c36] at H
                 exact absurd H (by simp)
               ·rw [if_neg c35] at H
                exact absurd H (by simp)
              ·rw [if_neg c34] at H
               exact absurd H (by simp)
             ·rw [if_neg c33] at H
              have c33b0 : decide (x63_3 < (t193.length : Int)) = false := decide_eq_false c33
              clear c33
              simp only [Option.some.injEq, Prod.mk.injEq] at H
              obtain ⟨rfl, rfl⟩ := H
              go_wp2
              go_ret2
              exact ⟨_, by first | rfl | (simp [zp, zq] <;> rfl) | (simp [*, zp, zq] <;> rfl), by (with_reducible repeat (first | apply Kd.zL | apply Kd.zH | apply Kd.zP)); exact HO_10.out, by repeat (first | (with_reducible first | exact HB.out | apply zj | apply ze | apply zl | refine zm ?_ GE186.out) | exact HB.out)⟩
          ·rw [if_neg c26] at H
           exact absurd H (by simp)
         ·rw [if_neg c25] at H
          exact absurd H (by simp)
  ·rw [if_neg c6] at H
   have c6b0 : ((l1.length : Int) == (l0_0.length : Int)) = false := beq_eq_false_iff_ne.mpr c6
   have c6b1 : ((l1.length : Int) != (l0_0.length : Int)) = true := bne_iff_ne.mpr c6
   have c6b2 : (l1.length == l0_0.length) = false := by first | simpa using c6 | (simp at c6 ⊢; omega)
   simp only [Option.some.injEq, Prod.mk.injEq] at H
   obtain ⟨rfl, rfl⟩ := H
   go_enter Try.func21, Try.ntmps21
   go_wp2_with (first | ((with_reducible refine zk (N := 3) rfl ?_); (try (refine zZ (by rfl) ?_; dsimp only)); refine zaq 3 (cs := #[.slice A0_0 l0_0.length c0_0, .slice A0_1 l0_1.length c0_1]) (t := 24) ?_; intro gb186 hg w50 hbox hb; have BK186 := am_ (hbox); have GW186 := am_ ((by rw [hg]; exact (zo bw_) : w.heap.size ≤ gb186)); replace HB := am_ (zb bw_ hb); have GE186 := GW186; clear hb hbox hg; have hcz51_0 : w50.cell? ⟨gb186, 0, none⟩ = some (.slice A0_0 l0_0.length c0_0) := (za BK186.out 0).trans rfl; have hcz51_1 : w50.cell? ⟨gb186, 1, none⟩ = some (.slice A0_1 l0_1.length c0_1) := (za BK186.out 1).trans rfl; have hfz51_0 := zd BK186.out 0; have hfz51_1 := zd BK186.out 1) | ((with_reducible refine zac (f := 17) rfl ?_); refine zaZ (some 17) rfl rfl Try.func17 (by kernel_rfl) rfl #[.agg #[.slice A0_0 l0_0.length c0_0, .slice A0_1 l0_1.length c0_1], .int .i64 (l0_0.length : Int)] rfl (by (try simp only [List.map_toArray, List.map_cons, List.map_nil]); first | done | rfl | (simp only [List.length_drop, List.length_take]; rfl)) ?_; (with_reducible refine (zz.calls k _ _ l0_0 _ _ l0_1 (l0_0.length : Int) t187 _ ?side1 ?side2 ?side3 ?side4 A4.out).mono ?_); (case side1 => repeat (first | exact (Kd.zB HR0_0.out HB.out) | (with_reducible refine Kd.zaG ?_ _) | (with_reducible refine Kd.zaF ?_ _) | (with_reducible refine Kd.zaQ ?_))); (case side2 => exact HC0_0.out); (case side3 => repeat (first | exact (Kd.zB HR0_1.out HB.out) | (with_reducible refine Kd.zaG ?_ _) | (with_reducible refine Kd.zaF ?_ _) | (with_reducible refine Kd.zaQ ?_))); (case side4 => exact HC0_1.out); rintro e w52 ⟨rfl, hb⟩; refine ⟨_, rfl, ?_⟩; replace BK186 := am_ (fr_ BK186.out hb); replace HB := am_ (zb bw_ hb); (try clear hb); (try clear hb2); (try clear hk); (try clear hi); have hcz53_0 : w52.cell? ⟨gb186, 0, none⟩ = some (.slice A0_0 l0_0.length c0_0) := (za BK186.out 0).trans rfl; have hcz53_1 : w52.cell? ⟨gb186, 1, none⟩ = some (.slice A0_1 l0_1.length c0_1) := (za BK186.out 1).trans rfl; have hfz53_0 := zd BK186.out 0; have hfz53_1 := zd BK186.out 1))
   go_ret2
   exact ⟨_, by first | rfl | (simp [zp, zq] <;> rfl) | (simp [*, zp, zq] <;> rfl), by first | exact Kd.zaY _ _ _ _ _ | exact Kd.N_nil _ _ _ _ _ | exact Kd.V_nil _ _ _ _ _ | exact Kd.Q_nil _ _ _ _ _ | exact Kd.S_nil _ _ _ _ _, by repeat (first | (with_reducible first | exact HB.out | apply zj | apply ze | apply zl | refine zm ?_ GE186.out) | exact HB.out)⟩
 ·rw [if_neg c5] at H
  have c5b0 : (t187 == 0) = false := beq_eq_false_iff_ne.mpr c5
  have c5b1 : (t187 != 0) = true := bne_iff_ne.mpr c5
  simp only [Option.some.injEq, Prod.mk.injEq] at H
  obtain ⟨rfl, rfl⟩ := H
  go_enter Try.func21, Try.ntmps21
  go_wp2_with (first | ((with_reducible refine zk (N := 3) rfl ?_); (try (refine zZ (by rfl) ?_; dsimp only)); refine zaq 3 (cs := #[.slice A0_0 l0_0.length c0_0, .slice A0_1 l0_1.length c0_1]) (t := 24) ?_; intro gb186 hg w54 hbox hb; have BK186 := am_ (hbox); have GW186 := am_ ((by rw [hg]; exact (zo bw_) : w.heap.size ≤ gb186)); replace HB := am_ (zb bw_ hb); have GE186 := GW186; clear hb hbox hg; have hcz55_0 : w54.cell? ⟨gb186, 0, none⟩ = some (.slice A0_0 l0_0.length c0_0) := (za BK186.out 0).trans rfl; have hcz55_1 : w54.cell? ⟨gb186, 1, none⟩ = some (.slice A0_1 l0_1.length c0_1) := (za BK186.out 1).trans rfl; have hfz55_0 := zd BK186.out 0; have hfz55_1 := zd BK186.out 1) | ((with_reducible refine zac (f := 17) rfl ?_); refine zaZ (some 17) rfl rfl Try.func17 (by kernel_rfl) rfl #[.agg #[.slice A0_0 l0_0.length c0_0, .slice A0_1 l0_1.length c0_1], .int .i64 (l0_0.length : Int)] rfl (by (try simp only [List.map_toArray, List.map_cons, List.map_nil]); first | done | rfl | (simp only [List.length_drop, List.length_take]; rfl)) ?_; (with_reducible refine (zz.calls k _ _ l0_0 _ _ l0_1 (l0_0.length : Int) t187 _ ?side1 ?side2 ?side3 ?side4 A4.out).mono ?_); (case side1 => repeat (first | exact (Kd.zB HR0_0.out HB.out) | (with_reducible refine Kd.zaG ?_ _) | (with_reducible refine Kd.zaF ?_ _) | (with_reducible refine Kd.zaQ ?_))); (case side2 => exact HC0_0.out); (case side3 => repeat (first | exact (Kd.zB HR0_1.out HB.out) | (with_reducible refine Kd.zaG ?_ _) | (with_reducible refine Kd.zaF ?_ _) | (with_reducible refine Kd.zaQ ?_))); (case side4 => exact HC0_1.out); rintro e w56 ⟨rfl, hb⟩; refine ⟨_, rfl, ?_⟩; replace BK186 := am_ (fr_ BK186.out hb); replace HB := am_ (zb bw_ hb); (try clear hb); (try clear hb2); (try clear hk); (try clear hi)))
  go_ret2
  exact ⟨_, by first | rfl | (simp [zp, zq] <;> rfl) | (simp [*, zp, zq] <;> rfl), by first | exact Kd.zaY _ _ _ _ _ | exact Kd.N_nil _ _ _ _ _ | exact Kd.V_nil _ _ _ _ _ | exact Kd.Q_nil _ _ _ _ _ | exact Kd.S_nil _ _ _ _ _, by repeat (first | (with_reducible first | exact HB.out | apply zj | apply ze | apply zl | refine zm ?_ GE186.out) | exact HB.out)⟩
end Go.Proofs.Ytlidbaejhmamjaa.PB
namespace Go.Proofs.Ytlidbaejhmamjaa.PB
open Go.RowKit YtlidbaejhmamjaaW.PrintWords YtlidbaejhmamjaaW.PrintLast YtlidbaejhmamjaaW.PrintMore
attribute [local go_sem] zak zam zaw zau zae zad zal zan   -- for this text's walks alone
def zX.l0 : Nat → List Int → List Int → Int → Option (Bool)
 | 0, _, _, _ => none
 | k + 1, x0, x1, x5 => if x5 < (x0.length : Int) then (if 0 ≤ x5 then (if x5 < (x1.length : Int) then (if (rd x0 x5) = (rd x1 x5) then (zX.l0 k x0 x1 (wrap64 (x5 + 1))) else (some false)) else (none)) else (none)) else (some true)
def zX.f (k : Nat) (l0 : List Int) (l1 : List Int) : Option (Bool) := if (l0.length : Int) = (l1.length : Int) then (zX.l0 k l0 l1 0) else (some false)
set_option maxHeartbeats 8000000 in
set_option maxRecDepth 100000 in
theorem zX.calls (k : Nat) (A0 : Option Addr) (c0 : Nat) (l0 : List Int) (A1 : Option Addr) (c1 : Nat) (l1 : List Int) (r : Bool) (w : World) (hr0 : Kd.C (Kd.int .i64) w A0 l0.length l0) (hc0 : l0.length ≤ c0) (hr1 : Kd.C (Kd.int .i64) w A1 l1.length l1) (hc1 : l1.length ≤ c1) (h : zX.f k l0 l1 = some r) :
  Calls Try.prog 23 #[.slice A0 l0.length c0, .slice A1 l1.length c1] w fun e w' => e = .returned (.bool r) ∧ zaz w w' := by
 have HR0 := am_ hr0
 have HC0 := am_ hc0
 clear hr0 hc0
 have HR1 := am_ hr1
 have HC1 := am_ hc1
 clear hr1 hc1
 have H : (if (l0.length : Int) = (l1.length : Int) then (zX.l0 k l0 l1 0) else (some false)) = some r := h
 clear h
 by_cases c3 : (l0.length : Int) = (l1.length : Int)
 ·rw [if_pos c3] at H
  have c3b0 : ((l0.length : Int) == (l1.length : Int)) = true := beq_iff_eq.mpr c3
  have c3b1 : ((l0.length : Int) != (l1.length : Int)) = false := bne_eq_false_iff_eq.mpr c3
  have c3b2 : (l0.length == l1.length) = true := by first | simpa using c3 | (simp at c3 ⊢; omega)
  clear c3
  have H' := am_ H
  clear H
  go_enter Try.func23, Try.ntmps23
  go_wp2
  repeat (go_quiet (fail); try go_wp2)
  go_loopg [5] k (fun kq v5 w' => ∃ (x5_1 : Int), v5 = .int .i64 x5_1 ∧ Aside0 (zX.l0 kq l0 l1 x5_1 = some r) ∧ Aside0 (kq ≤ k) ∧ zaz w w')
  case atStart => exact ⟨(0), (by first | rfl | (simp; done) | (simp [*]; done)), H', ⟨Nat.le_refl _⟩, by repeat (first | exact zaz.refl _ | apply zaz.step)⟩
  case round =>
   clear H'
   try clear c1
   try clear c2
   try clear p2
   try clear c3
   try clear c3b0
   try clear c3b1
   try clear c3b2
   obtain ⟨x5_1, rfl, HA, HK1, ⟨m1, rfl⟩⟩ := hrel
   cases gk with
   | zero => exact absurd HA.out (by simp [zX.l0])
   | succ k1 =>
    have H := HA.out
    clear HA
    simp only [zX.l0] at H
    by_cases c4 : x5_1 < (l0.length : Int)
    ·rw [if_pos c4] at H
     have c4b0 : decide (x5_1 < (l0.length : Int)) = true := decide_eq_true c4
     clear c4
     by_cases c5 : 0 ≤ x5_1
     ·rw [if_pos c5] at H
      have c5b0 : decide (0 ≤ x5_1) = true := decide_eq_true c5
      clear c5
      by_cases c6 : x5_1 < (l1.length : Int)
      ·rw [if_pos c6] at H
       have c6b0 : decide (x5_1 < (l1.length : Int)) = true := decide_eq_true c6
       clear c6
       by_cases c7 : (rd l0 x5_1) = (rd l1 x5_1)
       ·rw [if_pos c7] at H
        have c7b0 : ((rd l0 x5_1) == (rd l1 x5_1)) = true := beq_iff_eq.mpr c7
        have c7b1 : ((rd l0 x5_1) != (rd l1 x5_1)) = false := bne_eq_false_iff_eq.mpr c7
        clear c7
        have H' := am_ H
        clear H
        have p133 : 0 ≤ (x5_1 : Int) := of_decide_eq_true (by first | (with_reducible assumption) | assumption)
        have q133 : x5_1 < (l0.length : Int) := of_decide_eq_true (by first | (with_reducible assumption) | assumption)
        obtain ⟨ad133, e133, hx133_0⟩ := Kd.z8 HR0.out x5_1 p133 q133
        cases e133
        replace p133 := eq_true p133
        replace q133 := eq_true q133
        have p134 : 0 ≤ (x5_1 : Int) := of_decide_eq_true (by first | (with_reducible assumption) | assumption)
        have q134 : x5_1 < (l1.length : Int) := of_decide_eq_true (by first | (with_reducible assumption) | assumption)
        obtain ⟨ad134, e134, hx134_0⟩ := Kd.z8 HR1.out x5_1 p134 q134
        cases e134
        replace p134 := eq_true p134
        replace q134 := eq_true q134
        go_wp2
        repeat (go_quiet (fail); try go_wp2)
        go_roundg k1
        case measure => have := HK1.out; omega
        case rel => exact ⟨(wrap64 (x5_1 + 1)), (by first | rfl | (simp; done) | (simp [*]; done)), H', ⟨by have := HK1.out; omega⟩, by repeat (first | exact zaz.refl _ | apply zaz.step)⟩
       ·rw [if_neg c7] at H
        have c7b0 : ((rd l0 x5_1) == (rd l1 x5_1)) = false := beq_eq_false_iff_ne.mpr c7
        have c7b1 : ((rd l0 x5_1) != (rd l1 x5_1)) = true := bne_iff_ne.mpr c7
        obtain rfl := Option.some.inj H
        have p133 : 0 ≤ (x5_1 : Int) := of_decide_eq_true (by first | (with_reducible assumption) | assumption)
        have q133 : x5_1 < (l0.length : Int) := of_decide_eq_true (by first | (with_reducible assumption) | assumption)
        obtain ⟨ad133, e133, hx133_0⟩ := Kd.z8 HR0.out x5_1 p133 q133
        cases e133
        replace p133 := eq_true p133
        replace q133 := eq_true q133
        have p134 : 0 ≤ (x5_1 : Int) := of_decide_eq_true (by first | (with_reducible assumption) | assumption)
        have q134 : x5_1 < (l1.length : Int) := of_decide_eq_true (by first | (with_reducible assumption) | assumption)
        obtain ⟨ad134, e134, hx134_0⟩ := Kd.z8 HR1.out x5_1 p134 q134
        cases e134
        replace p134 := eq_true p134
        replace q134 := eq_true q134
        go_wp2
        repeat (go_quiet (fail); try go_wp2)
        go_ret
        exact ⟨by first | rfl | (simp; done) | (simp [*]; done), by repeat (first | exact zaz.refl _ | apply zaz.step)⟩
      ·rw [if_neg c6] at H
       exact absurd H (by simp)
     ·rw [if_neg c5] at H
      exact absurd H (by simp)
    ·rw [if_neg c4] at H
     have c4b0 : decide (x5_1 < (l0.length : Int)) = false := decide_eq_false c4
     clear c4
     obtain rfl := Option.some.inj H
     go_wp2
     repeat (go_quiet (fail); try go_wp2)
     go_ret
     exact ⟨by first | rfl | (simp; done) | (simp [*]; done), by repeat (first | exact zaz.refl _ | apply zaz.step)⟩
 ·rw [if_neg c3] at H
  have c3b0 : ((l0.length : Int) == (l1.length : Int)) = false := beq_eq_false_iff_ne.mpr c3
  have c3b1 : ((l0.length : Int) != (l1.length : Int)) = true := bne_iff_ne.mpr c3
  have c3b2 : (l0.length == l1.length) = false := by first | simpa using c3 | (simp at c3 ⊢; omega)
  obtain rfl := Option.some.inj H
  go_enter Try.func23, Try.ntmps23
  go_wp2
  repeat (go_quiet (fail); try go_wp2)
  go_ret
  exact ⟨by first | rfl | (simp; done) | (simp [*]; done), by repeat (first | exact zaz.refl _ | apply zaz.step)⟩
end Go.Proofs.Ytlidbaejhmamjaa.PB
namespace Go.Proofs.Ytlidbaejhmamjaa.LW
open Go.RowKit YtlidbaejhmamjaaW.PrintWords YtlidbaejhmamjaaW.PrintLast YtlidbaejhmamjaaW.PrintMore PB LA AC
/-- A row of whole numbers that is read. -/
structure Rd (w : World) (A : Option Addr) (c : Nat) (xs : List Int) : Prop where
 row : Kd.C (Kd.int .i64) w A xs.length xs
 cap : xs.length ≤ c
/-- A region's box. -/
def Bx (w : World) (g : Nat) (A0 : Option Addr) (n0 c0 : Nat) (A1 : Option Addr) (n1 c1 : Nat) : Prop := w.heap[g]? = some (.cells #[.slice A0 n0 c0, .slice A1 n1 c1] 24 (0, 0))
theorem Rd.step {w w' : World} {A : Option Addr} {c : Nat} {xs : List Int} (h : Rd w A c xs) (hb : Below w.heap.size w w') : Rd w' A c xs := ⟨Kd.zB h.row hb, h.cap⟩
theorem Rd.of_R {w : World} {base : Nat} {ok : Nat → Prop} {v : Value} {xs : List Int} (h : Kd.R (Kd.int .i64) 3 w base ok v xs) : ∃ A c, v = .slice A xs.length c ∧ Rd w A c xs := by
 obtain ⟨A, c, rfl⟩ := Kd.zY h
 have := Kd.zQ h
 exact ⟨A, c, rfl, this.2.2, this.2.1⟩
theorem Rd.put {w w' : World} {A : Option Addr} {c : Nat} {xs : List Int} (h : Rd w A c xs) {g : Nat} {A0 A1 : Option Addr} {n0 c0 n1 c1 : Nat} (hk : Bx w g A0 n0 c0 A1 n1 c1) (hg : w.grownBy w' (some g)) : Rd w' A c xs := by
 refine ⟨⟨h.row.1, h.row.2.1, fun hn => ?_⟩, h.cap⟩
 obtain ⟨ad, e, hc⟩ := h.row.2.2 hn
 refine ⟨ad, e, fun j p hj => ?_⟩
 obtain ⟨cs, hs, hr, hcell⟩ := hc j p hj
 refine ⟨cs, hs, hr, fun i u hu => ?_⟩
 have hold := hcell i u hu
 have hu2 : u = .int .i64 p := by
  have hr2 : cs = [Value.int .i64 p] := hr
  subst hr2
  cases i with
  | zero => exact (Option.some.inj hu).symm
  | succ i => cases hu
 by_cases hb : (ad.add (j * (Kd.int .i64).sz + i)).block = g
 ·exfalso
  unfold World.cell? at hold
  rw [hb, hk, hu2] at hold
  simp only at hold
  split at hold
  ·cases hold
  ·generalize (ad.add (j * (Kd.int .i64).sz + i)).off = o at hold
   match o with
   | 0 => simp at hold
   | 1 => simp at hold
   | o + 2 => simp at hold
 ·rw [World.cell?_of_block (w := w) (hg.block _ (by
   unfold World.cell? at hold
   split at hold
   ·rename_i h1; exact zaa h1
   ·cases hold) (fun e => hb (Option.some.inj e)))]
  exact hold
theorem Bx.step {w w' : World} {g : Nat} {A0 A1 : Option Addr} {n0 c0 n1 c1 : Nat} (h : Bx w g A0 n0 c0 A1 n1 c1) (hb : Below w.heap.size w w') : Bx w' g A0 n0 c0 A1 n1 c1 := zh h hb
theorem Bx.put {w w' : World} {g g' : Nat} {A0 A1 : Option Addr} {n0 c0 n1 c1 : Nat} (h : Bx w g A0 n0 c0 A1 n1 c1) (hg : w.grownBy w' (some g')) (hne : g ≠ g') : Bx w' g A0 n0 c0 A1 n1 c1 := zx hg h (fun e => hne (Option.some.inj e))
theorem Bx.lt {w : World} {g : Nat} {A0 A1 : Option Addr} {n0 c0 n1 c1 : Nat} (h : Bx w g A0 n0 c0 A1 n1 c1) : g < w.heap.size := zaa h
theorem Bx.c0 {w : World} {g : Nat} {A0 A1 : Option Addr} {n0 c0 n1 c1 : Nat} (h : Bx w g A0 n0 c0 A1 n1 c1) : w.cell? ⟨g, 0, none⟩ = some (.slice A0 n0 c0) := (za h 0).trans rfl
theorem Bx.c1 {w : World} {g : Nat} {A0 A1 : Option Addr} {n0 c0 n1 c1 : Nat} (h : Bx w g A0 n0 c0 A1 n1 c1) : w.cell? ⟨g, 1, none⟩ = some (.slice A1 n1 c1) := (za h 1).trans rfl
theorem info24 : (Try.prog.info? 24).map (·.size) = some 2 := by kernel_rfl
theorem slices_one (A0 A1 : Option Addr) (n0 c0 n1 c1 : Nat) : (#[Value.slice A0 n0 c0, .slice A1 n1 c1] : Array Value).all (·.oneCell') = true := by simp [Value.oneCell']
theorem awake_vals : ∃ (p0 p1 a0 a1 b0 b1 l y1 y2 y3 y4 y5 : List Int), split_Whole.f 40 2 = some (p0, p1, 0) ∧ zaf.f 40 p0 p1 1 = some (a0, a1, b0, b1, 0) ∧ zaT.f 40 b0 b1 = some (1, 0) ∧ zK.f 40 b0 b1 y1 1 = some (l, 0) ∧
  zX.f 40 l y2 = some true ∧ zz.f 40 p0 p1 2 = some 0 ∧ decide (Win a0 a1 y3 0) = true ∧ decide (Win b0 b1 y4 0) = false ∧ zX.f 40 b1 y5 = some true ∧
  y1 = [1, -1] ∧ y2 = [2, 0] ∧ y3 = [0, -1] ∧ y4 = [0, -1] ∧ y5 = [0, 1] :=
 ⟨[0, 0], [0, 0], [0, 1], [0, 0], [0, 1], [0, 1], [2, 0], _, _, _, _, _, by kernel_rfl, by kernel_rfl, by kernel_rfl, by kernel_rfl, by kernel_rfl, by kernel_rfl, by decide +kernel, by decide +kernel, by kernel_rfl, rfl, rfl, rfl, rfl, rfl⟩
theorem drawn0_below {w w' : World} (h : zaz w w') : Below w.heap.size w w' := by
 obtain ⟨n, rfl⟩ := h
 exact below_drewN (Below.refl _ _) n
set_option maxRecDepth 100000 in
set_option maxHeartbeats 4000000 in
theorem awake_calls (w : World) : Calls Try.prog 14 #[] w fun e w' => e = .returned (.bool true) ∧ Below w.heap.size w w' := by
 obtain ⟨p0, p1, a0, a1, b0, b1, l, y1, y2, y3, y4, y5, h1, h2, h3, h4, h5, h6, h7, h8, h9, e1, e2, e3, e4, e5⟩ := awake_vals
 have F1 := am_ h1
 have F2 := am_ h2
 have F3 := am_ h3
 have F4 := am_ h4
 have F5 := am_ h5
 have F6 := am_ h6
 have F7 := am_ h7
 have F8 := am_ h8
 have F9 := am_ h9
 have E1 := am_ e1
 have E2 := am_ e2
 have E3 := am_ e3
 have E4 := am_ e4
 have E5 := am_ e5
 have HI3 := am_ (show I64 y3 by rw [e3]; intro x hx; simp at hx; omega)
 have HI4 := am_ (show I64 y4 by rw [e4]; intro x hx; simp at hx; omega)
 clear h1 h2 h3 h4 h5 h6 h7 h8 h9 e1 e2 e3 e4 e5
 have hu24 := Try.underlying24
 have HB := am_ (Below.refl w.heap.size w)
 go_enter Try.func14, Try.ntmps14
 go_wp2_with fail
 refine (split_Whole.calls 40 2 p0 p1 0 w F1.out).mono ?_
 rintro e w1 ⟨v0, v1, rfl, h0, h1, hb⟩
 obtain ⟨A_p0, c_p0, rfl, r_p0⟩ := Rd.of_R h0
 obtain ⟨A_p1, c_p1, rfl, r_p1⟩ := Rd.of_R h1
 replace HB := am_ (zb HB.out hb)
 have R_p0 := am_ r_p0
 have R_p1 := am_ r_p1
 clear hb r_p0 h0 r_p1 h1
 go_wp2_with (first
  | ((with_reducible refine zk (N := 1) rfl ?_); refine zaq 1 (cs := #[.slice none 0 0, .slice none 0 0]) (t := 24) ?_; intro g_p hg_ w2 hw_ hb_; have L_p := am_ (show w.heap.size ≤ g_p by have := HB.out.size; omega); replace R_p0 := am_ (R_p0.out.step hb_); replace R_p1 := am_ (R_p1.out.step hb_); replace HB := am_ (zb HB.out hb_); have K_p := am_ (show Bx w2 g_p none 0 0 none 0 0 from hw_); clear hg_ hw_ hb_)
  | ((with_reducible refine zr (t := 24) (p := 1) rfl ?_); refine zn rfl 24 rfl rfl g_p #[.slice A_p0 p0.length c_p0, .slice A_p1 p1.length c_p1] rfl rfl 24 _ K_p.out (info24.trans rfl) rfl (slices_one _ _ _ _ _ _) ?_; intro w3 hw_ hg_; replace R_p0 := am_ (R_p0.out.put K_p.out hg_); replace R_p1 := am_ (R_p1.out.put K_p.out hg_); replace HB := am_ (HB.out.grown hg_ HB.out.size (fun k_ hk_ => by cases hk_; exact L_p.out)); replace K_p := am_ (show Bx w3 g_p A_p0 p0.length c_p0 A_p1 p1.length c_p1 from hw_); clear hw_ hg_; have c_p_0 := K_p.out.c0; have c_p_1 := K_p.out.c1)
  | fail)
 refine (zaf.calls 40 A_p0 c_p0 p0 A_p1 c_p1 p1 1 a0 a1 b0 b1 0 w3 R_p0.out.row R_p0.out.cap R_p1.out.row R_p1.out.cap F2.out).mono ?_
 rintro e w4 ⟨v0, v1, v2, v3, rfl, h0, h1, h2, h3, hb⟩
 clear c_p_0 c_p_1
 obtain ⟨A_a0, c_a0, rfl, r_a0⟩ := Rd.of_R h0
 obtain ⟨A_a1, c_a1, rfl, r_a1⟩ := Rd.of_R h1
 obtain ⟨A_b0, c_b0, rfl, r_b0⟩ := Rd.of_R h2
 obtain ⟨A_b1, c_b1, rfl, r_b1⟩ := Rd.of_R h3
 replace R_p0 := am_ (R_p0.out.step hb); replace R_p1 := am_ (R_p1.out.step hb); replace K_p := am_ (K_p.out.step hb); replace HB := am_ (zb HB.out hb)
 have R_a0 := am_ r_a0
 have R_a1 := am_ r_a1
 have R_b0 := am_ r_b0
 have R_b1 := am_ r_b1
 clear hb r_a0 h0 r_a1 h1 r_b0 h2 r_b1 h3
 go_wp2_with (first
  | ((with_reducible refine zk (N := 3) rfl ?_); refine zaq 3 (cs := #[.slice none 0 0, .slice none 0 0]) (t := 24) ?_; intro g_a hg_ w5 hw_ hb_; have N_a_p := am_ (show g_p ≠ g_a by have := K_p.out.lt; omega); have L_a := am_ (show w.heap.size ≤ g_a by have := HB.out.size; omega); replace R_p0 := am_ (R_p0.out.step hb_); replace R_p1 := am_ (R_p1.out.step hb_); replace R_a0 := am_ (R_a0.out.step hb_); replace R_a1 := am_ (R_a1.out.step hb_); replace R_b0 := am_ (R_b0.out.step hb_); replace R_b1 := am_ (R_b1.out.step hb_); replace K_p := am_ (K_p.out.step hb_); replace HB := am_ (zb HB.out hb_); have K_a := am_ (show Bx w5 g_a none 0 0 none 0 0 from hw_); clear hg_ hw_ hb_)
  | ((with_reducible refine zk (N := 4) rfl ?_); refine zaq 4 (cs := #[.slice none 0 0, .slice none 0 0]) (t := 24) ?_; intro g_b hg_ w6 hw_ hb_; have N_b_p := am_ (show g_p ≠ g_b by have := K_p.out.lt; omega); have N_b_a := am_ (show g_a ≠ g_b by have := K_a.out.lt; omega); have L_b := am_ (show w.heap.size ≤ g_b by have := HB.out.size; omega); replace R_p0 := am_ (R_p0.out.step hb_); replace R_p1 := am_ (R_p1.out.step hb_); replace R_a0 := am_ (R_a0.out.step hb_); replace R_a1 := am_ (R_a1.out.step hb_); replace R_b0 := am_ (R_b0.out.step hb_); replace R_b1 := am_ (R_b1.out.step hb_); replace K_p := am_ (K_p.out.step hb_); replace K_a := am_ (K_a.out.step hb_); replace HB := am_ (zb HB.out hb_); have K_b := am_ (show Bx w6 g_b none 0 0 none 0 0 from hw_); clear hg_ hw_ hb_)
  | ((with_reducible refine zr (t := 24) (p := 3) rfl ?_); refine zn rfl 24 rfl rfl g_a #[.slice A_a0 a0.length c_a0, .slice A_a1 a1.length c_a1] rfl rfl 24 _ K_a.out (info24.trans rfl) rfl (slices_one _ _ _ _ _ _) ?_; intro w7 hw_ hg_; replace R_p0 := am_ (R_p0.out.put K_a.out hg_); replace R_p1 := am_ (R_p1.out.put K_a.out hg_); replace R_a0 := am_ (R_a0.out.put K_a.out hg_); replace R_a1 := am_ (R_a1.out.put K_a.out hg_); replace R_b0 := am_ (R_b0.out.put K_a.out hg_); replace R_b1 := am_ (R_b1.out.put K_a.out hg_); replace K_p := am_ (K_p.out.put hg_ N_a_p.out); replace K_b := am_ (K_b.out.put hg_ N_b_a.out.symm); replace HB := am_ (HB.out.grown hg_ HB.out.size (fun k_ hk_ => by cases hk_; exact L_a.out)); replace K_a := am_ (show Bx w7 g_a A_a0 a0.length c_a0 A_a1 a1.length c_a1 from hw_); clear hw_ hg_; have c_a_0 := K_a.out.c0; have c_a_1 := K_a.out.c1)
  | ((with_reducible refine zr (t := 24) (p := 4) rfl ?_); refine zn rfl 24 rfl rfl g_b #[.slice A_b0 b0.length c_b0, .slice A_b1 b1.length c_b1] rfl rfl 24 _ K_b.out (info24.trans rfl) rfl (slices_one _ _ _ _ _ _) ?_; intro w8 hw_ hg_; replace R_p0 := am_ (R_p0.out.put K_b.out hg_); replace R_p1 := am_ (R_p1.out.put K_b.out hg_); replace R_a0 := am_ (R_a0.out.put K_b.out hg_); replace R_a1 := am_ (R_a1.out.put K_b.out hg_); replace R_b0 := am_ (R_b0.out.put K_b.out hg_); replace R_b1 := am_ (R_b1.out.put K_b.out hg_); replace K_p := am_ (K_p.out.put hg_ N_b_p.out); replace K_a := am_ (K_a.out.put hg_ N_b_a.out); replace HB := am_ (HB.out.grown hg_ HB.out.size (fun k_ hk_ => by cases hk_; exact L_b.out)); replace K_b := am_ (show Bx w8 g_b A_b0 b0.length c_b0 A_b1 b1.length c_b1 from hw_); clear hw_ hg_; have c_b_0 := K_b.out.c0; have c_b_1 := K_b.out.c1)
  | fail)
 refine (zaT.calls 40 A_b0 c_b0 b0 A_b1 c_b1 b1 1 0 w8 R_b0.out.row R_b0.out.cap R_b1.out.row R_b1.out.cap F3.out).mono ?_
 rintro e w9 ⟨rfl, hb⟩
 clear c_a_0 c_a_1 c_b_0 c_b_1
 replace R_p0 := am_ (R_p0.out.step hb); replace R_p1 := am_ (R_p1.out.step hb); replace R_a0 := am_ (R_a0.out.step hb); replace R_a1 := am_ (R_a1.out.step hb); replace R_b0 := am_ (R_b0.out.step hb); replace R_b1 := am_ (R_b1.out.step hb); replace K_p := am_ (K_p.out.step hb); replace K_a := am_ (K_a.out.step hb); replace K_b := am_ (K_b.out.step hb); replace HB := am_ (zb HB.out hb)
 clear hb
 have c_b_0 := K_b.out.c0
 have c_b_1 := K_b.out.c1
 go_wp2_with (first
  | ((with_reducible refine zk (N := 27) rfl ?_); (try (refine zZ (by rfl) ?_; dsimp only)); refine Kd.R_lit (Kd.int .i64) _ 3 ?hg (N := 27) ?hd (xs := ([1, (-1)] : List Int)) (inner := [.int .i64 1, .int .i64 (-1)]) (ok := fun _ => True) (okp := fun _ => True) ?hr ?hp (fun _ hk => hk) trivial (Below.refl _ _) (Nat.le_refl _) (by simp) ?_; (case hd => rfl); (case hg => rfl); (case hr => first | (go_simp; done) | (go_simp; rfl)); (case hp => exact (zaK.one (show Kd.M (Kd.int .i64) _ _ _ 1 [.int .i64 1] from rfl) (zaK.one (show Kd.M (Kd.int .i64) _ _ _ (-1) [.int .i64 (-1)] from rfl) (zaK.none _ _)))); intro v_ w10 ho_ hb_ hg_ hnew_; clear hg_ hnew_; rw [← E1.out] at ho_; obtain ⟨A_y1, c_y1, rfl, hr_⟩ := Rd.of_R ho_; replace R_p0 := am_ (R_p0.out.step hb_); replace R_p1 := am_ (R_p1.out.step hb_); replace R_a0 := am_ (R_a0.out.step hb_); replace R_a1 := am_ (R_a1.out.step hb_); replace R_b0 := am_ (R_b0.out.step hb_); replace R_b1 := am_ (R_b1.out.step hb_); replace K_p := am_ (K_p.out.step hb_); replace K_a := am_ (K_a.out.step hb_); replace K_b := am_ (K_b.out.step hb_); replace HB := am_ (zb HB.out hb_); have R_y1 := am_ hr_; clear ho_ hb_ hr_)
  | fail)
 refine (zK.calls 40 A_b0 c_b0 b0 A_b1 c_b1 b1 A_y1 c_y1 y1 1 l 0 w10 R_b0.out.row R_b0.out.cap R_b1.out.row R_b1.out.cap R_y1.out.row R_y1.out.cap F4.out).mono ?_
 rintro e w11 ⟨v0, rfl, h0, hb⟩
 clear c_b_0 c_b_1
 obtain ⟨A_l, c_l, rfl, r_l⟩ := Rd.of_R h0
 replace R_p0 := am_ (R_p0.out.step hb); replace R_p1 := am_ (R_p1.out.step hb); replace R_a0 := am_ (R_a0.out.step hb); replace R_a1 := am_ (R_a1.out.step hb); replace R_b0 := am_ (R_b0.out.step hb); replace R_b1 := am_ (R_b1.out.step hb); replace R_y1 := am_ (R_y1.out.step hb); replace K_p := am_ (K_p.out.step hb); replace K_a := am_ (K_a.out.step hb); replace K_b := am_ (K_b.out.step hb); replace HB := am_ (zb HB.out hb)
 have R_l := am_ r_l
 clear hb r_l h0
 go_wp2_with (first
  | ((with_reducible refine zk (N := 51) rfl ?_); (try (refine zZ (by rfl) ?_; dsimp only)); refine Kd.R_lit (Kd.int .i64) _ 3 ?hg (N := 51) ?hd (xs := ([2, 0] : List Int)) (inner := [.int .i64 2, .int .i64 0]) (ok := fun _ => True) (okp := fun _ => True) ?hr ?hp (fun _ hk => hk) trivial (Below.refl _ _) (Nat.le_refl _) (by simp) ?_; (case hd => rfl); (case hg => rfl); (case hr => first | (go_simp; done) | (go_simp; rfl)); (case hp => exact (zaK.one (show Kd.M (Kd.int .i64) _ _ _ 2 [.int .i64 2] from rfl) (zaK.one (show Kd.M (Kd.int .i64) _ _ _ 0 [.int .i64 0] from rfl) (zaK.none _ _)))); intro v_ w12 ho_ hb_ hg_ hnew_; clear hg_ hnew_; rw [← E2.out] at ho_; obtain ⟨A_y2, c_y2, rfl, hr_⟩ := Rd.of_R ho_; replace R_p0 := am_ (R_p0.out.step hb_); replace R_p1 := am_ (R_p1.out.step hb_); replace R_a0 := am_ (R_a0.out.step hb_); replace R_a1 := am_ (R_a1.out.step hb_); replace R_b0 := am_ (R_b0.out.step hb_); replace R_b1 := am_ (R_b1.out.step hb_); replace R_y1 := am_ (R_y1.out.step hb_); replace R_l := am_ (R_l.out.step hb_); replace K_p := am_ (K_p.out.step hb_); replace K_a := am_ (K_a.out.step hb_); replace K_b := am_ (K_b.out.step hb_); replace HB := am_ (zb HB.out hb_); have R_y2 := am_ hr_; clear ho_ hb_ hr_)
  | fail)
 refine (zX.calls 40 A_l c_l l A_y2 c_y2 y2 true w12 R_l.out.row R_l.out.cap R_y2.out.row R_y2.out.cap F5.out).mono ?_
 rintro e w13 ⟨rfl, hd⟩
 have hb := drawn0_below hd
 clear hd
 replace R_p0 := am_ (R_p0.out.step hb); replace R_p1 := am_ (R_p1.out.step hb); replace R_a0 := am_ (R_a0.out.step hb); replace R_a1 := am_ (R_a1.out.step hb); replace R_b0 := am_ (R_b0.out.step hb); replace R_b1 := am_ (R_b1.out.step hb); replace R_y1 := am_ (R_y1.out.step hb); replace R_l := am_ (R_l.out.step hb); replace R_y2 := am_ (R_y2.out.step hb); replace K_p := am_ (K_p.out.step hb); replace K_a := am_ (K_a.out.step hb); replace K_b := am_ (K_b.out.step hb); replace HB := am_ (zb HB.out hb)
 clear hb
 have c_p_0 := K_p.out.c0
 have c_a_0 := K_a.out.c0
 have c_b_0 := K_b.out.c0
 have c_p_1 := K_p.out.c1
 have c_a_1 := K_a.out.c1
 have c_b_1 := K_b.out.c1
 go_wp2_with fail
 refine (zz.calls 40 A_p0 c_p0 p0 A_p1 c_p1 p1 2 0 w13 R_p0.out.row R_p0.out.cap R_p1.out.row R_p1.out.cap F6.out).mono ?_
 rintro e w14 ⟨rfl, hb⟩
 clear c_p_0 c_p_1 c_a_0 c_a_1 c_b_0 c_b_1
 replace R_p0 := am_ (R_p0.out.step hb); replace R_p1 := am_ (R_p1.out.step hb); replace R_a0 := am_ (R_a0.out.step hb); replace R_a1 := am_ (R_a1.out.step hb); replace R_b0 := am_ (R_b0.out.step hb); replace R_b1 := am_ (R_b1.out.step hb); replace R_y1 := am_ (R_y1.out.step hb); replace R_l := am_ (R_l.out.step hb); replace R_y2 := am_ (R_y2.out.step hb); replace K_p := am_ (K_p.out.step hb); replace K_a := am_ (K_a.out.step hb); replace K_b := am_ (K_b.out.step hb); replace HB := am_ (zb HB.out hb)
 clear hb
 have c_p_0 := K_p.out.c0
 have c_a_0 := K_a.out.c0
 have c_b_0 := K_b.out.c0
 have c_p_1 := K_p.out.c1
 have c_a_1 := K_a.out.c1
 have c_b_1 := K_b.out.c1
 go_wp2_with (first
  | ((with_reducible refine zk (N := 60) rfl ?_); (try (refine zZ (by rfl) ?_; dsimp only)); refine Kd.R_lit (Kd.int .i64) _ 3 ?hg (N := 60) ?hd (xs := ([0, (-1)] : List Int)) (inner := [.int .i64 0, .int .i64 (-1)]) (ok := fun _ => True) (okp := fun _ => True) ?hr ?hp (fun _ hk => hk) trivial (Below.refl _ _) (Nat.le_refl _) (by simp) ?_; (case hd => rfl); (case hg => rfl); (case hr => first | (go_simp; done) | (go_simp; rfl)); (case hp => exact (zaK.one (show Kd.M (Kd.int .i64) _ _ _ 0 [.int .i64 0] from rfl) (zaK.one (show Kd.M (Kd.int .i64) _ _ _ (-1) [.int .i64 (-1)] from rfl) (zaK.none _ _)))); intro v_ w15 ho_ hb_ hg_ hnew_; clear hg_ hnew_; rw [← E3.out] at ho_; obtain ⟨A_y3, c_y3, rfl, hr_⟩ := Rd.of_R ho_; replace R_p0 := am_ (R_p0.out.step hb_); replace R_p1 := am_ (R_p1.out.step hb_); replace R_a0 := am_ (R_a0.out.step hb_); replace R_a1 := am_ (R_a1.out.step hb_); replace R_b0 := am_ (R_b0.out.step hb_); replace R_b1 := am_ (R_b1.out.step hb_); replace R_y1 := am_ (R_y1.out.step hb_); replace R_l := am_ (R_l.out.step hb_); replace R_y2 := am_ (R_y2.out.step hb_); replace K_p := am_ (K_p.out.step hb_); replace K_a := am_ (K_a.out.step hb_); replace K_b := am_ (K_b.out.step hb_); replace HB := am_ (zb HB.out hb_); have R_y3 := am_ hr_; clear ho_ hb_ hr_)
  | fail)
 refine (within_calls A_a0 c_a0 a0 A_a1 c_a1 a1 A_y3 c_y3 y3 0 w15 R_a0.out.row R_a0.out.cap R_a1.out.row R_a1.out.cap R_y3.out.row R_y3.out.cap HI3.out).mono ?_
 rw [F7.out]
 rintro e w16 ⟨rfl, hb⟩
 clear c_p_0 c_p_1 c_a_0 c_a_1 c_b_0 c_b_1
 replace R_p0 := am_ (R_p0.out.step hb); replace R_p1 := am_ (R_p1.out.step hb); replace R_a0 := am_ (R_a0.out.step hb); replace R_a1 := am_ (R_a1.out.step hb); replace R_b0 := am_ (R_b0.out.step hb); replace R_b1 := am_ (R_b1.out.step hb); replace R_y1 := am_ (R_y1.out.step hb); replace R_l := am_ (R_l.out.step hb); replace R_y2 := am_ (R_y2.out.step hb); replace R_y3 := am_ (R_y3.out.step hb); replace K_p := am_ (K_p.out.step hb); replace K_a := am_ (K_a.out.step hb); replace K_b := am_ (K_b.out.step hb); replace HB := am_ (zb HB.out hb)
 clear hb
 have c_p_0 := K_p.out.c0
 have c_a_0 := K_a.out.c0
 have c_b_0 := K_b.out.c0
 have c_p_1 := K_p.out.c1
 have c_a_1 := K_a.out.c1
 have c_b_1 := K_b.out.c1
 go_wp2_with (first
  | ((with_reducible refine zk (N := 65) rfl ?_); (try (refine zZ (by rfl) ?_; dsimp only)); refine Kd.R_lit (Kd.int .i64) _ 3 ?hg (N := 65) ?hd (xs := ([0, (-1)] : List Int)) (inner := [.int .i64 0, .int .i64 (-1)]) (ok := fun _ => True) (okp := fun _ => True) ?hr ?hp (fun _ hk => hk) trivial (Below.refl _ _) (Nat.le_refl _) (by simp) ?_; (case hd => rfl); (case hg => rfl); (case hr => first | (go_simp; done) | (go_simp; rfl)); (case hp => exact (zaK.one (show Kd.M (Kd.int .i64) _ _ _ 0 [.int .i64 0] from rfl) (zaK.one (show Kd.M (Kd.int .i64) _ _ _ (-1) [.int .i64 (-1)] from rfl) (zaK.none _ _)))); intro v_ w17 ho_ hb_ hg_ hnew_; clear hg_ hnew_; rw [← E4.out] at ho_; obtain ⟨A_y4, c_y4, rfl, hr_⟩ := Rd.of_R ho_; replace R_p0 := am_ (R_p0.out.step hb_); replace R_p1 := am_ (R_p1.out.step hb_); replace R_a0 := am_ (R_a0.out.step hb_); replace R_a1 := am_ (R_a1.out.step hb_); replace R_b0 := am_ (R_b0.out.step hb_); replace R_b1 := am_ (R_b1.out.step hb_); replace R_y1 := am_ (R_y1.out.step hb_); replace R_l := am_ (R_l.out.step hb_); replace R_y2 := am_ (R_y2.out.step hb_); replace R_y3 := am_ (R_y3.out.step hb_); replace K_p := am_ (K_p.out.step hb_); replace K_a := am_ (K_a.out.step hb_); replace K_b := am_ (K_b.out.step hb_); replace HB := am_ (zb HB.out hb_); have R_y4 := am_ hr_; clear ho_ hb_ hr_)
  | fail)
 refine (within_calls A_b0 c_b0 b0 A_b1 c_b1 b1 A_y4 c_y4 y4 0 w17 R_b0.out.row R_b0.out.cap R_b1.out.row R_b1.out.cap R_y4.out.row R_y4.out.cap HI4.out).mono ?_
 rw [F8.out]
 rintro e w18 ⟨rfl, hb⟩
 clear c_p_0 c_p_1 c_a_0 c_a_1 c_b_0 c_b_1
 replace R_p0 := am_ (R_p0.out.step hb); replace R_p1 := am_ (R_p1.out.step hb); replace R_a0 := am_ (R_a0.out.step hb); replace R_a1 := am_ (R_a1.out.step hb); replace R_b0 := am_ (R_b0.out.step hb); replace R_b1 := am_ (R_b1.out.step hb); replace R_y1 := am_ (R_y1.out.step hb); replace R_l := am_ (R_l.out.step hb); replace R_y2 := am_ (R_y2.out.step hb); replace R_y3 := am_ (R_y3.out.step hb); replace R_y4 := am_ (R_y4.out.step hb); replace K_p := am_ (K_p.out.step hb); replace K_a := am_ (K_a.out.step hb); replace K_b := am_ (K_b.out.step hb); replace HB := am_ (zb HB.out hb)
 clear hb
 have c_p_0 := K_p.out.c0
 have c_a_0 := K_a.out.c0
 have c_b_0 := K_b.out.c0
 have c_p_1 := K_p.out.c1
 have c_a_1 := K_a.out.c1
 have c_b_1 := K_b.out.c1
 go_wp2_with (first
  | ((with_reducible refine zk (N := 72) rfl ?_); (try (refine zZ (by rfl) ?_; dsimp only)); refine Kd.R_lit (Kd.int .i64) _ 3 ?hg (N := 72) ?hd (xs := ([0, 1] : List Int)) (inner := [.int .i64 0, .int .i64 1]) (ok := fun _ => True) (okp := fun _ => True) ?hr ?hp (fun _ hk => hk) trivial (Below.refl _ _) (Nat.le_refl _) (by simp) ?_; (case hd => rfl); (case hg => rfl); (case hr => first | (go_simp; done) | (go_simp; rfl)); (case hp => exact (zaK.one (show Kd.M (Kd.int .i64) _ _ _ 0 [.int .i64 0] from rfl) (zaK.one (show Kd.M (Kd.int .i64) _ _ _ 1 [.int .i64 1] from rfl) (zaK.none _ _)))); intro v_ w19 ho_ hb_ hg_ hnew_; clear hg_ hnew_; rw [← E5.out] at ho_; obtain ⟨A_y5, c_y5, rfl, hr_⟩ := Rd.of_R ho_; replace R_p0 := am_ (R_p0.out.step hb_); replace R_p1 := am_ (R_p1.out.step hb_); replace R_a0 := am_ (R_a0.out.step hb_); replace R_a1 := am_ (R_a1.out.step hb_); replace R_b0 := am_ (R_b0.out.step hb_); replace R_b1 := am_ (R_b1.out.step hb_); replace R_y1 := am_ (R_y1.out.step hb_); replace R_l := am_ (R_l.out.step hb_); replace R_y2 := am_ (R_y2.out.step hb_); replace R_y3 := am_ (R_y3.out.step hb_); replace R_y4 := am_ (R_y4.out.step hb_); replace K_p := am_ (K_p.out.step hb_); replace K_a := am_ (K_a.out.step hb_); replace K_b := am_ (K_b.out.step hb_); replace HB := am_ (zb HB.out hb_); have R_y5 := am_ hr_; clear ho_ hb_ hr_)
  | fail)
 refine (zX.calls 40 A_b1 c_b1 b1 A_y5 c_y5 y5 true w19 R_b1.out.row R_b1.out.cap R_y5.out.row R_y5.out.cap F9.out).mono ?_
 rintro e w20 ⟨rfl, hd⟩
 have hb := drawn0_below hd
 clear hd
 replace HB := am_ (zb HB.out hb)
 clear hb
 clear c_p_0 c_p_1 c_a_0 c_a_1 c_b_0 c_b_1
 go_wp2_with fail
 go_ret
 exact ⟨by first | done | rfl, HB.out⟩
end Go.Proofs.Ytlidbaejhmamjaa.LW
namespace Go.Proofs.Ytlidbaejhmamjaa.LW
open Go.RowKit Go.ChangeShapes Go.WideShapes YtlidbaejhmamjaaW.PrintWords YtlidbaejhmamjaaW.PrintLast YtlidbaejhmamjaaW.PrintMore PB LA AC
section
variable {H : Type} {enc : TypeId × Value → H} {W : World} {base : Nat} {spare : Nat → Bool} {held : Bool}
theorem wf_i64 {n : Int} (h : (Lit.int .i64 n).wf = true) : -9223372036854775808 ≤ n ∧ n < 9223372036854775808 := by
 simp [Lit.wf, IntKind.min, IntKind.max, IntKind.signed, IntKind.bits] at h
 omega
theorem ints_of_trod {fuel : Nat} {v : Value} {x : DataW H × List MemPlace} (h : DataW.trod enc Try.prog W base spare held fuel 22 [v] = some x) : ∃ A c xs, v = .slice A xs.length c ∧ Rd W A c xs ∧ I64 xs := by
 rcases open_ints Try.underlying22 Try.underlying3 (by kernel_rfl) h with ⟨hcs, _⟩ | ⟨a, len, cap, zs, hcs, _, hl, hm, hz, _, hcell, hwz⟩
 ·obtain rfl := (List.cons.inj hcs).1
  exact ⟨none, 0, [], rfl, ⟨Kd.C_nil _ _, Nat.le_refl _⟩, fun x hx => by simp at hx⟩
 ·obtain rfl := (List.cons.inj hcs).1
  have hlz : len ≤ zs.length := by rw [hz]; split <;> omega
  have hlen : (zs.take len).length = len := by rw [List.length_take]; omega
  refine ⟨some a, cap, zs.take len, by rw [hlen], ⟨⟨rfl, by rw [hlen]; simp [maxLen] at hm; omega, fun _ => ⟨a, rfl, fun j p hj => ⟨[.int .i64 p], rfl, rfl, fun i u hu => ?_⟩⟩⟩, by rw [hlen]; exact hl⟩, fun x hx => wf_i64 (hwz x (List.mem_of_mem_take hx))⟩
  cases i with
  | succ i => cases hu
  | zero =>
   obtain rfl := Option.some.inj hu
   have hj2 : j < (zs.take len).length := by
    rcases Nat.lt_or_ge j (zs.take len).length with h1 | h1
    ·exact h1
    ·rw [List.getElem?_eq_none h1] at hj; cases hj
   have hj3 : zs[j]? = some p := by
    rw [List.getElem?_take] at hj
    split at hj
    ·exact hj
    ·cases hj
   have := hcell j (by omega)
   rw [List.getD_eq_getElem?_getD, hj3] at this
   show W.cell? (a.add (j * 1 + 0)) = _
   rw [Nat.mul_one, Nat.add_zero]
   exact this
end
end Go.Proofs.Ytlidbaejhmamjaa.LW
namespace Go.Proofs.Ytlidbaejhmamjaa.PB
open Go.RowKit YtlidbaejhmamjaaW.PrintWords YtlidbaejhmamjaaW.PrintLast YtlidbaejhmamjaaW.PrintMore
attribute [local go_sem] zak zam zaw zau zae zad zal zan   -- for this text's walks alone
def zw.l0 : Nat → List Int → Int → Option (List Int)
 | 0, _, _ => none
 | k + 1, x0, x3 => if x3 > 0 then (if 0 ≤ (wrap64 (x3 - 1)) then (if (wrap64 (x3 - 1)) < (x0.length : Int) then (if (rd x0 (wrap64 (x3 - 1))) = 0 then (zw.l0 k x0 (wrap64 (x3 - 1))) else (if 0 ≤ x3 then (if x3 ≤ (x0.length : Int) then (some (x0.take (x3 : Int).toNat)) else (none)) else (none))) else (none)) else (none)) else (if 0 ≤ x3 then (if x3 ≤ (x0.length : Int) then (some (x0.take (x3 : Int).toNat)) else (none)) else (none))
def zw.f (k : Nat) (l0 : List Int) : Option (List Int) := zw.l0 k l0 (l0.length : Int)
set_option maxHeartbeats 8000000 in
set_option maxRecDepth 100000 in
theorem zw.calls (k : Nat) (P0_ : Nat → Prop) (u9000_ : Value) (l0 : List Int) (r : List Int) (w0 w : World) (hB : Below w0.heap.size w0 w) (ho0 : Kd.R (Kd.int .u32) 134 w w0.heap.size P0_ u9000_ l0) (h : zw.f k l0 = some r) :
  Calls Try.prog 69 #[u9000_] w fun e w' => ∃ v0_ : Value, e = .returned (v0_) ∧ Kd.R (Kd.int .u32) 134 w' w0.heap.size (fun k_ => (P0_ k_ ∨ w.heap.size ≤ k_)) v0_ r ∧ Below w0.heap.size w0 w' ∧ Kept w w' (fun k_ => P0_ k_) := by
 have HO0 := am_ (show Kd.R (Kd.int .u32) 134 w w0.heap.size (fun k_ => (P0_ k_ ∨ w.heap.size ≤ k_)) u9000_ l0 from Kd.zS ho0 (fun k_ hk => (.inl hk)))
 have HK := am_ (Kept.refl w (fun k_ => P0_ k_))
 have HW0 := am_ hB.size
 have HB := am_ hB
 clear hB
 have H : (zw.l0 k l0 (l0.length : Int)) = some r := h
 clear h
 have H' := am_ H
 clear H
 obtain ⟨Ao2, co2, eo2⟩ := Kd.zY HO0.out
 subst eo2
 go_enter Try.func69, Try.ntmps69
 go_wp2
 go_loopg [3] k (fun kq v3 w' => ∃ (x3_1 : Int), v3 = .int .i64 x3_1 ∧ Aside0 (zw.l0 kq l0 x3_1 = some r) ∧ Aside0 (kq ≤ k) ∧ Aside0 (Kd.R (Kd.int .u32) 134 w' w0.heap.size (fun k_ => (P0_ k_ ∨ w.heap.size ≤ k_)) (.slice Ao2 l0.length co2) l0) ∧ Aside0 (Kept w w' (fun k_ => P0_ k_)) ∧ Aside0 (Below w0.heap.size w0 w'))
 case atStart => exact ⟨((l0.length : Int)), (by first | rfl | (simp; done) | (simp [*]; done)), H', ⟨Nat.le_refl _⟩, ⟨by (with_reducible repeat (first | apply Kd.zL | apply Kd.zH | apply Kd.zP)); exact HO0.out⟩, ⟨by repeat (first | (with_reducible first | exact HK.out | apply Kept.alloc | apply Kept.drewN | apply Kept.drew) | exact HK.out)⟩, ⟨by repeat (first | (with_reducible first | exact HB.out | apply zj | apply ze | apply zl) | exact HB.out)⟩⟩
 case round =>
  clear H'
  try clear p2
  obtain ⟨x3_1, rfl, HA, HK1, HO_0, HK, HB⟩ := hrel
  cases gk with
  | zero => exact absurd HA.out (by simp [zw.l0])
  | succ k1 =>
   have H := HA.out
   clear HA
   simp only [zw.l0] at H
   by_cases c3 : x3_1 > 0
   ·rw [if_pos c3] at H
    have c3b0 : decide (0 < x3_1) = true := decide_eq_true c3
    clear c3
    obtain ⟨ji4, hji4⟩ : ∃ j_ : Int, (wrap64 (x3_1 - 1)) = j_ := ⟨_, rfl⟩
    replace H : (if 0 ≤ (ji4) then (if (ji4) < (l0.length : Int) then (if (rd l0 (ji4)) = 0 then (zw.l0 k1 l0 ji4) else (if 0 ≤ x3_1 then (if x3_1 ≤ (l0.length : Int) then (some (l0.take (x3_1 : Int).toNat)) else (none)) else (none))) else (none)) else (none)) = some r := by first | (rw [hji4] at H; exact H) | (simp only [hji4] at H ⊢; exact H)
    have hji4w : (IntKind.i64.wrap (x3_1 - 1)) = ji4 := (zaA _).trans hji4
    by_cases c5 : 0 ≤ (ji4)
    ·rw [if_pos c5] at H
     have c5b0 : decide (0 ≤ (ji4)) = true := decide_eq_true c5
     clear c5
     by_cases c6 : (ji4) < (l0.length : Int)
     ·rw [if_pos c6] at H
      have c6b0 : decide ((ji4) < (l0.length : Int)) = true := decide_eq_true c6
      clear c6
      by_cases c7 : (rd l0 (ji4)) = 0
      ·rw [if_pos c7] at H
       have c7b0 : ((rd l0 (ji4)) == 0) = true := beq_iff_eq.mpr c7
       have c7b1 : ((rd l0 (ji4)) != 0) = false := bne_eq_false_iff_eq.mpr c7
       clear c7
       have H' := am_ H
       clear H
       have p307 : 0 ≤ ((ji4) : Int) := of_decide_eq_true (by first | (with_reducible assumption) | assumption)
       have q307 : (ji4) < (l0.length : Int) := of_decide_eq_true (by first | (with_reducible assumption) | assumption)
       obtain ⟨ad307, e307, hx307_0⟩ := Kd.z8 (Kd.zQ HO_0.out).2.2 (ji4) p307 q307
       cases e307
       replace p307 := eq_true p307
       replace q307 := eq_true q307
       go_wp2
       go_roundg k1
       case measure => have := HK1.out; omega
       case rel => exact ⟨(ji4), (by first | rfl | (simp; done) | (simp only [← hji4] <;> (first | rfl | simp)) | (simp [*]; done)), H', ⟨by have := HK1.out; omega⟩, ⟨by (with_reducible repeat (first | apply Kd.zL | apply Kd.zH | apply Kd.zP)); exact HO_0.out⟩, ⟨by repeat (first | (with_reducible first | exact HK.out | apply Kept.alloc | apply Kept.drewN | apply Kept.drew) | exact HK.out)⟩, ⟨by repeat (first | (with_reducible first | exact HB.out | apply zj | apply ze | apply zl) | exact HB.out)⟩⟩
      ·rw [if_neg c7] at H
       have c7b0 : ((rd l0 (ji4)) == 0) = false := beq_eq_false_iff_ne.mpr c7
       have c7b1 : ((rd l0 (ji4)) != 0) = true := bne_iff_ne.mpr c7
       by_cases c8 : 0 ≤ x3_1
       ·rw [if_pos c8] at H
        have c8b0 := eq_true c8
        have c8b1 : decide (0 ≤ x3_1) = true := decide_eq_true c8
        clear c8
        by_cases c9 : x3_1 ≤ (l0.length : Int)
        ·rw [if_pos c9] at H
         have c9b0 := eq_true c9
         have c9b1 : decide (x3_1 ≤ (l0.length : Int)) = true := decide_eq_true c9
         clear c9
         obtain ⟨y308, hy308⟩ : ∃ y_ : List Int, y_ = (l0.take (x3_1 : Int).toNat) := ⟨_, rfl⟩
         replace H : (some y308) = some r := by first | (rw [hy308]; with_reducible exact H) | (have H2_ := (Option.bind_some _ _).symm.trans H; rw [hy308]; with_reducible exact H2_) | (have H2_ := (Option.bind_some _ _).symm.trans H; with_reducible exact H2_) | with_reducible exact H | (rw [hy308]; exact H) | exact H
         have Ny308 := am_ hy308
         clear hy308
         obtain rfl := Option.some.inj H
         have p307 : 0 ≤ ((ji4) : Int) := of_decide_eq_true (by first | (with_reducible assumption) | assumption)
         have q307 : (ji4) < (l0.length : Int) := of_decide_eq_true (by first | (with_reducible assumption) | assumption)
         obtain ⟨ad307, e307, hx307_0⟩ := Kd.z8 (Kd.zQ HO_0.out).2.2 (ji4) p307 q307
         cases e307
         replace p307 := eq_true p307
         replace q307 := eq_true q307
         have q10 : (x3_1 : Int) ≤ ((l0.length : Int) : Int) := of_decide_eq_true (by first | (with_reducible assumption) | assumption)
         obtain ⟨i010, hi010, _, hsz10, _⟩ := info_parts info134
         have hcut10 := cut_to (P := Try.prog) 99 134 .i64 Try.underlying99 hi010 (some ad307) l0.length co2 x3_1 (of_decide_eq_true (by first | (with_reducible assumption) | assumption)) q10 (Kd.zQ HO_0.out).2.1
         have hr10 := Kd.R_take (m := (x3_1 : Int).toNat) HO_0.out (by omega)
         have hy10 : y308.length = (x3_1 : Int).toNat := (by rw [Ny308.out, List.length_take]; omega)
         rw [← Ny308.out] at hr10
         rw [← hy10] at hr10 hcut10
         clear hy10 hi010 hsz10 HO_0
         have HO310 := am_ hr10
         clear hr10
         replace q10 := eq_true q10
         go_wp2
         go_ret
         exact ⟨_, by first | rfl | (simp [zp, zq] <;> rfl) | (simp only [← hji4]; first | rfl | (simp [zp, zq] <;> rfl)) | (simp [*, zp, zq] <;> rfl), by (with_reducible repeat (first | apply Kd.zL | apply Kd.zH | apply Kd.zP)); exact HO310.out, by repeat (first | (with_reducible first | exact HB.out | apply zj | apply ze | apply zl) | exact HB.out), by repeat (first | (with_reducible first | exact HK.out | apply Kept.alloc | apply Kept.drewN | apply Kept.drew) | exact HK.out)⟩
        ·rw [if_neg c9] at H
         exact absurd H (by simp)
       ·rw [if_neg c8] at H
        exact absurd H (by simp)
     ·rw [if_neg c6] at H
      exact absurd H (by simp)
    ·rw [if_neg c5] at H
     exact absurd H (by simp)
   ·rw [if_neg c3] at H
    have c3b0 : decide (0 < x3_1) = false := decide_eq_false c3
    clear c3
    by_cases c11 : 0 ≤ x3_1
    ·rw [if_pos c11] at H
     have c11b0 := eq_true c11
     have c11b1 : decide (0 ≤ x3_1) = true := decide_eq_true c11
     clear c11
     by_cases c12 : x3_1 ≤ (l0.length : Int)
     ·rw [if_pos c12] at H
      have c12b0 := eq_true c12
      have c12b1 : decide (x3_1 ≤ (l0.length : Int)) = true := decide_eq_true c12
      clear c12
      obtain ⟨y311, hy311⟩ : ∃ y_ : List Int, y_ = (l0.take (x3_1 : Int).toNat) := ⟨_, rfl⟩
      replace H : (some y311) = some r := by first | (rw [hy311]; with_reducible exact H) | (have H2_ := (Option.bind_some _ _).symm.trans H; rw [hy311]; with_reducible exact H2_) | (have H2_ := (Option.bind_some _ _).symm.trans H; with_reducible exact H2_) | with_reducible exact H | (rw [hy311]; exact H) | exact H
      have Ny311 := am_ hy311
      clear hy311
      obtain rfl := Option.some.inj H
      have q13 : (x3_1 : Int) ≤ ((l0.length : Int) : Int) := of_decide_eq_true (by first | (with_reducible assumption) | assumption)
      obtain ⟨i013, hi013, _, hsz13, _⟩ := info_parts info134
      have hcut13 := cut_to (P := Try.prog) 99 134 .i64 Try.underlying99 hi013 Ao2 l0.length co2 x3_1 (of_decide_eq_true (by first | (with_reducible assumption) | assumption)) q13 (Kd.zQ HO_0.out).2.1
      have hr13 := Kd.R_take (m := (x3_1 : Int).toNat) HO_0.out (by omega)
      have hy13 : y311.length = (x3_1 : Int).toNat := (by rw [Ny311.out, List.length_take]; omega)
      rw [← Ny311.out] at hr13
      rw [← hy13] at hr13 hcut13
      clear hy13 hi013 hsz13 HO_0
      have HO313 := am_ hr13
      clear hr13
      replace q13 := eq_true q13
      go_wp2
      go_ret
      exact ⟨_, by first | rfl | (simp [zp, zq] <;> rfl) | (simp [*, zp, zq] <;> rfl), by (with_reducible repeat (first | apply Kd.zL | apply Kd.zH | apply Kd.zP)); exact HO313.out, by repeat (first | (with_reducible first | exact HB.out | apply zj | apply ze | apply zl) | exact HB.out), by repeat (first | (with_reducible first | exact HK.out | apply Kept.alloc | apply Kept.drewN | apply Kept.drew) | exact HK.out)⟩
     ·rw [if_neg c12] at H
      exact absurd H (by simp)
    ·rw [if_neg c11] at H
     exact absurd H (by simp)
end Go.Proofs.Ytlidbaejhmamjaa.PB
namespace Go.Proofs.Ytlidbaejhmamjaa.PB
open Go.RowKit YtlidbaejhmamjaaW.PrintWords YtlidbaejhmamjaaW.PrintLast YtlidbaejhmamjaaW.PrintMore
attribute [local go_sem] zak zam zaw zau zae zad zal zan   -- for this text's walks alone
end Go.Proofs.Ytlidbaejhmamjaa.PB
namespace Go.Proofs.Ytlidbaejhmamjaa.PB
open Go.RowKit YtlidbaejhmamjaaW.PrintWords YtlidbaejhmamjaaW.PrintLast YtlidbaejhmamjaaW.PrintMore
attribute [local go_sem] zak zam zaw zau zae zad zal zan   -- for this text's walks alone
mutual
def zD.j0 : Nat → List Int → List Int → Option (List Int)
 | 0, _, _ => none
 | k + 1, x0, x1 => if 0 ≤ (wrap64 ((x0.length : Int) + 1)) then (if (wrap64 ((x0.length : Int) + 1) : Int).toNat ≤ 70368744177664 then (zD.l0 k x0 x1 (List.replicate (wrap64 ((x0.length : Int) + 1) : Int).toNat 0) 0 0) else (none)) else (none)
def zD.l0 : Nat → List Int → List Int → List Int → Int → Int → Option (List Int)
 | 0, _, _, _, _, _ => none
 | k + 1, x0, x1, x5, x6, x7 => if x7 < (x0.length : Int) then (if 0 ≤ x7 then (if x7 < (x1.length : Int) then (if x7 < (x5.length : Int) then (zD.l0 k x0 x1 (x5.set (x7 : Int).toNat ((IntKind.u64.wrap ((IntKind.u64.wrap (x6 + (IntKind.u64.wrap (rd x0 x7)))) + (IntKind.u64.wrap (rd x1 x7)))) % 4294967296)) ((IntKind.u64.wrap ((IntKind.u64.wrap (x6 + (IntKind.u64.wrap (rd x0 x7)))) + (IntKind.u64.wrap (rd x1 x7)))) / 4294967296) (wrap64 (x7 + 1))) else (none)) else (if x7 < (x5.length : Int) then (zD.l0 k x0 x1 (x5.set (x7 : Int).toNat ((IntKind.u64.wrap (x6 + (IntKind.u64.wrap (rd x0 x7)))) % 4294967296)) ((IntKind.u64.wrap (x6 + (IntKind.u64.wrap (rd x0 x7)))) / 4294967296) (wrap64 (x7 + 1))) else (none))) else (none)) else (if 0 ≤ (x0.length : Int) then (if (x0.length : Int) < (x5.length : Int) then ((zw.f k (x5.set ((x0.length : Int) : Int).toNat ((x6) % 4294967296))).bind fun t355 => (some t355)) else (none)) else (none))
end
def zD.f (k : Nat) (l0 : List Int) (l1 : List Int) : Option (List Int) := if (l0.length : Int) < (l1.length : Int) then (zD.j0 k l1 l0) else (zD.j0 k l0 l1)
set_option maxHeartbeats 8000000 in
set_option maxRecDepth 100000 in
theorem zD.calls (k : Nat) (A0 : Option Addr) (c0 : Nat) (l0 : List Int) (A1 : Option Addr) (c1 : Nat) (l1 : List Int) (r : List Int) (w : World) (hr0 : Kd.C (Kd.int .u32) w A0 l0.length l0) (hc0 : l0.length ≤ c0) (hr1 : Kd.C (Kd.int .u32) w A1 l1.length l1) (hc1 : l1.length ≤ c1) (h : zD.f k l0 l1 = some r) :
  Calls Try.prog 97 #[.slice A0 l0.length c0, .slice A1 l1.length c1] w fun e w' => ∃ v0_ : Value, e = .returned (v0_) ∧ Kd.R (Kd.int .u32) 134 w' w.heap.size (fun _ => True) v0_ r ∧ Below w.heap.size w w' := by
 have HR0 := am_ hr0
 have HC0 := am_ hc0
 clear hr0 hc0
 have HR1 := am_ hr1
 have HC1 := am_ hc1
 clear hr1 hc1
 have HB := am_ (Below.refl w.heap.size w)
 have H : (if (l0.length : Int) < (l1.length : Int) then (zD.j0 k l1 l0) else (zD.j0 k l0 l1)) = some r := h
 clear h
 have HC3 := am_ H
 clear H
 go_enter Try.func97, Try.ntmps97
 go_upto_if 12 with (fail)
 go_cut [0, 1] (fun v0 v1 wc => ∃ (kq : Nat) (A0' : Option Addr) (c0' : Nat) (l0' : List Int) (A1' : Option Addr) (c1' : Nat) (l1' : List Int), v0 = .slice A0' l0'.length c0' ∧ v1 = .slice A1' l1'.length c1' ∧ Aside0 (Kd.C (Kd.int .u32) w A0' l0'.length l0') ∧ Aside0 (l0'.length ≤ c0') ∧ Aside0 (Kd.C (Kd.int .u32) w A1' l1'.length l1') ∧ Aside0 (l1'.length ≤ c1') ∧ Aside0 (zD.j0 kq l0' l1' = some r) ∧ Aside0 (kq ≤ k) ∧ Aside0 (Below w.heap.size w wc))
 case first =>
  have H := HC3.out
  clear HC3
  by_cases c4 : (l0.length : Int) < (l1.length : Int)
  ·rw [if_pos c4] at H
   have c4b0 : decide ((l0.length : Int) < (l1.length : Int)) = true := decide_eq_true c4
   have c4b1 : decide (l0.length < l1.length) = true := decide_eq_true (Int.ofNat_lt.mp c4)
   clear c4
   (first | rw [c4b1] | rw [c4b0] | (simp only [zaA, zaR]; rw [c4b0]) | skip)
   have H' := am_ H
   clear H
   go_wp2
   go_meet
   case rel => exact ⟨_, A1, c1, l1, A0, c0, l0, rfl, rfl, HR1, HC1, HR0, HC0, H', ⟨by first | omega | exact Nat.le_refl _⟩, ⟨by repeat (first | (with_reducible first | exact HB.out | apply zj | apply ze | apply zl) | exact HB.out)⟩⟩
  ·rw [if_neg c4] at H
   have c4b0 : decide ((l0.length : Int) < (l1.length : Int)) = false := decide_eq_false c4
   have c4b1 : decide (l0.length < l1.length) = false := decide_eq_false (fun h => c4 (Int.ofNat_lt.mpr h))
   clear c4
   (first | rw [c4b1] | rw [c4b0] | (simp only [zaA, zaR]; rw [c4b0]) | skip)
   have H' := am_ H
   clear H
   go_wp2
   go_meet
   case rel => exact ⟨_, A0, c0, l0, A1, c1, l1, rfl, rfl, HR0, HC0, HR1, HC1, H', ⟨by first | omega | exact Nat.le_refl _⟩, ⟨by repeat (first | (with_reducible first | exact HB.out | apply zj | apply ze | apply zl) | exact HB.out)⟩⟩
 case rest =>
  clear HC3
  try clear c1
  try clear p2
  try clear c4
  try clear c4b0
  try clear c4b1
  clear HR0 HC0 HR1 HC1; obtain ⟨kq, A0, c0, l0, A1, c1, l1, rfl, rfl, HR0, HC0, HR1, HC1, HA, HJ2, HB⟩ := hcut
  cases kq with
  | zero => exact absurd HA.out (by simp [zD.j0])
  | succ kj2 =>
   have H := HA.out
   clear HA
   simp only [zD.j0] at H
   obtain ⟨ji5, hji5⟩ : ∃ j_ : Int, (wrap64 ((l0.length : Int) + 1)) = j_ := ⟨_, rfl⟩
   replace H : (if 0 ≤ (ji5) then (if (ji5 : Int).toNat ≤ 70368744177664 then (zD.l0 kj2 l0 l1 (List.replicate (ji5 : Int).toNat 0) 0 0) else (none)) else (none)) = some r := by first | (rw [hji5] at H; exact H) | (simp only [hji5] at H ⊢; exact H)
   have hji5w : (IntKind.i64.wrap ((l0.length : Int) + 1)) = ji5 := (zaA _).trans hji5
   by_cases c6 : 0 ≤ (ji5)
   ·rw [if_pos c6] at H
    have c6b0 := eq_true c6
    have c6b1 : decide (0 ≤ (ji5)) = true := decide_eq_true c6
    clear c6
    by_cases c7 : (ji5 : Int).toNat ≤ 70368744177664
    ·rw [if_pos c7] at H
     have c7b0 := eq_true c7
     have c7b1 : decide ((ji5 : Int).toNat ≤ 70368744177664) = true := decide_eq_true c7
     clear c7
     obtain ⟨y347, hy347⟩ : ∃ y_ : List Int, y_ = (List.replicate (ji5 : Int).toNat 0) := ⟨_, rfl⟩
     replace H : (zD.l0 kj2 l0 l1 y347 0 0) = some r := by first | (rw [hy347]; with_reducible exact H) | (have H2_ := (Option.bind_some _ _).symm.trans H; rw [hy347]; with_reducible exact H2_) | (have H2_ := (Option.bind_some _ _).symm.trans H; with_reducible exact H2_) | with_reducible exact H | (rw [hy347]; exact H) | exact H
     have Ny347 := am_ hy347
     clear hy347
     have H' := am_ H
     clear H
     go_wp2_with (first | ((with_reducible refine zk (N := 18) rfl ?_); refine Kd.R_make (Kd.int .u32) _ 134 rfl (N := 18) rfl 99 _ _ rfl ji5 rfl rfl Try.underlying99 (.int .u32 0) 4 info134 rfl (by decide) (by omega) 0 (ok := fun _ => True) (okp := fun _ => True) rfl (fun _ hk => hk) trivial (of_decide_eq_true (by first | (with_reducible assumption) | assumption)) (Nat.le_trans (Nat.mul_le_mul_right _ (of_decide_eq_true (by first | (with_reducible assumption) | assumption) : ji5.toNat ≤ 70368744177664)) (by omega)) (Below.refl _ _) (Nat.le_refl _) ?_; intro v348 w8 ho9 hb hg_ hnew_; clear hg_ hnew_; (first | rw [← Ny347.out] at ho9 | (simp only [Int.reduceToNat] at ho9; rw [← Ny347.out] at ho9)); have HO349 := am_ (Kd.zag ho9 (zo bw_)); replace HB := am_ (zb bw_ hb); clear hb ho9))
     go_loopg [6, 7] kj2 (fun kq v6 v7 w' => ∃ (x5_2 : List Int) (x6_2 : Int) (x7_2 : Int), v6 = .int .u64 x6_2 ∧ v7 = .int .i64 x7_2 ∧ Aside0 (zD.l0 kq l0 l1 x5_2 x6_2 x7_2 = some r) ∧ Aside0 (kq ≤ kj2) ∧ Aside0 (Kd.R (Kd.int .u32) 134 w' w.heap.size (fun _ => True) v348 x5_2) ∧ Aside0 (Below w.heap.size w w'))
     case atStart => exact ⟨(y347), (0), (0), (by first | rfl | (simp; done) | (simp [*]; done)), (by first | rfl | (simp; done) | (simp [*]; done)), H', ⟨Nat.le_refl _⟩, ⟨by (with_reducible repeat (first | apply Kd.zL | apply Kd.zH | apply Kd.zP)); exact HO349.out⟩, ⟨by repeat (first | (with_reducible first | exact HB.out | apply zj | apply ze | apply zl) | exact HB.out)⟩⟩
     case round =>
      clear H'
      try clear c1
      try clear p2
      try clear c4
      try clear c4b0
      try clear c4b1
      try clear c6
      try clear c6b0
      try clear c6b1
      try clear p6
      try clear c7
      try clear c7b0
      try clear c7b1
      try clear c9
      try clear p2
      obtain ⟨x5_2, x6_2, x7_2, rfl, rfl, HA, HK2, HO_5, HB⟩ := hrel
      cases gk with
      | zero => exact absurd HA.out (by simp [zD.l0])
      | succ k2 =>
       have H := HA.out
       clear HA
       simp only [zD.l0] at H
       by_cases c10 : x7_2 < (l0.length : Int)
       ·rw [if_pos c10] at H
        have c10b0 : decide (x7_2 < (l0.length : Int)) = true := decide_eq_true c10
        clear c10
        by_cases c11 : 0 ≤ x7_2
        ·rw [if_pos c11] at H
         have c11b0 : decide (0 ≤ x7_2) = true := decide_eq_true c11
         clear c11
         by_cases c12 : x7_2 < (l1.length : Int)
         ·rw [if_pos c12] at H
          have c12b0 : decide (x7_2 < (l1.length : Int)) = true := decide_eq_true c12
          clear c12
          by_cases c13 : x7_2 < (x5_2.length : Int)
          ·rw [if_pos c13] at H
           have c13b0 : decide (x7_2 < (x5_2.length : Int)) = true := decide_eq_true c13
           clear c13
           obtain ⟨y352, hy352⟩ : ∃ y_ : List Int, y_ = (x5_2.set (x7_2 : Int).toNat ((IntKind.u64.wrap ((IntKind.u64.wrap (x6_2 + (IntKind.u64.wrap (rd l0 x7_2)))) + (IntKind.u64.wrap (rd l1 x7_2)))) % 4294967296)) := ⟨_, rfl⟩
           replace H : (zD.l0 k2 l0 l1 y352 ((IntKind.u64.wrap ((IntKind.u64.wrap (x6_2 + (IntKind.u64.wrap (rd l0 x7_2)))) + (IntKind.u64.wrap (rd l1 x7_2)))) / 4294967296) (wrap64 (x7_2 + 1))) = some r := by first | (rw [hy352]; with_reducible exact H) | (have H2_ := (Option.bind_some _ _).symm.trans H; rw [hy352]; with_reducible exact H2_) | (have H2_ := (Option.bind_some _ _).symm.trans H; with_reducible exact H2_) | with_reducible exact H | (rw [hy352]; exact H) | exact H
           have Ny352 := am_ hy352
           clear hy352
           have H' := am_ H
           clear H
           have p350 : 0 ≤ (x7_2 : Int) := of_decide_eq_true (by first | (with_reducible assumption) | assumption)
           have q350 : x7_2 < (l0.length : Int) := of_decide_eq_true (by first | (with_reducible assumption) | assumption)
           obtain ⟨ad350, e350, hx350_0⟩ := Kd.z8 HR0.out x7_2 p350 q350
           cases e350
           replace hx350_0 := (HB.out.cell (World.block_lt_of_cell? w _ hx350_0)).trans hx350_0
           replace p350 := eq_true p350
           replace q350 := eq_true q350
           have p351 : 0 ≤ (x7_2 : Int) := of_decide_eq_true (by first | (with_reducible assumption) | assumption)
           have q351 : x7_2 < (l1.length : Int) := of_decide_eq_true (by first | (with_reducible assumption) | assumption)
           obtain ⟨ad351, e351, hx351_0⟩ := Kd.z8 HR1.out x7_2 p351 q351
           cases e351
           replace hx351_0 := (HB.out.cell (World.block_lt_of_cell? w _ hx351_0)).trans hx351_0
           replace p351 := eq_true p351
           replace q351 := eq_true q351
           have p14 : 0 ≤ (x7_2 : Int) := of_decide_eq_true (by first | (with_reducible assumption) | assumption)
           have q14 : (x7_2 : Int) < ((x5_2.length : Int) : Int) := of_decide_eq_true (by first | (with_reducible assumption) | assumption)
           obtain ⟨go14, co14, eo14, gb14, gl14, cl14, HG14⟩ := Kd.R_form HO_5.out (by omega)
           (first | cases eo14 | (injection eo14 with ea_ en_ ec_; (first | subst ea_ | (injection ea_ with ea_; subst ea_)); subst ec_; clear en_))
           have GB14 := am_ gb14
           have GG14 := am_ HG14
           clear gb14 gl14 HG14
           obtain ⟨hx14_0, hf14_0⟩ := Kd.zbe 0 HO_5.out (x7_2 : Int) p14 q14
           replace p14 := eq_true p14
           replace q14 := eq_true q14
           have HP15 := Kd.R_putg HO_5.out (x7_2 : Int) ((IntKind.u64.wrap ((IntKind.u64.wrap (x6_2 + (IntKind.u64.wrap (rd l0 x7_2)))) + (IntKind.u64.wrap (rd l1 x7_2)))) % 4294967296)
           go_wp2_with (first | ((with_reducible refine zr (t := 134) (p := 47) rfl ?_); refine store_ 134 47 ((wr.setCell ⟨go14, (x7_2 : Int).toNat, none⟩ (.int .u32 ((IntKind.u64.wrap ((IntKind.u64.wrap (x6_2 + (IntKind.u64.wrap (rd l0 x7_2)))) + (IntKind.u64.wrap (rd l1 x7_2)))) % 4294967296)))) ?_; intro w16 hw; have hg : wr.grownBy w16 (some go14) := (by rw [hw]; exact HP15.2); have hp_ : Kd.R (Kd.int .u32) 134 w16 w.heap.size (fun _ => True) (.slice (some ⟨go14, 0, none⟩) x5_2.length co14) y352 := (by rw [hw, Ny352.out]; exact HP15.1); clear HP15; replace HO_5 := am_ (hp_); replace HB := am_ ((by rw [hw]; exact zm (HB.out) GB14.out : Below w.heap.size w w16)); clear hg hw hp_))
           go_roundg k2
           case measure => have := HJ2.out; have := HK2.out; omega
           case rel => exact ⟨(y352), ((IntKind.u64.wrap ((IntKind.u64.wrap (x6_2 + (IntKind.u64.wrap (rd l0 x7_2)))) + (IntKind.u64.wrap (rd l1 x7_2)))) / 4294967296), (wrap64 (x7_2 + 1)), (by first | rfl | (simp; done) | (simp [*]; done)), (by first | rfl | (simp; done) | (simp [*]; done)), H', ⟨by have := HJ2.out; have := HK2.out; omega⟩, ⟨by (with_reducible repeat (first | apply Kd.zL | apply Kd.zH | apply Kd.zP)); exact HO_5.out⟩, ⟨by repeat (first | (with_reducible first | exact HB.out | apply zj | apply ze | apply zl) | exact HB.out)⟩⟩
          ·rw [if_neg c13] at H
           exact absurd H (by simp)
         ·rw [if_neg c12] at H
          have c12b0 : decide (x7_2 < (l1.length : Int)) = false := decide_eq_false c12
          clear c12
          by_cases c17 : x7_2 < (x5_2.length : Int)
          ·rw [if_pos c17] at H
           have c17b0 : decide (x7_2 < (x5_2.length : Int)) = true := decide_eq_true c17
           clear c17
           obtain ⟨y353, hy353⟩ : ∃ y_ : List Int, y_ = (x5_2.set (x7_2 : Int).toNat ((IntKind.u64.wrap (x6_2 + (IntKind.u64.wrap (rd l0 x7_2)))) % 4294967296)) := ⟨_, rfl⟩
           replace H : (zD.l0 k2 l0 l1 y353 ((IntKind.u64.wrap (x6_2 + (IntKind.u64.wrap (rd l0 x7_2)))) / 4294967296) (wrap64 (x7_2 + 1))) = some r := by first | (rw [hy353]; with_reducible exact H) | (have H2_ := (Option.bind_some _ _).symm.trans H; rw [hy353]; with_reducible exact H2_) | (have H2_ := (Option.bind_some _ _).symm.trans H; with_reducible exact H2_) | with_reducible exact H | (rw [hy353]; exact H) | exact H
           have Ny353 := am_ hy353
           clear hy353
           have H' := am_ H
           clear H
           have p350 : 0 ≤ (x7_2 : Int) := of_decide_eq_true (by first | (with_reducible assumption) | assumption)
           have q350 : x7_2 < (l0.length : Int) := of_decide_eq_true (by first | (with_reducible assumption) | assumption)
           obtain ⟨ad350, e350, hx350_0⟩ := Kd.z8 HR0.out x7_2 p350 q350
           cases e350
           replace hx350_0 := (HB.out.cell (World.block_lt_of_cell? w _ hx350_0)).trans hx350_0
           replace p350 := eq_true p350
           replace q350 := eq_true q350
           have p18 : 0 ≤ (x7_2 : Int) := of_decide_eq_true (by first | (with_reducible assumption) | assumption)
           have q18 : (x7_2 : Int) < ((x5_2.length : Int) : Int) := of_decide_eq_true (by first | (with_reducible assumption) | assumption)
           obtain ⟨go18, co18, eo18, gb18, gl18, cl18, HG18⟩ := Kd.R_form HO_5.out (by omega)
           (first | cases eo18 | (injection eo18 with ea_ en_ ec_; (first | subst ea_ | (injection ea_ with ea_; subst ea_)); subst ec_; clear en_))
           have GB18 := am_ gb18
           have GG18 := am_ HG18
           clear gb18 gl18 HG18
           obtain ⟨hx18_0, hf18_0⟩ := Kd.zbe 0 HO_5.out (x7_2 : Int) p18 q18
           replace p18 := eq_true p18
           replace q18 := eq_true q18
           have HP19 := Kd.R_putg HO_5.out (x7_2 : Int) ((IntKind.u64.wrap (x6_2 + (IntKind.u64.wrap (rd l0 x7_2)))) % 4294967296)
           go_wp2_with (first | ((with_reducible refine zr (t := 134) (p := 47) rfl ?_); refine store_ 134 47 ((wr.setCell ⟨go18, (x7_2 : Int).toNat, none⟩ (.int .u32 ((IntKind.u64.wrap (x6_2 + (IntKind.u64.wrap (rd l0 x7_2)))) % 4294967296)))) ?_; intro w20 hw; have hg : wr.grownBy w20 (some go18) := (by rw [hw]; exact HP19.2); have hp_ : Kd.R (Kd.int .u32) 134 w20 w.heap.size (fun _ => True) (.slice (some ⟨go18, 0, none⟩) x5_2.length co18) y353 := (by rw [hw, Ny353.out]; exact HP19.1); clear HP19; replace HO_5 := am_ (hp_); replace HB := am_ ((by rw [hw]; exact zm (HB.out) GB18.out : Below w.heap.size w w20)); clear hg hw hp_))
           go_roundg k2
           case measure => have := HJ2.out; have := HK2.out; omega
           case rel => exact ⟨(y353), ((IntKind.u64.wrap (x6_2 + (IntKind.u64.wrap (rd l0 x7_2)))) / 4294967296), (wrap64 (x7_2 + 1)), (by first | rfl | (simp; done) | (simp [*]; done)), (by first | rfl | (simp; done) | (simp [*]; done)), H', ⟨by have := HJ2.out; have := HK2.out; omega⟩, ⟨by (with_reducible repeat (first | apply Kd.zL | apply Kd.zH | apply Kd.zP)); exact HO_5.out⟩, ⟨by repeat (first | (with_reducible first | exact HB.out | apply zj | apply ze | apply zl) | exact HB.out)⟩⟩
          ·rw [if_neg c17] at H
           exact absurd H (by simp)
        ·rw [if_neg c11] at H
         exact absurd H (by simp)
       ·rw [if_neg c10] at H
        have c10b0 : decide (x7_2 < (l0.length : Int)) = false := decide_eq_false c10
        clear c10
        by_cases c21 : 0 ≤ (l0.length : Int)
        ·rw [if_pos c21] at H
         have c21b0 : decide (0 ≤ (l0.length : Int)) = true := decide_eq_true c21
         have c21b1 : decide (0 ≤ l0.length) = true := decide_eq_true (by omega)
         clear c21
         by_cases c22 : (l0.length : Int) < (x5_2.length : Int)
         ·rw [if_pos c22] at H
          have c22b0 : decide ((l0.length : Int) < (x5_2.length : Int)) = true := decide_eq_true c22
          have c22b1 : decide (l0.length < x5_2.length) = true := decide_eq_true (Int.ofNat_lt.mp c22)
          clear c22
          obtain ⟨y354, hy354⟩ : ∃ y_ : List Int, y_ = (x5_2.set ((l0.length : Int) : Int).toNat ((x6_2) % 4294967296)) := ⟨_, rfl⟩
          replace H : ((zw.f k2 y354).bind fun t355 => (some t355)) = some r := by first | (rw [hy354]; with_reducible exact H) | (have H2_ := (Option.bind_some _ _).symm.trans H; rw [hy354]; with_reducible exact H2_) | (have H2_ := (Option.bind_some _ _).symm.trans H; with_reducible exact H2_) | with_reducible exact H | (rw [hy354]; exact H) | exact H
          have Ny354 := am_ hy354
          clear hy354
          replace H := Option.bind_eq_some_iff.mp H
          obtain ⟨t355, A240, H⟩ := H
          replace H : (some t355) = some r := H
          have A24 := am_ A240
          clear A240
          obtain rfl := Option.some.inj H
          have p23 : 0 ≤ ((l0.length : Int) : Int) := of_decide_eq_true (by first | (with_reducible assumption) | assumption)
          have q23 : ((l0.length : Int) : Int) < ((x5_2.length : Int) : Int) := of_decide_eq_true (by first | (with_reducible assumption) | assumption)
          obtain ⟨go23, co23, eo23, gb23, gl23, cl23, HG23⟩ := Kd.R_form HO_5.out (by omega)
          (first | cases eo23 | (injection eo23 with ea_ en_ ec_; (first | subst ea_ | (injection ea_ with ea_; subst ea_)); subst ec_; clear en_))
          have GB23 := am_ gb23
          have GG23 := am_ HG23
          clear gb23 gl23 HG23
          obtain ⟨hx23_0, hf23_0⟩ := Kd.zbe 0 HO_5.out ((l0.length : Int) : Int) p23 q23
          have hx23_n := hx23_0
          have hf23_n := hf23_0
          rw [Int.toNat_natCast] at hx23_n hf23_n
          replace p23 := eq_true p23
          replace q23 := eq_true q23
          have HP25 := Kd.R_putg HO_5.out ((l0.length : Int) : Int) ((x6_2) % 4294967296)
          go_wp2_with (first | ((with_reducible refine zr (t := 134) (p := 55) rfl ?_); refine store_ 134 55 ((wr.setCell ⟨go23, ((l0.length : Int) : Int).toNat, none⟩ (.int .u32 ((x6_2) % 4294967296)))) ?_; intro w26 hw; have hg : wr.grownBy w26 (some go23) := (by rw [hw]; exact HP25.2); have hp_ : Kd.R (Kd.int .u32) 134 w26 w.heap.size (fun _ => True) (.slice (some ⟨go23, 0, none⟩) x5_2.length co23) y354 := (by rw [hw, Ny354.out]; exact HP25.1); clear HP25; replace HO_5 := am_ (hp_); replace HB := am_ ((by rw [hw]; exact zm (HB.out) GB23.out : Below w.heap.size w w26)); clear hg hw hp_) | ((with_reducible refine zac (f := 69) rfl ?_); refine zaZ (some 57) rfl rfl Try.func69 (by kernel_rfl) rfl #[.slice (some ⟨go23, 0, none⟩) x5_2.length co23] rfl (by (try simp only [List.map_toArray, List.map_cons, List.map_nil]); first | done | rfl | (simp only [List.length_drop, List.length_take]; rfl)) ?_; (with_reducible refine (zw.calls k2 (fun k_ => some k_ = (.slice (some ⟨go23, 0, none⟩) x5_2.length co23 : Value).ownBlock) (.slice (some ⟨go23, 0, none⟩) x5_2.length co23) y354 t355 w _ ?side1 ?side2 A24.out).mono ?_); (case side1 => exact bw_); (case side2 => exact Kd.R_tight rfl HO_5.out); rintro e w27 ⟨v356, rfl, ho0, hb, hkp⟩; refine ⟨_, rfl, ?_⟩; have HO357 := am_ (Kd.zS (ok' := fun k_ => True) ho0 (fun k_ hk_ => trivial)); replace HB := am_ (hb); clear HO_5; (try clear hb); (try clear hkp); (try clear ho0)))
          go_ret
          exact ⟨_, by first | rfl | (simp [zp, zq] <;> rfl) | (simp only [← hji5]; first | rfl | (simp [zp, zq] <;> rfl)) | (simp [*, zp, zq] <;> rfl), by (with_reducible repeat (first | apply Kd.zL | apply Kd.zH | apply Kd.zP)); exact HO357.out, by repeat (first | (with_reducible first | exact HB.out | apply zj | apply ze | apply zl) | exact HB.out)⟩
         ·rw [if_neg c22] at H
          exact absurd H (by simp)
        ·rw [if_neg c21] at H
         exact absurd H (by simp)
    ·rw [if_neg c7] at H
     exact absurd H (by simp)
   ·rw [if_neg c6] at H
    exact absurd H (by simp)
end Go.Proofs.Ytlidbaejhmamjaa.PB
namespace Go.Proofs.Ytlidbaejhmamjaa.PB
open Go.RowKit YtlidbaejhmamjaaW.PrintWords YtlidbaejhmamjaaW.PrintLast YtlidbaejhmamjaaW.PrintMore
attribute [local go_sem] zak zam zaw zau zae zad zal zan   -- for this text's walks alone
def z9.l0 : Nat → List Int → List Int → Int → Option (Int)
 | 0, _, _, _ => none
 | k + 1, x0, x1, x5 => if x5 ≥ 0 then (if 0 ≤ x5 then (if x5 < (x0.length : Int) then (if x5 < (x1.length : Int) then (if (rd x0 x5) < (rd x1 x5) then (some (-1)) else (if (rd x0 x5) > (rd x1 x5) then (some 1) else (z9.l0 k x0 x1 (wrap64 (x5 - 1))))) else (none)) else (none)) else (none)) else (some 0)
def z9.f (k : Nat) (l0 : List Int) (l1 : List Int) : Option (Int) := if (l0.length : Int) = (l1.length : Int) then (z9.l0 k l0 l1 (wrap64 ((l0.length : Int) - 1))) else (if (l0.length : Int) < (l1.length : Int) then (some (-1)) else (some 1))
set_option maxHeartbeats 8000000 in
set_option maxRecDepth 100000 in
theorem z9.calls (k : Nat) (A0 : Option Addr) (c0 : Nat) (l0 : List Int) (A1 : Option Addr) (c1 : Nat) (l1 : List Int) (r : Int) (w : World) (hr0 : Kd.C (Kd.int .u32) w A0 l0.length l0) (hc0 : l0.length ≤ c0) (hr1 : Kd.C (Kd.int .u32) w A1 l1.length l1) (hc1 : l1.length ≤ c1) (h : z9.f k l0 l1 = some r) :
  Calls Try.prog 98 #[.slice A0 l0.length c0, .slice A1 l1.length c1] w fun e w' => e = .returned (.int .i64 r) ∧ zaz w w' := by
 have HR0 := am_ hr0
 have HC0 := am_ hc0
 clear hr0 hc0
 have HR1 := am_ hr1
 have HC1 := am_ hc1
 clear hr1 hc1
 have H : (if (l0.length : Int) = (l1.length : Int) then (z9.l0 k l0 l1 (wrap64 ((l0.length : Int) - 1))) else (if (l0.length : Int) < (l1.length : Int) then (some (-1)) else (some 1))) = some r := h
 clear h
 by_cases c3 : (l0.length : Int) = (l1.length : Int)
 ·rw [if_pos c3] at H
  have c3b0 : ((l0.length : Int) == (l1.length : Int)) = true := beq_iff_eq.mpr c3
  have c3b1 : ((l0.length : Int) != (l1.length : Int)) = false := bne_eq_false_iff_eq.mpr c3
  have c3b2 : (l0.length == l1.length) = true := by first | simpa using c3 | (simp at c3 ⊢; omega)
  clear c3
  have H' := am_ H
  clear H
  go_enter Try.func98, Try.ntmps98
  go_wp2
  repeat (go_quiet (fail); try go_wp2)
  go_loopg [5] k (fun kq v5 w' => ∃ (x5_1 : Int), v5 = .int .i64 x5_1 ∧ Aside0 (z9.l0 kq l0 l1 x5_1 = some r) ∧ Aside0 (kq ≤ k) ∧ zaz w w')
  case atStart => exact ⟨(wrap64 ((l0.length : Int) - 1)), (by first | rfl | (simp; done) | (simp [*]; done)), H', ⟨Nat.le_refl _⟩, by repeat (first | exact zaz.refl _ | apply zaz.step)⟩
  case round =>
   clear H'
   try clear c1
   try clear p2
   try clear c3
   try clear c3b0
   try clear c3b1
   try clear c3b2
   obtain ⟨x5_1, rfl, HA, HK1, ⟨m1, rfl⟩⟩ := hrel
   cases gk with
   | zero => exact absurd HA.out (by simp [z9.l0])
   | succ k1 =>
    have H := HA.out
    clear HA
    simp only [z9.l0] at H
    by_cases c4 : x5_1 ≥ 0
    ·rw [if_pos c4] at H
     have c4b0 : decide (0 ≤ x5_1) = true := decide_eq_true c4
     clear c4
     by_cases c5 : 0 ≤ x5_1
     ·rw [if_pos c5] at H
      have c5b0 : decide (0 ≤ x5_1) = true := decide_eq_true c5
      clear c5
      by_cases c6 : x5_1 < (l0.length : Int)
      ·rw [if_pos c6] at H
       have c6b0 : decide (x5_1 < (l0.length : Int)) = true := decide_eq_true c6
       clear c6
       by_cases c7 : x5_1 < (l1.length : Int)
       ·rw [if_pos c7] at H
        have c7b0 : decide (x5_1 < (l1.length : Int)) = true := decide_eq_true c7
        clear c7
        by_cases c8 : (rd l0 x5_1) < (rd l1 x5_1)
        ·rw [if_pos c8] at H
         have c8b0 : decide ((rd l0 x5_1) < (rd l1 x5_1)) = true := decide_eq_true c8
         clear c8
         obtain rfl := Option.some.inj H
         have p358 : 0 ≤ (x5_1 : Int) := of_decide_eq_true (by first | (with_reducible assumption) | assumption)
         have q358 : x5_1 < (l0.length : Int) := of_decide_eq_true (by first | (with_reducible assumption) | assumption)
         obtain ⟨ad358, e358, hx358_0⟩ := Kd.z8 HR0.out x5_1 p358 q358
         cases e358
         replace p358 := eq_true p358
         replace q358 := eq_true q358
         have p359 : 0 ≤ (x5_1 : Int) := of_decide_eq_true (by first | (with_reducible assumption) | assumption)
         have q359 : x5_1 < (l1.length : Int) := of_decide_eq_true (by first | (with_reducible assumption) | assumption)
         obtain ⟨ad359, e359, hx359_0⟩ := Kd.z8 HR1.out x5_1 p359 q359
         cases e359
         replace p359 := eq_true p359
         replace q359 := eq_true q359
         go_wp2
         repeat (go_quiet (fail); try go_wp2)
         go_ret
         exact ⟨by first | rfl | (simp; done) | (simp [*]; done), by repeat (first | exact zaz.refl _ | apply zaz.step)⟩
        ·rw [if_neg c8] at H
         have c8b0 : decide ((rd l0 x5_1) < (rd l1 x5_1)) = false := decide_eq_false c8
         clear c8
         by_cases c9 : (rd l0 x5_1) > (rd l1 x5_1)
         ·rw [if_pos c9] at H
          have c9b0 : decide ((rd l1 x5_1) < (rd l0 x5_1)) = true := decide_eq_true c9
          clear c9
          obtain rfl := Option.some.inj H
          have p358 : 0 ≤ (x5_1 : Int) := of_decide_eq_true (by first | (with_reducible assumption) | assumption)
          have q358 : x5_1 < (l0.length : Int) := of_decide_eq_true (by first | (with_reducible assumption) | assumption)
          obtain ⟨ad358, e358, hx358_0⟩ := Kd.z8 HR0.out x5_1 p358 q358
          cases e358
          replace p358 := eq_true p358
          replace q358 := eq_true q358
          have p359 : 0 ≤ (x5_1 : Int) := of_decide_eq_true (by first | (with_reducible assumption) | assumption)
          have q359 : x5_1 < (l1.length : Int) := of_decide_eq_true (by first | (with_reducible assumption) | assumption)
          obtain ⟨ad359, e359, hx359_0⟩ := Kd.z8 HR1.out x5_1 p359 q359
          cases e359
          replace p359 := eq_true p359
          replace q359 := eq_true q359
          have p360 : 0 ≤ (x5_1 : Int) := of_decide_eq_true (by first | (with_reducible assumption) | assumption)
          have q360 : x5_1 < (l0.length : Int) := of_decide_eq_true (by first | (with_reducible assumption) | assumption)
          obtain ⟨ad360, e360, hx360_0⟩ := Kd.z8 HR0.out x5_1 p360 q360
          obtain rfl : ad358 = ad360 := (by injection e360)
          replace p360 := eq_true p360
          replace q360 := eq_true q360
          have p361 : 0 ≤ (x5_1 : Int) := of_decide_eq_true (by first | (with_reducible assumption) | assumption)
          have q361 : x5_1 < (l1.length : Int) := of_decide_eq_true (by first | (with_reducible assumption) | assumption)
          obtain ⟨ad361, e361, hx361_0⟩ := Kd.z8 HR1.out x5_1 p361 q361
          obtain rfl : ad359 = ad361 := (by injection e361)
          replace p361 := eq_true p361
          replace q361 := eq_true q361
          go_wp2
          repeat (go_quiet (fail); try go_wp2)
          go_ret
          exact ⟨by first | rfl | (simp; done) | (simp [*]; done), by repeat (first | exact zaz.refl _ | apply zaz.step)⟩
         ·rw [if_neg c9] at H
          have c9b0 : decide ((rd l1 x5_1) < (rd l0 x5_1)) = false := decide_eq_false c9
          clear c9
          have H' := am_ H
          clear H
          have p358 : 0 ≤ (x5_1 : Int) := of_decide_eq_true (by first | (with_reducible assumption) | assumption)
          have q358 : x5_1 < (l0.length : Int) := of_decide_eq_true (by first | (with_reducible assumption) | assumption)
          obtain ⟨ad358, e358, hx358_0⟩ := Kd.z8 HR0.out x5_1 p358 q358
          cases e358
          replace p358 := eq_true p358
          replace q358 := eq_true q358
          have p359 : 0 ≤ (x5_1 : Int) := of_decide_eq_true (by first | (with_reducible assumption) | assumption)
          have q359 : x5_1 < (l1.length : Int) := of_decide_eq_true (by first | (with_reducible assumption) | assumption)
          obtain ⟨ad359, e359, hx359_0⟩ := Kd.z8 HR1.out x5_1 p359 q359
          cases e359
          replace p359 := eq_true p359
          replace q359 := eq_true q359
          have p360 : 0 ≤ (x5_1 : Int) := of_decide_eq_true (by first | (with_reducible assumption) | assumption)
          have q360 : x5_1 < (l0.length : Int) := of_decide_eq_true (by first | (with_reducible assumption) | assumption)
          obtain ⟨ad360, e360, hx360_0⟩ := Kd.z8 HR0.out x5_1 p360 q360
          obtain rfl : ad358 = ad360 := (by injection e360)
          replace p360 := eq_true p360
          replace q360 := eq_true q360
          have p361 : 0 ≤ (x5_1 : Int) := of_decide_eq_true (by first | (with_reducible assumption) | assumption)
          have q361 : x5_1 < (l1.length : Int) := of_decide_eq_true (by first | (with_reducible assumption) | assumption)
          obtain ⟨ad361, e361, hx361_0⟩ := Kd.z8 HR1.out x5_1 p361 q361
          obtain rfl : ad359 = ad361 := (by injection e361)
          replace p361 := eq_true p361
          replace q361 := eq_true q361
          go_wp2
          repeat (go_quiet (fail); try go_wp2)
          go_roundg k1
          case measure => have := HK1.out; omega
          case rel => exact ⟨(wrap64 (x5_1 - 1)), (by first | rfl | (simp; done) | (simp [*]; done)), H', ⟨by have := HK1.out; omega⟩, by repeat (first | exact zaz.refl _ | apply zaz.step)⟩
       ·rw [if_neg c7] at H
        exact absurd H (by simp)
      ·rw [if_neg c6] at H
       exact absurd H (by simp)
     ·rw [if_neg c5] at H
      exact absurd H (by simp)
    ·rw [if_neg c4] at H
     have c4b0 : decide (0 ≤ x5_1) = false := decide_eq_false c4
     clear c4
     obtain rfl := Option.some.inj H
     go_wp2
     repeat (go_quiet (fail); try go_wp2)
     go_ret
     exact ⟨by first | rfl | (simp; done) | (simp [*]; done), by repeat (first | exact zaz.refl _ | apply zaz.step)⟩
 ·rw [if_neg c3] at H
  have c3b0 : ((l0.length : Int) == (l1.length : Int)) = false := beq_eq_false_iff_ne.mpr c3
  have c3b1 : ((l0.length : Int) != (l1.length : Int)) = true := bne_iff_ne.mpr c3
  have c3b2 : (l0.length == l1.length) = false := by first | simpa using c3 | (simp at c3 ⊢; omega)
  by_cases c10 : (l0.length : Int) < (l1.length : Int)
  ·rw [if_pos c10] at H
   have c10b0 : decide ((l0.length : Int) < (l1.length : Int)) = true := decide_eq_true c10
   have c10b1 : decide (l0.length < l1.length) = true := decide_eq_true (Int.ofNat_lt.mp c10)
   clear c10
   obtain rfl := Option.some.inj H
   go_enter Try.func98, Try.ntmps98
   go_wp2
   repeat (go_quiet (fail); try go_wp2)
   go_ret
   exact ⟨by first | rfl | (simp; done) | (simp [*]; done), by repeat (first | exact zaz.refl _ | apply zaz.step)⟩
  ·rw [if_neg c10] at H
   have c10b0 : decide ((l0.length : Int) < (l1.length : Int)) = false := decide_eq_false c10
   have c10b1 : decide (l0.length < l1.length) = false := decide_eq_false (fun h => c10 (Int.ofNat_lt.mpr h))
   clear c10
   obtain rfl := Option.some.inj H
   go_enter Try.func98, Try.ntmps98
   go_wp2
   repeat (go_quiet (fail); try go_wp2)
   go_ret
   exact ⟨by first | rfl | (simp; done) | (simp [*]; done), by repeat (first | exact zaz.refl _ | apply zaz.step)⟩
end Go.Proofs.Ytlidbaejhmamjaa.PB
namespace Go.Proofs.Ytlidbaejhmamjaa.PB
open Go.RowKit YtlidbaejhmamjaaW.PrintWords YtlidbaejhmamjaaW.PrintLast YtlidbaejhmamjaaW.PrintMore
attribute [local go_sem] zak zam zaw zau zae zad zal zan   -- for this text's walks alone
def zG.l0 : Nat → List Int → List Int → List Int → Int → Int → Option (List Int)
 | 0, _, _, _, _, _ => none
 | k + 1, x0, x1, x5, x6, x7 => if x7 < (x0.length : Int) then (if x7 < (x1.length : Int) then (if 0 ≤ x7 then (if (IntKind.u64.wrap (rd x0 x7)) < (IntKind.u64.wrap (x6 + (IntKind.u64.wrap (rd x1 x7)))) then (if x7 < (x5.length : Int) then (zG.l0 k x0 x1 (x5.set (x7 : Int).toNat ((IntKind.u64.wrap ((IntKind.u64.wrap ((IntKind.u64.wrap (rd x0 x7)) + 4294967296)) - (IntKind.u64.wrap (x6 + (IntKind.u64.wrap (rd x1 x7)))))) % 4294967296)) 1 (wrap64 (x7 + 1))) else (none)) else (if x7 < (x5.length : Int) then (zG.l0 k x0 x1 (x5.set (x7 : Int).toNat ((IntKind.u64.wrap ((IntKind.u64.wrap (rd x0 x7)) - (IntKind.u64.wrap (x6 + (IntKind.u64.wrap (rd x1 x7)))))) % 4294967296)) 0 (wrap64 (x7 + 1))) else (none))) else (none)) else (if 0 ≤ x7 then (if (IntKind.u64.wrap (rd x0 x7)) < x6 then (if x7 < (x5.length : Int) then (zG.l0 k x0 x1 (x5.set (x7 : Int).toNat ((IntKind.u64.wrap ((IntKind.u64.wrap ((IntKind.u64.wrap (rd x0 x7)) + 4294967296)) - x6)) % 4294967296)) 1 (wrap64 (x7 + 1))) else (none)) else (if x7 < (x5.length : Int) then (zG.l0 k x0 x1 (x5.set (x7 : Int).toNat ((IntKind.u64.wrap ((IntKind.u64.wrap (rd x0 x7)) - x6)) % 4294967296)) 0 (wrap64 (x7 + 1))) else (none))) else (none))) else ((zw.f k x5).bind fun t365 => (some t365))
def zG.f (k : Nat) (l0 : List Int) (l1 : List Int) : Option (List Int) := if 0 ≤ (l0.length : Int) then (if ((l0.length : Int) : Int).toNat ≤ 70368744177664 then (zG.l0 k l0 l1 (List.replicate ((l0.length : Int) : Int).toNat 0) 0 0) else (none)) else (none)
set_option maxHeartbeats 8000000 in
set_option maxRecDepth 100000 in
theorem zG.calls (k : Nat) (A0 : Option Addr) (c0 : Nat) (l0 : List Int) (A1 : Option Addr) (c1 : Nat) (l1 : List Int) (r : List Int) (w : World) (hr0 : Kd.C (Kd.int .u32) w A0 l0.length l0) (hc0 : l0.length ≤ c0) (hr1 : Kd.C (Kd.int .u32) w A1 l1.length l1) (hc1 : l1.length ≤ c1) (h : zG.f k l0 l1 = some r) :
  Calls Try.prog 99 #[.slice A0 l0.length c0, .slice A1 l1.length c1] w fun e w' => ∃ v0_ : Value, e = .returned (v0_) ∧ Kd.R (Kd.int .u32) 134 w' w.heap.size (fun _ => True) v0_ r ∧ Below w.heap.size w w' := by
 have HR0 := am_ hr0
 have HC0 := am_ hc0
 clear hr0 hc0
 have HR1 := am_ hr1
 have HC1 := am_ hc1
 clear hr1 hc1
 have HB := am_ (Below.refl w.heap.size w)
 have H : (if 0 ≤ (l0.length : Int) then (if ((l0.length : Int) : Int).toNat ≤ 70368744177664 then (zG.l0 k l0 l1 (List.replicate ((l0.length : Int) : Int).toNat 0) 0 0) else (none)) else (none)) = some r := h
 clear h
 by_cases c3 : 0 ≤ (l0.length : Int)
 ·rw [if_pos c3] at H
  have c3b0 := eq_true c3
  have c3b1 : decide (0 ≤ (l0.length : Int)) = true := decide_eq_true c3
  clear c3
  by_cases c4 : ((l0.length : Int) : Int).toNat ≤ 70368744177664
  ·rw [if_pos c4] at H
   have c4b0 := eq_true c4
   have c4b1 : decide (((l0.length : Int) : Int).toNat ≤ 70368744177664) = true := decide_eq_true c4
   clear c4
   obtain ⟨y362, hy362⟩ : ∃ y_ : List Int, y_ = (List.replicate ((l0.length : Int) : Int).toNat 0) := ⟨_, rfl⟩
   replace H : (zG.l0 k l0 l1 y362 0 0) = some r := by first | (rw [hy362]; with_reducible exact H) | (have H2_ := (Option.bind_some _ _).symm.trans H; rw [hy362]; with_reducible exact H2_) | (have H2_ := (Option.bind_some _ _).symm.trans H; with_reducible exact H2_) | with_reducible exact H | (rw [hy362]; exact H) | exact H
   have Ny362 := am_ hy362
   clear hy362
   have H' := am_ H
   clear H
   go_enter Try.func99, Try.ntmps99
   go_wp2_with (first | ((with_reducible refine zk (N := 12) rfl ?_); refine Kd.R_make (Kd.int .u32) _ 134 rfl (N := 12) rfl 99 _ _ rfl (l0.length : Int) rfl rfl Try.underlying99 (.int .u32 0) 4 info134 rfl (by decide) (by omega) 0 (ok := fun _ => True) (okp := fun _ => True) rfl (fun _ hk => hk) trivial (of_decide_eq_true (by first | (with_reducible assumption) | assumption)) (Nat.le_trans (Nat.mul_le_mul_right _ (of_decide_eq_true (by first | (with_reducible assumption) | assumption) : (l0.length : Int).toNat ≤ 70368744177664)) (by omega)) (Below.refl _ _) (Nat.le_refl _) ?_; intro v363 w5 ho6 hb hg_ hnew_; clear hg_ hnew_; (first | rw [← Ny362.out] at ho6 | (simp only [Int.reduceToNat] at ho6; rw [← Ny362.out] at ho6)); have HO364 := am_ (Kd.zag ho6 (zo bw_)); replace HB := am_ (zb bw_ hb); clear hb ho6))
   go_loopg [6, 7] k (fun kq v6 v7 w' => ∃ (x5_1 : List Int) (x6_1 : Int) (x7_1 : Int), v6 = .int .u64 x6_1 ∧ v7 = .int .i64 x7_1 ∧ Aside0 (zG.l0 kq l0 l1 x5_1 x6_1 x7_1 = some r) ∧ Aside0 (kq ≤ k) ∧ Aside0 (Kd.R (Kd.int .u32) 134 w' w.heap.size (fun _ => True) v363 x5_1) ∧ Aside0 (Below w.heap.size w w'))
   case atStart => exact ⟨(y362), (0), (0), (by first | rfl | (simp; done) | (simp [*]; done)), (by first | rfl | (simp; done) | (simp [*]; done)), H', ⟨Nat.le_refl _⟩, ⟨by (with_reducible repeat (first | apply Kd.zL | apply Kd.zH | apply Kd.zP)); exact HO364.out⟩, ⟨by repeat (first | (with_reducible first | exact HB.out | apply zj | apply ze | apply zl) | exact HB.out)⟩⟩
   case round =>
    clear H'
    try clear c1
    try clear p2
    try clear c3
    try clear c3b0
    try clear c3b1
    try clear c4
    try clear c4b0
    try clear c4b1
    obtain ⟨x5_1, x6_1, x7_1, rfl, rfl, HA, HK1, HO_5, HB⟩ := hrel
    cases gk with
    | zero => exact absurd HA.out (by simp [zG.l0])
    | succ k1 =>
     have H := HA.out
     clear HA
     simp only [zG.l0] at H
     by_cases c7 : x7_1 < (l0.length : Int)
     ·rw [if_pos c7] at H
      have c7b0 : decide (x7_1 < (l0.length : Int)) = true := decide_eq_true c7
      clear c7
      by_cases c8 : x7_1 < (l1.length : Int)
      ·rw [if_pos c8] at H
       have c8b0 : decide (x7_1 < (l1.length : Int)) = true := decide_eq_true c8
       clear c8
       by_cases c9 : 0 ≤ x7_1
       ·rw [if_pos c9] at H
        have c9b0 : decide (0 ≤ x7_1) = true := decide_eq_true c9
        clear c9
        by_cases c10 : (IntKind.u64.wrap (rd l0 x7_1)) < (IntKind.u64.wrap (x6_1 + (IntKind.u64.wrap (rd l1 x7_1))))
        ·rw [if_pos c10] at H
         have c10b0 : decide ((IntKind.u64.wrap (rd l0 x7_1)) < (IntKind.u64.wrap (x6_1 + (IntKind.u64.wrap (rd l1 x7_1))))) = true := decide_eq_true c10
         clear c10
         by_cases c11 : x7_1 < (x5_1.length : Int)
         ·rw [if_pos c11] at H
          have c11b0 : decide (x7_1 < (x5_1.length : Int)) = true := decide_eq_true c11
          clear c11
          obtain ⟨y370, hy370⟩ : ∃ y_ : List Int, y_ = (x5_1.set (x7_1 : Int).toNat ((IntKind.u64.wrap ((IntKind.u64.wrap ((IntKind.u64.wrap (rd l0 x7_1)) + 4294967296)) - (IntKind.u64.wrap (x6_1 + (IntKind.u64.wrap (rd l1 x7_1)))))) % 4294967296)) := ⟨_, rfl⟩
          replace H : (zG.l0 k1 l0 l1 y370 1 (wrap64 (x7_1 + 1))) = some r := by first | (rw [hy370]; with_reducible exact H) | (have H2_ := (Option.bind_some _ _).symm.trans H; rw [hy370]; with_reducible exact H2_) | (have H2_ := (Option.bind_some _ _).symm.trans H; with_reducible exact H2_) | with_reducible exact H | (rw [hy370]; exact H) | exact H
          have Ny370 := am_ hy370
          clear hy370
          have H' := am_ H
          clear H
          have p368 : 0 ≤ (x7_1 : Int) := of_decide_eq_true (by first | (with_reducible assumption) | assumption)
          have q368 : x7_1 < (l1.length : Int) := of_decide_eq_true (by first | (with_reducible assumption) | assumption)
          obtain ⟨ad368, e368, hx368_0⟩ := Kd.z8 HR1.out x7_1 p368 q368
          cases e368
          replace hx368_0 := (HB.out.cell (World.block_lt_of_cell? w _ hx368_0)).trans hx368_0
          replace p368 := eq_true p368
          replace q368 := eq_true q368
          have p369 : 0 ≤ (x7_1 : Int) := of_decide_eq_true (by first | (with_reducible assumption) | assumption)
          have q369 : x7_1 < (l0.length : Int) := of_decide_eq_true (by first | (with_reducible assumption) | assumption)
          obtain ⟨ad369, e369, hx369_0⟩ := Kd.z8 HR0.out x7_1 p369 q369
          cases e369
          replace hx369_0 := (HB.out.cell (World.block_lt_of_cell? w _ hx369_0)).trans hx369_0
          replace p369 := eq_true p369
          replace q369 := eq_true q369
          have p12 : 0 ≤ (x7_1 : Int) := of_decide_eq_true (by first | (with_reducible assumption) | assumption)
          have q12 : (x7_1 : Int) < ((x5_1.length : Int) : Int) := of_decide_eq_true (by first | (with_reducible assumption) | assumption)
          obtain ⟨go12, co12, eo12, gb12, gl12, cl12, HG12⟩ := Kd.R_form HO_5.out (by omega)
          (first | cases eo12 | (injection eo12 with ea_ en_ ec_; (first | subst ea_ | (injection ea_ with ea_; subst ea_)); subst ec_; clear en_))
          have GB12 := am_ gb12
          have GG12 := am_ HG12
          clear gb12 gl12 HG12
          obtain ⟨hx12_0, hf12_0⟩ := Kd.zbe 0 HO_5.out (x7_1 : Int) p12 q12
          replace p12 := eq_true p12
          replace q12 := eq_true q12
          have HP13 := Kd.R_putg HO_5.out (x7_1 : Int) ((IntKind.u64.wrap ((IntKind.u64.wrap ((IntKind.u64.wrap (rd l0 x7_1)) + 4294967296)) - (IntKind.u64.wrap (x6_1 + (IntKind.u64.wrap (rd l1 x7_1)))))) % 4294967296)
          go_wp2_with (first | ((with_reducible refine zr (t := 134) (p := 47) rfl ?_); refine store_ 134 47 ((wr.setCell ⟨go12, (x7_1 : Int).toNat, none⟩ (.int .u32 ((IntKind.u64.wrap ((IntKind.u64.wrap ((IntKind.u64.wrap (rd l0 x7_1)) + 4294967296)) - (IntKind.u64.wrap (x6_1 + (IntKind.u64.wrap (rd l1 x7_1)))))) % 4294967296)))) ?_; intro w14 hw; have hg : wr.grownBy w14 (some go12) := (by rw [hw]; exact HP13.2); have hp_ : Kd.R (Kd.int .u32) 134 w14 w.heap.size (fun _ => True) (.slice (some ⟨go12, 0, none⟩) x5_1.length co12) y370 := (by rw [hw, Ny370.out]; exact HP13.1); clear HP13; replace HO_5 := am_ (hp_); replace HB := am_ ((by rw [hw]; exact zm (HB.out) GB12.out : Below w.heap.size w w14)); clear hg hw hp_))
          go_roundg k1
          case measure => have := HK1.out; omega
          case rel => exact ⟨(y370), (1), (wrap64 (x7_1 + 1)), (by first | rfl | (simp; done) | (simp [*]; done)), (by first | rfl | (simp; done) | (simp [*]; done)), H', ⟨by have := HK1.out; omega⟩, ⟨by (with_reducible repeat (first | apply Kd.zL | apply Kd.zH | apply Kd.zP)); exact HO_5.out⟩, ⟨by repeat (first | (with_reducible first | exact HB.out | apply zj | apply ze | apply zl) | exact HB.out)⟩⟩
         ·rw [if_neg c11] at H
          exact absurd H (by simp)
        ·rw [if_neg c10] at H
         have c10b0 : decide ((IntKind.u64.wrap (rd l0 x7_1)) < (IntKind.u64.wrap (x6_1 + (IntKind.u64.wrap (rd l1 x7_1))))) = false := decide_eq_false c10
         clear c10
         by_cases c15 : x7_1 < (x5_1.length : Int)
         ·rw [if_pos c15] at H
          have c15b0 : decide (x7_1 < (x5_1.length : Int)) = true := decide_eq_true c15
          clear c15
          obtain ⟨y371, hy371⟩ : ∃ y_ : List Int, y_ = (x5_1.set (x7_1 : Int).toNat ((IntKind.u64.wrap ((IntKind.u64.wrap (rd l0 x7_1)) - (IntKind.u64.wrap (x6_1 + (IntKind.u64.wrap (rd l1 x7_1)))))) % 4294967296)) := ⟨_, rfl⟩
          replace H : (zG.l0 k1 l0 l1 y371 0 (wrap64 (x7_1 + 1))) = some r := by first | (rw [hy371]; with_reducible exact H) | (have H2_ := (Option.bind_some _ _).symm.trans H; rw [hy371]; with_reducible exact H2_) | (have H2_ := (Option.bind_some _ _).symm.trans H; with_reducible exact H2_) | with_reducible exact H | (rw [hy371]; exact H) | exact H
          have Ny371 := am_ hy371
          clear hy371
          have H' := am_ H
          clear H
          have p368 : 0 ≤ (x7_1 : Int) := of_decide_eq_true (by first | (with_reducible assumption) | assumption)
          have q368 : x7_1 < (l1.length : Int) := of_decide_eq_true (by first | (with_reducible assumption) | assumption)
          obtain ⟨ad368, e368, hx368_0⟩ := Kd.z8 HR1.out x7_1 p368 q368
          cases e368
          replace hx368_0 := (HB.out.cell (World.block_lt_of_cell? w _ hx368_0)).trans hx368_0
          replace p368 := eq_true p368
          replace q368 := eq_true q368
          have p369 : 0 ≤ (x7_1 : Int) := of_decide_eq_true (by first | (with_reducible assumption) | assumption)
          have q369 : x7_1 < (l0.length : Int) := of_decide_eq_true (by first | (with_reducible assumption) | assumption)
          obtain ⟨ad369, e369, hx369_0⟩ := Kd.z8 HR0.out x7_1 p369 q369
          cases e369
          replace hx369_0 := (HB.out.cell (World.block_lt_of_cell? w _ hx369_0)).trans hx369_0
          replace p369 := eq_true p369
          replace q369 := eq_true q369
          have p16 : 0 ≤ (x7_1 : Int) := of_decide_eq_true (by first | (with_reducible assumption) | assumption)
          have q16 : (x7_1 : Int) < ((x5_1.length : Int) : Int) := of_decide_eq_true (by first | (with_reducible assumption) | assumption)
          obtain ⟨go16, co16, eo16, gb16, gl16, cl16, HG16⟩ := Kd.R_form HO_5.out (by omega)
          (first | cases eo16 | (injection eo16 with ea_ en_ ec_; (first | subst ea_ | (injection ea_ with ea_; subst ea_)); subst ec_; clear en_))
          have GB16 := am_ gb16
          have GG16 := am_ HG16
          clear gb16 gl16 HG16
          obtain ⟨hx16_0, hf16_0⟩ := Kd.zbe 0 HO_5.out (x7_1 : Int) p16 q16
          replace p16 := eq_true p16
          replace q16 := eq_true q16
          have HP17 := Kd.R_putg HO_5.out (x7_1 : Int) ((IntKind.u64.wrap ((IntKind.u64.wrap (rd l0 x7_1)) - (IntKind.u64.wrap (x6_1 + (IntKind.u64.wrap (rd l1 x7_1)))))) % 4294967296)
          go_wp2_with (first | ((with_reducible refine zr (t := 134) (p := 47) rfl ?_); refine store_ 134 47 ((wr.setCell ⟨go16, (x7_1 : Int).toNat, none⟩ (.int .u32 ((IntKind.u64.wrap ((IntKind.u64.wrap (rd l0 x7_1)) - (IntKind.u64.wrap (x6_1 + (IntKind.u64.wrap (rd l1 x7_1)))))) % 4294967296)))) ?_; intro w18 hw; have hg : wr.grownBy w18 (some go16) := (by rw [hw]; exact HP17.2); have hp_ : Kd.R (Kd.int .u32) 134 w18 w.heap.size (fun _ => True) (.slice (some ⟨go16, 0, none⟩) x5_1.length co16) y371 := (by rw [hw, Ny371.out]; exact HP17.1); clear HP17; replace HO_5 := am_ (hp_); replace HB := am_ ((by rw [hw]; exact zm (HB.out) GB16.out : Below w.heap.size w w18)); clear hg hw hp_))
          go_roundg k1
          case measure => have := HK1.out; omega
          case rel => exact ⟨(y371), (0), (wrap64 (x7_1 + 1)), (by first | rfl | (simp; done) | (simp [*]; done)), (by first | rfl | (simp; done) | (simp [*]; done)), H', ⟨by have := HK1.out; omega⟩, ⟨by (with_reducible repeat (first | apply Kd.zL | apply Kd.zH | apply Kd.zP)); exact HO_5.out⟩, ⟨by repeat (first | (with_reducible first | exact HB.out | apply zj | apply ze | apply zl) | exact HB.out)⟩⟩
         ·rw [if_neg c15] at H
          exact absurd H (by simp)
       ·rw [if_neg c9] at H
        exact absurd H (by simp)
      ·rw [if_neg c8] at H
       have c8b0 : decide (x7_1 < (l1.length : Int)) = false := decide_eq_false c8
       clear c8
       by_cases c19 : 0 ≤ x7_1
       ·rw [if_pos c19] at H
        have c19b0 : decide (0 ≤ x7_1) = true := decide_eq_true c19
        clear c19
        by_cases c20 : (IntKind.u64.wrap (rd l0 x7_1)) < x6_1
        ·rw [if_pos c20] at H
         have c20b0 : decide ((IntKind.u64.wrap (rd l0 x7_1)) < x6_1) = true := decide_eq_true c20
         clear c20
         by_cases c21 : x7_1 < (x5_1.length : Int)
         ·rw [if_pos c21] at H
          have c21b0 : decide (x7_1 < (x5_1.length : Int)) = true := decide_eq_true c21
          clear c21
          obtain ⟨y373, hy373⟩ : ∃ y_ : List Int, y_ = (x5_1.set (x7_1 : Int).toNat ((IntKind.u64.wrap ((IntKind.u64.wrap ((IntKind.u64.wrap (rd l0 x7_1)) + 4294967296)) - x6_1)) % 4294967296)) := ⟨_, rfl⟩
          replace H : (zG.l0 k1 l0 l1 y373 1 (wrap64 (x7_1 + 1))) = some r := by first | (rw [hy373]; with_reducible exact H) | (have H2_ := (Option.bind_some _ _).symm.trans H; rw [hy373]; with_reducible exact H2_) | (have H2_ := (Option.bind_some _ _).symm.trans H; with_reducible exact H2_) | with_reducible exact H | (rw [hy373]; exact H) | exact H
          have Ny373 := am_ hy373
          clear hy373
          have H' := am_ H
          clear H
          have p372 : 0 ≤ (x7_1 : Int) := of_decide_eq_true (by first | (with_reducible assumption) | assumption)
          have q372 : x7_1 < (l0.length : Int) := of_decide_eq_true (by first | (with_reducible assumption) | assumption)
          obtain ⟨ad372, e372, hx372_0⟩ := Kd.z8 HR0.out x7_1 p372 q372
          cases e372
          replace hx372_0 := (HB.out.cell (World.block_lt_of_cell? w _ hx372_0)).trans hx372_0
          replace p372 := eq_true p372
          replace q372 := eq_true q372
          have p22 : 0 ≤ (x7_1 : Int) := of_decide_eq_true (by first | (with_reducible assumption) | assumption)
          have q22 : (x7_1 : Int) < ((x5_1.length : Int) : Int) := of_decide_eq_true (by first | (with_reducible assumption) | assumption)
          obtain ⟨go22, co22, eo22, gb22, gl22, cl22, HG22⟩ := Kd.R_form HO_5.out (by omega)
          (first | cases eo22 | (injection eo22 with ea_ en_ ec_; (first | subst ea_ | (injection ea_ with ea_; subst ea_)); subst ec_; clear en_))
          have GB22 := am_ gb22
          have GG22 := am_ HG22
          clear gb22 gl22 HG22
          obtain ⟨hx22_0, hf22_0⟩ := Kd.zbe 0 HO_5.out (x7_1 : Int) p22 q22
          replace p22 := eq_true p22
          replace q22 := eq_true q22
          have HP23 := Kd.R_putg HO_5.out (x7_1 : Int) ((IntKind.u64.wrap ((IntKind.u64.wrap ((IntKind.u64.wrap (rd l0 x7_1)) + 4294967296)) - x6_1)) % 4294967296)
          go_wp2_with (first | ((with_reducible refine zr (t := 134) (p := 47) rfl ?_); refine store_ 134 47 ((wr.setCell ⟨go22, (x7_1 : Int).toNat, none⟩ (.int .u32 ((IntKind.u64.wrap ((IntKind.u64.wrap ((IntKind.u64.wrap (rd l0 x7_1)) + 4294967296)) - x6_1)) % 4294967296)))) ?_; intro w24 hw; have hg : wr.grownBy w24 (some go22) := (by rw [hw]; exact HP23.2); have hp_ : Kd.R (Kd.int .u32) 134 w24 w.heap.size (fun _ => True) (.slice (some ⟨go22, 0, none⟩) x5_1.length co22) y373 := (by rw [hw, Ny373.out]; exact HP23.1); clear HP23; replace HO_5 := am_ (hp_); replace HB := am_ ((by rw [hw]; exact zm (HB.out) GB22.out : Below w.heap.size w w24)); clear hg hw hp_))
          go_roundg k1
          case measure => have := HK1.out; omega
          case rel => exact ⟨(y373), (1), (wrap64 (x7_1 + 1)), (by first | rfl | (simp; done) | (simp [*]; done)), (by first | rfl | (simp; done) | (simp [*]; done)), H', ⟨by have := HK1.out; omega⟩, ⟨by (with_reducible repeat (first | apply Kd.zL | apply Kd.zH | apply Kd.zP)); exact HO_5.out⟩, ⟨by repeat (first | (with_reducible first | exact HB.out | apply zj | apply ze | apply zl) | exact HB.out)⟩⟩
         ·rw [if_neg c21] at H
          exact absurd H (by simp)
        ·rw [if_neg c20] at H
         have c20b0 : decide ((IntKind.u64.wrap (rd l0 x7_1)) < x6_1) = false := decide_eq_false c20
         clear c20
         by_cases c25 : x7_1 < (x5_1.length : Int)
         ·rw [if_pos c25] at H
          have c25b0 : decide (x7_1 < (x5_1.length : Int)) = true := decide_eq_true c25
          clear c25
          obtain ⟨y374, hy374⟩ : ∃ y_ : List Int, y_ = (x5_1.set (x7_1 : Int).toNat ((IntKind.u64.wrap ((IntKind.u64.wrap (rd l0 x7_1)) - x6_1)) % 4294967296)) := ⟨_, rfl⟩
          replace H : (zG.l0 k1 l0 l1 y374 0 (wrap64 (x7_1 + 1))) = some r := by first | (rw [hy374]; with_reducible exact H) | (have H2_ := (Option.bind_some _ _).symm.trans H; rw [hy374]; with_reducible exact H2_) | (have H2_ := (Option.bind_some _ _).symm.trans H; with_reducible exact H2_) | with_reducible exact H | (rw [hy374]; exact H) | exact H
          have Ny374 := am_ hy374
          clear hy374
          have H' := am_ H
          clear H
          have p372 : 0 ≤ (x7_1 : Int) := of_decide_eq_true (by first | (with_reducible assumption) | assumption)
          have q372 : x7_1 < (l0.length : Int) := of_decide_eq_true (by first | (with_reducible assumption) | assumption)
          obtain ⟨ad372, e372, hx372_0⟩ := Kd.z8 HR0.out x7_1 p372 q372
          cases e372
          replace hx372_0 := (HB.out.cell (World.block_lt_of_cell? w _ hx372_0)).trans hx372_0
          replace p372 := eq_true p372
          replace q372 := eq_true q372
          have p26 : 0 ≤ (x7_1 : Int) := of_decide_eq_true (by first | (with_reducible assumption) | assumption)
          have q26 : (x7_1 : Int) < ((x5_1.length : Int) : Int) := of_decide_eq_true (by first | (with_reducible assumption) | assumption)
          obtain ⟨go26, co26, eo26, gb26, gl26, cl26, HG26⟩ := Kd.R_form HO_5.out (by omega)
          (first | cases eo26 | (injection eo26 with ea_ en_ ec_; (first | subst ea_ | (injection ea_ with ea_; subst ea_)); subst ec_; clear en_))
          have GB26 := am_ gb26
          have GG26 := am_ HG26
          clear gb26 gl26 HG26
          obtain ⟨hx26_0, hf26_0⟩ := Kd.zbe 0 HO_5.out (x7_1 : Int) p26 q26
          replace p26 := eq_true p26
          replace q26 := eq_true q26
          have HP27 := Kd.R_putg HO_5.out (x7_1 : Int) ((IntKind.u64.wrap ((IntKind.u64.wrap (rd l0 x7_1)) - x6_1)) % 4294967296)
          go_wp2_with (first | ((with_reducible refine zr (t := 134) (p := 47) rfl ?_); refine store_ 134 47 ((wr.setCell ⟨go26, (x7_1 : Int).toNat, none⟩ (.int .u32 ((IntKind.u64.wrap ((IntKind.u64.wrap (rd l0 x7_1)) - x6_1)) % 4294967296)))) ?_; intro w28 hw; have hg : wr.grownBy w28 (some go26) := (by rw [hw]; exact HP27.2); have hp_ : Kd.R (Kd.int .u32) 134 w28 w.heap.size (fun _ => True) (.slice (some ⟨go26, 0, none⟩) x5_1.length co26) y374 := (by rw [hw, Ny374.out]; exact HP27.1); clear HP27; replace HO_5 := am_ (hp_); replace HB := am_ ((by rw [hw]; exact zm (HB.out) GB26.out : Below w.heap.size w w28)); clear hg hw hp_))
          go_roundg k1
          case measure => have := HK1.out; omega
          case rel => exact ⟨(y374), (0), (wrap64 (x7_1 + 1)), (by first | rfl | (simp; done) | (simp [*]; done)), (by first | rfl | (simp; done) | (simp [*]; done)), H', ⟨by have := HK1.out; omega⟩, ⟨by (with_reducible repeat (first | apply Kd.zL | apply Kd.zH | apply Kd.zP)); exact HO_5.out⟩, ⟨by repeat (first | (with_reducible first | exact HB.out | apply zj | apply ze | apply zl) | exact HB.out)⟩⟩
         ·rw [if_neg c25] at H
          exact absurd H (by simp)
       ·rw [if_neg c19] at H
        exact absurd H (by simp)
     ·rw [if_neg c7] at H
      have c7b0 : decide (x7_1 < (l0.length : Int)) = false := decide_eq_false c7
      clear c7
      replace H := Option.bind_eq_some_iff.mp H
      obtain ⟨t365, A290, H⟩ := H
      replace H : (some t365) = some r := H
      have A29 := am_ A290
      clear A290
      obtain rfl := Option.some.inj H
      obtain ⟨Ao30, co30, eo30⟩ := Kd.zY HO_5.out
      subst eo30
      go_wp2_with (first | ((with_reducible refine zac (f := 69) rfl ?_); refine zaZ (some 49) rfl rfl Try.func69 (by kernel_rfl) rfl #[.slice Ao30 x5_1.length co30] rfl (by (try simp only [List.map_toArray, List.map_cons, List.map_nil]); first | done | rfl | (simp only [List.length_drop, List.length_take]; rfl)) ?_; (with_reducible refine (zw.calls k1 (fun k_ => some k_ = (.slice Ao30 x5_1.length co30 : Value).ownBlock) (.slice Ao30 x5_1.length co30) x5_1 t365 w _ ?side1 ?side2 A29.out).mono ?_); (case side1 => exact bw_); (case side2 => exact Kd.R_tight rfl HO_5.out); rintro e w31 ⟨v366, rfl, ho0, hb, hkp⟩; refine ⟨_, rfl, ?_⟩; have HO367 := am_ (Kd.zS (ok' := fun k_ => True) ho0 (fun k_ hk_ => trivial)); replace HB := am_ (hb); clear HO_5; (try clear hb); (try clear hkp); (try clear ho0)))
      go_ret
      exact ⟨_, by first | rfl | (simp [zp, zq] <;> rfl) | (simp [*, zp, zq] <;> rfl), by (with_reducible repeat (first | apply Kd.zL | apply Kd.zH | apply Kd.zP)); exact HO367.out, by repeat (first | (with_reducible first | exact HB.out | apply zj | apply ze | apply zl) | exact HB.out)⟩
  ·rw [if_neg c4] at H
   exact absurd H (by simp)
 ·rw [if_neg c3] at H
  exact absurd H (by simp)
end Go.Proofs.Ytlidbaejhmamjaa.PB
namespace Go.Proofs.Ytlidbaejhmamjaa.PB
open Go.RowKit YtlidbaejhmamjaaW.PrintWords YtlidbaejhmamjaaW.PrintLast YtlidbaejhmamjaaW.PrintMore
attribute [local go_sem] zak zam zaw zau zae zad zal zan   -- for this text's walks alone
def zJ.l0 : Nat → List Int → Int → List Int → Int → Option (List Int)
 | 0, _, _, _, _ => none
 | k + 1, x0, x1, x5, x6 => if x6 < (x0.length : Int) then (if 0 ≤ x6 then (if 0 ≤ (Int.tmod x1 32) then (if 0 ≤ (wrap64 (x6 + (wrap64 (Int.tdiv x1 32)))) then (if (wrap64 (x6 + (wrap64 (Int.tdiv x1 32)))) < (x5.length : Int) then ((some (x5.set ((wrap64 (x6 + (wrap64 (Int.tdiv x1 32)))) : Int).toNat (Go.bits .or .u32 (rd x5 (wrap64 (x6 + (wrap64 (Int.tdiv x1 32))))) ((shl .u64 (IntKind.u64.wrap (rd x0 x6)) (Int.tmod x1 32)) % 4294967296)) : List Int)).bind fun y333 => (if 0 ≤ (wrap64 ((wrap64 (x6 + (wrap64 (Int.tdiv x1 32)))) + 1)) then (if (wrap64 ((wrap64 (x6 + (wrap64 (Int.tdiv x1 32)))) + 1)) < (x5.length : Int) then (zJ.l0 k x0 x1 (y333.set ((wrap64 ((wrap64 (x6 + (wrap64 (Int.tdiv x1 32)))) + 1)) : Int).toNat (Go.bits .or .u32 (rd y333 (wrap64 ((wrap64 (x6 + (wrap64 (Int.tdiv x1 32)))) + 1))) (((shl .u64 (IntKind.u64.wrap (rd x0 x6)) (Int.tmod x1 32)) / 4294967296) % 4294967296))) (wrap64 (x6 + 1))) else (none)) else (none))) else (none)) else (none)) else (none)) else (none)) else ((zw.f k x5).bind fun t336 => (some t336))
def zJ.f (k : Nat) (l0 : List Int) (a1 : Int) : Option (List Int) := if (l0.length : Int) = 0 then (some ([] : List Int)) else (if 0 ≤ (wrap64 ((wrap64 ((l0.length : Int) + (wrap64 (Int.tdiv a1 32)))) + 1)) then (if (wrap64 ((wrap64 ((l0.length : Int) + (wrap64 (Int.tdiv a1 32)))) + 1) : Int).toNat ≤ 70368744177664 then (zJ.l0 k l0 a1 (List.replicate (wrap64 ((wrap64 ((l0.length : Int) + (wrap64 (Int.tdiv a1 32)))) + 1) : Int).toNat 0) 0) else (none)) else (none))
set_option maxHeartbeats 8000000 in
set_option maxRecDepth 100000 in
theorem zJ.calls (k : Nat) (A0 : Option Addr) (c0 : Nat) (l0 : List Int) (a1 : Int) (r : List Int) (w : World) (hr0 : Kd.C (Kd.int .u32) w A0 l0.length l0) (hc0 : l0.length ≤ c0) (h : zJ.f k l0 a1 = some r) :
  Calls Try.prog 103 #[.slice A0 l0.length c0, .int .i64 a1] w fun e w' => ∃ v0_ : Value, e = .returned (v0_) ∧ Kd.R (Kd.int .u32) 134 w' w.heap.size (fun _ => True) v0_ r ∧ Below w.heap.size w w' := by
 have HR0 := am_ hr0
 have HC0 := am_ hc0
 clear hr0 hc0
 have HB := am_ (Below.refl w.heap.size w)
 have H : (if (l0.length : Int) = 0 then (some ([] : List Int)) else (if 0 ≤ (wrap64 ((wrap64 ((l0.length : Int) + (wrap64 (Int.tdiv a1 32)))) + 1)) then (if (wrap64 ((wrap64 ((l0.length : Int) + (wrap64 (Int.tdiv a1 32)))) + 1) : Int).toNat ≤ 70368744177664 then (zJ.l0 k l0 a1 (List.replicate (wrap64 ((wrap64 ((l0.length : Int) + (wrap64 (Int.tdiv a1 32)))) + 1) : Int).toNat 0) 0) else (none)) else (none))) = some r := h
 clear h
 by_cases c3 : (l0.length : Int) = 0
 ·rw [if_pos c3] at H
  have c3b0 : ((l0.length : Int) == 0) = true := beq_iff_eq.mpr c3
  have c3b1 : ((l0.length : Int) != 0) = false := bne_eq_false_iff_eq.mpr c3
  clear c3
  obtain rfl := Option.some.inj H
  go_enter Try.func103, Try.ntmps103
  go_wp2
  go_ret
  exact ⟨_, by first | rfl | (simp [zp, zq] <;> rfl) | (simp [*, zp, zq] <;> rfl), by first | exact Kd.zaY _ _ _ _ _ | exact Kd.N_nil _ _ _ _ _ | exact Kd.V_nil _ _ _ _ _ | exact Kd.Q_nil _ _ _ _ _ | exact Kd.S_nil _ _ _ _ _, by repeat (first | (with_reducible first | exact HB.out | apply zj | apply ze | apply zl) | exact HB.out)⟩
 ·rw [if_neg c3] at H
  have c3b0 : ((l0.length : Int) == 0) = false := beq_eq_false_iff_ne.mpr c3
  have c3b1 : ((l0.length : Int) != 0) = true := bne_iff_ne.mpr c3
  have c3b2 : ¬ (l0 = []) := fun h_ => c3 (by rw [h_]; rfl)
  obtain ⟨ji4, hji4⟩ : ∃ j_ : Int, (wrap64 ((wrap64 ((l0.length : Int) + (wrap64 (Int.tdiv a1 32)))) + 1)) = j_ := ⟨_, rfl⟩
  replace H : (if 0 ≤ (ji4) then (if (ji4 : Int).toNat ≤ 70368744177664 then (zJ.l0 k l0 a1 (List.replicate (ji4 : Int).toNat 0) 0) else (none)) else (none)) = some r := by first | (rw [hji4] at H; exact H) | (simp only [hji4] at H ⊢; exact H)
  have hji4w : (IntKind.i64.wrap ((wrap64 ((l0.length : Int) + (wrap64 (Int.tdiv a1 32)))) + 1)) = ji4 := (zaA _).trans hji4
  by_cases c5 : 0 ≤ (ji4)
  ·rw [if_pos c5] at H
   have c5b0 := eq_true c5
   have c5b1 : decide (0 ≤ (ji4)) = true := decide_eq_true c5
   clear c5
   by_cases c6 : (ji4 : Int).toNat ≤ 70368744177664
   ·rw [if_pos c6] at H
    have c6b0 := eq_true c6
    have c6b1 : decide ((ji4 : Int).toNat ≤ 70368744177664) = true := decide_eq_true c6
    clear c6
    obtain ⟨y328, hy328⟩ : ∃ y_ : List Int, y_ = (List.replicate (ji4 : Int).toNat 0) := ⟨_, rfl⟩
    replace H : (zJ.l0 k l0 a1 y328 0) = some r := by first | (rw [hy328]; with_reducible exact H) | (have H2_ := (Option.bind_some _ _).symm.trans H; rw [hy328]; with_reducible exact H2_) | (have H2_ := (Option.bind_some _ _).symm.trans H; with_reducible exact H2_) | with_reducible exact H | (rw [hy328]; exact H) | exact H
    have Ny328 := am_ hy328
    clear hy328
    have H' := am_ H
    clear H
    go_enter Try.func103, Try.ntmps103
    go_wp2_with (first | ((with_reducible refine zk (N := 17) rfl ?_); refine Kd.R_make (Kd.int .u32) _ 134 rfl (N := 17) rfl 99 _ _ rfl ji4 rfl rfl Try.underlying99 (.int .u32 0) 4 info134 rfl (by decide) (by omega) 0 (ok := fun _ => True) (okp := fun _ => True) rfl (fun _ hk => hk) trivial (of_decide_eq_true (by first | (with_reducible assumption) | assumption)) (Nat.le_trans (Nat.mul_le_mul_right _ (of_decide_eq_true (by first | (with_reducible assumption) | assumption) : ji4.toNat ≤ 70368744177664)) (by omega)) (Below.refl _ _) (Nat.le_refl _) ?_; intro v329 w7 ho8 hb hg_ hnew_; clear hg_ hnew_; (first | rw [← Ny328.out] at ho8 | (simp only [Int.reduceToNat] at ho8; rw [← Ny328.out] at ho8)); have HO330 := am_ (Kd.zag ho8 (zo bw_)); replace HB := am_ (zb bw_ hb); clear hb ho8))
    go_loopg [6] k (fun kq v6 w' => ∃ (x5_1 : List Int) (x6_1 : Int), v6 = .int .i64 x6_1 ∧ Aside0 (zJ.l0 kq l0 a1 x5_1 x6_1 = some r) ∧ Aside0 (kq ≤ k) ∧ Aside0 (Kd.R (Kd.int .u32) 134 w' w.heap.size (fun _ => True) v329 x5_1) ∧ Aside0 (Below w.heap.size w w'))
    case atStart => exact ⟨(y328), (0), (by first | rfl | (simp; done) | (simp [*]; done)), H', ⟨Nat.le_refl _⟩, ⟨by (with_reducible repeat (first | apply Kd.zL | apply Kd.zH | apply Kd.zP)); exact HO330.out⟩, ⟨by repeat (first | (with_reducible first | exact HB.out | apply zj | apply ze | apply zl) | exact HB.out)⟩⟩
    case round =>
     clear H'
     try clear c1
     try clear p2
     try clear c3
     try clear c3b0
     try clear c3b1
     try clear c3b2
     try clear c5
     try clear c5b0
     try clear c5b1
     try clear c6
     try clear c6b0
     try clear c6b1
     try clear p6
     obtain ⟨x5_1, x6_1, rfl, HA, HK1, HO_5, HB⟩ := hrel
     cases gk with
     | zero => exact absurd HA.out (by simp [zJ.l0])
     | succ k1 =>
      have H := HA.out
      clear HA
      simp only [zJ.l0] at H
      by_cases c9 : x6_1 < (l0.length : Int)
      ·rw [if_pos c9] at H
       have c9b0 : decide (x6_1 < (l0.length : Int)) = true := decide_eq_true c9
       clear c9
       by_cases c10 : 0 ≤ x6_1
       ·rw [if_pos c10] at H
        have c10b0 : decide (0 ≤ x6_1) = true := decide_eq_true c10
        clear c10
        obtain ⟨ji11, hji11⟩ : ∃ j_ : Int, (Int.tmod a1 32) = j_ := ⟨_, rfl⟩
        replace H : (if 0 ≤ (ji11) then (if 0 ≤ (wrap64 (x6_1 + (wrap64 (Int.tdiv a1 32)))) then (if (wrap64 (x6_1 + (wrap64 (Int.tdiv a1 32)))) < (x5_1.length : Int) then ((some (x5_1.set ((wrap64 (x6_1 + (wrap64 (Int.tdiv a1 32)))) : Int).toNat (Go.bits .or .u32 (rd x5_1 (wrap64 (x6_1 + (wrap64 (Int.tdiv a1 32))))) ((shl .u64 (IntKind.u64.wrap (rd l0 x6_1)) (ji11)) % 4294967296)) : List Int)).bind fun y333 => (if 0 ≤ (wrap64 ((wrap64 (x6_1 + (wrap64 (Int.tdiv a1 32)))) + 1)) then (if (wrap64 ((wrap64 (x6_1 + (wrap64 (Int.tdiv a1 32)))) + 1)) < (x5_1.length : Int) then (zJ.l0 k1 l0 a1 (y333.set ((wrap64 ((wrap64 (x6_1 + (wrap64 (Int.tdiv a1 32)))) + 1)) : Int).toNat (Go.bits .or .u32 (rd y333 (wrap64 ((wrap64 (x6_1 + (wrap64 (Int.tdiv a1 32)))) + 1))) (((shl .u64 (IntKind.u64.wrap (rd l0 x6_1)) (ji11)) / 4294967296) % 4294967296))) (wrap64 (x6_1 + 1))) else (none)) else (none))) else (none)) else (none)) else (none)) = some r := by first | (rw [hji11] at H; exact H) | (simp only [hji11] at H ⊢; exact H)
        by_cases c12 : 0 ≤ (ji11)
        ·rw [if_pos c12] at H
         have c12b0 := eq_true c12
         have c12b1 : decide (0 ≤ (ji11)) = true := decide_eq_true c12
         clear c12
         obtain ⟨ji13, hji13⟩ : ∃ j_ : Int, (shl .u64 (IntKind.u64.wrap (rd l0 x6_1)) (ji11)) = j_ := ⟨_, rfl⟩
         replace H : (if 0 ≤ (wrap64 (x6_1 + (wrap64 (Int.tdiv a1 32)))) then (if (wrap64 (x6_1 + (wrap64 (Int.tdiv a1 32)))) < (x5_1.length : Int) then ((some (x5_1.set ((wrap64 (x6_1 + (wrap64 (Int.tdiv a1 32)))) : Int).toNat (Go.bits .or .u32 (rd x5_1 (wrap64 (x6_1 + (wrap64 (Int.tdiv a1 32))))) ((ji13) % 4294967296)) : List Int)).bind fun y333 => (if 0 ≤ (wrap64 ((wrap64 (x6_1 + (wrap64 (Int.tdiv a1 32)))) + 1)) then (if (wrap64 ((wrap64 (x6_1 + (wrap64 (Int.tdiv a1 32)))) + 1)) < (x5_1.length : Int) then (zJ.l0 k1 l0 a1 (y333.set ((wrap64 ((wrap64 (x6_1 + (wrap64 (Int.tdiv a1 32)))) + 1)) : Int).toNat (Go.bits .or .u32 (rd y333 (wrap64 ((wrap64 (x6_1 + (wrap64 (Int.tdiv a1 32)))) + 1))) (((ji13) / 4294967296) % 4294967296))) (wrap64 (x6_1 + 1))) else (none)) else (none))) else (none)) else (none)) = some r := by first | (rw [hji13] at H; exact H) | (simp only [hji13] at H ⊢; exact H)
         have hji13_ : (IntKind.u64.wrap ((IntKind.u64.wrap (rd l0 x6_1)) * 2 ^ min (ji11).toNat 64)) = ji13 := hji13
         have hji13z : (ji11) ≤ 64 → (IntKind.u64.wrap ((IntKind.u64.wrap (rd l0 x6_1)) * 2 ^ (ji11).toNat)) = ji13 := shl_small hji13
         obtain ⟨ji14, hji14⟩ : ∃ j_ : Int, (wrap64 (x6_1 + (wrap64 (Int.tdiv a1 32)))) = j_ := ⟨_, rfl⟩
         replace H : (if 0 ≤ (ji14) then (if (ji14) < (x5_1.length : Int) then ((some (x5_1.set ((ji14) : Int).toNat (Go.bits .or .u32 (rd x5_1 (ji14)) ((ji13) % 4294967296)) : List Int)).bind fun y333 => (if 0 ≤ (wrap64 ((ji14) + 1)) then (if (wrap64 ((ji14) + 1)) < (x5_1.length : Int) then (zJ.l0 k1 l0 a1 (y333.set ((wrap64 ((ji14) + 1)) : Int).toNat (Go.bits .or .u32 (rd y333 (wrap64 ((ji14) + 1))) (((ji13) / 4294967296) % 4294967296))) (wrap64 (x6_1 + 1))) else (none)) else (none))) else (none)) else (none)) = some r := by first | (rw [hji14] at H; exact H) | (simp only [hji14] at H ⊢; exact H)
         have hji14w : (IntKind.i64.wrap (x6_1 + (wrap64 (Int.tdiv a1 32)))) = ji14 := (zaA _).trans hji14
         by_cases c15 : 0 ≤ (ji14)
         ·rw [if_pos c15] at H
          have c15b0 : decide (0 ≤ (ji14)) = true := decide_eq_true c15
          clear c15
          by_cases c16 : (ji14) < (x5_1.length : Int)
          ·rw [if_pos c16] at H
           have c16b0 : decide ((ji14) < (x5_1.length : Int)) = true := decide_eq_true c16
           clear c16
           obtain ⟨y333, hy333⟩ : ∃ y_ : List Int, y_ = (x5_1.set ((ji14) : Int).toNat (Go.bits .or .u32 (rd x5_1 (ji14)) ((ji13) % 4294967296))) := ⟨_, rfl⟩
           replace H : (if 0 ≤ (wrap64 ((ji14) + 1)) then (if (wrap64 ((ji14) + 1)) < (x5_1.length : Int) then (zJ.l0 k1 l0 a1 (y333.set ((wrap64 ((ji14) + 1)) : Int).toNat (Go.bits .or .u32 (rd y333 (wrap64 ((ji14) + 1))) (((ji13) / 4294967296) % 4294967296))) (wrap64 (x6_1 + 1))) else (none)) else (none)) = some r := by first | (rw [hy333]; with_reducible exact H) | (have H2_ := (Option.bind_some _ _).symm.trans H; rw [hy333]; with_reducible exact H2_) | (have H2_ := (Option.bind_some _ _).symm.trans H; with_reducible exact H2_) | with_reducible exact H | (rw [hy333]; exact H) | exact H
           have Ny333 := am_ hy333
           clear hy333
           obtain ⟨ji18, hji18⟩ : ∃ j_ : Int, (wrap64 ((ji14) + 1)) = j_ := ⟨_, rfl⟩
           replace H : (if 0 ≤ (ji18) then (if (ji18) < (x5_1.length : Int) then (zJ.l0 k1 l0 a1 (y333.set ((ji18) : Int).toNat (Go.bits .or .u32 (rd y333 (ji18)) (((ji13) / 4294967296) % 4294967296))) (wrap64 (x6_1 + 1))) else (none)) else (none)) = some r := by first | (rw [hji18] at H; exact H) | (simp only [hji18] at H ⊢; exact H)
           have hji18w : (IntKind.i64.wrap ((ji14) + 1)) = ji18 := (zaA _).trans hji18
           by_cases c19 : 0 ≤ (ji18)
           ·rw [if_pos c19] at H
            have c19b0 : decide (0 ≤ (ji18)) = true := decide_eq_true c19
            clear c19
            by_cases c20 : (ji18) < (x5_1.length : Int)
            ·rw [if_pos c20] at H
             have c20b0 : decide ((ji18) < (x5_1.length : Int)) = true := decide_eq_true c20
             clear c20
             obtain ⟨y335, hy335⟩ : ∃ y_ : List Int, y_ = (y333.set ((ji18) : Int).toNat (Go.bits .or .u32 (rd y333 (ji18)) (((ji13) / 4294967296) % 4294967296))) := ⟨_, rfl⟩
             replace H : (zJ.l0 k1 l0 a1 y335 (wrap64 (x6_1 + 1))) = some r := by first | (rw [hy335]; with_reducible exact H) | (have H2_ := (Option.bind_some _ _).symm.trans H; rw [hy335]; with_reducible exact H2_) | (have H2_ := (Option.bind_some _ _).symm.trans H; with_reducible exact H2_) | with_reducible exact H | (rw [hy335]; exact H) | exact H
             have Ny335 := am_ hy335
             clear hy335
             have H' := am_ H
             clear H
             have p331 : 0 ≤ (x6_1 : Int) := of_decide_eq_true (by first | (with_reducible assumption) | assumption)
             have q331 : x6_1 < (l0.length : Int) := of_decide_eq_true (by first | (with_reducible assumption) | assumption)
             obtain ⟨ad331, e331, hx331_0⟩ := Kd.z8 HR0.out x6_1 p331 q331
             cases e331
             replace hx331_0 := (HB.out.cell (World.block_lt_of_cell? w _ hx331_0)).trans hx331_0
             replace p331 := eq_true p331
             replace q331 := eq_true q331
             obtain ⟨Ao22, co22, eo22⟩ := Kd.zY HO_5.out
             subst eo22
             have p332 : 0 ≤ ((ji14) : Int) := of_decide_eq_true (by first | (with_reducible assumption) | assumption)
             have q332 : (ji14) < (x5_1.length : Int) := of_decide_eq_true (by first | (with_reducible assumption) | assumption)
             obtain ⟨ad332, e332, hx332_0⟩ := Kd.z8 (Kd.zQ HO_5.out).2.2 (ji14) p332 q332
             cases e332
             replace p332 := eq_true p332
             replace q332 := eq_true q332
             have p17 : 0 ≤ ((ji14) : Int) := of_decide_eq_true (by first | (with_reducible assumption) | assumption)
             have q17 : ((ji14) : Int) < ((x5_1.length : Int) : Int) := of_decide_eq_true (by first | (with_reducible assumption) | assumption)
             obtain ⟨go17, co17, eo17, gb17, gl17, cl17, HG17⟩ := Kd.R_form HO_5.out (by omega)
             (first | cases eo17 | (injection eo17 with ea_ en_ ec_; (first | subst ea_ | (injection ea_ with ea_; subst ea_)); subst ec_; clear en_))
             have GB17 := am_ gb17
             have GG17 := am_ HG17
             clear gb17 gl17 HG17
             (first | simp only [add_plain] at hx332_0 | skip)
             obtain ⟨hx17_0, hf17_0⟩ := Kd.zbe 0 HO_5.out ((ji14) : Int) p17 q17
             replace p17 := eq_true p17
             replace q17 := eq_true q17
             have HP23 := Kd.R_putg HO_5.out ((ji14) : Int) (Go.bits .or .u32 (rd x5_1 (ji14)) ((ji13) % 4294967296))
             go_wp2_with (first | ((with_reducible refine zr (t := 134) (p := 47) rfl ?_); refine store_ 134 47 ((wr.setCell ⟨go17, ((ji14) : Int).toNat, none⟩ (.int .u32 (Go.bits .or .u32 (rd x5_1 (ji14)) ((ji13) % 4294967296))))) ?_; intro w24 hw; have hg : wr.grownBy w24 (some go17) := (by rw [hw]; exact HP23.2); have hp_ : Kd.R (Kd.int .u32) 134 w24 w.heap.size (fun _ => True) (.slice (some ⟨go17, 0, none⟩) x5_1.length co22) y333 := (by rw [hw, Ny333.out]; exact HP23.1); clear HP23; replace HO_5 := am_ (hp_); replace HB := am_ ((by rw [hw]; exact zm (HB.out) GB17.out : Below w.heap.size w w24)); clear hg hw hp_; have p334 : 0 ≤ ((ji18) : Int) := of_decide_eq_true (by first | (with_reducible assumption) | assumption); have q334 : (ji18) < (y333.length : Int) := (by have h_ : ((ji18) : Int) < ((x5_1.length : Int) : Int) := of_decide_eq_true (by first | (with_reducible assumption) | assumption); first | (have e_ := (Kd.zQ HO_5.out).1; omega) | simpa only [Ny333.out, List.length_set] using h_); have ql334 : (((ji18) : Int) < ((x5_1.length : Int) : Int)) = True := eq_true (of_decide_eq_true (by first | (with_reducible assumption) | assumption)); obtain ⟨ad334, e334, hx334_0⟩ := Kd.z8 (Kd.zQ HO_5.out).2.2 (ji18) p334 q334; obtain rfl : (⟨go17, 0, none⟩ : Addr) = ad334 := (by injection e334); (first | simp only [add_plain] at hx334_0 | simp only [add_at] at hx334_0 | simp only [Addr.add, Nat.zero_add] at hx334_0 | skip); replace p334 := eq_true p334; replace q334 := eq_true q334; have p21 : 0 ≤ ((ji18) : Int) := of_decide_eq_true (by first | (with_reducible assumption) | assumption); have q21 : ((ji18) : Int) < ((x5_1.length : Int) : Int) := of_decide_eq_true (by first | (with_reducible assumption) | assumption); obtain ⟨hx21_0, hf21_0⟩ := Kd.zbe 0 HO_5.out ((ji18) : Int) p21 q21; replace p21 := eq_true p21; replace q21 := eq_true q21; obtain ⟨hy25_, hz25_⟩ := Kd.zbe 0 HO_5.out ((ji18) : Int) (of_decide_eq_true (by first | (with_reducible assumption) | assumption)) (of_decide_eq_true (by first | (with_reducible assumption) | assumption)); have HP25 := Kd.R_putg HO_5.out ((ji18) : Int) (Go.bits .or .u32 (rd y333 (ji18)) (((ji13) / 4294967296) % 4294967296))) | ((with_reducible refine zr (t := 134) (p := 66) rfl ?_); refine store_ 134 66 ((w24.setCell ⟨go17, ((ji18) : Int).toNat, none⟩ (.int .u32 (Go.bits .or .u32 (rd y333 (ji18)) (((ji13) / 4294967296) % 4294967296))))) ?_; intro w26 hw; have hg : w24.grownBy w26 (some go17) := (by rw [hw]; exact HP25.2); have hp_ : Kd.R (Kd.int .u32) 134 w26 w.heap.size (fun _ => True) (.slice (some ⟨go17, 0, none⟩) x5_1.length co22) y335 := (by rw [hw, Ny335.out]; exact HP25.1); clear HP25; replace HO_5 := am_ (hp_); replace HB := am_ ((by rw [hw]; exact zm (HB.out) GB17.out : Below w.heap.size w w26)); clear hg hw hp_))
             go_roundg k1
             case measure => have := HK1.out; omega
             case rel => exact ⟨(y335), (wrap64 (x6_1 + 1)), (by first | rfl | (simp; done) | (simp [*]; done)), H', ⟨by have := HK1.out; omega⟩, ⟨by (with_reducible repeat (first | apply Kd.zL | apply Kd.zH | apply Kd.zP)); exact HO_5.out⟩, ⟨by repeat (first | (with_reducible first | exact HB.out | apply zj | apply ze | apply zl) | exact HB.out)⟩⟩
            ·rw [if_neg c20] at H
             exact absurd H (by simp)
           ·rw [if_neg c19] at H
            exact absurd H (by simp)
          ·rw [if_neg c16] at H
           exact absurd H (by simp)
         ·rw [if_neg c15] at H
          exact absurd H (by simp)
        ·rw [if_neg c12] at H
         exact absurd H (by simp)
       ·rw [if_neg c10] at H
        exact absurd H (by simp)
      ·rw [if_neg c9] at H
       have c9b0 : decide (x6_1 < (l0.length : Int)) = false := decide_eq_false c9
       clear c9
       replace H := Option.bind_eq_some_iff.mp H
       obtain ⟨t336, A270, H⟩ := H
       replace H : (some t336) = some r := H
       have A27 := am_ A270
       clear A270
       obtain rfl := Option.some.inj H
       obtain ⟨Ao28, co28, eo28⟩ := Kd.zY HO_5.out
       subst eo28
       go_wp2_with (first | ((with_reducible refine zac (f := 69) rfl ?_); refine zaZ (some 68) rfl rfl Try.func69 (by kernel_rfl) rfl #[.slice Ao28 x5_1.length co28] rfl (by (try simp only [List.map_toArray, List.map_cons, List.map_nil]); first | done | rfl | (simp only [List.length_drop, List.length_take]; rfl)) ?_; (with_reducible refine (zw.calls k1 (fun k_ => some k_ = (.slice Ao28 x5_1.length co28 : Value).ownBlock) (.slice Ao28 x5_1.length co28) x5_1 t336 w _ ?side1 ?side2 A27.out).mono ?_); (case side1 => exact bw_); (case side2 => exact Kd.R_tight rfl HO_5.out); rintro e w29 ⟨v337, rfl, ho0, hb, hkp⟩; refine ⟨_, rfl, ?_⟩; have HO338 := am_ (Kd.zS (ok' := fun k_ => True) ho0 (fun k_ hk_ => trivial)); replace HB := am_ (hb); clear HO_5; (try clear hb); (try clear hkp); (try clear ho0)))
       go_ret
       exact ⟨_, by first | rfl | (simp [zp, zq] <;> rfl) | (simp only [← hji4]; first | rfl | (simp [zp, zq] <;> rfl)) | (simp [*, zp, zq] <;> rfl), by (with_reducible repeat (first | apply Kd.zL | apply Kd.zH | apply Kd.zP)); exact HO338.out, by repeat (first | (with_reducible first | exact HB.out | apply zj | apply ze | apply zl) | exact HB.out)⟩
   ·rw [if_neg c6] at H
    exact absurd H (by simp)
  ·rw [if_neg c5] at H
   exact absurd H (by simp)
end Go.Proofs.Ytlidbaejhmamjaa.PB
namespace Go.Proofs.Ytlidbaejhmamjaa.NW
open Go.RowKit YtlidbaejhmamjaaW.PrintWords YtlidbaejhmamjaaW.PrintLast YtlidbaejhmamjaaW.PrintMore PB LA AC
def nv : List Int → Int
 | [] => 0
 | x :: xs => x + 4294967296 * nv xs
def U32 (l : List Int) : Prop := ∀ x, x ∈ l → 0 ≤ x ∧ x < 4294967296
def B (i : Nat) : Int := 2 ^ (32 * i)
theorem B_zero : B 0 = 1 := rfl
theorem B_succ (i : Nat) : B (i + 1) = 4294967296 * B i := by
 unfold B
 rw [show 32 * (i + 1) = 32 + 32 * i by omega, Int.pow_add]
 rfl
theorem B_pos (i : Nat) : 0 < B i := Int.pow_pos (by decide)
theorem B_mono {i j : Nat} (h : i ≤ j) : B i ≤ B j := za4 (by omega)
theorem nv_append : ∀ a b : List Int, nv (a ++ b) = nv a + B a.length * nv b
 | [], b => by simp [nv, B_zero]
 | x :: a, b => by
  have ih := nv_append a b
  simp only [List.cons_append, nv, List.length_cons, ih, B_succ]
  rw [Int.mul_add, Int.mul_assoc]
  omega
theorem nv_zeros : ∀ n : Nat, nv (List.replicate n 0) = 0
 | 0 => rfl
 | n + 1 => by rw [List.replicate_succ]; simp only [nv, nv_zeros n]; rfl
theorem nv_one (x : Int) : nv [x] = x := by simp [nv]
theorem nv_snoc (l : List Int) (x : Int) : nv (l ++ [x]) = nv l + B l.length * x := by rw [nv_append, nv_one]
theorem nv_take (l : List Int) (i : Nat) (h : i < l.length) : nv (l.take (i + 1)) = nv (l.take i) + B i * rd l (i : Nat) := by
 rw [List.take_add_one, List.getElem?_eq_getElem h, Option.toList_some, nv_snoc, List.length_take, Nat.min_eq_left (by omega)]
 simp [rd, h]
theorem nv_bound : ∀ l : List Int, U32 l → 0 ≤ nv l ∧ nv l < B l.length
 | [], _ => by simp [nv, B_zero]
 | x :: l, h => by
  have hx := h x (by simp)
  have ih := nv_bound l (fun y hy => h y (by simp [hy]))
  simp only [nv, List.length_cons, B_succ]
  generalize B l.length = P at *
  omega
theorem u32_rd {l : List Int} (h : U32 l) (i : Nat) (hi : i < l.length) : 0 ≤ rd l (i : Int) ∧ rd l (i : Int) < 4294967296 := by
 have : rd l (i : Int) = l[i] := by simp [rd, hi]
 rw [this]
 exact h _ (List.getElem_mem hi)
theorem U32.snoc {l : List Int} (h : U32 l) {x : Int} (h0 : 0 ≤ x) (h1 : x < 4294967296) : U32 (l ++ [x]) := by
 intro y hy
 simp at hy
 rcases hy with hy | rfl
 ·exact h y hy
 ·exact ⟨h0, h1⟩
theorem U32.take {l : List Int} (h : U32 l) (i : Nat) : U32 (l.take i) := fun x hx => h x (List.mem_of_mem_take hx)
theorem U32.zeros (n : Nat) : U32 (List.replicate n 0) := fun x hx => by
 obtain ⟨_, rfl⟩ := List.mem_replicate.1 hx
 decide
/-- Its last word is not 0. -/
def Tr (l : List Int) : Prop := ∀ i : Nat, i + 1 = l.length → rd l (i : Nat) ≠ 0
theorem set_at (ds : List Int) (m i : Nat) (v : Int) (h : ds.length = i) : (ds ++ List.replicate (m + 1) 0).set i v = (ds ++ [v]) ++ List.replicate m 0 := by
 subst h
 rw [List.replicate_succ, List.set_append_right _ _ (Nat.le_refl _), Nat.sub_self, s0_, List.append_assoc]
 rfl
theorem trim_ev (l : List Int) (hu : U32 l) (hn : l.length ≤ 100000000) : ∃ t, EvS (fun k => zw.f k l) t ∧ nv t = nv l ∧ U32 t ∧ Tr t ∧ t.length ≤ l.length := by
 unfold zw.f
 have key : ∀ i : Nat, i ≤ l.length → nv (l.take i) = nv l → ∃ t, EvS (fun k => zw.l0 k l (i : Int)) t ∧ nv t = nv l ∧ U32 t ∧ Tr t ∧ t.length ≤ l.length := by
  intro i
  induction i with
  | zero =>
   intro _ h
   refine ⟨[], EvS.done fun k => ?_, h ▸ rfl, fun x hx => by simp at hx, fun i hi => by simp at hi, by simp⟩
   simp only [zw.l0]
   rw [if_neg (by omega), if_pos (by omega), if_pos (by omega)]
   rfl
  | succ i ih =>
   intro hi h
   have e : wrap64 (((i + 1 : Nat) : Int) - 1) = (i : Int) := by rw [w64 _ (by omega) (by omega)]; omega
   by_cases hz : rd l (i : Int) = 0
   ·have h2 := nv_take l i (by omega)
    rw [hz, Int.mul_zero, Int.add_zero, h] at h2
    obtain ⟨t, ht, r⟩ := ih (by omega) h2.symm
    refine ⟨t, EvS.succ (fun k => ?_) ht, r⟩
    simp only [zw.l0]
    rw [if_pos (by omega), e, if_pos (by omega), if_pos (by omega), if_pos hz]
   ·refine ⟨l.take (i + 1), EvS.done fun k => ?_, h, hu.take _, fun j hj => ?_, by rw [List.length_take]; omega⟩
    ·simp only [zw.l0]
     rw [if_pos (by omega), e, if_pos (by omega), if_pos (by omega), if_neg hz, if_pos (by omega), if_pos (by omega), Int.toNat_natCast]
    ·rw [List.length_take, Nat.min_eq_left hi] at hj
     obtain rfl : j = i := by omega
     intro h0
     apply hz
     rw [← h0]
     simp [rd, List.getElem?_take]
 exact key l.length (Nat.le_refl _) (by rw [List.take_length])
theorem zaW (x : Int) (h0 : 0 ≤ x) (h1 : x < 18446744073709551616) : IntKind.u64.wrap x = x := wraps_u64 x h0 (by
 have : (2 : Int) ^ 64 = 18446744073709551616 := by decide
 omega)
end Go.Proofs.Ytlidbaejhmamjaa.NW
