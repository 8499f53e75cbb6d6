/- Part 3 of the proof of SplitLent: what the functions below it compute, each shown by a walk or by plain reasoning; no condition of its own. -/
import Derived.Test.YtlidbaejhmamjaaSL1
import Derived.Test.YtlidbaejhmamjaaSL2
namespace Go.Proofs.Ytlidbaejhmamjaa.PB
open Go.RowKit Go.Proofs.YtlidbaejhmamjaaW.PrintWords Go.Proofs.YtlidbaejhmamjaaW.PrintLast Go.Proofs.YtlidbaejhmamjaaW.PrintMore
attribute [local go_sem] zX zU z7 z8 zO zP zW zT   -- for this text's walks alone
set_option linter.unusedVariables false
set_option linter.unusedSimpArgs false
mutual
def zt.j0 : Nat → Bool → List Int → List Int → Option (Int)
 | 0, _, _, _ => none
 | k + 1, x26, x147000, x147001 => if x26 = true then (some 180) else ((zF.f k x147000 x147001).bind fun t147 => (zt.l0 k t147 (t147.length : Int) 0))
def zt.l0 : Nat → List (S90) → Int → Int → Option (Int)
 | 0, _, _, _ => none
 | k + 1, x28, x29, x30 => if x30 < x29 then (if 0 ≤ x30 then (if x30 < (x28.length : Int) then ((zad.f ((zl x28 x30).f0) ((zl x28 x30).f1)).bind fun t152 => (if t152 = true then (zt.l0 k x28 x29 (wrap64 (x30 + 1))) else (some 180))) else (none)) else (none)) else (some 0)
end
def zt.f (k : Nat) (l0_0 : List Int) (l0_1 : List Int) (a1 : Int) : Option (Int) := if a1 < 0 then (zt.j0 k true l0_0 l0_1) else (if a1 > 256 then (zt.j0 k true l0_0 l0_1) else (if (l0_0.length : Int) = a1 then (zt.j0 k ((l0_1.length : Int) != a1) l0_0 l0_1) else (zt.j0 k true l0_0 l0_1)))
set_option maxHeartbeats 8000000 in
set_option maxRecDepth 100000 in
theorem zt.calls (k : Nat) (A0_0 : Option Addr) (c0_0 : Nat) (l0_0 : List Int) (A0_1 : Option Addr) (c0_1 : Nat) (l0_1 : List Int) (a1 : Int) (r : Int) (w : World) (hr0_0 : Kd.C (Kd.int .i64) w A0_0 l0_0.length l0_0) (hc0_0 : l0_0.length ≤ c0_0) (hr0_1 : Kd.C (Kd.int .i64) w A0_1 l0_1.length l0_1) (hc0_1 : l0_1.length ≤ c0_1) (h : zt.f k l0_0 l0_1 a1 = some r) :
  Calls Try.prog 17 #[.agg #[.slice A0_0 l0_0.length c0_0, .slice A0_1 l0_1.length c0_1], .int .i64 a1] w fun e w' => e = .returned (.int .i64 r) ∧ Below w.heap.size w w' := by
 have hu24 := Try.underlying24
 have hu90 := Try.underlying90
 have HR0_0 := am_ hr0_0
 have HC0_0 := am_ hc0_0
 clear hr0_0 hc0_0
 have HR0_1 := am_ hr0_1
 have HC0_1 := am_ hc0_1
 clear hr0_1 hc0_1
 have HB := am_ (Below.refl w.heap.size w)
 have H : (if a1 < 0 then (zt.j0 k true l0_0 l0_1) else (if a1 > 256 then (zt.j0 k true l0_0 l0_1) else (if (l0_0.length : Int) = a1 then (zt.j0 k ((l0_1.length : Int) != a1) l0_0 l0_1) else (zt.j0 k true l0_0 l0_1)))) = some r := h
 clear h
 have HC3 := am_ H
 clear H
 go_enter Try.func17, Try.ntmps17
 go_upto_region 1 with (first | ((with_reducible refine zp (N := 2) rfl ?_); (try (refine zY (by rfl) ?_; dsimp only)); refine zw ?hg (N := 2) ?hd (cs := #[.slice A0_0 l0_0.length c0_0, .slice A0_1 l0_1.length c0_1]) (t := 24) ?hr ?_; (case hd => rfl); (case hg => rfl); (case hr => first | (go_simp; done) | (go_simp; rfl)); intro gb146 hg w4 hbox hb; have n0_ := am_ (zj (by repeat (first | (with_reducible first | exact HB.out | apply zb | apply za | apply zc) | exact HB.out)) hb); have n1_ := am_ (hbox); have n2_ := am_ ((by rw [hg]; exact (zk (by repeat (first | (with_reducible first | exact HB.out | apply zb | apply za | apply zc) | exact HB.out))) : w.heap.size ≤ gb146)); have n3_ := am_ ((by rw [hg]; exact (zk (by repeat (first | (with_reducible first | exact HB.out | apply zb | apply za | apply zc) | exact HB.out))) : w.heap.size ≤ gb146)); clear HB; have HB := n0_; have BK146 := n1_; have GW146 := n2_; have GE146 := n3_; clear n0_ n1_ n2_ n3_; clear hb hbox hg))
 (try simp only [Act.put, sI_, s0_, s1_])
 go_cut [26] (fun v26 wc => ∃ (kq : Nat) (x26_2 : Bool), v26 = .bool x26_2 ∧ Aside0 (zt.j0 kq x26_2 l0_0 l0_1 = some r) ∧ Aside0 (kq ≤ k) ∧ Aside0 (wc.heap[gb146]? = some (.cells #[(.slice A0_0 l0_0.length c0_0), (.slice A0_1 l0_1.length c0_1)] 24 (0, 0))) ∧ Aside0 (Below w.heap.size w wc))
 case first =>
  have H := HC3.out
  clear HC3
  by_cases c5 : a1 < 0
  ·rw [if_pos c5] at H
   have c5b0 : decide (a1 < 0) = true := decide_eq_true c5
   clear c5
   (first | rw [c5b0] | (simp only [zv, zx]; rw [c5b0]) | skip)
   have H' := am_ H
   clear H
   go_wp2
   go_meet
   case rel => exact ⟨_, (true), (by first | rfl | (simp; done) | (simp [*]; done)), H', ⟨by first | omega | exact Nat.le_refl _⟩, ⟨by (with_reducible repeat (first | refine ze ?_ _ | refine zg ?_ | refine zd ?_ _)); exact BK146.out⟩, ⟨by repeat (first | (with_reducible first | exact HB.out | apply zb | apply za | apply zc | refine zf ?_ GE146.out) | exact HB.out)⟩⟩
  ·rw [if_neg c5] at H
   have c5b0 : decide (a1 < 0) = false := decide_eq_false c5
   clear c5
   (first | rw [c5b0] | (simp only [zv, zx]; rw [c5b0]) | skip)
   by_cases c6 : a1 > 256
   ·rw [if_pos c6] at H
    have c6b0 : decide (256 < a1) = true := decide_eq_true c6
    clear c6
    have H' := am_ H
    clear H
    go_wp2
    go_meet
    case rel => exact ⟨_, (true), (by first | rfl | (simp; done) | (simp [*]; done)), H', ⟨by first | omega | exact Nat.le_refl _⟩, ⟨by (with_reducible repeat (first | refine ze ?_ _ | refine zg ?_ | refine zd ?_ _)); exact BK146.out⟩, ⟨by repeat (first | (with_reducible first | exact HB.out | apply zb | apply za | apply zc | refine zf ?_ GE146.out) | exact HB.out)⟩⟩
   ·rw [if_neg c6] at H
    have c6b0 : decide (256 < a1) = false := decide_eq_false c6
    clear c6
    by_cases c7 : (l0_0.length : Int) = a1
    ·rw [if_pos c7] at H
     have c7b0 : ((l0_0.length : Int) == a1) = true := beq_iff_eq.mpr c7
     have c7b1 : ((l0_0.length : Int) != a1) = false := bne_eq_false_iff_eq.mpr c7
     clear c7
     have H' := am_ H
     clear H
     have hcz8_0 : w4.cell? ⟨gb146, 0, none⟩ = some (.slice A0_0 l0_0.length c0_0) := (zi BK146.out 0).trans rfl
     have hcz8_1 : w4.cell? ⟨gb146, 1, none⟩ = some (.slice A0_1 l0_1.length c0_1) := (zi BK146.out 1).trans rfl
     have hfz8_0 := zh BK146.out 0
     have hfz8_1 := zh BK146.out 1
     go_wp2
     go_meet
     case rel => exact ⟨_, (((l0_1.length : Int) != a1)), (by first | rfl | (simp; done) | (simp [*]; done)), H', ⟨by first | omega | exact Nat.le_refl _⟩, ⟨by (with_reducible repeat (first | refine ze ?_ _ | refine zg ?_ | refine zd ?_ _)); exact BK146.out⟩, ⟨by repeat (first | (with_reducible first | exact HB.out | apply zb | apply za | apply zc | refine zf ?_ GE146.out) | exact HB.out)⟩⟩
    ·rw [if_neg c7] at H
     have c7b0 : ((l0_0.length : Int) == a1) = false := beq_eq_false_iff_ne.mpr c7
     have c7b1 : ((l0_0.length : Int) != a1) = true := bne_iff_ne.mpr c7
     have H' := am_ H
     clear H
     have hcz9_0 : w4.cell? ⟨gb146, 0, none⟩ = some (.slice A0_0 l0_0.length c0_0) := (zi BK146.out 0).trans rfl
     have hcz9_1 : w4.cell? ⟨gb146, 1, none⟩ = some (.slice A0_1 l0_1.length c0_1) := (zi BK146.out 1).trans rfl
     have hfz9_0 := zh BK146.out 0
     have hfz9_1 := zh BK146.out 1
     go_wp2
     go_meet
     case rel => exact ⟨_, (true), (by first | rfl | (simp; done) | (simp [*]; done)), H', ⟨by first | omega | exact Nat.le_refl _⟩, ⟨by (with_reducible repeat (first | refine ze ?_ _ | refine zg ?_ | refine zd ?_ _)); exact BK146.out⟩, ⟨by repeat (first | (with_reducible first | exact HB.out | apply zb | apply za | apply zc | refine zf ?_ GE146.out) | exact HB.out)⟩⟩
 case rest =>
  clear HC3
  try clear c1
  try clear p2
  try clear c5
  try clear c5b0
  try clear c6
  try clear c6b0
  try clear c7
  try clear c7b0
  try clear c7b1
  try clear hcz8_0
  try clear hcz8_1
  try clear hcz9_0
  try clear hcz9_1
  try clear hfz8_0
  try clear hfz8_1
  try clear hfz9_0
  try clear hfz9_1
  obtain ⟨kq, x26_2, rfl, HA, HJ2, BK146, HB⟩ := hcut
  cases kq with
  | zero => exact absurd HA.out (by simp [zt.j0])
  | succ kj2 =>
   have H := HA.out
   clear HA
   simp only [zt.j0] at H
   by_cases c10 : x26_2 = true
   ·subst c10
    have H1 : (some 180) = some r := by rw [if_pos rfl] at H; exact H
    clear H
    have H := H1
    clear H1
    obtain rfl := Option.some.inj H
    go_wp2
    go_ret
    exact ⟨by first | rfl | (simp [zz, zA] <;> rfl) | (simp [*, zz, zA] <;> rfl), by repeat (first | (with_reducible first | exact HB.out | apply zb | apply za | apply zc | refine zf ?_ GE146.out) | exact HB.out)⟩
   ·replace c10 := Bool.eq_false_iff.mpr c10
    subst c10
    have H1 : ((zF.f kj2 l0_0 l0_1).bind fun t147 => (zt.l0 kj2 t147 (t147.length : Int) 0)) = some r := by rw [if_neg (show ¬ (false = true) by decide)] at H; exact H
    clear H
    have H := H1
    clear H1
    replace H := Option.bind_eq_some_iff.mp H
    obtain ⟨t147, A110, H⟩ := H
    replace H : (zt.l0 kj2 t147 (t147.length : Int) 0) = some r := H
    have A11 := am_ A110
    clear A110
    have H' := am_ H
    clear H
    have hcz12_0 : wc.cell? ⟨gb146, 0, none⟩ = some (.slice A0_0 l0_0.length c0_0) := (zi BK146.out 0).trans rfl
    have hcz12_1 : wc.cell? ⟨gb146, 1, none⟩ = some (.slice A0_1 l0_1.length c0_1) := (zi BK146.out 1).trans rfl
    have hfz12_0 := zh BK146.out 0
    have hfz12_1 := zh BK146.out 1
    go_wp2_with (first | ((with_reducible refine zR (f := 39) rfl ?_); refine goesL_ (some 28) rfl rfl Try.func39 (by kernel_rfl) rfl #[.agg #[.slice A0_0 l0_0.length c0_0, .slice A0_1 l0_1.length c0_1]] rfl (by (try simp only [List.map_toArray, List.map_cons, List.map_nil]); first | done | rfl | (simp only [List.length_drop, List.length_take]; rfl)) ?_; (with_reducible refine (zF.calls kj2 _ _ l0_0 _ _ l0_1 t147 _ ?side1 ?side2 ?side3 ?side4 A11.out).mono ?_); (case side1 => repeat (first | exact (Kd.zM HR0_0.out HB.out) | (with_reducible refine Kd.z3 ?_ _) | (with_reducible refine Kd.z2 ?_ _) | (with_reducible refine Kd.zae ?_))); (case side2 => exact HC0_0.out); (case side3 => repeat (first | exact (Kd.zM HR0_1.out HB.out) | (with_reducible refine Kd.z3 ?_ _) | (with_reducible refine Kd.z2 ?_ _) | (with_reducible refine Kd.zae ?_))); (case side4 => exact HC0_1.out); rintro e w13 ⟨v148, rfl, ho0, hb⟩; refine ⟨_, rfl, ?_⟩; have n0_ := am_ (Kd.zal ho0 (zk (by repeat (first | (with_reducible first | exact HB.out | apply zb | apply za | apply zc | refine zf ?_ GE146.out) | exact HB.out)))); have n1_ := am_ (zm (g := gb146) (o := .cells #[.slice A0_0 l0_0.length c0_0, .slice A0_1 l0_1.length c0_1] 24 (0, 0)) (by (with_reducible repeat (first | refine ze ?_ _ | refine zg ?_ | refine zd ?_ _)); exact BK146.out) hb); have n2_ := am_ (zj (by repeat (first | (with_reducible first | exact HB.out | apply zb | apply za | apply zc | refine zf ?_ GE146.out) | exact HB.out)) hb); clear BK146; clear HB; have HO149 := n0_; have BK146 := n1_; have HB := n2_; clear n0_ n1_ n2_; (try clear hb); (try clear hb2); (try clear hk); (try clear hi); (try clear ho0); obtain ⟨Ao14, co14, eo14⟩ := Kd.z4 HO149.out; subst eo14))
    go_loopg [30] kj2 (fun kq v30 w' => ∃ (x30_2 : Int), v30 = .int .i64 x30_2 ∧ Aside0 (zt.l0 kq t147 (t147.length : Int) x30_2 = some r) ∧ Aside0 (kq ≤ kj2) ∧ Aside0 (Kd.R k90 90 w' w.heap.size (fun _ => True) (.slice Ao14 t147.length co14) t147) ∧ Aside0 (w'.heap[gb146]? = some (.cells #[(.slice A0_0 l0_0.length c0_0), (.slice A0_1 l0_1.length c0_1)] 24 (0, 0))) ∧ Aside0 (Below w.heap.size w w'))
    case atStart => exact ⟨(0), (by first | rfl | (simp; done) | (simp [*]; done)), H', ⟨Nat.le_refl _⟩, ⟨by (with_reducible repeat (first | apply Kd.zq | apply Kd.zr | apply Kd.zy)); exact HO149.out⟩, ⟨by (with_reducible repeat (first | refine ze ?_ _ | refine zg ?_ | refine zd ?_ _)); exact BK146.out⟩, ⟨by repeat (first | (with_reducible first | exact HB.out | apply zb | apply za | apply zc | refine zf ?_ GE146.out) | exact HB.out)⟩⟩
    case round =>
     clear H'
     try clear c1
     try clear p2
     try clear c3
     try clear c5
     try clear c5b0
     try clear c6
     try clear c6b0
     try clear c7
     try clear c7b0
     try clear c7b1
     try clear c10
     try clear hcz12_0
     try clear hcz12_1
     try clear hcz8_0
     try clear hcz8_1
     try clear hcz9_0
     try clear hcz9_1
     try clear hfz12_0
     try clear hfz12_1
     try clear hfz8_0
     try clear hfz8_1
     try clear hfz9_0
     try clear hfz9_1
     try clear p2
     obtain ⟨x30_2, rfl, HA, HK2, HO_28, BK146, HB⟩ := hrel
     cases gk with
     | zero => exact absurd HA.out (by simp [zt.l0])
     | succ k2 =>
      have H := HA.out
      clear HA
      simp only [zt.l0] at H
      by_cases c15 : x30_2 < (t147.length : Int)
      ·rw [if_pos c15] at H
       have c15b0 : decide (x30_2 < (t147.length : Int)) = true := decide_eq_true c15
       clear c15
       by_cases c16 : 0 ≤ x30_2
       ·rw [if_pos c16] at H
        have c16b0 : decide (0 ≤ x30_2) = true := decide_eq_true c16
        clear c16
        by_cases c17 : x30_2 < (t147.length : Int)
        ·rw [if_pos c17] at H
         have c17b0 : decide (x30_2 < (t147.length : Int)) = true := decide_eq_true c17
         clear c17
         replace H := Option.bind_eq_some_iff.mp H
         obtain ⟨t152, A180, H⟩ := H
         replace H : (if t152 = true then (zt.l0 k2 t147 (t147.length : Int) (wrap64 (x30_2 + 1))) else (some 180)) = some r := H
         have A18 := am_ A180
         clear A180
         by_cases c19 : t152 = true
         ·subst c19
          have H1 : (zt.l0 k2 t147 (t147.length : Int) (wrap64 (x30_2 + 1))) = some r := by rw [if_pos rfl] at H; exact H
          clear H
          have H := H1
          clear H1
          have H' := am_ H
          clear H
          have p150 : 0 ≤ (x30_2 : Int) := of_decide_eq_true (by first | (with_reducible assumption) | assumption)
          have q150 : x30_2 < (t147.length : Int) := of_decide_eq_true (by first | (with_reducible assumption) | assumption)
          obtain ⟨ad150, e150, hx150_0, hx150_1⟩ := at_T90 (Kd.zQ HO_28.out).2.2 x30_2 p150 q150
          cases e150
          replace p150 := eq_true p150
          replace q150 := eq_true q150
          go_wp2_with (first | ((with_reducible refine zp (N := 6) rfl ?_); (try (refine zY (by rfl) ?_; dsimp only)); refine zw ?hg (N := 6) ?hd (cs := #[.int .i64 0, .int .i64 0]) (t := 90) ?hr ?_; (case hd => rfl); (case hg => rfl); (case hr => first | (go_simp; done) | (go_simp; rfl)); intro gb151 hg w20 hbox hb; have n0_ := am_ (Kd.z6 (Kd.R_elderB (by (with_reducible repeat (first | apply Kd.zq | apply Kd.zr | apply Kd.zy)); exact HO_28.out) gb151 (Nat.le_of_eq hg.symm)) hb); have n1_ := am_ (zm (g := gb146) (o := .cells #[.slice A0_0 l0_0.length c0_0, .slice A0_1 l0_1.length c0_1] 24 (0, 0)) (by (with_reducible repeat (first | refine ze ?_ _ | refine zg ?_ | refine zd ?_ _)); exact BK146.out) hb); have n2_ := am_ (zj (by repeat (first | (with_reducible first | exact HB.out | apply zb | apply za | apply zc | refine zf ?_ GE146.out) | exact HB.out)) hb); have n3_ := am_ (hbox); have n4_ := am_ ((by rw [hg]; exact (zk (by repeat (first | (with_reducible first | exact HB.out | apply zb | apply za | apply zc | refine zf ?_ GE146.out) | exact HB.out))) : w.heap.size ≤ gb151)); have n5_ := am_ ((by rw [hg]; exact (zk (by repeat (first | (with_reducible first | exact HB.out | apply zb | apply za | apply zc | refine zf ?_ GE146.out) | exact HB.out))) : w.heap.size ≤ gb151)); have n6_ := am_ ((by rw [hg]; exact Nat.ne_of_lt (zE (g := gb146) (o := .cells #[.slice A0_0 l0_0.length c0_0, .slice A0_1 l0_1.length c0_1] 24 (0, 0)) (by (with_reducible repeat (first | refine ze ?_ _ | refine zg ?_ | refine zd ?_ _)); exact BK146.out)) : gb146 ≠ gb151)); have n7_ := am_ ((by rw [hg]; exact Nat.ne_of_gt (zE (g := gb146) (o := .cells #[.slice A0_0 l0_0.length c0_0, .slice A0_1 l0_1.length c0_1] 24 (0, 0)) (by (with_reducible repeat (first | refine ze ?_ _ | refine zg ?_ | refine zd ?_ _)); exact BK146.out)) : gb151 ≠ gb146)); clear HO_28; clear BK146; clear HB; have HO_28 := n0_; have BK146 := n1_; have HB := n2_; have BK151 := n3_; have GW151 := n4_; have GE151 := n5_; have NB146_151 := n6_; have NB151_146 := n7_; clear n0_ n1_ n2_ n3_ n4_ n5_ n6_ n7_; clear hb hbox hg; have hnb21 := NB151_146.out; have hnc21 := NB146_151.out; have hcz22_0 : w20.cell? ⟨gb151, 0, none⟩ = some (.int .i64 0) := (zi BK151.out 0).trans rfl; have hcz22_1 : w20.cell? ⟨gb151, 1, none⟩ = some (.int .i64 0) := (zi BK151.out 1).trans rfl; have hfz22_0 := zh BK151.out 0; have hfz22_1 := zh BK151.out 1) | ((with_reducible refine zR (f := 40) rfl ?_); refine goesL_ (some 35) rfl rfl Try.func40 (by kernel_rfl) rfl #[.agg #[.int .i64 ((zl t147 x30_2).f0), .int .i64 ((zl t147 x30_2).f1)]] rfl (by (try simp only [List.map_toArray, List.map_cons, List.map_nil]); first | done | rfl | (simp only [List.length_drop, List.length_take]; rfl)) ?_; (with_reducible refine (zad.calls ((zl t147 x30_2).f0) ((zl t147 x30_2).f1) true _ A18.out).mono ?_); rintro e w23 ⟨rfl, hb⟩; refine ⟨_, rfl, ?_⟩; have n0_ := am_ (Kd.z6 (by (with_reducible repeat (first | apply Kd.zq | apply Kd.zr | apply Kd.zy)); exact (Kd.zL (Kd.zS (p := ⟨gb151, 1, none⟩) (Kd.zS (p := ⟨gb151, 0, none⟩) (Kd.zL HO_28.out (fun k_ hk => (⟨hk, hk.2⟩ : _ ∧ k_ ≠ gb151))) (fun _ hk => hk.2) (.int .i64 ((zl t147 x30_2).f0))) (fun _ hk => hk.2) (.int .i64 ((zl t147 x30_2).f1))) (fun _ h_ => h_.1))) hb); have n1_ := am_ (zm (g := gb146) (o := .cells #[.slice A0_0 l0_0.length c0_0, .slice A0_1 l0_1.length c0_1] 24 (0, 0)) (by (with_reducible repeat (first | refine ze ?_ _ | refine zg ?_ | refine zd ?_ _)); refine zI ?_ NB146_151.out _; (with_reducible repeat (first | refine ze ?_ _ | refine zg ?_ | refine zd ?_ _)); refine zI ?_ NB146_151.out _; (with_reducible repeat (first | refine ze ?_ _ | refine zg ?_ | refine zd ?_ _)); exact BK146.out) hb); have n2_ := am_ (zm (g := gb151) (o := .cells #[.int .i64 ((zl t147 x30_2).f0), .int .i64 ((zl t147 x30_2).f1)] 90 (0, 0)) (by (with_reducible repeat (first | refine ze ?_ _ | refine zg ?_ | refine zd ?_ _)); refine zN (cs := #[.int .i64 ((zl t147 x30_2).f0), .int .i64 0]) ?_ 1 _ rfl; (with_reducible repeat (first | refine ze ?_ _ | refine zg ?_ | refine zd ?_ _)); refine zN (cs := #[.int .i64 0, .int .i64 0]) ?_ 0 _ rfl; (with_reducible repeat (first | refine ze ?_ _ | refine zg ?_ | refine zd ?_ _)); exact BK151.out) hb); have n3_ := am_ (zj (by repeat (first | (with_reducible first | exact HB.out | apply zb | apply za | apply zc | refine zf ?_ GE146.out | refine zf ?_ GE151.out) | exact HB.out)) hb); clear HO_28; clear BK146; clear BK151; clear HB; have HO_28 := n0_; have BK146 := n1_; have BK151 := n2_; have HB := n3_; clear n0_ n1_ n2_ n3_; (try clear hb); (try clear hb2); (try clear hk); (try clear hi)))
          go_roundg k2
          case measure => have := HJ2.out; have := HK2.out; omega
          case rel => exact ⟨(wrap64 (x30_2 + 1)), (by first | rfl | (simp; done) | (simp [*]; done)), H', ⟨by have := HJ2.out; have := HK2.out; omega⟩, ⟨by (with_reducible repeat (first | apply Kd.zq | apply Kd.zr | apply Kd.zy)); exact Kd.zL HO_28.out (fun _ hk => trivial)⟩, ⟨by (with_reducible repeat (first | refine ze ?_ _ | refine zg ?_ | refine zd ?_ _)); exact BK146.out⟩, ⟨by repeat (first | (with_reducible first | exact HB.out | apply zb | apply za | apply zc | refine zf ?_ GE146.out | refine zf ?_ GE151.out) | exact HB.out)⟩⟩
         ·replace c19 := Bool.eq_false_iff.mpr c19
          subst c19
          have H1 : (some 180) = some r := by rw [if_neg (show ¬ (false = true) by decide)] at H; exact H
          clear H
          have H := H1
          clear H1
          obtain rfl := Option.some.inj H
          have p150 : 0 ≤ (x30_2 : Int) := of_decide_eq_true (by first | (with_reducible assumption) | assumption)
          have q150 : x30_2 < (t147.length : Int) := of_decide_eq_true (by first | (with_reducible assumption) | assumption)
          obtain ⟨ad150, e150, hx150_0, hx150_1⟩ := at_T90 (Kd.zQ HO_28.out).2.2 x30_2 p150 q150
          cases e150
          replace p150 := eq_true p150
          replace q150 := eq_true q150
          go_wp2_with (first | ((with_reducible refine zp (N := 6) rfl ?_); (try (refine zY (by rfl) ?_; dsimp only)); refine zw ?hg (N := 6) ?hd (cs := #[.int .i64 0, .int .i64 0]) (t := 90) ?hr ?_; (case hd => rfl); (case hg => rfl); (case hr => first | (go_simp; done) | (go_simp; rfl)); intro gb151 hg w24 hbox hb; have n0_ := am_ (Kd.z6 (Kd.R_elderB (by (with_reducible repeat (first | apply Kd.zq | apply Kd.zr | apply Kd.zy)); exact HO_28.out) gb151 (Nat.le_of_eq hg.symm)) hb); have n1_ := am_ (zm (g := gb146) (o := .cells #[.slice A0_0 l0_0.length c0_0, .slice A0_1 l0_1.length c0_1] 24 (0, 0)) (by (with_reducible repeat (first | refine ze ?_ _ | refine zg ?_ | refine zd ?_ _)); exact BK146.out) hb); have n2_ := am_ (zj (by repeat (first | (with_reducible first | exact HB.out | apply zb | apply za | apply zc | refine zf ?_ GE146.out) | exact HB.out)) hb); have n3_ := am_ (hbox); have n4_ := am_ ((by rw [hg]; exact (zk (by repeat (first | (with_reducible first | exact HB.out | apply zb | apply za | apply zc | refine zf ?_ GE146.out) | exact HB.out))) : w.heap.size ≤ gb151)); have n5_ := am_ ((by rw [hg]; exact (zk (by repeat (first | (with_reducible first | exact HB.out | apply zb | apply za | apply zc | refine zf ?_ GE146.out) | exact HB.out))) : w.heap.size ≤ gb151)); have n6_ := am_ ((by rw [hg]; exact Nat.ne_of_lt (zE (g := gb146) (o := .cells #[.slice A0_0 l0_0.length c0_0, .slice A0_1 l0_1.length c0_1] 24 (0, 0)) (by (with_reducible repeat (first | refine ze ?_ _ | refine zg ?_ | refine zd ?_ _)); exact BK146.out)) : gb146 ≠ gb151)); have n7_ := am_ ((by rw [hg]; exact Nat.ne_of_gt (zE (g := gb146) (o := .cells #[.slice A0_0 l0_0.length c0_0, .slice A0_1 l0_1.length c0_1] 24 (0, 0)) (by (with_reducible repeat (first | refine ze ?_ _ | refine zg ?_ | refine zd ?_ _)); exact BK146.out)) : gb151 ≠ gb146)); clear HO_28; clear BK146; clear HB; have HO_28 := n0_; have BK146 := n1_; have HB := n2_; have BK151 := n3_; have GW151 := n4_; have GE151 := n5_; have NB146_151 := n6_; have NB151_146 := n7_; clear n0_ n1_ n2_ n3_ n4_ n5_ n6_ n7_; clear hb hbox hg; have hnb25 := NB151_146.out; have hnc25 := NB146_151.out; have hcz26_0 : w24.cell? ⟨gb151, 0, none⟩ = some (.int .i64 0) := (zi BK151.out 0).trans rfl; have hcz26_1 : w24.cell? ⟨gb151, 1, none⟩ = some (.int .i64 0) := (zi BK151.out 1).trans rfl; have hfz26_0 := zh BK151.out 0; have hfz26_1 := zh BK151.out 1) | ((with_reducible refine zR (f := 40) rfl ?_); refine goesL_ (some 35) rfl rfl Try.func40 (by kernel_rfl) rfl #[.agg #[.int .i64 ((zl t147 x30_2).f0), .int .i64 ((zl t147 x30_2).f1)]] rfl (by (try simp only [List.map_toArray, List.map_cons, List.map_nil]); first | done | rfl | (simp only [List.length_drop, List.length_take]; rfl)) ?_; (with_reducible refine (zad.calls ((zl t147 x30_2).f0) ((zl t147 x30_2).f1) false _ A18.out).mono ?_); rintro e w27 ⟨rfl, hb⟩; refine ⟨_, rfl, ?_⟩; have n0_ := am_ (Kd.z6 (by (with_reducible repeat (first | apply Kd.zq | apply Kd.zr | apply Kd.zy)); exact (Kd.zL (Kd.zS (p := ⟨gb151, 1, none⟩) (Kd.zS (p := ⟨gb151, 0, none⟩) (Kd.zL HO_28.out (fun k_ hk => (⟨hk, hk.2⟩ : _ ∧ k_ ≠ gb151))) (fun _ hk => hk.2) (.int .i64 ((zl t147 x30_2).f0))) (fun _ hk => hk.2) (.int .i64 ((zl t147 x30_2).f1))) (fun _ h_ => h_.1))) hb); have n1_ := am_ (zm (g := gb146) (o := .cells #[.slice A0_0 l0_0.length c0_0, .slice A0_1 l0_1.length c0_1] 24 (0, 0)) (by (with_reducible repeat (first | refine ze ?_ _ | refine zg ?_ | refine zd ?_ _)); refine zI ?_ NB146_151.out _; (with_reducible repeat (first | refine ze ?_ _ | refine zg ?_ | refine zd ?_ _)); refine zI ?_ NB146_151.out _; (with_reducible repeat (first | refine ze ?_ _ | refine zg ?_ | refine zd ?_ _)); exact BK146.out) hb); have n2_ := am_ (zm (g := gb151) (o := .cells #[.int .i64 ((zl t147 x30_2).f0), .int .i64 ((zl t147 x30_2).f1)] 90 (0, 0)) (by (with_reducible repeat (first | refine ze ?_ _ | refine zg ?_ | refine zd ?_ _)); refine zN (cs := #[.int .i64 ((zl t147 x30_2).f0), .int .i64 0]) ?_ 1 _ rfl; (with_reducible repeat (first | refine ze ?_ _ | refine zg ?_ | refine zd ?_ _)); refine zN (cs := #[.int .i64 0, .int .i64 0]) ?_ 0 _ rfl; (with_reducible repeat (first | refine ze ?_ _ | refine zg ?_ | refine zd ?_ _)); exact BK151.out) hb); have n3_ := am_ (zj (by repeat (first | (with_reducible first | exact HB.out | apply zb | apply za | apply zc | refine zf ?_ GE146.out | refine zf ?_ GE151.out) | exact HB.out)) hb); clear HO_28; clear BK146; clear BK151; clear HB; have HO_28 := n0_; have BK146 := n1_; have BK151 := n2_; have HB := n3_; clear n0_ n1_ n2_ n3_; (try clear hb); (try clear hb2); (try clear hk); (try clear hi)))
          go_ret
          exact ⟨by first | rfl | (simp [zz, zA] <;> rfl) | (simp [*, zz, zA] <;> rfl), by repeat (first | (with_reducible first | exact HB.out | apply zb | apply za | apply zc | refine zf ?_ GE146.out | refine zf ?_ GE151.out) | exact HB.out)⟩
        ·rw [if_neg c17] at H
         exact absurd H (by simp)
       ·rw [if_neg c16] at H
        exact absurd H (by simp)
      ·rw [if_neg c15] at H
       have c15b0 : decide (x30_2 < (t147.length : Int)) = false := decide_eq_false c15
       clear c15
       obtain rfl := Option.some.inj H
       go_wp2
       go_ret
       exact ⟨by first | rfl | (simp [zz, zA] <;> rfl) | (simp [*, zz, zA] <;> rfl), by repeat (first | (with_reducible first | exact HB.out | apply zb | apply za | apply zc | refine zf ?_ GE146.out) | exact HB.out)⟩
end Go.Proofs.Ytlidbaejhmamjaa.PB

namespace Go.Proofs.Ytlidbaejhmamjaa.LA
open Go.RowKit Go.Proofs.YtlidbaejhmamjaaW.PrintWords Go.Proofs.YtlidbaejhmamjaaW.PrintLast Go.Proofs.YtlidbaejhmamjaaW.PrintMore Go.Proofs.Ytlidbaejhmamjaa.PB
set_option linter.unusedVariables false
set_option linter.unusedSimpArgs false
/-- From some fuel on, the value. -/
def EvS {α : Type} (F : Nat → Option α) (v : α) : Prop := ∃ K, ∀ k, K ≤ k → F k = some v
theorem EvS.succ {α : Type} {F G : Nat → Option α} {v : α} (h : ∀ k, F (k + 1) = G k) (hg : EvS G v) : EvS F v := by
 obtain ⟨K, hK⟩ := hg
 refine ⟨K + 1, fun k hk => ?_⟩
 obtain ⟨j, rfl⟩ : ∃ j, k = j + 1 := ⟨k - 1, by omega⟩
 rw [h j]; exact hK j (by omega)
theorem EvS.of {α : Type} {F G : Nat → Option α} {v : α} (h : ∀ k, F k = G k) (hg : EvS G v) : EvS F v := by
 obtain ⟨K, hK⟩ := hg
 exact ⟨K, fun k hk => by rw [h k]; exact hK k hk⟩
theorem EvS.pure {α : Type} (v : α) : EvS (fun _ => some v) v := ⟨0, fun _ _ => rfl⟩
theorem EvS.done {α : Type} {F : Nat → Option α} {v : α} (h : ∀ k, F (k + 1) = some v) : EvS F v := EvS.succ h (EvS.pure v)
theorem EvS.bind {α β : Type} {F : Nat → Option α} {G : Nat → α → Option β} {u : α} {v : β} (hf : EvS F u) (hg : EvS (fun k => G k u) v) : EvS (fun k => (F k).bind (G k)) v := by
 obtain ⟨K, hK⟩ := hf
 obtain ⟨J, hJ⟩ := hg
 exact ⟨max K J, fun k hk => by show (F k).bind _ = _; rw [hK k (by omega)]; exact hJ k (by omega)⟩
theorem EvS.get {α : Type} {F : Nat → Option α} {v : α} (h : EvS F v) : ∃ k, F k = some v := ⟨_, h.choose_spec _ (Nat.le_refl _)⟩
theorem w64 (x : Int) (h0 : -9223372036854775808 ≤ x) (h1 : x < 9223372036854775808) : wrap64 x = x := by unfold wrap64; omega
theorem wnext (i : Nat) (h : i < 1000000000000) : wrap64 ((i : Int) + 1) = ((i + 1 : Nat) : Int) := by rw [w64] <;> omega
/-- The parts of a region. -/
def pz (lv at_ : List Int) : List S90 := List.zipWith S90.mk lv at_
theorem pz_length (lv at_ : List Int) (h : at_.length = lv.length) : (pz lv at_).length = lv.length := by simp [pz, h]
theorem pz_get (lv at_ : List Int) (i : Nat) (h0 : i < lv.length) (h1 : i < at_.length) : (pz lv at_)[i]? = some ⟨lv[i], at_[i]⟩ := by
 simp [pz, List.getElem?_zipWith, h0, h1]
theorem pz_rd (lv at_ : List Int) (i : Nat) (h0 : i < lv.length) (h1 : i < at_.length) : zl (pz lv at_) (i : Int) = ⟨rd lv (i : Int), rd at_ (i : Int)⟩ := by
 simp [zl, List.getD_eq_getElem?_getD, pz_get lv at_ i h0 h1, rd, h0, h1]
theorem parts_ev (lv at_ : List Int) (h : at_.length = lv.length) (hn : lv.length ≤ 256) : EvS (fun k => zF.f k lv at_) (pz lv at_) := by
 have key : ∀ m i : Nat, m + i = lv.length → EvS (fun k => zF.l0 k ((pz lv at_).take i) (lv.length : Int) (i : Int) lv at_) (pz lv at_) := by
  intro m
  induction m with
  | zero =>
   intro i hi
   rw [List.take_of_length_le (by rw [pz_length lv at_ h]; omega)]
   exact EvS.done fun k => by simp only [zF.l0]; rw [if_neg (by omega)]
  | succ m ih =>
   intro i hi
   refine EvS.succ (fun k => ?_) (ih (i + 1) (by omega))
   have hg := pz_get lv at_ i (by omega) (by omega)
   simp only [zF.l0]
   rw [if_pos (by omega), if_pos (by omega), if_pos (by omega), if_pos (by omega), if_pos (by rw [List.length_take]; omega), wnext i (by omega), List.take_add_one, hg]
   simp [rd, show i < lv.length by omega, show i < at_.length by omega]
 exact key lv.length 0 (by omega)
theorem set_step (L : List Int) (i : Nat) (h : i < L.length) : (L.take i ++ List.replicate (L.length - i) 0).set i L[i] = L.take (i + 1) ++ List.replicate (L.length - (i + 1)) 0 := by
 rw [show L.length - i = (L.length - (i + 1)) + 1 by omega, List.replicate_succ, List.set_append_right _ _ (by rw [List.length_take]; omega), List.length_take, Nat.min_eq_left (by omega), Nat.sub_self, s0_, List.take_add_one, List.getElem?_eq_getElem h, Option.toList_some, List.append_assoc]
 rfl
theorem region_ev (l : List S90) (hn : l.length ≤ 256) : EvS (fun k => zo.f k l) (l.map (·.f0), l.map (·.f1)) := by
 unfold zo.f
 simp only [if_pos (show 0 ≤ (l.length : Int) by omega), Int.toNat_natCast, if_pos (show l.length ≤ 35184372088832 by omega)]
 have key : ∀ m i : Nat, m + i = l.length → EvS (fun k => zo.l0 k l (l.length : Int) (i : Int) ((l.map (·.f0)).take i ++ List.replicate (l.length - i) 0) ((l.map (·.f1)).take i ++ List.replicate (l.length - i) 0)) (l.map (·.f0), l.map (·.f1)) := by
  intro m
  induction m with
  | zero =>
   intro i hi
   obtain rfl : i = l.length := by omega
   rw [List.take_of_length_le (by simp), List.take_of_length_le (by simp), Nat.sub_self]
   exact EvS.done fun k => by simp only [zo.l0]; rw [if_neg (by omega)]; simp
  | succ m ih =>
   intro i hi
   refine EvS.succ (fun k => ?_) (ih (i + 1) (by omega))
   have h0 := set_step (l.map (·.f0)) i (by simp; omega)
   have h1 := set_step (l.map (·.f1)) i (by simp; omega)
   simp only [List.length_map, List.getElem_map] at h0 h1
   have hr : zl l (i : Int) = l[i] := by simp [zl, List.getD_eq_getElem?_getD, List.getElem?_eq_getElem (show i < l.length by omega)]
   simp only [zo.l0]
   rw [if_pos (by omega), if_pos (by omega), if_pos (by omega), if_pos (by simp; omega), if_pos (by simp; omega), wnext i (by omega), hr, Int.toNat_natCast, h0, h1]
 simpa using key l.length 0 (by omega)
def wholeL (k : Int) : List Int := if 0 ≤ k ∧ k ≤ 256 then List.replicate k.toNat 0 else []
def wholeE (k : Int) : Int := if 0 ≤ k ∧ k ≤ 256 then 0 else 1
theorem Whole_ev (k : Int) : EvS (fun f => zaz.f f k) (wholeL k, wholeL k, wholeE k) := by
 unfold zaz.f
 by_cases h0 : k < 0
 ·simp only [if_pos h0, wholeL, wholeE, if_neg (show ¬ (0 ≤ k ∧ k ≤ 256) by omega)]
  exact EvS.pure _
 ·by_cases h1 : k > 256
  ·simp only [if_neg h0, if_pos h1, wholeL, wholeE, if_neg (show ¬ (0 ≤ k ∧ k ≤ 256) by omega)]
   exact EvS.pure _
  ·simp only [if_neg h0, if_neg h1, if_pos (show 0 ≤ k by omega), if_pos (show k.toNat ≤ 17592186044416 by omega), wholeL, wholeE, if_pos (show (0 ≤ k ∧ k ≤ 256) by omega)]
   refine EvS.bind (region_ev _ (by simp; omega)) ?_
   simp only [List.map_replicate]
   exact EvS.pure _
theorem ite_cong {c d : Prop} [Decidable c] [Decidable d] (h : c ↔ d) (x y : Int) : (if c then x else y) = (if d then x else y) := by
 by_cases hc : c
 ·rw [if_pos hc, if_pos (h.mp hc)]
 ·rw [if_neg hc, if_neg (fun hd => hc (h.mpr hd))]
def Fit (l a : Int) : Prop := 0 ≤ l ∧ l ≤ 8 ∧ 0 ≤ a ∧ a < 2 ^ l.toNat
instance (l a : Int) : Decidable (Fit l a) := by unfold Fit; infer_instance
def Reg (lv at_ : List Int) : Prop := lv.length ≤ 256 ∧ at_.length = lv.length ∧ ∀ i, i < lv.length → Fit (rd lv (i : Nat)) (rd at_ (i : Nat))
instance (lv at_ : List Int) : Decidable (Reg lv at_) := by unfold Reg; infer_instance
def chkE (lv at_ : List Int) (k : Int) : Int := if (lv.length : Int) = k ∧ Reg lv at_ then 0 else 180
theorem shl_one (l : Int) (h0 : 0 ≤ l) (h8 : l ≤ 62) : shl .i64 1 l = 2 ^ l.toNat := by
 obtain ⟨n, rfl⟩ : ∃ n : Nat, l = n := ⟨l.toNat, by omega⟩
 show IntKind.i64.wrap (1 * 2 ^ min (n : Int).toNat 64) = _
 rw [Int.toNat_natCast, Nat.min_eq_left (by omega), Int.one_mul, zv, w64]
 ·have : (0 : Int) < 2 ^ n := Int.pow_pos (by decide)
  omega
 ·have h : (2 : Int) ^ n ≤ 2 ^ 62 := by
   have := Nat.pow_le_pow_right (n := 2) (by decide) (show n ≤ 62 by omega)
   exact Int.ofNat_le.mpr this |> fun h => by simpa using h
  have e : (2 : Int) ^ 62 = 4611686018427387904 := by decide
  omega
theorem fits_some (l a : Int) : zad.f l a = some (decide (Fit l a)) := by
 unfold zad.f
 by_cases h0 : l ≥ 0
 ·by_cases h1 : l ≤ 8
  ·by_cases h2 : a ≥ 0
   ·rw [if_pos h0, if_pos h1, if_pos h2, if_pos h0, shl_one l h0 (by omega)]
    congr 1
    rw [decide_eq_decide]
    exact ⟨fun h => ⟨h0, h1, h2, h⟩, fun h => h.2.2.2⟩
   ·rw [if_pos h0, if_pos h1, if_neg h2, decide_eq_false (fun h : Fit l a => h2 h.2.2.1)]
  ·rw [if_pos h0, if_neg h1, decide_eq_false (fun h : Fit l a => h1 h.2.1)]
 ·rw [if_neg h0, decide_eq_false (fun h : Fit l a => h0 h.1)]
theorem Check_ev (lv at_ : List Int) (k : Int) : EvS (fun f => zt.f f lv at_ k) (chkE lv at_ k) := by
 unfold zt.f
 have bad : (¬ ((lv.length : Int) = k ∧ Reg lv at_)) → chkE lv at_ k = 180 := fun h => if_neg h
 have stop : EvS (fun f => zt.j0 f true lv at_) 180 := EvS.done fun f => by simp only [zt.j0]; rfl
 by_cases h0 : k < 0
 ·simp only [if_pos h0]; rw [bad (by omega)]; exact stop
 ·by_cases h1 : k > 256
  ·simp only [if_neg h0, if_pos h1]; rw [bad (by rintro ⟨h2, h3⟩; have := h3.1; omega)]; exact stop
  ·by_cases h2 : (lv.length : Int) = k
   ·by_cases h3 : (at_.length : Int) = k
    ·simp only [if_neg h0, if_neg h1, if_pos h2]
     rw [show ((at_.length : Int) != k) = false by simp [h3]]
     refine EvS.succ (fun f => by simp only [zt.j0]; rfl) ?_
     simp only [Bool.false_eq_true, if_false]
     have hl : at_.length = lv.length := by omega
     refine EvS.bind (parts_ev lv at_ hl (by omega)) ?_
     rw [pz_length lv at_ hl]
     have key : ∀ m i : Nat, m + i = lv.length → EvS (fun f => zt.l0 f (pz lv at_) (lv.length : Int) (i : Int)) (if ∀ j, j < lv.length → i ≤ j → Fit (rd lv (j : Nat)) (rd at_ (j : Nat)) then 0 else 180) := by
      intro m
      induction m with
      | zero =>
       intro i hi
       rw [if_pos (fun j h1 h2 => by omega)]
       exact EvS.done fun f => by simp only [zt.l0]; rw [if_neg (by omega)]
      | succ m ih =>
       intro i hi
       have hr := pz_rd lv at_ i (by omega) (by omega)
       by_cases hf : Fit (rd lv (i : Int)) (rd at_ (i : Int))
       ·have := ih (i + 1) (by omega)
        rw [ite_cong (show (∀ j, j < lv.length → i ≤ j → Fit (rd lv (j : Nat)) (rd at_ (j : Nat))) ↔ (∀ j, j < lv.length → i + 1 ≤ j → Fit (rd lv (j : Nat)) (rd at_ (j : Nat))) from ⟨fun h j h1 h2 => h j h1 (by omega), fun h j h1 h2 => by
         by_cases hj : i = j
         ·subst hj; exact hf
         ·exact h j h1 (by omega)⟩)]
        refine EvS.succ (fun f => ?_) this
        simp only [zt.l0]
        rw [if_pos (by omega), if_pos (by omega), if_pos (by rw [pz_length lv at_ hl]; omega), hr, fits_some, decide_eq_true hf]
        simp only [Option.bind_some, if_true, wnext i (by omega)]
       ·rw [if_neg (fun h => hf (h i (by omega) (Nat.le_refl _)))]
        refine EvS.done fun f => ?_
        simp only [zt.l0]
        rw [if_pos (by omega), if_pos (by omega), if_pos (by rw [pz_length lv at_ hl]; omega), hr, fits_some, decide_eq_false hf]
        rfl
     have := key lv.length 0 (by omega)
     rw [show chkE lv at_ k = (if ∀ j, j < lv.length → 0 ≤ j → Fit (rd lv (j : Nat)) (rd at_ (j : Nat)) then 0 else 180) from by
      unfold chkE
      exact ite_cong ⟨fun h j h1 _ => h.2.2.2 j h1, fun h => ⟨h2, by omega, hl, fun j h1 => h j h1 (Nat.zero_le _)⟩⟩ _ _]
     exact this
    ·simp only [if_neg h0, if_neg h1, if_pos h2]
     rw [show ((at_.length : Int) != k) = true by simp [h3], bad (by rintro ⟨_, h4⟩; have := h4.2.1; omega)]; exact stop
   ·simp only [if_neg h0, if_neg h1, if_neg h2]; rw [bad (fun h => h2 h.1)]; exact stop
end Go.Proofs.Ytlidbaejhmamjaa.LA

namespace Go.Proofs.Ytlidbaejhmamjaa.AC
open Go.RowKit Go.Proofs.YtlidbaejhmamjaaW.PrintWords Go.Proofs.YtlidbaejhmamjaaW.PrintLast Go.Proofs.YtlidbaejhmamjaaW.PrintMore Go.Proofs.Ytlidbaejhmamjaa.PB Go.Proofs.Ytlidbaejhmamjaa.LA
set_option linter.unusedVariables false
set_option linter.unusedSimpArgs false
/-- A point's place in one symbol's part, in parts of 2^-62. -/
def InP (d x l a : Int) : Prop := (2 * a - 2 ^ l.toNat) * 2 ^ (62 - l.toNat) ≤ x * 2 ^ (62 - d.toNat) ∧ x * 2 ^ (62 - d.toNat) ≤ (2 * a + 2 - 2 ^ l.toNat) * 2 ^ (62 - l.toNat)
instance (d x l a : Int) : Decidable (InP d x l a) := by unfold InP; infer_instance
def Win (lv at_ es : List Int) (d : Int) : Prop := Reg lv at_ ∧ es.length = lv.length ∧ 0 ≤ d ∧ d ≤ 62 ∧ ∀ i, i < lv.length → InP d (rd es (i : Nat)) (rd lv (i : Nat)) (rd at_ (i : Nat))
instance (lv at_ es : List Int) (d : Int) : Decidable (Win lv at_ es d) := by unfold Win; infer_instance
def I64 (es : List Int) : Prop := ∀ x, x ∈ es → -9223372036854775808 ≤ x ∧ x < 9223372036854775808
theorem i64_rd {es : List Int} (h : I64 es) (i : Nat) (hi : i < es.length) : -9223372036854775808 ≤ rd es (i : Int) ∧ rd es (i : Int) < 9223372036854775808 := by
 have : rd es (i : Int) = es[i] := by simp [rd, hi]
 rw [this]
 exact h _ (List.getElem_mem hi)
theorem chk_ok {lv at_ : List Int} (h : chkE lv at_ lv.length = 0) : Reg lv at_ := by
 unfold chkE at h
 split at h
 ·rename_i h'; exact h'.2
 ·exact absurd h (by decide)
theorem chk_bad {lv at_ : List Int} (h : ¬ chkE lv at_ lv.length = 0) : ¬ Reg lv at_ := fun hr => h (by unfold chkE; rw [if_pos ⟨rfl, hr⟩])
/-- The round's memory: the part, three sums. -/
structure St (w3 wc : World) (g b c e : Nat) (l a : Int) (v u t : Option Int) : Prop where
 below : Below w3.heap.size w3 wc
 part : wc.heap[g]? = some (.cells #[.int .i64 l, .int .i64 a] 90 (0, 0))
 lo : wc.heap[b]? = some (.cells (accW v) 124 (0, 0))
 hi : wc.heap[c]? = some (.cells (accW u) 124 (0, 0))
 pt : wc.heap[e]? = some (.cells (accW t) 124 (0, 0))
 far : b ≠ c ∧ b ≠ e ∧ c ≠ e ∧ g ≠ b ∧ g ≠ c ∧ g ≠ e ∧ w3.heap.size ≤ b ∧ w3.heap.size ≤ c ∧ w3.heap.size ≤ e
theorem some_ne {a b : Nat} (h : a ≠ b) : some a ≠ some b := fun e => h (Option.some.inj e)
theorem St.putLo {w3 wc w' : World} {g b c e : Nat} {l a : Int} {v u t v' : Option Int} (h : St w3 wc g b c e l a v u t) (hk : w'.heap[b]? = some (.cells (accW v') 124 (0, 0))) (hg : wc.grownBy w' (some b)) : St w3 w' g b c e l a v' u t := by
 obtain ⟨f0, f1, f2, f3, f4, f5, f6, f7, f8⟩ := h.far
 exact ⟨h.below.grown hg h.below.size (fun k hk => by cases hk; exact f6), zai hg h.part (some_ne f3), hk, zai hg h.hi (some_ne (Ne.symm f0)), zai hg h.pt (some_ne (Ne.symm f1)), h.far⟩
theorem St.putHi {w3 wc w' : World} {g b c e : Nat} {l a : Int} {v u t v' : Option Int} (h : St w3 wc g b c e l a v u t) (hk : w'.heap[c]? = some (.cells (accW v') 124 (0, 0))) (hg : wc.grownBy w' (some c)) : St w3 w' g b c e l a v v' t := by
 obtain ⟨f0, f1, f2, f3, f4, f5, f6, f7, f8⟩ := h.far
 exact ⟨h.below.grown hg h.below.size (fun k hk => by cases hk; exact f7), zai hg h.part (some_ne f4), zai hg h.lo (some_ne f0), hk, zai hg h.pt (some_ne (Ne.symm f2)), h.far⟩
theorem St.putPt {w3 wc w' : World} {g b c e : Nat} {l a : Int} {v u t v' : Option Int} (h : St w3 wc g b c e l a v u t) (hk : w'.heap[e]? = some (.cells (accW v') 124 (0, 0))) (hg : wc.grownBy w' (some e)) : St w3 w' g b c e l a v u v' := by
 obtain ⟨f0, f1, f2, f3, f4, f5, f6, f7, f8⟩ := h.far
 exact ⟨h.below.grown hg h.below.size (fun k hk => by cases hk; exact f8), zai hg h.part (some_ne f5), zai hg h.lo (some_ne f1), zai hg h.hi (some_ne f2), hk, h.far⟩
theorem St.step {w3 wc w' : World} {g b c e : Nat} {l a : Int} {v u t : Option Int} (h : St w3 wc g b c e l a v u t) (hb : Below wc.heap.size wc w') : St w3 w' g b c e l a v u t :=
 ⟨zj h.below hb, zm h.part hb, zm h.lo hb, zm h.hi hb, zm h.pt hb, h.far⟩
theorem St.p0 {w3 wc : World} {g b c e : Nat} {l a : Int} {v u t : Option Int} (h : St w3 wc g b c e l a v u t) : wc.cell? ⟨g, 0, none⟩ = some (.int .i64 l) := (zi h.part 0).trans rfl
theorem St.p1 {w3 wc : World} {g b c e : Nat} {l a : Int} {v u t : Option Int} (h : St w3 wc g b c e l a v u t) : wc.cell? ⟨g, 1, none⟩ = some (.int .i64 a) := (zi h.part 1).trans rfl
theorem info90 : (Try.prog.info? 90).map (·.size) = some 2 := by kernel_rfl
theorem acc_zero : accOk (some 0) := by
 show absI 0 < 2 ^ 4772
 rw [absI_pos (Int.le_refl 0)]
 exact zab 4772
def cmpN (v u : Option Int) : Int := match v, u with
 | some a, some b => sgnI (a - b)
 | _, _ => 0
def cmpK (v u : Option Int) : Bool := match v, u with
 | some _, some _ => true
 | _, _ => false
theorem cmpR_eq (v u : Option Int) : cmpR v u = .tuple #[.int .i64 (cmpN v u), .bool (cmpK v u)] := by
 cases v <;> cases u <;> rfl
theorem pow62 (L : Nat) (h : L ≤ 62) : (2 : Int) ^ 62 = 2 ^ L * 2 ^ (62 - L) := by rw [← ipow_add, show L + (62 - L) = 62 by omega]
theorem named_prod (v : Option Int) (x y : Nat) (n : Int) : ∃ t, prodV v x y n = t ∧ accOk t := ⟨_, rfl, prodV_ok v x y n⟩
theorem and_low (z : Int) : bits .and .i64 z 4294967295 = z % 4294967296 := by
 show IntKind.i64.wrap ((BitVec.ofInt 64 z &&& BitVec.ofInt 64 4294967295).toNat : Int) = _
 have h2 : (BitVec.ofInt 64 4294967295).toNat = 2 ^ 32 - 1 := by decide
 rw [BitVec.toNat_and, BitVec.toNat_ofInt, h2, Nat.and_two_pow_sub_one_eq_mod, IntKind.wrap_i64]
 have e : ((2 ^ 64 : Nat) : Int) = 18446744073709551616 := by decide
 rw [e]
 have e2 : (2 ^ 32 : Nat) = 4294967296 := by decide
 rw [e2]
 have h3 := Int.emod_nonneg z (show (18446744073709551616 : Int) ≠ 0 by decide)
 omega
theorem fit_256 {l a : Int} (h : Fit l a) : 0 ≤ a ∧ a < 256 := by
 obtain ⟨h0, h1, h2, h3⟩ := h
 have : (2 : Int) ^ l.toNat ≤ 2 ^ 8 := pow_le' (by omega)
 have e : (2 : Int) ^ 8 = 256 := by decide
 omega
theorem round_law (d z l a : Int) (d0 : 0 ≤ d) (d1 : d ≤ 62) (hz : -9223372036854775808 ≤ z ∧ z < 9223372036854775808) (hf : Fit l a) :
  (¬ cmpN (prodV (prodV (some 0) (flt (z / 4294967296)) 4751297606875873280 (-d)) (flt (z % 4294967296)) 4607182418800017408 (-d)) (prodV (prodV (some 0) 13830554455654793216 oneF 0) (flt (2 * a)) 4607182418800017408 (-l)) < 0 ↔ (2 * a - 2 ^ l.toNat) * 2 ^ (62 - l.toNat) ≤ z * 2 ^ (62 - d.toNat)) ∧
  (¬ 0 < cmpN (prodV (prodV (some 0) (flt (z / 4294967296)) 4751297606875873280 (-d)) (flt (z % 4294967296)) 4607182418800017408 (-d)) (prodV (prodV (some 0) 13830554455654793216 oneF 0) (flt (2 * a + 2)) 4607182418800017408 (-l)) ↔ z * 2 ^ (62 - d.toNat) ≤ (2 * a + 2 - 2 ^ l.toNat) * 2 ^ (62 - l.toNat)) := by
 obtain ⟨l0, l1, a0, a1⟩ := hf
 have a8 := (fit_256 ⟨l0, l1, a0, a1⟩).2
 rw [f32_pow, neg_flt, oneF_pow, show (4607182418800017408 : Nat) = powF 0 from oneF_pow]
 obtain ⟨D, hD⟩ : ∃ D : Nat, d = D := ⟨d.toNat, by omega⟩
 obtain ⟨L, hL⟩ : ∃ L : Nat, l = L := ⟨l.toNat, by omega⟩
 have P0 : (0 : Int) < P22 0 := zab _
 -- everything is in units of 2^(2212-62)
 obtain ⟨U, hU⟩ : ∃ U : Int, U = 2 ^ 2150 := ⟨_, rfl⟩
 have U0 : 0 < U := by rw [hU]; exact zab _
 have big : ∀ n : Nat, n ≤ 4000 → (2 : Int) ^ n < 2 ^ 4772 := fun n hn => by
  have h1 : (2 : Int) ^ n < 2 ^ (n + 1) := by rw [Int.pow_succ]; have := zab n; omega
  exact Int.lt_of_lt_of_le h1 (pow_le' (by omega))
 have pd : ∀ j : Nat, j ≤ 32 → P22 ((j : Int) + -d) = 2 ^ j * (2 ^ (62 - D) * U) := fun j hj => by
  unfold P22
  rw [show ((j : Int) + -d + 2212).toNat = j + ((62 - D) + 2150) by omega, ipow_add, ipow_add, hU]
 have pl : P22 (((0 : Nat) : Int) + -l) = 2 ^ (62 - L) * U := by
  unfold P22
  rw [show (((0 : Nat) : Int) + -l + 2212).toNat = (62 - L) + 2150 by omega, ipow_add, hU]
 have pz : P22 (((0 : Nat) : Int) + 0) = 2 ^ 62 * U := by
  unfold P22
  rw [show (((0 : Nat) : Int) + 0 + 2212).toNat = 62 + 2150 by omega, ipow_add, hU]
 have W : (0 : Int) < 2 ^ 62 * U := Int.mul_pos (zab _) U0
 -- a product of a number of at most 64 bits and 2^62 U is small
 have small : ∀ (n : Int) (m : Nat), -18446744073709551616 ≤ n → n ≤ 18446744073709551616 → m ≤ 62 → (-2 ^ 4772 < n * (2 ^ m * U) ∧ n * (2 ^ m * U) < 2 ^ 4772) := fun n m h0 h1 hm => by
  have hx : (2 : Int) ^ 64 * (2 ^ m * U) < 2 ^ 4772 := by
   rw [hU, ← ipow_add, ← ipow_add]
   exact big _ (by omega)
  have hy : (0 : Int) < 2 ^ m * U := Int.mul_pos (zab _) U0
  rw [show (2 : Int) ^ 64 = 18446744073709551616 by decide] at hx
  generalize (2 : Int) ^ m * U = V at *
  have g0 := Int.mul_le_mul_of_nonneg_right h1 (Int.le_of_lt hy)
  have g1 := Int.mul_le_mul_of_nonneg_right h0 (Int.le_of_lt hy)
  rw [Int.neg_mul] at g1
  constructor <;> omega
 have e1 : prodV (some 0) (flt (z / 4294967296)) (powF 32) (-d) = some (z / 4294967296 * 4294967296 * (2 ^ (62 - D) * U)) := by
  rw [prod_flt 0 (z / 4294967296) (-d) 32 (by omega) (by omega) (by omega) (by omega), pd 32 (by omega), Int.zero_add, ← Int.mul_assoc, show (2 : Int) ^ 32 = 4294967296 by decide]
  exact normA_some _ (small _ _ (by omega) (by omega) (by omega)).1 (small _ _ (by omega) (by omega) (by omega)).2
 have e2 : prodV (some (z / 4294967296 * 4294967296 * (2 ^ (62 - D) * U))) (flt (z % 4294967296)) (powF 0) (-d) = some (z * (2 ^ (62 - D) * U)) := by
  rw [prod_flt _ (z % 4294967296) (-d) 0 (by omega) (by omega) (by omega) (by omega), pd 0 (by omega), Int.pow_zero, Int.one_mul, ← Int.add_mul, show z / 4294967296 * 4294967296 + z % 4294967296 = z by omega]
  exact normA_some _ (small _ _ (by omega) (by omega) (by omega)).1 (small _ _ (by omega) (by omega) (by omega)).2
 have e3 : prodV (some 0) (flt (-1)) (powF 0) 0 = some (-1 * (2 ^ 62 * U)) := by
  rw [prod_flt 0 (-1) 0 0 (by decide) (by omega) (by omega) (by omega), pz, Int.zero_add]
  exact normA_some _ (small _ _ (by omega) (by omega) (by omega)).1 (small _ _ (by omega) (by omega) (by omega)).2
 have two := pow62 L (by omega)
 have pL8 : (2 : Int) ^ L ≤ 256 := by
  have := pow_le' (show L ≤ 8 by omega)
  rwa [show (2 : Int) ^ 8 = 256 by decide] at this
 have pL0 := zab L
 have e4 : ∀ n : Int, 0 ≤ n → n ≤ 1000 → prodV (some (-1 * (2 ^ 62 * U))) (flt n) (powF 0) (-l) = some ((n - 2 ^ L) * (2 ^ (62 - L) * U)) := fun n n0 n1 => by
  rw [prod_flt _ n (-l) 0 (by omega) (by omega) (by omega) (by omega), pl, two, Int.mul_assoc (2 ^ L), show -1 * (2 ^ L * (2 ^ (62 - L) * U)) + n * (2 ^ (62 - L) * U) = (n - 2 ^ L) * (2 ^ (62 - L) * U) by rw [Int.sub_mul]; omega]
  exact normA_some _ (small _ _ (by omega) (by omega) (by omega)).1 (small _ _ (by omega) (by omega) (by omega)).2
 rw [e1, e2, e3, e4 (2 * a) (by omega) (by omega), e4 (2 * a + 2) (by omega) (by omega)]
 have lL : l.toNat = L := by omega
 have dD : d.toNat = D := by omega
 rw [lL, dD]
 have cmpL : ∀ p q : Int, (¬ sgnI (p * U - q * U) < 0 ↔ q ≤ p) ∧ (¬ 0 < sgnI (p * U - q * U) ↔ p ≤ q) := fun p q => by
  rw [← Int.sub_mul]
  rcases Int.lt_trichotomy p q with h | h | h
  ·have : (p - q) * U < 0 := Int.mul_neg_of_neg_of_pos (by omega) U0
   rw [sgnI_neg this]
   constructor <;> omega
  ·rw [h, Int.sub_self, Int.zero_mul, sgnI_zero rfl]
   constructor <;> omega
  ·have : 0 < (p - q) * U := Int.mul_pos (by omega) U0
   rw [sgnI_pos this]
   constructor <;> omega
 rw [← Int.mul_assoc z, ← Int.mul_assoc (2 * a - 2 ^ L), ← Int.mul_assoc (2 * a + 2 - 2 ^ L)]
 exact ⟨(cmpL _ _).1, (cmpL _ _).2⟩
set_option maxRecDepth 100000 in
set_option maxHeartbeats 4000000 in
theorem within_calls (A0 : Option Addr) (c0 : Nat) (lv : List Int) (A1 : Option Addr) (c1 : Nat) (at_ : List Int) (A2 : Option Addr) (c2 : Nat) (es : List Int) (d : Int) (w : World)
  (hr0 : Kd.C (Kd.int .i64) w A0 lv.length lv) (hk0 : lv.length ≤ c0) (hr1 : Kd.C (Kd.int .i64) w A1 at_.length at_) (hk1 : at_.length ≤ c1) (hr2 : Kd.C (Kd.int .i64) w A2 es.length es) (hk2 : es.length ≤ c2) (hes : I64 es) :
  Calls Try.prog 24 #[.agg #[.slice A0 lv.length c0, .slice A1 at_.length c1], .slice A2 es.length c2, .int .i64 d] w fun e w' => e = .returned (.bool (decide (Win lv at_ es d))) ∧ Below w.heap.size w w' := by
 have hu24 := Try.underlying24
 have hu90 := Try.underlying90
 have HR0 := am_ hr0
 have HR1 := am_ hr1
 have HR2 := am_ hr2
 have HK0 := am_ hk0
 have HK1 := am_ hk1
 have HK2 := am_ hk2
 have HES := am_ hes
 clear hr0 hr1 hr2 hk0 hk1 hk2 hes
 obtain ⟨k, hk⟩ := (Check_ev lv at_ lv.length).get
 have HF := am_ hk
 clear hk
 generalize hbn : decide (Win lv at_ es d) = bb
 have HBN := am_ hbn
 clear hbn
 generalize hcr : chkE lv at_ lv.length = cr at *
 have HCR := am_ hcr
 clear hcr
 go_enter Try.func24, Try.ntmps24
 go_wp2_with (first
  | ((with_reducible refine zp (N := 3) rfl ?_); refine zw rfl (N := 3) rfl (cs := #[.slice A0 lv.length c0, .slice A1 at_.length c1]) (t := 24) ?hr ?_; (case hr => first | (go_simp; done) | (go_simp; rfl)); intro g3 hg3 w1 hw1 hb1; have B1 := am_ hb1; have K1 := am_ hw1; have L1 := am_ (show w.heap.size ≤ g3 by omega); clear hg3 hw1 hb1; have hc0 : w1.cell? ⟨g3, 0, none⟩ = some (.slice A0 lv.length c0) := (zi K1.out 0).trans rfl; have hc1 : w1.cell? ⟨g3, 1, none⟩ = some (.slice A1 at_.length c1) := (zi K1.out 1).trans rfl)
  | fail)
 refine (zt.calls k A0 c0 lv A1 c1 at_ lv.length cr w1 (Kd.zM HR0.out B1.out) HK0.out (Kd.zM HR1.out B1.out) HK1.out HF.out).mono ?_
 rintro e w2 ⟨rfl, hb2⟩
 have B2 := am_ (zj B1.out hb2)
 have K2 := am_ (zm K1.out hb2)
 have hc0' : w2.cell? ⟨g3, 0, none⟩ = some (.slice A0 lv.length c0) := (zi K2.out 0).trans rfl
 have hc1' : w2.cell? ⟨g3, 1, none⟩ = some (.slice A1 at_.length c1) := (zi K2.out 1).trans rfl
 clear hb2 hc0 hc1
 by_cases hz : cr = 0
 ·have hzb : (cr != 0) = false := by rw [hz]; rfl
  have HREG := am_ (chk_ok (HCR.out.trans hz))
  clear hz
  by_cases hl : es.length = lv.length
  ·have hlb : ((es.length : Int) != (lv.length : Int)) = false := by rw [hl]; exact bne_self_eq_false _
   have HLE := am_ hl
   clear hl
   by_cases hd0 : d < 0
   ·have hdb : decide (d < 0) = true := decide_eq_true hd0
    have HN := am_ (show ¬ Win lv at_ es d from fun h => by have := h.2.2.1; omega)
    clear hd0
    go_wp2_with fail
    go_ret
    exact ⟨by rw [← HBN.out, decide_eq_false HN.out]; first | done | rfl, B2.out⟩
   ·have hdb : decide (d < 0) = false := decide_eq_false hd0
    by_cases hd6 : 62 < d
    ·have hde : decide (62 < d) = true := decide_eq_true hd6
     have HN := am_ (show ¬ Win lv at_ es d from fun h => by have := h.2.2.2.1; omega)
     clear hd0 hd6
     go_wp2_with fail
     go_ret
     exact ⟨by rw [← HBN.out, decide_eq_false HN.out]; first | done | rfl, B2.out⟩
    ·have hde : decide (62 < d) = false := decide_eq_false hd6
     have HD := am_ (show 0 ≤ d ∧ d ≤ 62 by omega)
     clear hd0 hd6
     go_wp2_with fail
     obtain ⟨kp, hkp⟩ := (parts_ev lv at_ HREG.out.2.1 HREG.out.1).get
     refine (zF.calls kp A0 c0 lv A1 c1 at_ (pz lv at_) w2 (Kd.zM HR0.out B2.out) HK0.out (Kd.zM HR1.out B2.out) HK1.out hkp).mono ?_
     rintro e w3 ⟨v39, rfl, ho, hb3⟩
     obtain ⟨Ap, cp, e39⟩ := Kd.z4 ho
     have HP := am_ ((Kd.zQ (e39 ▸ ho)).2.2)
     rw [pz_length lv at_ HREG.out.2.1] at e39
     subst e39
     have B3 := am_ (zj B2.out hb3)
     have HE := am_ (Kd.zM HR2.out B3.out)
     clear hb3 ho hkp
     go_wp2_with fail
     go_loopg [41] lv.length (fun m v41 wr => ∃ x : Int, v41 = .int .i64 x ∧ Aside0 (0 ≤ x ∧ x + m = lv.length) ∧ Aside0 (∀ j : Nat, (j : Int) < x → InP d (rd es (j : Nat)) (rd lv (j : Nat)) (rd at_ (j : Nat))) ∧ Aside0 (Below w3.heap.size w3 wr))
     case atStart => exact ⟨0, rfl, ⟨by omega⟩, ⟨fun j hj => by omega⟩, ⟨Below.refl _ _⟩⟩
     case round =>
      obtain ⟨x, rfl, hm, hall, BL⟩ := hrel
      by_cases hx : x < (lv.length : Int)
      ·have hxb : decide (x < (lv.length : Int)) = true := decide_eq_true hx
       have p0 : 0 ≤ x := hm.out.1
       obtain ⟨j, rfl⟩ : ∃ j : Nat, x = j := ⟨x.toNat, by omega⟩
       have hj : j < lv.length := by omega
       have hfit := HREG.out.2.2 j hj
       have hee := i64_rd HES.out j (by have := HLE.out; omega)
       have hpz := pz_rd lv at_ j hj (by have := HREG.out.2.1; omega)
       obtain ⟨ad, e44, hx0, hx1⟩ := at_T90 (Kd.zM HP.out BL.out) (j : Int) p0 (by rw [pz_length lv at_ HREG.out.2.1]; exact hx)
       rw [hpz] at hx0 hx1
       obtain ⟨ae, e52, hx2⟩ := Kd.at_int (Kd.zM HE.out BL.out) (j : Int) p0 (by have := HLE.out; omega)
       cases e44
       cases e52
       have hzz : ∀ W : World, Below w3.heap.size w3 W → W.cell? (ae.add j) = some (.int .i64 (rd es (j : Int))) := by
        intro W hW
        obtain ⟨ad', e', h'⟩ := Kd.at_int (Kd.zM HE.out hW) (j : Int) p0 (by have := HLE.out; omega)
        cases e'
        rw [Int.toNat_natCast] at h'
        exact h'
       have HZ := am_ hzz
       clear hzz
       have HW := am_ (show Win lv at_ es d → InP d (rd es (j : Int)) (rd lv (j : Int)) (rd at_ (j : Int)) from fun h => h.2.2.2.2 j hj)
       have HQ := am_ (show InP d (rd es (j : Int)) (rd lv (j : Int)) (rd at_ (j : Int)) → ∀ i : Nat, (i : Int) < (j : Int) + 1 → InP d (rd es (i : Nat)) (rd lv (i : Nat)) (rd at_ (i : Nat)) from fun h i hi => by
        by_cases hij : i = j
        ·subst hij; exact h
        ·exact hall.out i (by omega))
       dsimp only at hx0 hx1
       rw [Int.toNat_natCast] at hx0 hx1 hx2
       have hq : (j : Int) < (es.length : Int) := by have := HLE.out; omega
       have hj1 : j < es.length := by have := HLE.out; omega
       have hj0 := eq_true hj
       replace hj1 := eq_true hj1
       replace p0 := eq_true p0
       replace hq := eq_true hq
       have HJ := am_ hj
       have HEE := am_ hee
       have HFIT := am_ hfit
       clear hx hj hpz hee hfit
       generalize rd lv (j : Int) = l at *
       generalize rd at_ (j : Int) = a at *
       generalize rd es (j : Int) = z at *
       go_wp2_with (first
        | ((with_reducible refine zp (N := 8) rfl ?_); refine zw rfl (N := 8) rfl (cs := #[.int .i64 0, .int .i64 0]) (t := 90) ?hr ?_; (case hr => first | (go_simp; done) | (go_simp; rfl)); intro g8 hg8 w8 hw8 hb8; have B8 := am_ (zj BL.out hb8); have K8 := am_ hw8; have L8 := am_ (show w3.heap.size ≤ g8 by have := BL.out.size; omega); clear hg8 hw8 hb8)
        | ((with_reducible refine zK (t := 90) (p := 8) rfl ?_); refine zC rfl 90 rfl rfl g8 #[.int .i64 l, .int .i64 a] rfl rfl 90 _ K8.out (info90.trans rfl) rfl (by simp [Value.oneCell']) ?_; intro w9 hw9 hg9; have B9 := am_ (B8.out.grown hg9 B8.out.size (fun k hk => by cases hk; exact L8.out)); have K9 := am_ hw9; clear hw9 hg9)
        | fail)
       refine (new_calls w9).mono ?_
       rintro e w10 ⟨b, rfl, hgb, hkb, hbb⟩
       have B10 := am_ (zj B9.out hbb)
       have K10 := am_ (zm K9.out hbb)
       have Kb := am_ hkb
       have Nb := am_ (show g8 ≠ b ∧ w3.heap.size ≤ b by have := zE K9.out; have := B9.out.size; omega)
       clear hgb hkb hbb hx0 hx1 hx2
       go_wp2_with fail
       refine (new_calls w10).mono ?_
       rintro e w11 ⟨c, rfl, hgb, hkb, hbb⟩
       have B11 := am_ (zj B10.out hbb)
       have K11 := am_ (zm K10.out hbb)
       have Kb1 := am_ (zm Kb.out hbb)
       have Kc := am_ hkb
       have Nc := am_ (show g8 ≠ c ∧ b ≠ c ∧ w3.heap.size ≤ c by have := zE K10.out; have := zE Kb.out; have := B10.out.size; omega)
       clear hgb hkb hbb
       go_wp2_with fail
       refine (new_calls w11).mono ?_
       rintro e w12 ⟨e, rfl, hgb, hkb, hbb⟩
       have S0 := am_ (show St w3 w12 g8 b c e l a (some 0) (some 0) (some 0) from ⟨zj B11.out hbb, zm K11.out hbb, zm Kb1.out hbb, zm Kc.out hbb, hkb, by have := zE K11.out; have := zE Kb1.out; have := zE Kc.out; have := B11.out.size; have := Nb.out; have := Nc.out; omega⟩)
       have hz12 := HZ.out w12 S0.out.below
       clear hgb hkb hbb
       have hnd : wrap64 (-d) = -d := w64 _ (by have := HD.out; omega) (by have := HD.out; omega)
       have hnl : wrap64 (-l) = -l := w64 _ (by have := HFIT.out.2.1; omega) (by have := HFIT.out.1; omega)
       have ha8 : 0 ≤ a ∧ a < 256 := fit_256 HFIT.out
       have hw2 : wrap64 (2 * a) = 2 * a := w64 _ (by omega) (by omega)
       have hw3 : wrap64 (2 * a + 2) = 2 * a + 2 := w64 _ (by omega) (by omega)
       clear ha8
       have hba := and_low z
       obtain ⟨x1, hx1⟩ : ∃ x, floatOfInt .f64 (z / 4294967296) = x := ⟨_, rfl⟩
       obtain ⟨x2, hx2⟩ : ∃ x, floatOfInt .f64 (z % 4294967296) = x := ⟨_, rfl⟩
       obtain ⟨x3, hx3⟩ : ∃ x, floatOfInt .f64 (2 * a) = x := ⟨_, rfl⟩
       obtain ⟨x4, hx4⟩ : ∃ x, floatOfInt .f64 (2 * a + 2) = x := ⟨_, rfl⟩
       have X1 := am_ (show flt (z / 4294967296) = x1 from hx1)
       have X2 := am_ (show flt (z % 4294967296) = x2 from hx2)
       have X3 := am_ (show flt (2 * a) = x3 from hx3)
       have X4 := am_ (show flt (2 * a + 2) = x4 from hx4)
       go_wp2_with fail
       refine (prod_calls w12 e (some 0) x1 4751297606875873280 (-d) (by rw [← X1.out]; exact flt_lt _) (by decide) acc_zero S0.out.pt).mono ?_
       rintro e' w13 ⟨rfl, hk, hg⟩
       generalize ht : prodV (some 0) x1 4751297606875873280 (-d) = t1 at *
       have T1 := am_ ht
       have O1 := am_ (show accOk t1 from by rw [← ht]; exact prodV_ok _ _ _ _)
       have S1 := am_ (S0.out.putPt hk hg)
       clear ht hk hg
       have hz13 := HZ.out w13 S1.out.below
       clear hz12
       go_wp2_with fail
       refine (prod_calls w13 e t1 x2 4607182418800017408 (-d) (by rw [← X2.out]; exact flt_lt _) (by decide) O1.out S1.out.pt).mono ?_
       rintro e' w14 ⟨rfl, hk, hg⟩
       generalize ht : prodV t1 x2 4607182418800017408 (-d) = t2 at *
       have T2 := am_ ht
       have O2 := am_ (show accOk t2 from by rw [← ht]; exact prodV_ok _ _ _ _)
       have S2 := am_ (S1.out.putPt hk hg)
       clear ht hk hg
       clear hz13
       go_wp2_with fail
       refine (add_calls w14 b (some 0) 13830554455654793216 (by decide) acc_zero S2.out.lo).mono ?_
       rintro e' w15 ⟨rfl, hk, hg⟩
       obtain ⟨t3, ht, ho⟩ := named_prod (some 0) 13830554455654793216 oneF 0
       rw [ht] at hk
       have T3 := am_ ht
       have O3 := am_ ho
       have S3 := am_ (S2.out.putLo hk hg)
       clear ht hk hg ho
       have hp0 := S3.out.p0
       have hp1 := S3.out.p1
       go_wp2_with fail
       refine (prod_calls w15 b t3 x3 4607182418800017408 (-l) (by rw [← X3.out]; exact flt_lt _) (by decide) O3.out S3.out.lo).mono ?_
       rintro e' w16 ⟨rfl, hk, hg⟩
       generalize ht : prodV t3 x3 4607182418800017408 (-l) = t4 at *
       have T4 := am_ ht
       have O4 := am_ (show accOk t4 from by rw [← ht]; exact prodV_ok _ _ _ _)
       have S4 := am_ (S3.out.putLo hk hg)
       clear ht hk hg
       clear hp0 hp1
       go_wp2_with fail
       refine (add_calls w16 c (some 0) 13830554455654793216 (by decide) acc_zero S4.out.hi).mono ?_
       rintro e' w17 ⟨rfl, hk, hg⟩
       obtain ⟨t5, ht, ho⟩ := named_prod (some 0) 13830554455654793216 oneF 0
       rw [ht] at hk
       have T5 := am_ ht
       have O5 := am_ ho
       have S5 := am_ (S4.out.putHi hk hg)
       clear ht hk hg ho
       have hp0 := S5.out.p0
       have hp1 := S5.out.p1
       go_wp2_with fail
       refine (prod_calls w17 c t5 x4 4607182418800017408 (-l) (by rw [← X4.out]; exact flt_lt _) (by decide) O5.out S5.out.hi).mono ?_
       rintro e' w18 ⟨rfl, hk, hg⟩
       generalize ht : prodV t5 x4 4607182418800017408 (-l) = t6 at *
       have T6 := am_ ht
       have O6 := am_ (show accOk t6 from by rw [← ht]; exact prodV_ok _ _ _ _)
       have S6 := am_ (S5.out.putHi hk hg)
       clear ht hk hg
       clear hp0 hp1
       go_wp2_with fail
       refine (cmp_calls w18 e b t2 t4 O2.out O4.out S6.out.pt S6.out.lo).mono ?_
       rintro e' w19 ⟨rfl, hb⟩
       have S7 := am_ (S6.out.step hb)
       clear hb
       rw [cmpR_eq t2 t4]
       go_wp2_with fail
       refine (cmp_calls w19 e c t2 t6 O2.out O6.out S7.out.pt S7.out.hi).mono ?_
       rintro e' w20 ⟨rfl, hb⟩
       have S8 := am_ (S7.out.step hb)
       clear hb
       rw [cmpR_eq t2 t6]
       obtain ⟨q1, q2⟩ := round_law d z l a HD.out.1 HD.out.2 HEE.out HFIT.out
       rw [X1.out, X2.out, T1.out, T2.out, X3.out, T3.out, T4.out] at q1
       rw [X1.out, X2.out, T1.out, T2.out, X4.out, T5.out, T6.out] at q2
       have HQ1 := am_ q1
       have HQ2 := am_ q2
       clear q1 q2
       by_cases hn1 : cmpN t2 t4 < 0
       ·have hn1b : decide (cmpN t2 t4 < 0) = true := decide_eq_true hn1
        have HN1 := am_ hn1
        clear hn1
        go_wp2_with fail
        go_ret
        exact ⟨by rw [← HBN.out, decide_eq_false (fun h => by have := HQ1.out.mpr (HW.out h).1; have := HN1.out; omega)]; first | done | rfl, zj B3.out S8.out.below⟩
       ·have hn1b : decide (cmpN t2 t4 < 0) = false := decide_eq_false hn1
        by_cases hn2 : 0 < cmpN t2 t6
        ·have hn2b : decide (0 < cmpN t2 t6) = true := decide_eq_true hn2
         have HN2 := am_ hn2
         clear hn1 hn2
         go_wp2_with fail
         go_ret
         exact ⟨by rw [← HBN.out, decide_eq_false (fun h => by have := HQ2.out.mpr (HW.out h).2; have := HN2.out; omega)]; first | done | rfl, zj B3.out S8.out.below⟩
        ·have hn2b : decide (0 < cmpN t2 t6) = false := decide_eq_false hn2
         have HN := am_ (show InP d z l a from ⟨HQ1.out.mp (by omega), HQ2.out.mp (by omega)⟩)
         clear hn1 hn2
         go_wp2_with fail
         go_roundg (gk - 1)
         case measure => have := hm.out; have := HJ.out; omega
         case rel => exact ⟨(j : Int) + 1, by rw [show wrap64 ((j : Int) + 1) = (j : Int) + 1 from w64 _ (by omega) (by have := HJ.out; have := HREG.out.1; omega)], ⟨by have := hm.out; have := HJ.out; omega⟩, ⟨HQ.out HN.out⟩, ⟨S8.out.below⟩⟩
      ·have hxb : decide (x < (lv.length : Int)) = false := decide_eq_false hx
       have HX := am_ (show x = lv.length by have := hm.out; omega)
       clear hx
       go_wp2_with fail
       go_ret
       exact ⟨by rw [← HBN.out, decide_eq_true ⟨HREG.out, HLE.out, HD.out.1, HD.out.2, fun i hi => hall.out i (by have := HX.out; omega)⟩]; first | done | rfl, zj B3.out BL.out⟩

  ·have hlb : ((es.length : Int) != (lv.length : Int)) = true := by rw [bne_iff_ne]; omega
   have HN := am_ (show ¬ Win lv at_ es d from fun h => hl h.2.1)
   clear hl
   go_wp2_with fail
   go_ret
   exact ⟨by rw [← HBN.out, decide_eq_false HN.out]; first | done | rfl, B2.out⟩
 ·have hzb : (cr != 0) = true := by rw [bne_iff_ne]; exact hz
  have HN := am_ (show ¬ Win lv at_ es d from fun h => chk_bad (by rw [HCR.out]; exact hz) h.1)
  clear hz
  go_wp2_with fail
  go_ret
  exact ⟨by rw [← HBN.out, decide_eq_false HN.out]; first | done | rfl, B2.out⟩
end Go.Proofs.Ytlidbaejhmamjaa.AC

namespace Go.Proofs.Ytlidbaejhmamjaa.PB
open Go.RowKit Go.Proofs.YtlidbaejhmamjaaW.PrintWords Go.Proofs.YtlidbaejhmamjaaW.PrintLast Go.Proofs.YtlidbaejhmamjaaW.PrintMore
attribute [local go_sem] zX zU z7 z8 zO zP zW zT   -- for this text's walks alone
set_option linter.unusedVariables false
set_option linter.unusedSimpArgs false
def zJ.j0 : Nat → Int → List (S90) → Bool → Option (List Int × List Int × List Int × List Int × Int)
 | 0, _, _, _ => none
 | k + 1, x1, x8, x37 => if x37 = true then (some (([] : List Int), ([] : List Int), ([] : List Int), ([] : List Int), 1)) else (if 0 ≤ x1 then (if x1 < (x8.length : Int) then ((some (x8.set (x1 : Int).toNat (⟨wrap64 (((zl x8 x1).f0) + 1), wrap64 (2 * ((zl x8 x1).f1))⟩ : S90) : List (S90))).bind fun y163 => ((zo.f k y163).bind fun bt164 => ((some (y163.set (x1 : Int).toNat (⟨(zl y163 x1).f0, wrap64 (((zl y163 x1).f1) + 1)⟩ : S90) : List (S90))).bind fun y172 => ((zo.f k y172).bind fun bt173 => (if (((zl y172 x1).f0) == ((zl x8 x1).f0) && (((zl y172 x1).f1) == ((zl x8 x1).f1))) = true then (none) else (some (bt164.1, bt164.2, bt173.1, bt173.2, 0))))))) else (none)) else (none))
def zJ.f (k : Nat) (l0_0 : List Int) (l0_1 : List Int) (a1 : Int) : Option (List Int × List Int × List Int × List Int × Int) := (zt.f k l0_0 l0_1 (l0_0.length : Int)).bind fun t156 => (if t156 = 0 then ((zF.f k l0_0 l0_1).bind fun t157 => (if a1 < 0 then (zJ.j0 k a1 t157 true) else (if a1 ≥ (l0_0.length : Int) then (zJ.j0 k a1 t157 true) else (if 0 ≤ a1 then (if a1 < (t157.length : Int) then (zJ.j0 k a1 t157 (((zl t157 a1).f0) == 8)) else (none)) else (none))))) else (some (([] : List Int), ([] : List Int), ([] : List Int), ([] : List Int), 180)))
theorem zJ.ite2 {a b c d : Int} {x y : Result Next} (h : ((a == b) && (c == d)) = false) : (if a = b then (if c = d then x else y) else y) = y := by
 by_cases e0 : a = b
 ·by_cases e1 : c = d
  ·exact absurd h (by simp [e0, e1])
  ·rw [if_pos e0, if_neg e1]
 ·rw [if_neg e0]
set_option maxHeartbeats 8000000 in
set_option maxRecDepth 100000 in
theorem zJ.calls (k : Nat) (A0_0 : Option Addr) (c0_0 : Nat) (l0_0 : List Int) (A0_1 : Option Addr) (c0_1 : Nat) (l0_1 : List Int) (a1 : Int) (r1 : List Int) (r2 : List Int) (r3 : List Int) (r4 : List Int) (r5 : Int) (w : World) (hr0_0 : Kd.C (Kd.int .i64) w A0_0 l0_0.length l0_0) (hc0_0 : l0_0.length ≤ c0_0) (hr0_1 : Kd.C (Kd.int .i64) w A0_1 l0_1.length l0_1) (hc0_1 : l0_1.length ≤ c0_1) (h : zJ.f k l0_0 l0_1 a1 = some (r1, r2, r3, r4, r5)) :
  Calls Try.prog 15 #[.agg #[.slice A0_0 l0_0.length c0_0, .slice A0_1 l0_1.length c0_1], .int .i64 a1] w fun e w' => ∃ v0_ v1_ v2_ v3_ : Value, e = .returned (.tuple #[.agg #[v0_, v1_], .agg #[v2_, v3_], .int .i64 r5]) ∧ Kd.R (Kd.int .i64) 3 w' w.heap.size (fun k_ => some k_ ≠ (v1_ : Value).ownBlock ∧ some k_ ≠ (v2_ : Value).ownBlock ∧ some k_ ≠ (v3_ : Value).ownBlock) v0_ r1 ∧ Kd.R (Kd.int .i64) 3 w' w.heap.size (fun k_ => some k_ ≠ (v0_ : Value).ownBlock ∧ some k_ ≠ (v2_ : Value).ownBlock ∧ some k_ ≠ (v3_ : Value).ownBlock) v1_ r2 ∧ Kd.R (Kd.int .i64) 3 w' w.heap.size (fun k_ => some k_ ≠ (v0_ : Value).ownBlock ∧ some k_ ≠ (v1_ : Value).ownBlock ∧ some k_ ≠ (v3_ : Value).ownBlock) v2_ r3 ∧ Kd.R (Kd.int .i64) 3 w' w.heap.size (fun k_ => some k_ ≠ (v0_ : Value).ownBlock ∧ some k_ ≠ (v1_ : Value).ownBlock ∧ some k_ ≠ (v2_ : Value).ownBlock) v3_ r4 ∧ Below w.heap.size w w' := by
 have hu24 := Try.underlying24
 have hu90 := Try.underlying90
 have HR0_0 := am_ hr0_0
 have HC0_0 := am_ hc0_0
 clear hr0_0 hc0_0
 have HR0_1 := am_ hr0_1
 have HC0_1 := am_ hc0_1
 clear hr0_1 hc0_1
 have HB := am_ (Below.refl w.heap.size w)
 have H : ((zt.f k l0_0 l0_1 (l0_0.length : Int)).bind fun t156 => (if t156 = 0 then ((zF.f k l0_0 l0_1).bind fun t157 => (if a1 < 0 then (zJ.j0 k a1 t157 true) else (if a1 ≥ (l0_0.length : Int) then (zJ.j0 k a1 t157 true) else (if 0 ≤ a1 then (if a1 < (t157.length : Int) then (zJ.j0 k a1 t157 (((zl t157 a1).f0) == 8)) else (none)) else (none))))) else (some (([] : List Int), ([] : List Int), ([] : List Int), ([] : List Int), 180)))) = some (r1, r2, r3, r4, r5) := h
 clear h
 replace H := Option.bind_eq_some_iff.mp H
 obtain ⟨t156, A30, H⟩ := H
 replace H : (if t156 = 0 then ((zF.f k l0_0 l0_1).bind fun t157 => (if a1 < 0 then (zJ.j0 k a1 t157 true) else (if a1 ≥ (l0_0.length : Int) then (zJ.j0 k a1 t157 true) else (if 0 ≤ a1 then (if a1 < (t157.length : Int) then (zJ.j0 k a1 t157 (((zl t157 a1).f0) == 8)) else (none)) else (none))))) else (some (([] : List Int), ([] : List Int), ([] : List Int), ([] : List Int), 180))) = some (r1, r2, r3, r4, r5) := H
 have A3 := am_ A30
 clear A30
 by_cases c4 : t156 = 0
 ·rw [if_pos c4] at H
  have c4b0 : (t156 == 0) = true := beq_iff_eq.mpr c4
  have c4b1 : (t156 != 0) = false := bne_eq_false_iff_eq.mpr c4
  clear c4
  replace H := Option.bind_eq_some_iff.mp H
  obtain ⟨t157, A50, H⟩ := H
  replace H : (if a1 < 0 then (zJ.j0 k a1 t157 true) else (if a1 ≥ (l0_0.length : Int) then (zJ.j0 k a1 t157 true) else (if 0 ≤ a1 then (if a1 < (t157.length : Int) then (zJ.j0 k a1 t157 (((zl t157 a1).f0) == 8)) else (none)) else (none)))) = some (r1, r2, r3, r4, r5) := H
  have A5 := am_ A50
  clear A50
  have HC6 := am_ H
  clear H
  go_enter Try.func15, Try.ntmps15
  go_upto_region 5 with (first | ((with_reducible refine zp (N := 2) rfl ?_); refine zw ?hg (N := 2) ?hd (cs := #[.slice A0_0 l0_0.length c0_0, .slice A0_1 l0_1.length c0_1]) (t := 24) ?hr ?_; (case hd => rfl); (case hg => rfl); (case hr => first | (go_simp; done) | (go_simp; rfl)); intro gb153 hg w7 hbox hb; have n0_ := am_ (zj (by repeat (first | (with_reducible first | exact HB.out | apply zb | apply za | apply zc) | exact HB.out)) hb); have n1_ := am_ (hbox); have n2_ := am_ ((by rw [hg]; exact (zk (by repeat (first | (with_reducible first | exact HB.out | apply zb | apply za | apply zc) | exact HB.out))) : w.heap.size ≤ gb153)); have n3_ := am_ ((by rw [hg]; exact (zk (by repeat (first | (with_reducible first | exact HB.out | apply zb | apply za | apply zc) | exact HB.out))) : w.heap.size ≤ gb153)); clear HB; have HB := n0_; have BK153 := n1_; have GW153 := n2_; have GE153 := n3_; clear n0_ n1_ n2_ n3_; clear hb hbox hg) | ((with_reducible refine zp (N := 4) rfl ?_); refine zw ?hg (N := 4) ?hd (cs := #[.slice none 0 0, .slice none 0 0]) (t := 24) ?hr ?_; (case hd => rfl); (case hg => rfl); (case hr => first | (go_simp; done) | (go_simp; rfl)); intro gb154 hg w8 hbox hb; have n0_ := am_ (zm (g := gb153) (o := .cells #[.slice A0_0 l0_0.length c0_0, .slice A0_1 l0_1.length c0_1] 24 (0, 0)) (by (with_reducible repeat (first | refine ze ?_ _ | refine zg ?_ | refine zd ?_ _)); exact BK153.out) hb); have n1_ := am_ (zj (by repeat (first | (with_reducible first | exact HB.out | apply zb | apply za | apply zc | refine zf ?_ GE153.out) | exact HB.out)) hb); have n2_ := am_ (hbox); have n3_ := am_ ((by rw [hg]; exact (zk (by repeat (first | (with_reducible first | exact HB.out | apply zb | apply za | apply zc | refine zf ?_ GE153.out) | exact HB.out))) : w.heap.size ≤ gb154)); have n4_ := am_ ((by rw [hg]; exact (zk (by repeat (first | (with_reducible first | exact HB.out | apply zb | apply za | apply zc | refine zf ?_ GE153.out) | exact HB.out))) : w.heap.size ≤ gb154)); have n5_ := am_ ((by rw [hg]; exact Nat.ne_of_lt (zE (g := gb153) (o := .cells #[.slice A0_0 l0_0.length c0_0, .slice A0_1 l0_1.length c0_1] 24 (0, 0)) (by (with_reducible repeat (first | refine ze ?_ _ | refine zg ?_ | refine zd ?_ _)); exact BK153.out)) : gb153 ≠ gb154)); have n6_ := am_ ((by rw [hg]; exact Nat.ne_of_gt (zE (g := gb153) (o := .cells #[.slice A0_0 l0_0.length c0_0, .slice A0_1 l0_1.length c0_1] 24 (0, 0)) (by (with_reducible repeat (first | refine ze ?_ _ | refine zg ?_ | refine zd ?_ _)); exact BK153.out)) : gb154 ≠ gb153)); clear BK153; clear HB; have BK153 := n0_; have HB := n1_; have BK154 := n2_; have GW154 := n3_; have GE154 := n4_; have NB153_154 := n5_; have NB154_153 := n6_; clear n0_ n1_ n2_ n3_ n4_ n5_ n6_; clear hb hbox hg) | ((with_reducible refine zp (N := 5) rfl ?_); refine zw ?hg (N := 5) ?hd (cs := #[.slice none 0 0, .slice none 0 0]) (t := 24) ?hr ?_; (case hd => rfl); (case hg => rfl); (case hr => first | (go_simp; done) | (go_simp; rfl)); intro gb155 hg w9 hbox hb; have n0_ := am_ (zm (g := gb153) (o := .cells #[.slice A0_0 l0_0.length c0_0, .slice A0_1 l0_1.length c0_1] 24 (0, 0)) (by (with_reducible repeat (first | refine ze ?_ _ | refine zg ?_ | refine zd ?_ _)); exact BK153.out) hb); have n1_ := am_ (zm (g := gb154) (o := .cells #[.slice none 0 0, .slice none 0 0] 24 (0, 0)) (by (with_reducible repeat (first | refine ze ?_ _ | refine zg ?_ | refine zd ?_ _)); exact BK154.out) hb); have n2_ := am_ (zj (by repeat (first | (with_reducible first | exact HB.out | apply zb | apply za | apply zc | refine zf ?_ GE153.out | refine zf ?_ GE154.out) | exact HB.out)) hb); have n3_ := am_ (hbox); have n4_ := am_ ((by rw [hg]; exact (zk (by repeat (first | (with_reducible first | exact HB.out | apply zb | apply za | apply zc | refine zf ?_ GE153.out | refine zf ?_ GE154.out) | exact HB.out))) : w.heap.size ≤ gb155)); have n5_ := am_ ((by rw [hg]; exact (zk (by repeat (first | (with_reducible first | exact HB.out | apply zb | apply za | apply zc | refine zf ?_ GE153.out | refine zf ?_ GE154.out) | exact HB.out))) : w.heap.size ≤ gb155)); have n6_ := am_ ((by rw [hg]; exact Nat.ne_of_lt (zE (g := gb153) (o := .cells #[.slice A0_0 l0_0.length c0_0, .slice A0_1 l0_1.length c0_1] 24 (0, 0)) (by (with_reducible repeat (first | refine ze ?_ _ | refine zg ?_ | refine zd ?_ _)); exact BK153.out)) : gb153 ≠ gb155)); have n7_ := am_ ((by rw [hg]; exact Nat.ne_of_gt (zE (g := gb153) (o := .cells #[.slice A0_0 l0_0.length c0_0, .slice A0_1 l0_1.length c0_1] 24 (0, 0)) (by (with_reducible repeat (first | refine ze ?_ _ | refine zg ?_ | refine zd ?_ _)); exact BK153.out)) : gb155 ≠ gb153)); have n8_ := am_ ((by rw [hg]; exact Nat.ne_of_lt (zE (g := gb154) (o := .cells #[.slice none 0 0, .slice none 0 0] 24 (0, 0)) (by (with_reducible repeat (first | refine ze ?_ _ | refine zg ?_ | refine zd ?_ _)); exact BK154.out)) : gb154 ≠ gb155)); have n9_ := am_ ((by rw [hg]; exact Nat.ne_of_gt (zE (g := gb154) (o := .cells #[.slice none 0 0, .slice none 0 0] 24 (0, 0)) (by (with_reducible repeat (first | refine ze ?_ _ | refine zg ?_ | refine zd ?_ _)); exact BK154.out)) : gb155 ≠ gb154)); clear BK153; clear BK154; clear HB; have BK153 := n0_; have BK154 := n1_; have HB := n2_; have BK155 := n3_; have GW155 := n4_; have GE155 := n5_; have NB153_155 := n6_; have NB155_153 := n7_; have NB154_155 := n8_; have NB155_154 := n9_; clear n0_ n1_ n2_ n3_ n4_ n5_ n6_ n7_ n8_ n9_; clear hb hbox hg; have hnb10 := NB153_154.out; have hnc10 := NB154_153.out; have hnb11 := NB153_155.out; have hnc11 := NB155_153.out; have hcz12_0 : w9.cell? ⟨gb153, 0, none⟩ = some (.slice A0_0 l0_0.length c0_0) := (zi BK153.out 0).trans rfl; have hcz12_1 : w9.cell? ⟨gb153, 1, none⟩ = some (.slice A0_1 l0_1.length c0_1) := (zi BK153.out 1).trans rfl; have hfz12_0 := zh BK153.out 0; have hfz12_1 := zh BK153.out 1) | ((with_reducible refine zR (f := 17) rfl ?_); refine goesL_ (some 17) rfl rfl Try.func17 (by kernel_rfl) rfl #[.agg #[.slice A0_0 l0_0.length c0_0, .slice A0_1 l0_1.length c0_1], .int .i64 (l0_0.length : Int)] rfl (by (try simp only [List.map_toArray, List.map_cons, List.map_nil]); first | done | rfl | (simp only [List.length_drop, List.length_take]; rfl)) ?_; (with_reducible refine (zt.calls k _ _ l0_0 _ _ l0_1 (l0_0.length : Int) t156 _ ?side1 ?side2 ?side3 ?side4 A3.out).mono ?_); (case side1 => repeat (first | exact (Kd.zM HR0_0.out HB.out) | (with_reducible refine Kd.z3 ?_ _) | (with_reducible refine Kd.z2 ?_ _) | (with_reducible refine Kd.zae ?_))); (case side2 => exact HC0_0.out); (case side3 => repeat (first | exact (Kd.zM HR0_1.out HB.out) | (with_reducible refine Kd.z3 ?_ _) | (with_reducible refine Kd.z2 ?_ _) | (with_reducible refine Kd.zae ?_))); (case side4 => exact HC0_1.out); rintro e w13 ⟨rfl, hb⟩; refine ⟨_, rfl, ?_⟩; have n0_ := am_ (zm (g := gb153) (o := .cells #[.slice A0_0 l0_0.length c0_0, .slice A0_1 l0_1.length c0_1] 24 (0, 0)) (by (with_reducible repeat (first | refine ze ?_ _ | refine zg ?_ | refine zd ?_ _)); exact BK153.out) hb); have n1_ := am_ (zm (g := gb154) (o := .cells #[.slice none 0 0, .slice none 0 0] 24 (0, 0)) (by (with_reducible repeat (first | refine ze ?_ _ | refine zg ?_ | refine zd ?_ _)); exact BK154.out) hb); have n2_ := am_ (zm (g := gb155) (o := .cells #[.slice none 0 0, .slice none 0 0] 24 (0, 0)) (by (with_reducible repeat (first | refine ze ?_ _ | refine zg ?_ | refine zd ?_ _)); exact BK155.out) hb); have n3_ := am_ (zj (by repeat (first | (with_reducible first | exact HB.out | apply zb | apply za | apply zc | refine zf ?_ GE153.out | refine zf ?_ GE154.out | refine zf ?_ GE155.out) | exact HB.out)) hb); clear BK153; clear BK154; clear BK155; clear HB; have BK153 := n0_; have BK154 := n1_; have BK155 := n2_; have HB := n3_; clear n0_ n1_ n2_ n3_; (try clear hb); (try clear hb2); (try clear hk); (try clear hi); have hcz14_0 : w13.cell? ⟨gb153, 0, none⟩ = some (.slice A0_0 l0_0.length c0_0) := (zi BK153.out 0).trans rfl; have hcz14_1 : w13.cell? ⟨gb153, 1, none⟩ = some (.slice A0_1 l0_1.length c0_1) := (zi BK153.out 1).trans rfl; have hfz14_0 := zh BK153.out 0; have hfz14_1 := zh BK153.out 1) | ((with_reducible refine zR (f := 39) rfl ?_); refine goesL_ (some 22) rfl rfl Try.func39 (by kernel_rfl) rfl #[.agg #[.slice A0_0 l0_0.length c0_0, .slice A0_1 l0_1.length c0_1]] rfl (by (try simp only [List.map_toArray, List.map_cons, List.map_nil]); first | done | rfl | (simp only [List.length_drop, List.length_take]; rfl)) ?_; (with_reducible refine (zF.calls k _ _ l0_0 _ _ l0_1 t157 _ ?side1 ?side2 ?side3 ?side4 A5.out).mono ?_); (case side1 => repeat (first | exact (Kd.zM HR0_0.out HB.out) | (with_reducible refine Kd.z3 ?_ _) | (with_reducible refine Kd.z2 ?_ _) | (with_reducible refine Kd.zae ?_))); (case side2 => exact HC0_0.out); (case side3 => repeat (first | exact (Kd.zM HR0_1.out HB.out) | (with_reducible refine Kd.z3 ?_ _) | (with_reducible refine Kd.z2 ?_ _) | (with_reducible refine Kd.zae ?_))); (case side4 => exact HC0_1.out); rintro e w15 ⟨v158, rfl, ho0, hb⟩; refine ⟨_, rfl, ?_⟩; have n0_ := am_ (Kd.zal ho0 (zk (by repeat (first | (with_reducible first | exact HB.out | apply zb | apply za | apply zc | refine zf ?_ GE153.out | refine zf ?_ GE154.out | refine zf ?_ GE155.out) | exact HB.out)))); have n1_ := am_ (zm (g := gb153) (o := .cells #[.slice A0_0 l0_0.length c0_0, .slice A0_1 l0_1.length c0_1] 24 (0, 0)) (by (with_reducible repeat (first | refine ze ?_ _ | refine zg ?_ | refine zd ?_ _)); exact BK153.out) hb); have n2_ := am_ (zm (g := gb154) (o := .cells #[.slice none 0 0, .slice none 0 0] 24 (0, 0)) (by (with_reducible repeat (first | refine ze ?_ _ | refine zg ?_ | refine zd ?_ _)); exact BK154.out) hb); have n3_ := am_ (zm (g := gb155) (o := .cells #[.slice none 0 0, .slice none 0 0] 24 (0, 0)) (by (with_reducible repeat (first | refine ze ?_ _ | refine zg ?_ | refine zd ?_ _)); exact BK155.out) hb); have n4_ := am_ (zj (by repeat (first | (with_reducible first | exact HB.out | apply zb | apply za | apply zc | refine zf ?_ GE153.out | refine zf ?_ GE154.out | refine zf ?_ GE155.out) | exact HB.out)) hb); clear BK153; clear BK154; clear BK155; clear HB; have HO159 := n0_; have BK153 := n1_; have BK154 := n2_; have BK155 := n3_; have HB := n4_; clear n0_ n1_ n2_ n3_ n4_; (try clear hb); (try clear hb2); (try clear hk); (try clear hi); (try clear ho0)))
  (try simp only [Act.put, sI_, s0_, s1_])
  go_cut [37] (fun v37 wc => ∃ (kq : Nat) (x37_5 : Bool), v37 = .bool x37_5 ∧ Aside0 (zJ.j0 kq a1 t157 x37_5 = some (r1, r2, r3, r4, r5)) ∧ Aside0 (kq ≤ k) ∧ Aside0 (Kd.R k90 90 wc w.heap.size (fun _ => True) v158 t157) ∧ Aside0 (wc.heap[gb153]? = some (.cells #[(.slice A0_0 l0_0.length c0_0), (.slice A0_1 l0_1.length c0_1)] 24 (0, 0))) ∧ Aside0 (wc.heap[gb154]? = some (.cells #[(.slice none 0 0), (.slice none 0 0)] 24 (0, 0))) ∧ Aside0 (wc.heap[gb155]? = some (.cells #[(.slice none 0 0), (.slice none 0 0)] 24 (0, 0))) ∧ Aside0 (Below w.heap.size w wc))
  case first =>
   have H := HC6.out
   clear HC6
   by_cases c16 : a1 < 0
   ·rw [if_pos c16] at H
    have c16b0 : decide (a1 < 0) = true := decide_eq_true c16
    clear c16
    (first | rw [c16b0] | (simp only [zv, zx]; rw [c16b0]) | skip)
    have H' := am_ H
    clear H
    go_wp2
    go_meet
    case rel => exact ⟨_, (true), (by first | rfl | (simp; done) | (simp [*]; done)), H', ⟨by first | omega | exact Nat.le_refl _⟩, ⟨by (with_reducible repeat (first | apply Kd.zq | apply Kd.zr | apply Kd.zy)); exact HO159.out⟩, ⟨by (with_reducible repeat (first | refine ze ?_ _ | refine zg ?_ | refine zd ?_ _)); exact BK153.out⟩, ⟨by (with_reducible repeat (first | refine ze ?_ _ | refine zg ?_ | refine zd ?_ _)); exact BK154.out⟩, ⟨by (with_reducible repeat (first | refine ze ?_ _ | refine zg ?_ | refine zd ?_ _)); exact BK155.out⟩, ⟨by repeat (first | (with_reducible first | exact HB.out | apply zb | apply za | apply zc | refine zf ?_ GE153.out | refine zf ?_ GE154.out | refine zf ?_ GE155.out) | exact HB.out)⟩⟩
   ·rw [if_neg c16] at H
    have c16b0 : decide (a1 < 0) = false := decide_eq_false c16
    clear c16
    (first | rw [c16b0] | (simp only [zv, zx]; rw [c16b0]) | skip)
    by_cases c17 : a1 ≥ (l0_0.length : Int)
    ·rw [if_pos c17] at H
     have c17b0 : decide ((l0_0.length : Int) ≤ a1) = true := decide_eq_true c17
     clear c17
     have H' := am_ H
     clear H
     go_wp2
     go_meet
     case rel => exact ⟨_, (true), (by first | rfl | (simp; done) | (simp [*]; done)), H', ⟨by first | omega | exact Nat.le_refl _⟩, ⟨by (with_reducible repeat (first | apply Kd.zq | apply Kd.zr | apply Kd.zy)); exact HO159.out⟩, ⟨by (with_reducible repeat (first | refine ze ?_ _ | refine zg ?_ | refine zd ?_ _)); exact BK153.out⟩, ⟨by (with_reducible repeat (first | refine ze ?_ _ | refine zg ?_ | refine zd ?_ _)); exact BK154.out⟩, ⟨by (with_reducible repeat (first | refine ze ?_ _ | refine zg ?_ | refine zd ?_ _)); exact BK155.out⟩, ⟨by repeat (first | (with_reducible first | exact HB.out | apply zb | apply za | apply zc | refine zf ?_ GE153.out | refine zf ?_ GE154.out | refine zf ?_ GE155.out) | exact HB.out)⟩⟩
    ·rw [if_neg c17] at H
     have c17b0 : decide ((l0_0.length : Int) ≤ a1) = false := decide_eq_false c17
     clear c17
     by_cases c18 : 0 ≤ a1
     ·rw [if_pos c18] at H
      have c18b0 : decide (0 ≤ a1) = true := decide_eq_true c18
      clear c18
      by_cases c19 : a1 < (t157.length : Int)
      ·rw [if_pos c19] at H
       have c19b0 : decide (a1 < (t157.length : Int)) = true := decide_eq_true c19
       clear c19
       have H' := am_ H
       clear H
       obtain ⟨Ao20, co20, eo20⟩ := Kd.z4 HO159.out
       subst eo20
       have p160 : 0 ≤ (a1 : Int) := of_decide_eq_true (by first | (with_reducible assumption) | assumption)
       have q160 : a1 < (t157.length : Int) := of_decide_eq_true (by first | (with_reducible assumption) | assumption)
       obtain ⟨ad160, e160, hx160_0, hx160_1⟩ := at_T90 (Kd.zQ HO159.out).2.2 a1 p160 q160
       cases e160
       replace p160 := eq_true p160
       replace q160 := eq_true q160
       go_wp2
       go_meet
       case rel => exact ⟨_, ((((zl t157 a1).f0) == 8)), (by first | rfl | (simp; done) | (simp [*]; done)), H', ⟨by first | omega | exact Nat.le_refl _⟩, ⟨by (with_reducible repeat (first | apply Kd.zq | apply Kd.zr | apply Kd.zy)); exact HO159.out⟩, ⟨by (with_reducible repeat (first | refine ze ?_ _ | refine zg ?_ | refine zd ?_ _)); exact BK153.out⟩, ⟨by (with_reducible repeat (first | refine ze ?_ _ | refine zg ?_ | refine zd ?_ _)); exact BK154.out⟩, ⟨by (with_reducible repeat (first | refine ze ?_ _ | refine zg ?_ | refine zd ?_ _)); exact BK155.out⟩, ⟨by repeat (first | (with_reducible first | exact HB.out | apply zb | apply za | apply zc | refine zf ?_ GE153.out | refine zf ?_ GE154.out | refine zf ?_ GE155.out) | exact HB.out)⟩⟩
      ·rw [if_neg c19] at H
       exact absurd H (by simp)
     ·rw [if_neg c18] at H
      exact absurd H (by simp)
  case rest =>
   clear HC6
   try clear c1
   try clear p1
   try clear q1
   try clear hx1
   try clear p2
   try clear c3
   try clear c4
   try clear c4b0
   try clear c4b1
   try clear c10
   try clear c11
   try clear c15
   try clear c16
   try clear c16b0
   try clear p16
   try clear q16
   try clear hx16
   try clear c17
   try clear c17b0
   try clear c18
   try clear c18b0
   try clear c19
   try clear c19b0
   try clear hcz12_0
   try clear hcz12_1
   try clear hcz14_0
   try clear hcz14_1
   try clear hfz12_0
   try clear hfz12_1
   try clear hfz14_0
   try clear hfz14_1
   try clear hx160_0
   try clear hx160_1
   try clear p160
   try clear q160
   obtain ⟨kq, x37_5, rfl, HA, HJ5, HO_8, BK153, BK154, BK155, HB⟩ := hcut
   cases kq with
   | zero => exact absurd HA.out (by simp [zJ.j0])
   | succ kj5 =>
    have H := HA.out
    clear HA
    simp only [zJ.j0] at H
    by_cases c21 : x37_5 = true
    ·subst c21
     have H1 : (some (([] : List Int), ([] : List Int), ([] : List Int), ([] : List Int), 1)) = some (r1, r2, r3, r4, r5) := by rw [if_pos rfl] at H; exact H
     clear H
     have H := H1
     clear H1
     simp only [Option.some.injEq, Prod.mk.injEq] at H
     obtain ⟨rfl, rfl, rfl, rfl, rfl⟩ := H
     have hnb22 := NB154_153.out
     have hnc22 := NB153_154.out
     have hnb23 := NB154_155.out
     have hnc23 := NB155_154.out
     have hcz24_0 : wc.cell? ⟨gb154, 0, none⟩ = some (.slice none 0 0) := (zi BK154.out 0).trans rfl
     have hcz24_1 : wc.cell? ⟨gb154, 1, none⟩ = some (.slice none 0 0) := (zi BK154.out 1).trans rfl
     have hfz24_0 := zh BK154.out 0
     have hfz24_1 := zh BK154.out 1
     have hnb25 := NB155_153.out
     have hnc25 := NB153_155.out
     have hcz26_0 : wc.cell? ⟨gb155, 0, none⟩ = some (.slice none 0 0) := (zi BK155.out 0).trans rfl
     have hcz26_1 : wc.cell? ⟨gb155, 1, none⟩ = some (.slice none 0 0) := (zi BK155.out 1).trans rfl
     have hfz26_0 := zh BK155.out 0
     have hfz26_1 := zh BK155.out 1
     go_wp2
     refine bodyPost_ret (results_list (rs := [.cell 4 24, .cell 5 24, .tmp 6]) rfl (by simp) (.cell gb154 24 #[.slice none 0 0, .slice none 0 0] (0, 0) _ rfl (by (with_reducible repeat (first | refine ze ?_ _ | refine zg ?_ | refine zd ?_ _)); refine zI ?_ NB154_155.out _; (with_reducible repeat (first | refine ze ?_ _ | refine zg ?_ | refine zd ?_ _)); refine zI ?_ NB154_155.out _; (with_reducible repeat (first | refine ze ?_ _ | refine zg ?_ | refine zd ?_ _)); refine zN (cs := #[.slice none 0 0, .slice none 0 0]) ?_ 1 _ rfl; (with_reducible repeat (first | refine ze ?_ _ | refine zg ?_ | refine zd ?_ _)); refine zN (cs := #[.slice none 0 0, .slice none 0 0]) ?_ 0 _ rfl; (with_reducible repeat (first | refine ze ?_ _ | refine zg ?_ | refine zd ?_ _)); exact BK154.out) Try.underlying24 rfl (by kernel_rfl) (.cell gb155 24 #[.slice none 0 0, .slice none 0 0] (0, 0) _ rfl (by (with_reducible repeat (first | refine ze ?_ _ | refine zg ?_ | refine zd ?_ _)); refine zN (cs := #[.slice none 0 0, .slice none 0 0]) ?_ 1 _ rfl; (with_reducible repeat (first | refine ze ?_ _ | refine zg ?_ | refine zd ?_ _)); refine zN (cs := #[.slice none 0 0, .slice none 0 0]) ?_ 0 _ rfl; (with_reducible repeat (first | refine ze ?_ _ | refine zg ?_ | refine zd ?_ _)); refine zI ?_ NB155_154.out _; (with_reducible repeat (first | refine ze ?_ _ | refine zg ?_ | refine zd ?_ _)); refine zI ?_ NB155_154.out _; (with_reducible repeat (first | refine ze ?_ _ | refine zg ?_ | refine zd ?_ _)); exact BK155.out) Try.underlying24 rfl (by kernel_rfl) (.tmp .nil)))) rfl ?_
     exact ⟨_, _, _, _, by first | rfl | (simp [zz, zA] <;> rfl) | (simp [*, zz, zA] <;> rfl), by first | exact Kd.R_nil _ _ _ _ _ | exact Kd.N_nil _ _ _ _ _ | exact Kd.V_nil _ _ _ _ _ | exact Kd.Q_nil _ _ _ _ _ | exact Kd.S_nil _ _ _ _ _, by first | exact Kd.R_nil _ _ _ _ _ | exact Kd.N_nil _ _ _ _ _ | exact Kd.V_nil _ _ _ _ _ | exact Kd.Q_nil _ _ _ _ _ | exact Kd.S_nil _ _ _ _ _, by first | exact Kd.R_nil _ _ _ _ _ | exact Kd.N_nil _ _ _ _ _ | exact Kd.V_nil _ _ _ _ _ | exact Kd.Q_nil _ _ _ _ _ | exact Kd.S_nil _ _ _ _ _, by first | exact Kd.R_nil _ _ _ _ _ | exact Kd.N_nil _ _ _ _ _ | exact Kd.V_nil _ _ _ _ _ | exact Kd.Q_nil _ _ _ _ _ | exact Kd.S_nil _ _ _ _ _, by repeat (first | (with_reducible first | exact HB.out | apply zb | apply za | apply zc | refine zf ?_ GE153.out | refine zf ?_ GE154.out | refine zf ?_ GE155.out) | exact HB.out)⟩
    ·replace c21 := Bool.eq_false_iff.mpr c21
     subst c21
     have H1 : (if 0 ≤ a1 then (if a1 < (t157.length : Int) then ((some (t157.set (a1 : Int).toNat (⟨wrap64 (((zl t157 a1).f0) + 1), wrap64 (2 * ((zl t157 a1).f1))⟩ : S90) : List (S90))).bind fun y163 => ((zo.f kj5 y163).bind fun bt164 => ((some (y163.set (a1 : Int).toNat (⟨(zl y163 a1).f0, wrap64 (((zl y163 a1).f1) + 1)⟩ : S90) : List (S90))).bind fun y172 => ((zo.f kj5 y172).bind fun bt173 => (if (((zl y172 a1).f0) == ((zl t157 a1).f0) && (((zl y172 a1).f1) == ((zl t157 a1).f1))) = true then (none) else (some (bt164.1, bt164.2, bt173.1, bt173.2, 0))))))) else (none)) else (none)) = some (r1, r2, r3, r4, r5) := by rw [if_neg (show ¬ (false = true) by decide)] at H; exact H
     clear H
     have H := H1
     clear H1
     by_cases c27 : 0 ≤ a1
     ·rw [if_pos c27] at H
      have c27b0 : decide (0 ≤ a1) = true := decide_eq_true c27
      clear c27
      by_cases c28 : a1 < (t157.length : Int)
      ·rw [if_pos c28] at H
       have c28b0 : decide (a1 < (t157.length : Int)) = true := decide_eq_true c28
       clear c28
       obtain ⟨y163, hy163⟩ : ∃ y_ : List (S90), y_ = (t157.set (a1 : Int).toNat (⟨wrap64 (((zl t157 a1).f0) + 1), wrap64 (2 * ((zl t157 a1).f1))⟩ : S90)) := ⟨_, rfl⟩
       replace H : ((zo.f kj5 y163).bind fun bt164 => ((some (y163.set (a1 : Int).toNat (⟨(zl y163 a1).f0, wrap64 (((zl y163 a1).f1) + 1)⟩ : S90) : List (S90))).bind fun y172 => ((zo.f kj5 y172).bind fun bt173 => (if (((zl y172 a1).f0) == ((zl t157 a1).f0) && (((zl y172 a1).f1) == ((zl t157 a1).f1))) = true then (none) else (some (bt164.1, bt164.2, bt173.1, bt173.2, 0)))))) = some (r1, r2, r3, r4, r5) := by first | (rw [hy163]; with_reducible exact H) | (have H2_ := (Option.bind_some _ _).symm.trans H; rw [hy163]; with_reducible exact H2_) | (have H2_ := (Option.bind_some _ _).symm.trans H; with_reducible exact H2_) | with_reducible exact H | (rw [hy163]; exact H) | exact H
       have Ny163 := am_ hy163
       clear hy163
       replace H := Option.bind_eq_some_iff.mp H
       obtain ⟨⟨t164, t167⟩, A300, H⟩ := H
       replace H : ((some (y163.set (a1 : Int).toNat (⟨(zl y163 a1).f0, wrap64 (((zl y163 a1).f1) + 1)⟩ : S90) : List (S90))).bind fun y172 => ((zo.f kj5 y172).bind fun bt173 => (if (((zl y172 a1).f0) == ((zl t157 a1).f0) && (((zl y172 a1).f1) == ((zl t157 a1).f1))) = true then (none) else (some (t164, t167, bt173.1, bt173.2, 0))))) = some (r1, r2, r3, r4, r5) := H
       have A30 := am_ A300
       clear A300
       obtain ⟨y172, hy172⟩ : ∃ y_ : List (S90), y_ = (y163.set (a1 : Int).toNat (⟨(zl y163 a1).f0, wrap64 (((zl y163 a1).f1) + 1)⟩ : S90)) := ⟨_, rfl⟩
       replace H : ((zo.f kj5 y172).bind fun bt173 => (if (((zl y172 a1).f0) == ((zl t157 a1).f0) && (((zl y172 a1).f1) == ((zl t157 a1).f1))) = true then (none) else (some (t164, t167, bt173.1, bt173.2, 0)))) = some (r1, r2, r3, r4, r5) := by first | (rw [hy172]; with_reducible exact H) | (have H2_ := (Option.bind_some _ _).symm.trans H; rw [hy172]; with_reducible exact H2_) | (have H2_ := (Option.bind_some _ _).symm.trans H; with_reducible exact H2_) | with_reducible exact H | (rw [hy172]; exact H) | exact H
       have Ny172 := am_ hy172
       clear hy172
       replace H := Option.bind_eq_some_iff.mp H
       obtain ⟨⟨t173, t176⟩, A320, H⟩ := H
       replace H : (if (((zl y172 a1).f0) == ((zl t157 a1).f0) && (((zl y172 a1).f1) == ((zl t157 a1).f1))) = true then (none) else (some (t164, t167, t173, t176, 0))) = some (r1, r2, r3, r4, r5) := H
       have A32 := am_ A320
       clear A320
       by_cases c33 : (((zl y172 a1).f0) == ((zl t157 a1).f0) && (((zl y172 a1).f1) == ((zl t157 a1).f1))) = true
       ·rw [if_pos c33] at H
        exact absurd H (by simp)
       ·rw [if_neg c33] at H
        have c33b0 : (((zl y172 a1).f0) == ((zl t157 a1).f0) && (((zl y172 a1).f1) == ((zl t157 a1).f1))) = false := by simpa using c33
        (try (have c33b1 : decide (((zl y172 a1).f0) = ((zl t157 a1).f0) && (((zl y172 a1).f1) == ((zl t157 a1).f1))) = false := by simpa using c33))
        (try (have c33b2 : (((zl y172 a1).f0) == ((zl t157 a1).f0) && (((zl y172 a1).f1) == ((zl t157 a1).f1))) = false := by simpa using c33))
        (try (have c33b3 : ¬ (((zl y172 a1).f0) = ((zl t157 a1).f0) && (((zl y172 a1).f1) == ((zl t157 a1).f1))) := by simpa using c33))
        clear c33
        simp only [Option.some.injEq, Prod.mk.injEq] at H
        obtain ⟨rfl, rfl, rfl, rfl, rfl⟩ := H
        obtain ⟨Ao34, co34, eo34⟩ := Kd.z4 HO_8.out
        subst eo34
        have p161 : 0 ≤ (a1 : Int) := of_decide_eq_true (by first | (with_reducible assumption) | assumption)
        have q161 : a1 < (t157.length : Int) := of_decide_eq_true (by first | (with_reducible assumption) | assumption)
        obtain ⟨ad161, e161, hx161_0, hx161_1⟩ := at_T90 (Kd.zQ HO_8.out).2.2 a1 p161 q161
        cases e161
        replace p161 := eq_true p161
        replace q161 := eq_true q161
        try go_wp2_with (first | ((with_reducible refine zp (N := 9) rfl ?_); refine zw ?hg (N := 9) ?hd (cs := #[.int .i64 0, .int .i64 0]) (t := 90) ?hr ?_; (case hd => rfl); (case hg => rfl); (case hr => first | (go_simp; done) | (go_simp; rfl)); intro gb162 hg w35 hbox hb; have n0_ := am_ (Kd.z6 (Kd.R_elderB (by (with_reducible repeat (first | apply Kd.zq | apply Kd.zr | apply Kd.zy)); exact HO_8.out) gb162 (Nat.le_of_eq hg.symm)) hb); have n1_ := am_ (zm (g := gb153) (o := .cells #[.slice A0_0 l0_0.length c0_0, .slice A0_1 l0_1.length c0_1] 24 (0, 0)) (by (with_reducible repeat (first | refine ze ?_ _ | refine zg ?_ | refine zd ?_ _)); exact BK153.out) hb); have n2_ := am_ (zm (g := gb154) (o := .cells #[.slice none 0 0, .slice none 0 0] 24 (0, 0)) (by (with_reducible repeat (first | refine ze ?_ _ | refine zg ?_ | refine zd ?_ _)); exact BK154.out) hb); have n3_ := am_ (zm (g := gb155) (o := .cells #[.slice none 0 0, .slice none 0 0] 24 (0, 0)) (by (with_reducible repeat (first | refine ze ?_ _ | refine zg ?_ | refine zd ?_ _)); exact BK155.out) hb); have n4_ := am_ (zj (by repeat (first | (with_reducible first | exact HB.out | apply zb | apply za | apply zc | refine zf ?_ GE153.out | refine zf ?_ GE154.out | refine zf ?_ GE155.out) | exact HB.out)) hb); have n5_ := am_ (hbox); have n6_ := am_ ((by rw [hg]; exact (zk (by repeat (first | (with_reducible first | exact HB.out | apply zb | apply za | apply zc | refine zf ?_ GE153.out | refine zf ?_ GE154.out | refine zf ?_ GE155.out) | exact HB.out))) : w.heap.size ≤ gb162)); have n7_ := am_ ((by rw [hg]; exact (zk (by repeat (first | (with_reducible first | exact HB.out | apply zb | apply za | apply zc | refine zf ?_ GE153.out | refine zf ?_ GE154.out | refine zf ?_ GE155.out) | exact HB.out))) : w.heap.size ≤ gb162)); have n8_ := am_ ((by rw [hg]; exact Nat.ne_of_lt (zE (g := gb153) (o := .cells #[.slice A0_0 l0_0.length c0_0, .slice A0_1 l0_1.length c0_1] 24 (0, 0)) (by (with_reducible repeat (first | refine ze ?_ _ | refine zg ?_ | refine zd ?_ _)); exact BK153.out)) : gb153 ≠ gb162)); have n9_ := am_ ((by rw [hg]; exact Nat.ne_of_gt (zE (g := gb153) (o := .cells #[.slice A0_0 l0_0.length c0_0, .slice A0_1 l0_1.length c0_1] 24 (0, 0)) (by (with_reducible repeat (first | refine ze ?_ _ | refine zg ?_ | refine zd ?_ _)); exact BK153.out)) : gb162 ≠ gb153)); have n10_ := am_ ((by rw [hg]; exact Nat.ne_of_lt (zE (g := gb154) (o := .cells #[.slice none 0 0, .slice none 0 0] 24 (0, 0)) (by (with_reducible repeat (first | refine ze ?_ _ | refine zg ?_ | refine zd ?_ _)); exact BK154.out)) : gb154 ≠ gb162)); have n11_ := am_ ((by rw [hg]; exact Nat.ne_of_gt (zE (g := gb154) (o := .cells #[.slice none 0 0, .slice none 0 0] 24 (0, 0)) (by (with_reducible repeat (first | refine ze ?_ _ | refine zg ?_ | refine zd ?_ _)); exact BK154.out)) : gb162 ≠ gb154)); have n12_ := am_ ((by rw [hg]; exact Nat.ne_of_lt (zE (g := gb155) (o := .cells #[.slice none 0 0, .slice none 0 0] 24 (0, 0)) (by (with_reducible repeat (first | refine ze ?_ _ | refine zg ?_ | refine zd ?_ _)); exact BK155.out)) : gb155 ≠ gb162)); have n13_ := am_ ((by rw [hg]; exact Nat.ne_of_gt (zE (g := gb155) (o := .cells #[.slice none 0 0, .slice none 0 0] 24 (0, 0)) (by (with_reducible repeat (first | refine ze ?_ _ | refine zg ?_ | refine zd ?_ _)); exact BK155.out)) : gb162 ≠ gb155)); clear HO_8; clear BK153; clear BK154; clear BK155; clear HB; have HO_8 := n0_; have BK153 := n1_; have BK154 := n2_; have BK155 := n3_; have HB := n4_; have BK162 := n5_; have GW162 := n6_; have GE162 := n7_; have NB153_162 := n8_; have NB162_153 := n9_; have NB154_162 := n10_; have NB162_154 := n11_; have NB155_162 := n12_; have NB162_155 := n13_; clear n0_ n1_ n2_ n3_ n4_ n5_ n6_ n7_ n8_ n9_ n10_ n11_ n12_ n13_; clear hb hbox hg; have hnb36 := NB162_153.out; have hnc36 := NB153_162.out; have hnb37 := NB162_154.out; have hnc37 := NB154_162.out; have hnb38 := NB162_155.out; have hnc38 := NB155_162.out; have hcz39_0 : w35.cell? ⟨gb162, 0, none⟩ = some (.int .i64 0) := (zi BK162.out 0).trans rfl; have hcz39_1 : w35.cell? ⟨gb162, 1, none⟩ = some (.int .i64 0) := (zi BK162.out 1).trans rfl; have hfz39_0 := zh BK162.out 0; have hfz39_1 := zh BK162.out 1) | ((with_reducible refine zK (t := 90) (p := 9) rfl ?_); refine store_event (t := 90) (p := 9) (v := ?vo_w40) (w1 := ((w35.setCell ⟨gb162, 0, none⟩ (.int .i64 ((zl t157 a1).f0))).setCell ⟨gb162, 1, none⟩ (.int .i64 ((zl t157 a1).f1)))) ?hg ?ho ?hn ?hr ?_; (case ho => rfl); (case hg => rfl); (case hn => rfl); (case hr => first | (go_simp; done) | (go_simp; rfl)); intro w40 hw; have n0_ : Aside0 (Kd.R k90 90 w40 w.heap.size (fun k_ => k_ ≠ gb162) (.slice (some ad161) t157.length co34) t157) := ⟨(by rw [hw]; exact (by (with_reducible repeat (first | apply Kd.zq | apply Kd.zr | apply Kd.zy)); exact Kd.zL (Kd.zS (p := ⟨gb162, 1, none⟩) (Kd.zS (p := ⟨gb162, 0, none⟩) (Kd.zL HO_8.out (fun k_ hk => (⟨hk, hk.2⟩ : _ ∧ k_ ≠ gb162))) (fun _ hk => hk.2) (.int .i64 ((zl t157 a1).f0))) (fun _ hk => hk.2) (.int .i64 ((zl t157 a1).f1))) (fun _ hk => hk.1.2)))⟩; have n1_ : Aside0 (w40.heap[gb153]? = some (.cells #[.slice A0_0 l0_0.length c0_0, .slice A0_1 l0_1.length c0_1] 24 (0, 0))) := ⟨(by rw [hw]; exact (by (with_reducible repeat (first | refine ze ?_ _ | refine zg ?_ | refine zd ?_ _)); refine zI ?_ NB153_162.out _; (with_reducible repeat (first | refine ze ?_ _ | refine zg ?_ | refine zd ?_ _)); refine zI ?_ NB153_162.out _; (with_reducible repeat (first | refine ze ?_ _ | refine zg ?_ | refine zd ?_ _)); exact BK153.out))⟩; have n2_ : Aside0 (w40.heap[gb154]? = some (.cells #[.slice none 0 0, .slice none 0 0] 24 (0, 0))) := ⟨(by rw [hw]; exact (by (with_reducible repeat (first | refine ze ?_ _ | refine zg ?_ | refine zd ?_ _)); refine zI ?_ NB154_162.out _; (with_reducible repeat (first | refine ze ?_ _ | refine zg ?_ | refine zd ?_ _)); refine zI ?_ NB154_162.out _; (with_reducible repeat (first | refine ze ?_ _ | refine zg ?_ | refine zd ?_ _)); exact BK154.out))⟩; have n3_ : Aside0 (w40.heap[gb155]? = some (.cells #[.slice none 0 0, .slice none 0 0] 24 (0, 0))) := ⟨(by rw [hw]; exact (by (with_reducible repeat (first | refine ze ?_ _ | refine zg ?_ | refine zd ?_ _)); refine zI ?_ NB155_162.out _; (with_reducible repeat (first | refine ze ?_ _ | refine zg ?_ | refine zd ?_ _)); refine zI ?_ NB155_162.out _; (with_reducible repeat (first | refine ze ?_ _ | refine zg ?_ | refine zd ?_ _)); exact BK155.out))⟩; have n4_ : Aside0 (w40.heap[gb162]? = some (.cells #[.int .i64 ((zl t157 a1).f0), .int .i64 ((zl t157 a1).f1)] 90 (0, 0))) := ⟨(by rw [hw]; exact (by (with_reducible repeat (first | refine ze ?_ _ | refine zg ?_ | refine zd ?_ _)); refine zN (cs := #[.int .i64 ((zl t157 a1).f0), .int .i64 0]) ?_ 1 _ rfl; (with_reducible repeat (first | refine ze ?_ _ | refine zg ?_ | refine zd ?_ _)); refine zN (cs := #[.int .i64 0, .int .i64 0]) ?_ 0 _ rfl; (with_reducible repeat (first | refine ze ?_ _ | refine zg ?_ | refine zd ?_ _)); exact BK162.out))⟩; have n5_ : Aside0 (Below w.heap.size w w40) := ⟨(by rw [hw]; exact (by repeat (first | (with_reducible first | exact HB.out | apply zb | apply za | apply zc | refine zf ?_ GE153.out | refine zf ?_ GE154.out | refine zf ?_ GE155.out | refine zf ?_ GE162.out) | exact HB.out)))⟩; clear hw; clear HO_8; clear BK153; clear BK154; clear BK155; clear BK162; clear HB; have HO_8 := n0_; have BK153 := n1_; have BK154 := n2_; have BK155 := n3_; have BK162 := n4_; have HB := n5_; clear n0_ n1_ n2_ n3_ n4_ n5_; have hcz41_0 : w40.cell? ⟨gb162, 0, none⟩ = some (.int .i64 ((zl t157 a1).f0)) := (zi BK162.out 0).trans rfl; have hcz41_1 : w40.cell? ⟨gb162, 1, none⟩ = some (.int .i64 ((zl t157 a1).f1)) := (zi BK162.out 1).trans rfl; have hfz41_0 := zh BK162.out 0; have hfz41_1 := zh BK162.out 1; have p29 : 0 ≤ (a1 : Int) := of_decide_eq_true (by first | (with_reducible assumption) | assumption); have q29 : (a1 : Int) < ((t157.length : Int) : Int) := of_decide_eq_true (by first | (with_reducible assumption) | assumption); obtain ⟨go29, co29, eo29, gb29, gl29, cl29, HG29⟩ := Kd.R_form HO_8.out (by omega); (first | cases eo29 | (injection eo29 with ea_ en_ ec_; (first | subst ea_ | (injection ea_ with ea_; subst ea_)); subst ec_; clear en_)); have GB29 := am_ gb29; have GG29 := am_ HG29; clear gb29 gl29 HG29; (first | simp only [add_plain] at hx161_0 | skip); (first | simp only [add_plain] at hx161_1 | skip); obtain ⟨ce29, hcl29, hM29, hcc29, hfr29⟩ := Kd.R_elem HO_8.out z90 (a1 : Int) p29 q29; obtain rfl := k90_openM hM29; have hx29_0 : w40.cell? ⟨go29, (a1 : Int).toNat * 2, none⟩ = some (.int .i64 ((zl t157 a1).f0)) := hcc29 0 _ rfl; have hx29_1 : w40.cell? ⟨go29, (a1 : Int).toNat * 2 + 1, none⟩ = some (.int .i64 ((zl t157 a1).f1)) := hcc29 1 _ rfl; have hf29_0 : w40.frozen? ⟨go29, (a1 : Int).toNat * 2, none⟩ = false := hfr29 0; have hf29_1 : w40.frozen? ⟨go29, (a1 : Int).toNat * 2 + 1, none⟩ = false := hfr29 1; clear hcl29 hcc29 hfr29 hM29; replace p29 := eq_true p29; replace q29 := eq_true q29; have HX42 := am_ (show Kd.R k90 90 w40 w.heap.size (fun k_ => k_ ≠ gb162) (.slice (some ⟨go29, 0, none⟩) t157.length co34) t157 from (by (with_reducible repeat (first | apply Kd.zq | apply Kd.zr | apply Kd.zy)); exact HO_8.out)); obtain ⟨ce42, hcl42, hM42, hcc42, hfr42⟩ := Kd.R_elem HX42.out z90 (a1 : Int) (of_decide_eq_true (by first | (with_reducible assumption) | assumption)) (by have h_ : (a1 : Int) < ((t157.length : Int) : Int) := of_decide_eq_true (by first | (with_reducible assumption) | assumption); first | exact h_ | (have e_ := (Kd.zQ HO_8.out).1; omega) | simpa using h_); obtain rfl := k90_openM hM42; have HP42 := Kd.R_seg HX42.out (a1 : Int) (of_decide_eq_true (by first | (with_reducible assumption) | assumption)) (by have h_ : (a1 : Int) < ((t157.length : Int) : Int) := of_decide_eq_true (by first | (with_reducible assumption) | assumption); first | exact h_ | (have e_ := (Kd.zQ HO_8.out).1; omega) | simpa using h_) (seg := [.int .i64 (wrap64 (((zl t157 a1).f0) + 1)), .int .i64 (wrap64 (2 * ((zl t157 a1).f1)))]) (j := 0) hcl42 hcc42 (show 2 ≤ 2 from by decide) (x' := (⟨wrap64 (((zl t157 a1).f0) + 1), wrap64 (2 * ((zl t157 a1).f1))⟩ : S90)) (k90_mkM _ _ _ (⟨wrap64 (((zl t157 a1).f0) + 1), wrap64 (2 * ((zl t157 a1).f1))⟩ : S90) ) (fun _ hk => hk); have hx42_0 := hcc42 0 _ rfl; (try simp only [show (k90).sz = 2 from rfl, Nat.mul_one, Nat.add_zero] at hx42_0); have hf42_0 := hfr42 0; (try simp only [show (k90).sz = 2 from rfl, Nat.mul_one, Nat.add_zero] at hf42_0); have hx42_1 := hcc42 1 _ rfl; (try simp only [show (k90).sz = 2 from rfl, Nat.mul_one, Nat.add_zero] at hx42_1); have hf42_1 := hfr42 1; (try simp only [show (k90).sz = 2 from rfl, Nat.mul_one, Nat.add_zero] at hf42_1); clear hcl42 hcc42 hfr42 hM42) | ((with_reducible refine zK (t := 90) (p := 53) rfl ?_); refine store_event (t := 90) (p := 53) (v := ?vo_w43) (w1 := ((w40.setCell ⟨go29, (a1 : Int).toNat * 2, none⟩ (.int .i64 (wrap64 (((zl t157 a1).f0) + 1)))).setCell ⟨go29, (a1 : Int).toNat * 2 + 1, none⟩ (.int .i64 (wrap64 (2 * ((zl t157 a1).f1)))))) ?hg ?ho ?hn ?hr ?_; (case ho => rfl); (case hg => rfl); (case hn => rfl); (case hr => first | (go_simp; done) | (go_simp; rfl)); intro w43 hw; have hg : w40.grownBy w43 (some go29) := (by rw [hw]; exact HP42.2); have hp_ : Kd.R k90 90 w43 w.heap.size (fun k_ => k_ ≠ gb162) (.slice (some ⟨go29, 0, none⟩) t157.length co34) y163 := (by rw [hw, Ny163.out]; exact HP42.1); clear HP42; have n0_ := am_ (hp_); have n1_ := am_ (zac (g := gb153) (o := .cells #[.slice A0_0 l0_0.length c0_0, .slice A0_1 l0_1.length c0_1] 24 (0, 0)) (by (with_reducible repeat (first | refine ze ?_ _ | refine zg ?_ | refine zd ?_ _)); exact BK153.out) hg (Kd.R_ne HO_8.out BK153.out (by decide))); have n2_ := am_ (zac (g := gb154) (o := .cells #[.slice none 0 0, .slice none 0 0] 24 (0, 0)) (by (with_reducible repeat (first | refine ze ?_ _ | refine zg ?_ | refine zd ?_ _)); exact BK154.out) hg (Kd.R_ne HO_8.out BK154.out (by decide))); have n3_ := am_ (zac (g := gb155) (o := .cells #[.slice none 0 0, .slice none 0 0] 24 (0, 0)) (by (with_reducible repeat (first | refine ze ?_ _ | refine zg ?_ | refine zd ?_ _)); exact BK155.out) hg (Kd.R_ne HO_8.out BK155.out (by decide))); have n4_ := am_ (zac (g := gb162) (o := .cells #[.int .i64 ((zl t157 a1).f0), .int .i64 ((zl t157 a1).f1)] 90 (0, 0)) (by (with_reducible repeat (first | refine ze ?_ _ | refine zg ?_ | refine zd ?_ _)); exact BK162.out) hg (Kd.R_away HO_8.out (fun _ hk => hk))); have n5_ := am_ ((by rw [hw]; exact zf (zf (HB.out) GB29.out) GB29.out : Below w.heap.size w w43)); clear HO_8; clear BK153; clear BK154; clear BK155; clear BK162; clear HB; have HO_8 := n0_; have BK153 := n1_; have BK154 := n2_; have BK155 := n3_; have BK162 := n4_; have HB := n5_; clear n0_ n1_ n2_ n3_ n4_ n5_; clear hg hw hp_) | ((with_reducible refine zR (f := 37) rfl ?_); refine goesL_ (some 55) rfl rfl Try.func37 (by kernel_rfl) rfl #[.slice (some ⟨go29, 0, none⟩) y163.length co34] rfl (by (try simp only [List.map_toArray, List.map_cons, List.map_nil]); first | done | (rw [show y163.length = t157.length from (Kd.zQ HO_8.out).1.symm] <;> rfl) | rfl | (simp only [List.length_drop, List.length_take]; rfl)) ?_; (with_reducible refine (zo.calls kj5 _ _ y163 t164 t167 _ ?side1 ?side2 A30.out).mono ?_); (case side1 => repeat (first | exact (Kd.zQ HO_8.out).2.2 | (with_reducible refine Kd.z3 ?_ _) | (with_reducible refine Kd.z2 ?_ _) | (with_reducible refine Kd.zae ?_))); (case side2 => rw [show y163.length = t157.length from (Kd.zQ HO_8.out).1.symm]; exact (Kd.zQ HO_8.out).2.1); rintro e w44 ⟨v165, v168, rfl, ho0, ho1, hb⟩; refine ⟨_, rfl, ?_⟩; have n0_ := am_ (Kd.z6 (by (with_reducible repeat (first | apply Kd.zq | apply Kd.zr | apply Kd.zy)); exact HO_8.out) hb); have n1_ := am_ (Kd.zal ho0 (zk (by repeat (first | (with_reducible first | exact HB.out | apply zb | apply za | apply zc | refine zf ?_ GE153.out | refine zf ?_ GE154.out | refine zf ?_ GE155.out | refine zf ?_ GE162.out) | exact HB.out)))); have n2_ := am_ (Kd.zal ho1 (zk (by repeat (first | (with_reducible first | exact HB.out | apply zb | apply za | apply zc | refine zf ?_ GE153.out | refine zf ?_ GE154.out | refine zf ?_ GE155.out | refine zf ?_ GE162.out) | exact HB.out)))); have n3_ := am_ (zm (g := gb153) (o := .cells #[.slice A0_0 l0_0.length c0_0, .slice A0_1 l0_1.length c0_1] 24 (0, 0)) (by (with_reducible repeat (first | refine ze ?_ _ | refine zg ?_ | refine zd ?_ _)); exact BK153.out) hb); have n4_ := am_ (zm (g := gb154) (o := .cells #[.slice none 0 0, .slice none 0 0] 24 (0, 0)) (by (with_reducible repeat (first | refine ze ?_ _ | refine zg ?_ | refine zd ?_ _)); exact BK154.out) hb); have n5_ := am_ (zm (g := gb155) (o := .cells #[.slice none 0 0, .slice none 0 0] 24 (0, 0)) (by (with_reducible repeat (first | refine ze ?_ _ | refine zg ?_ | refine zd ?_ _)); exact BK155.out) hb); have n6_ := am_ (zm (g := gb162) (o := .cells #[.int .i64 ((zl t157 a1).f0), .int .i64 ((zl t157 a1).f1)] 90 (0, 0)) (by (with_reducible repeat (first | refine ze ?_ _ | refine zg ?_ | refine zd ?_ _)); exact BK162.out) hb); have n7_ := am_ (zj (by repeat (first | (with_reducible first | exact HB.out | apply zb | apply za | apply zc | refine zf ?_ GE153.out | refine zf ?_ GE154.out | refine zf ?_ GE155.out | refine zf ?_ GE162.out) | exact HB.out)) hb); clear HO_8; clear BK153; clear BK154; clear BK155; clear BK162; clear HB; have HO_8 := n0_; have HO166 := n1_; have HO169 := n2_; have BK153 := n3_; have BK154 := n4_; have BK155 := n5_; have BK162 := n6_; have HB := n7_; clear n0_ n1_ n2_ n3_ n4_ n5_ n6_ n7_; (try clear hb); (try clear hb2); (try clear hk); (try clear hi); (try clear ho0); (try clear ho1)) | ((with_reducible refine zp (N := 10) rfl ?_); refine zw ?hg (N := 10) ?hd (cs := #[.slice none 0 0, .slice none 0 0]) (t := 24) ?hr ?_; (case hd => rfl); (case hg => rfl); (case hr => first | (go_simp; done) | (go_simp; rfl)); intro gb170 hg w45 hbox hb; have n0_ := am_ (Kd.z6 (by (with_reducible repeat (first | apply Kd.zq | apply Kd.zr | apply Kd.zy)); exact HO_8.out) hb); have n1_ := am_ (Kd.z6 (by (with_reducible repeat (first | apply Kd.zq | apply Kd.zr | apply Kd.zy)); exact HO166.out) hb); have n2_ := am_ (Kd.z6 (by (with_reducible repeat (first | apply Kd.zq | apply Kd.zr | apply Kd.zy)); exact HO169.out) hb); have n3_ := am_ (zm (g := gb153) (o := .cells #[.slice A0_0 l0_0.length c0_0, .slice A0_1 l0_1.length c0_1] 24 (0, 0)) (by (with_reducible repeat (first | refine ze ?_ _ | refine zg ?_ | refine zd ?_ _)); exact BK153.out) hb); have n4_ := am_ (zm (g := gb154) (o := .cells #[.slice none 0 0, .slice none 0 0] 24 (0, 0)) (by (with_reducible repeat (first | refine ze ?_ _ | refine zg ?_ | refine zd ?_ _)); exact BK154.out) hb); have n5_ := am_ (zm (g := gb155) (o := .cells #[.slice none 0 0, .slice none 0 0] 24 (0, 0)) (by (with_reducible repeat (first | refine ze ?_ _ | refine zg ?_ | refine zd ?_ _)); exact BK155.out) hb); have n6_ := am_ (zm (g := gb162) (o := .cells #[.int .i64 ((zl t157 a1).f0), .int .i64 ((zl t157 a1).f1)] 90 (0, 0)) (by (with_reducible repeat (first | refine ze ?_ _ | refine zg ?_ | refine zd ?_ _)); exact BK162.out) hb); have n7_ := am_ (zj (by repeat (first | (with_reducible first | exact HB.out | apply zb | apply za | apply zc | refine zf ?_ GE153.out | refine zf ?_ GE154.out | refine zf ?_ GE155.out | refine zf ?_ GE162.out) | exact HB.out)) hb); have n8_ := am_ (hbox); have n9_ := am_ ((by rw [hg]; exact (zk (by repeat (first | (with_reducible first | exact HB.out | apply zb | apply za | apply zc | refine zf ?_ GE153.out | refine zf ?_ GE154.out | refine zf ?_ GE155.out | refine zf ?_ GE162.out) | exact HB.out))) : w.heap.size ≤ gb170)); have n10_ := am_ ((by rw [hg]; exact (zk (by repeat (first | (with_reducible first | exact HB.out | apply zb | apply za | apply zc | refine zf ?_ GE153.out | refine zf ?_ GE154.out | refine zf ?_ GE155.out | refine zf ?_ GE162.out) | exact HB.out))) : w.heap.size ≤ gb170)); have n11_ := am_ ((by rw [hg]; exact Nat.ne_of_lt (zE (g := gb153) (o := .cells #[.slice A0_0 l0_0.length c0_0, .slice A0_1 l0_1.length c0_1] 24 (0, 0)) (by (with_reducible repeat (first | refine ze ?_ _ | refine zg ?_ | refine zd ?_ _)); exact BK153.out)) : gb153 ≠ gb170)); have n12_ := am_ ((by rw [hg]; exact Nat.ne_of_gt (zE (g := gb153) (o := .cells #[.slice A0_0 l0_0.length c0_0, .slice A0_1 l0_1.length c0_1] 24 (0, 0)) (by (with_reducible repeat (first | refine ze ?_ _ | refine zg ?_ | refine zd ?_ _)); exact BK153.out)) : gb170 ≠ gb153)); have n13_ := am_ ((by rw [hg]; exact Nat.ne_of_lt (zE (g := gb154) (o := .cells #[.slice none 0 0, .slice none 0 0] 24 (0, 0)) (by (with_reducible repeat (first | refine ze ?_ _ | refine zg ?_ | refine zd ?_ _)); exact BK154.out)) : gb154 ≠ gb170)); have n14_ := am_ ((by rw [hg]; exact Nat.ne_of_gt (zE (g := gb154) (o := .cells #[.slice none 0 0, .slice none 0 0] 24 (0, 0)) (by (with_reducible repeat (first | refine ze ?_ _ | refine zg ?_ | refine zd ?_ _)); exact BK154.out)) : gb170 ≠ gb154)); have n15_ := am_ ((by rw [hg]; exact Nat.ne_of_lt (zE (g := gb155) (o := .cells #[.slice none 0 0, .slice none 0 0] 24 (0, 0)) (by (with_reducible repeat (first | refine ze ?_ _ | refine zg ?_ | refine zd ?_ _)); exact BK155.out)) : gb155 ≠ gb170)); have n16_ := am_ ((by rw [hg]; exact Nat.ne_of_gt (zE (g := gb155) (o := .cells #[.slice none 0 0, .slice none 0 0] 24 (0, 0)) (by (with_reducible repeat (first | refine ze ?_ _ | refine zg ?_ | refine zd ?_ _)); exact BK155.out)) : gb170 ≠ gb155)); have n17_ := am_ ((by rw [hg]; exact Nat.ne_of_lt (zE (g := gb162) (o := .cells #[.int .i64 ((zl t157 a1).f0), .int .i64 ((zl t157 a1).f1)] 90 (0, 0)) (by (with_reducible repeat (first | refine ze ?_ _ | refine zg ?_ | refine zd ?_ _)); exact BK162.out)) : gb162 ≠ gb170)); have n18_ := am_ ((by rw [hg]; exact Nat.ne_of_gt (zE (g := gb162) (o := .cells #[.int .i64 ((zl t157 a1).f0), .int .i64 ((zl t157 a1).f1)] 90 (0, 0)) (by (with_reducible repeat (first | refine ze ?_ _ | refine zg ?_ | refine zd ?_ _)); exact BK162.out)) : gb170 ≠ gb162)); clear HO_8; clear HO166; clear HO169; clear BK153; clear BK154; clear BK155; clear BK162; clear HB; have HO_8 := n0_; have HO166 := n1_; have HO169 := n2_; have BK153 := n3_; have BK154 := n4_; have BK155 := n5_; have BK162 := n6_; have HB := n7_; have BK170 := n8_; have GW170 := n9_; have GE170 := n10_; have NB153_170 := n11_; have NB170_153 := n12_; have NB154_170 := n13_; have NB170_154 := n14_; have NB155_170 := n15_; have NB170_155 := n16_; have NB162_170 := n17_; have NB170_162 := n18_; clear n0_ n1_ n2_ n3_ n4_ n5_ n6_ n7_ n8_ n9_ n10_ n11_ n12_ n13_ n14_ n15_ n16_ n17_ n18_; clear hb hbox hg; obtain ⟨Ao46, co46, eo46⟩ := Kd.z4 HO166.out; subst eo46; have hnb47 := NB170_153.out; have hnc47 := NB153_170.out; have hnb48 := NB170_154.out; have hnc48 := NB154_170.out; have hnb49 := NB170_155.out; have hnc49 := NB155_170.out; have hnb50 := NB170_162.out; have hnc50 := NB162_170.out; have hcz51_0 : w45.cell? ⟨gb170, 0, none⟩ = some (.slice none 0 0) := (zi BK170.out 0).trans rfl; have hcz51_1 : w45.cell? ⟨gb170, 1, none⟩ = some (.slice none 0 0) := (zi BK170.out 1).trans rfl; have hfz51_0 := zh BK170.out 0; have hfz51_1 := zh BK170.out 1; obtain ⟨Ao52, co52, eo52⟩ := Kd.z4 HO169.out; subst eo52) | ((with_reducible refine zK (t := 24) (p := 10) rfl ?_); refine store_event (t := 24) (p := 10) (v := ?vo_w53) (w1 := ((w45.setCell ⟨gb170, 0, none⟩ (.slice Ao46 t164.length co46)).setCell ⟨gb170, 1, none⟩ (.slice Ao52 t167.length co52))) ?hg ?ho ?hn ?hr ?_; (case ho => rfl); (case hg => rfl); (case hn => rfl); (case hr => first | (go_simp; done) | (go_simp; rfl)); intro w53 hw; have n0_ : Aside0 (Kd.R k90 90 w53 w.heap.size (fun k_ => k_ ≠ gb162) (.slice (some ⟨go29, 0, none⟩) t157.length co34) y163) := ⟨(by rw [hw]; exact (by (with_reducible repeat (first | apply Kd.zq | apply Kd.zr | apply Kd.zy)); exact Kd.zL (Kd.zS (p := ⟨gb170, 1, none⟩) (Kd.zS (p := ⟨gb170, 0, none⟩) (Kd.zZ HO_8.out BK170.out (by decide)) (fun _ hk => hk.2) (.slice Ao46 t164.length co46)) (fun _ hk => hk.2) (.slice Ao52 t167.length co52)) (fun _ hk => hk.1)))⟩; have n1_ : Aside0 (Kd.R (Kd.int .i64) 3 w53 w.heap.size (fun k_ => some k_ ≠ (.slice Ao52 t167.length co52 : Value).ownBlock) (.slice Ao46 t164.length co46) t164) := ⟨(by rw [hw]; exact (by (with_reducible repeat (first | apply Kd.zq | apply Kd.zr | apply Kd.zy)); exact Kd.zL (Kd.zS (p := ⟨gb170, 1, none⟩) (Kd.zS (p := ⟨gb170, 0, none⟩) (Kd.zZ HO166.out BK170.out (by decide)) (fun _ hk => hk.2) (.slice Ao46 t164.length co46)) (fun _ hk => hk.2) (.slice Ao52 t167.length co52)) (fun _ hk => hk.1)))⟩; have n2_ : Aside0 (Kd.R (Kd.int .i64) 3 w53 w.heap.size (fun k_ => some k_ ≠ (.slice Ao46 t164.length co46 : Value).ownBlock) (.slice Ao52 t167.length co52) t167) := ⟨(by rw [hw]; exact (by (with_reducible repeat (first | apply Kd.zq | apply Kd.zr | apply Kd.zy)); exact Kd.zL (Kd.zS (p := ⟨gb170, 1, none⟩) (Kd.zS (p := ⟨gb170, 0, none⟩) (Kd.zZ HO169.out BK170.out (by decide)) (fun _ hk => hk.2) (.slice Ao46 t164.length co46)) (fun _ hk => hk.2) (.slice Ao52 t167.length co52)) (fun _ hk => hk.1)))⟩; have n3_ : Aside0 (w53.heap[gb153]? = some (.cells #[.slice A0_0 l0_0.length c0_0, .slice A0_1 l0_1.length c0_1] 24 (0, 0))) := ⟨(by rw [hw]; exact (by (with_reducible repeat (first | refine ze ?_ _ | refine zg ?_ | refine zd ?_ _)); refine zI ?_ NB153_170.out _; (with_reducible repeat (first | refine ze ?_ _ | refine zg ?_ | refine zd ?_ _)); refine zI ?_ NB153_170.out _; (with_reducible repeat (first | refine ze ?_ _ | refine zg ?_ | refine zd ?_ _)); exact BK153.out))⟩; have n4_ : Aside0 (w53.heap[gb154]? = some (.cells #[.slice none 0 0, .slice none 0 0] 24 (0, 0))) := ⟨(by rw [hw]; exact (by (with_reducible repeat (first | refine ze ?_ _ | refine zg ?_ | refine zd ?_ _)); refine zI ?_ NB154_170.out _; (with_reducible repeat (first | refine ze ?_ _ | refine zg ?_ | refine zd ?_ _)); refine zI ?_ NB154_170.out _; (with_reducible repeat (first | refine ze ?_ _ | refine zg ?_ | refine zd ?_ _)); exact BK154.out))⟩; have n5_ : Aside0 (w53.heap[gb155]? = some (.cells #[.slice none 0 0, .slice none 0 0] 24 (0, 0))) := ⟨(by rw [hw]; exact (by (with_reducible repeat (first | refine ze ?_ _ | refine zg ?_ | refine zd ?_ _)); refine zI ?_ NB155_170.out _; (with_reducible repeat (first | refine ze ?_ _ | refine zg ?_ | refine zd ?_ _)); refine zI ?_ NB155_170.out _; (with_reducible repeat (first | refine ze ?_ _ | refine zg ?_ | refine zd ?_ _)); exact BK155.out))⟩; have n6_ : Aside0 (w53.heap[gb162]? = some (.cells #[.int .i64 ((zl t157 a1).f0), .int .i64 ((zl t157 a1).f1)] 90 (0, 0))) := ⟨(by rw [hw]; exact (by (with_reducible repeat (first | refine ze ?_ _ | refine zg ?_ | refine zd ?_ _)); refine zI ?_ NB162_170.out _; (with_reducible repeat (first | refine ze ?_ _ | refine zg ?_ | refine zd ?_ _)); refine zI ?_ NB162_170.out _; (with_reducible repeat (first | refine ze ?_ _ | refine zg ?_ | refine zd ?_ _)); exact BK162.out))⟩; have n7_ : Aside0 (w53.heap[gb170]? = some (.cells #[.slice Ao46 t164.length co46, .slice Ao52 t167.length co52] 24 (0, 0))) := ⟨(by rw [hw]; exact (by (with_reducible repeat (first | refine ze ?_ _ | refine zg ?_ | refine zd ?_ _)); refine zN (cs := #[.slice Ao46 t164.length co46, .slice none 0 0]) ?_ 1 _ rfl; (with_reducible repeat (first | refine ze ?_ _ | refine zg ?_ | refine zd ?_ _)); refine zN (cs := #[.slice none 0 0, .slice none 0 0]) ?_ 0 _ rfl; (with_reducible repeat (first | refine ze ?_ _ | refine zg ?_ | refine zd ?_ _)); exact BK170.out))⟩; have n8_ : Aside0 (Below w.heap.size w w53) := ⟨(by rw [hw]; exact (by repeat (first | (with_reducible first | exact HB.out | apply zb | apply za | apply zc | refine zf ?_ GE153.out | refine zf ?_ GE154.out | refine zf ?_ GE155.out | refine zf ?_ GE162.out | refine zf ?_ GE170.out) | exact HB.out)))⟩; clear hw; clear HO_8; clear HO166; clear HO169; clear BK153; clear BK154; clear BK155; clear BK162; clear BK170; clear HB; have HO_8 := n0_; have HO166 := n1_; have HO169 := n2_; have BK153 := n3_; have BK154 := n4_; have BK155 := n5_; have BK162 := n6_; have BK170 := n7_; have HB := n8_; clear n0_ n1_ n2_ n3_ n4_ n5_ n6_ n7_ n8_; have p171 : 0 ≤ (a1 : Int) := of_decide_eq_true (by first | (with_reducible assumption) | assumption); have q171 : a1 < (y163.length : Int) := (by have h_ : (a1 : Int) < ((t157.length : Int) : Int) := of_decide_eq_true (by first | (with_reducible assumption) | assumption); first | (have e_ := (Kd.zQ HO_8.out).1; omega) | simpa only [Ny163.out, List.length_set] using h_); have ql171 : ((a1 : Int) < ((t157.length : Int) : Int)) = True := eq_true (of_decide_eq_true (by first | (with_reducible assumption) | assumption)); obtain ⟨ad171, e171, hx171_0, hx171_1⟩ := at_T90 (Kd.zQ HO_8.out).2.2 a1 p171 q171; obtain rfl : (⟨go29, 0, none⟩ : Addr) = ad171 := (by injection e171); (first | simp only [add_plain] at hx171_0 | simp only [add_at] at hx171_0 | simp only [Addr.add, Nat.zero_add] at hx171_0 | skip); (first | simp only [add_plain] at hx171_1 | simp only [add_at] at hx171_1 | simp only [Addr.add, Nat.zero_add] at hx171_1 | skip); replace p171 := eq_true p171; replace q171 := eq_true q171; have p31 : 0 ≤ (a1 : Int) := of_decide_eq_true (by first | (with_reducible assumption) | assumption); have q31 : (a1 : Int) < ((t157.length : Int) : Int) := of_decide_eq_true (by first | (with_reducible assumption) | assumption); obtain ⟨ce31, hcl31, hM31, hcc31, hfr31⟩ := Kd.R_elem HO_8.out z90 (a1 : Int) p31 q31; obtain rfl := k90_openM hM31; have hx31_0 : w53.cell? ⟨go29, (a1 : Int).toNat * 2, none⟩ = some (.int .i64 ((zl y163 a1).f0)) := hcc31 0 _ rfl; have hx31_1 : w53.cell? ⟨go29, (a1 : Int).toNat * 2 + 1, none⟩ = some (.int .i64 ((zl y163 a1).f1)) := hcc31 1 _ rfl; have hf31_0 : w53.frozen? ⟨go29, (a1 : Int).toNat * 2, none⟩ = false := hfr31 0; have hf31_1 : w53.frozen? ⟨go29, (a1 : Int).toNat * 2 + 1, none⟩ = false := hfr31 1; clear hcl31 hcc31 hfr31 hM31; replace p31 := eq_true p31; replace q31 := eq_true q31; have HX54 := am_ (show Kd.R k90 90 w53 w.heap.size (fun k_ => k_ ≠ gb162) (.slice (some ⟨go29, 0, none⟩) t157.length co34) y163 from (by (with_reducible repeat (first | apply Kd.zq | apply Kd.zr | apply Kd.zy)); exact HO_8.out)); obtain ⟨ce54, hcl54, hM54, hcc54, hfr54⟩ := Kd.R_elem HX54.out z90 (a1 : Int) (of_decide_eq_true (by first | (with_reducible assumption) | assumption)) (by have h_ : (a1 : Int) < ((t157.length : Int) : Int) := of_decide_eq_true (by first | (with_reducible assumption) | assumption); first | exact h_ | (have e_ := (Kd.zQ HO_8.out).1; omega) | simpa using h_); obtain rfl := k90_openM hM54; have HP54 := Kd.R_seg HX54.out (a1 : Int) (of_decide_eq_true (by first | (with_reducible assumption) | assumption)) (by have h_ : (a1 : Int) < ((t157.length : Int) : Int) := of_decide_eq_true (by first | (with_reducible assumption) | assumption); first | exact h_ | (have e_ := (Kd.zQ HO_8.out).1; omega) | simpa using h_) (seg := [.int .i64 (wrap64 (((zl y163 a1).f1) + 1))]) (j := 1) hcl54 hcc54 (show 2 ≤ 2 from by decide) (x' := (⟨(zl y163 a1).f0, wrap64 (((zl y163 a1).f1) + 1)⟩ : S90)) (k90_mkM _ _ _ (⟨(zl y163 a1).f0, wrap64 (((zl y163 a1).f1) + 1)⟩ : S90) ) (fun _ hk => hk); have hx54_1 := hcc54 1 _ rfl; (try simp only [show (k90).sz = 2 from rfl, Nat.mul_one, Nat.add_zero] at hx54_1); have hf54_1 := hfr54 1; (try simp only [show (k90).sz = 2 from rfl, Nat.mul_one, Nat.add_zero] at hf54_1); clear hcl54 hcc54 hfr54 hM54) | ((with_reducible refine zK (t := 3) (p := 63) rfl ?_); refine store_event (t := 3) (p := 63) (v := ?vo_w55) (w1 := (w53.setCell ⟨go29, (a1 : Int).toNat * 2 + 1, none⟩ (.int .i64 (wrap64 (((zl y163 a1).f1) + 1))))) ?hg ?ho ?hn ?hr ?_; (case ho => rfl); (case hg => rfl); (case hn => rfl); (case hr => first | (go_simp; done) | (go_simp; rfl)); intro w55 hw; have hg : w53.grownBy w55 (some go29) := (by rw [hw]; exact HP54.2); have hp_ : Kd.R k90 90 w55 w.heap.size (fun k_ => k_ ≠ gb162) (.slice (some ⟨go29, 0, none⟩) t157.length co34) y172 := (by rw [hw, Ny172.out]; exact HP54.1); clear HP54; have n0_ := am_ (hp_); have n1_ := am_ (zac (g := gb153) (o := .cells #[.slice A0_0 l0_0.length c0_0, .slice A0_1 l0_1.length c0_1] 24 (0, 0)) (by (with_reducible repeat (first | refine ze ?_ _ | refine zg ?_ | refine zd ?_ _)); exact BK153.out) hg (Kd.R_ne HO_8.out BK153.out (by decide))); have n2_ := am_ (zac (g := gb154) (o := .cells #[.slice none 0 0, .slice none 0 0] 24 (0, 0)) (by (with_reducible repeat (first | refine ze ?_ _ | refine zg ?_ | refine zd ?_ _)); exact BK154.out) hg (Kd.R_ne HO_8.out BK154.out (by decide))); have n3_ := am_ (zac (g := gb155) (o := .cells #[.slice none 0 0, .slice none 0 0] 24 (0, 0)) (by (with_reducible repeat (first | refine ze ?_ _ | refine zg ?_ | refine zd ?_ _)); exact BK155.out) hg (Kd.R_ne HO_8.out BK155.out (by decide))); have n4_ := am_ (zac (g := gb162) (o := .cells #[.int .i64 ((zl t157 a1).f0), .int .i64 ((zl t157 a1).f1)] 90 (0, 0)) (by (with_reducible repeat (first | refine ze ?_ _ | refine zg ?_ | refine zd ?_ _)); exact BK162.out) hg (Kd.R_away HO_8.out (fun _ hk => hk))); have n5_ := am_ (Kd.R_over' (v := (.slice (some ⟨go29, 0, none⟩) t157.length co34)) (by (with_reducible repeat (first | apply Kd.zq | apply Kd.zr | apply Kd.zy)); exact HO166.out) (Kd.R_typed HO_8.out) (by decide) hg); have n6_ := am_ (Kd.R_over' (v := (.slice (some ⟨go29, 0, none⟩) t157.length co34)) (by (with_reducible repeat (first | apply Kd.zq | apply Kd.zr | apply Kd.zy)); exact HO169.out) (Kd.R_typed HO_8.out) (by decide) hg); have n7_ := am_ (zac (g := gb170) (o := .cells #[.slice Ao46 t164.length co46, .slice Ao52 t167.length co52] 24 (0, 0)) (by (with_reducible repeat (first | refine ze ?_ _ | refine zg ?_ | refine zd ?_ _)); exact BK170.out) hg (Kd.R_ne HO_8.out BK170.out (by decide))); have n8_ := am_ ((by rw [hw]; exact zf (HB.out) GB29.out : Below w.heap.size w w55)); clear HO_8; clear BK153; clear BK154; clear BK155; clear BK162; clear HO166; clear HO169; clear BK170; clear HB; have HO_8 := n0_; have BK153 := n1_; have BK154 := n2_; have BK155 := n3_; have BK162 := n4_; have HO166 := n5_; have HO169 := n6_; have BK170 := n7_; have HB := n8_; clear n0_ n1_ n2_ n3_ n4_ n5_ n6_ n7_ n8_; clear hg hw hp_) | ((with_reducible refine zR (f := 37) rfl ?_); refine goesL_ (some 65) rfl rfl Try.func37 (by kernel_rfl) rfl #[.slice (some ⟨go29, 0, none⟩) y172.length co34] rfl (by (try simp only [List.map_toArray, List.map_cons, List.map_nil]); first | done | (rw [show y172.length = t157.length from (Kd.zQ HO_8.out).1.symm] <;> rfl) | rfl | (simp only [List.length_drop, List.length_take]; rfl)) ?_; (with_reducible refine (zo.calls kj5 _ _ y172 t173 t176 _ ?side1 ?side2 A32.out).mono ?_); (case side1 => repeat (first | exact (Kd.zQ HO_8.out).2.2 | (with_reducible refine Kd.z3 ?_ _) | (with_reducible refine Kd.z2 ?_ _) | (with_reducible refine Kd.zae ?_))); (case side2 => rw [show y172.length = t157.length from (Kd.zQ HO_8.out).1.symm]; exact (Kd.zQ HO_8.out).2.1); rintro e w56 ⟨v174, v177, rfl, ho0, ho1, hb⟩; refine ⟨_, rfl, ?_⟩; have n0_ := am_ (Kd.z6 (by (with_reducible repeat (first | apply Kd.zq | apply Kd.zr | apply Kd.zy)); exact HO_8.out) hb); have n1_ := am_ (Kd.zL (Kd.R_told (Kd.R_told (Kd.R_old (by (with_reducible repeat (first | apply Kd.zq | apply Kd.zr | apply Kd.zy)); exact HO166.out) hb) (Kd.R_base ho0)) (Kd.R_base ho1)) (fun _ h_ => h_.1)); have n2_ := am_ (Kd.zL (Kd.R_told (Kd.R_told (Kd.R_old (by (with_reducible repeat (first | apply Kd.zq | apply Kd.zr | apply Kd.zy)); exact HO169.out) hb) (Kd.R_base ho0)) (Kd.R_base ho1)) (fun _ h_ => h_.1)); have n3_ := am_ (Kd.zal (Kd.R_new' (Kd.R_new' ho0 (Kd.R_lt (by (with_reducible repeat (first | apply Kd.zq | apply Kd.zr | apply Kd.zy)); exact HO166.out))) (Kd.R_lt (by (with_reducible repeat (first | apply Kd.zq | apply Kd.zr | apply Kd.zy)); exact HO169.out))) (zk (by repeat (first | (with_reducible first | exact HB.out | apply zb | apply za | apply zc | refine zf ?_ GE153.out | refine zf ?_ GE154.out | refine zf ?_ GE155.out | refine zf ?_ GE162.out | refine zf ?_ GE170.out) | exact HB.out)))); have n4_ := am_ (Kd.zal (Kd.R_new' (Kd.R_new' ho1 (Kd.R_lt (by (with_reducible repeat (first | apply Kd.zq | apply Kd.zr | apply Kd.zy)); exact HO166.out))) (Kd.R_lt (by (with_reducible repeat (first | apply Kd.zq | apply Kd.zr | apply Kd.zy)); exact HO169.out))) (zk (by repeat (first | (with_reducible first | exact HB.out | apply zb | apply za | apply zc | refine zf ?_ GE153.out | refine zf ?_ GE154.out | refine zf ?_ GE155.out | refine zf ?_ GE162.out | refine zf ?_ GE170.out) | exact HB.out)))); have n5_ := am_ (zm (g := gb153) (o := .cells #[.slice A0_0 l0_0.length c0_0, .slice A0_1 l0_1.length c0_1] 24 (0, 0)) (by (with_reducible repeat (first | refine ze ?_ _ | refine zg ?_ | refine zd ?_ _)); exact BK153.out) hb); have n6_ := am_ (zm (g := gb154) (o := .cells #[.slice none 0 0, .slice none 0 0] 24 (0, 0)) (by (with_reducible repeat (first | refine ze ?_ _ | refine zg ?_ | refine zd ?_ _)); exact BK154.out) hb); have n7_ := am_ (zm (g := gb155) (o := .cells #[.slice none 0 0, .slice none 0 0] 24 (0, 0)) (by (with_reducible repeat (first | refine ze ?_ _ | refine zg ?_ | refine zd ?_ _)); exact BK155.out) hb); have n8_ := am_ (zm (g := gb162) (o := .cells #[.int .i64 ((zl t157 a1).f0), .int .i64 ((zl t157 a1).f1)] 90 (0, 0)) (by (with_reducible repeat (first | refine ze ?_ _ | refine zg ?_ | refine zd ?_ _)); exact BK162.out) hb); have n9_ := am_ (zm (g := gb170) (o := .cells #[.slice Ao46 t164.length co46, .slice Ao52 t167.length co52] 24 (0, 0)) (by (with_reducible repeat (first | refine ze ?_ _ | refine zg ?_ | refine zd ?_ _)); exact BK170.out) hb); have n10_ := am_ (zj (by repeat (first | (with_reducible first | exact HB.out | apply zb | apply za | apply zc | refine zf ?_ GE153.out | refine zf ?_ GE154.out | refine zf ?_ GE155.out | refine zf ?_ GE162.out | refine zf ?_ GE170.out) | exact HB.out)) hb); clear HO_8; clear HO166; clear HO169; clear BK153; clear BK154; clear BK155; clear BK162; clear BK170; clear HB; have HO_8 := n0_; have HO166 := n1_; have HO169 := n2_; have HO175 := n3_; have HO178 := n4_; have BK153 := n5_; have BK154 := n6_; have BK155 := n7_; have BK162 := n8_; have BK170 := n9_; have HB := n10_; clear n0_ n1_ n2_ n3_ n4_ n5_ n6_ n7_ n8_ n9_ n10_; (try clear hb); (try clear hb2); (try clear hk); (try clear hi); (try clear ho0); (try clear ho1)) | ((with_reducible refine zp (N := 11) rfl ?_); refine zw ?hg (N := 11) ?hd (cs := #[.slice none 0 0, .slice none 0 0]) (t := 24) ?hr ?_; (case hd => rfl); (case hg => rfl); (case hr => first | (go_simp; done) | (go_simp; rfl)); intro gb179 hg w57 hbox hb; have n0_ := am_ (Kd.z6 (by (with_reducible repeat (first | apply Kd.zq | apply Kd.zr | apply Kd.zy)); exact HO_8.out) hb); have n1_ := am_ (Kd.z6 (by (with_reducible repeat (first | apply Kd.zq | apply Kd.zr | apply Kd.zy)); exact HO166.out) hb); have n2_ := am_ (Kd.z6 (by (with_reducible repeat (first | apply Kd.zq | apply Kd.zr | apply Kd.zy)); exact HO169.out) hb); have n3_ := am_ (Kd.z6 (by (with_reducible repeat (first | apply Kd.zq | apply Kd.zr | apply Kd.zy)); exact HO175.out) hb); have n4_ := am_ (Kd.z6 (by (with_reducible repeat (first | apply Kd.zq | apply Kd.zr | apply Kd.zy)); exact HO178.out) hb); have n5_ := am_ (zm (g := gb153) (o := .cells #[.slice A0_0 l0_0.length c0_0, .slice A0_1 l0_1.length c0_1] 24 (0, 0)) (by (with_reducible repeat (first | refine ze ?_ _ | refine zg ?_ | refine zd ?_ _)); exact BK153.out) hb); have n6_ := am_ (zm (g := gb154) (o := .cells #[.slice none 0 0, .slice none 0 0] 24 (0, 0)) (by (with_reducible repeat (first | refine ze ?_ _ | refine zg ?_ | refine zd ?_ _)); exact BK154.out) hb); have n7_ := am_ (zm (g := gb155) (o := .cells #[.slice none 0 0, .slice none 0 0] 24 (0, 0)) (by (with_reducible repeat (first | refine ze ?_ _ | refine zg ?_ | refine zd ?_ _)); exact BK155.out) hb); have n8_ := am_ (zm (g := gb162) (o := .cells #[.int .i64 ((zl t157 a1).f0), .int .i64 ((zl t157 a1).f1)] 90 (0, 0)) (by (with_reducible repeat (first | refine ze ?_ _ | refine zg ?_ | refine zd ?_ _)); exact BK162.out) hb); have n9_ := am_ (zm (g := gb170) (o := .cells #[.slice Ao46 t164.length co46, .slice Ao52 t167.length co52] 24 (0, 0)) (by (with_reducible repeat (first | refine ze ?_ _ | refine zg ?_ | refine zd ?_ _)); exact BK170.out) hb); have n10_ := am_ (zj (by repeat (first | (with_reducible first | exact HB.out | apply zb | apply za | apply zc | refine zf ?_ GE153.out | refine zf ?_ GE154.out | refine zf ?_ GE155.out | refine zf ?_ GE162.out | refine zf ?_ GE170.out) | exact HB.out)) hb); have n11_ := am_ (hbox); have n12_ := am_ ((by rw [hg]; exact (zk (by repeat (first | (with_reducible first | exact HB.out | apply zb | apply za | apply zc | refine zf ?_ GE153.out | refine zf ?_ GE154.out | refine zf ?_ GE155.out | refine zf ?_ GE162.out | refine zf ?_ GE170.out) | exact HB.out))) : w.heap.size ≤ gb179)); have n13_ := am_ ((by rw [hg]; exact (zk (by repeat (first | (with_reducible first | exact HB.out | apply zb | apply za | apply zc | refine zf ?_ GE153.out | refine zf ?_ GE154.out | refine zf ?_ GE155.out | refine zf ?_ GE162.out | refine zf ?_ GE170.out) | exact HB.out))) : w.heap.size ≤ gb179)); have n14_ := am_ ((by rw [hg]; exact Nat.ne_of_lt (zE (g := gb153) (o := .cells #[.slice A0_0 l0_0.length c0_0, .slice A0_1 l0_1.length c0_1] 24 (0, 0)) (by (with_reducible repeat (first | refine ze ?_ _ | refine zg ?_ | refine zd ?_ _)); exact BK153.out)) : gb153 ≠ gb179)); have n15_ := am_ ((by rw [hg]; exact Nat.ne_of_gt (zE (g := gb153) (o := .cells #[.slice A0_0 l0_0.length c0_0, .slice A0_1 l0_1.length c0_1] 24 (0, 0)) (by (with_reducible repeat (first | refine ze ?_ _ | refine zg ?_ | refine zd ?_ _)); exact BK153.out)) : gb179 ≠ gb153)); have n16_ := am_ ((by rw [hg]; exact Nat.ne_of_lt (zE (g := gb154) (o := .cells #[.slice none 0 0, .slice none 0 0] 24 (0, 0)) (by (with_reducible repeat (first | refine ze ?_ _ | refine zg ?_ | refine zd ?_ _)); exact BK154.out)) : gb154 ≠ gb179)); have n17_ := am_ ((by rw [hg]; exact Nat.ne_of_gt (zE (g := gb154) (o := .cells #[.slice none 0 0, .slice none 0 0] 24 (0, 0)) (by (with_reducible repeat (first | refine ze ?_ _ | refine zg ?_ | refine zd ?_ _)); exact BK154.out)) : gb179 ≠ gb154)); have n18_ := am_ ((by rw [hg]; exact Nat.ne_of_lt (zE (g := gb155) (o := .cells #[.slice none 0 0, .slice none 0 0] 24 (0, 0)) (by (with_reducible repeat (first | refine ze ?_ _ | refine zg ?_ | refine zd ?_ _)); exact BK155.out)) : gb155 ≠ gb179)); have n19_ := am_ ((by rw [hg]; exact Nat.ne_of_gt (zE (g := gb155) (o := .cells #[.slice none 0 0, .slice none 0 0] 24 (0, 0)) (by (with_reducible repeat (first | refine ze ?_ _ | refine zg ?_ | refine zd ?_ _)); exact BK155.out)) : gb179 ≠ gb155)); have n20_ := am_ ((by rw [hg]; exact Nat.ne_of_lt (zE (g := gb162) (o := .cells #[.int .i64 ((zl t157 a1).f0), .int .i64 ((zl t157 a1).f1)] 90 (0, 0)) (by (with_reducible repeat (first | refine ze ?_ _ | refine zg ?_ | refine zd ?_ _)); exact BK162.out)) : gb162 ≠ gb179)); have n21_ := am_ ((by rw [hg]; exact Nat.ne_of_gt (zE (g := gb162) (o := .cells #[.int .i64 ((zl t157 a1).f0), .int .i64 ((zl t157 a1).f1)] 90 (0, 0)) (by (with_reducible repeat (first | refine ze ?_ _ | refine zg ?_ | refine zd ?_ _)); exact BK162.out)) : gb179 ≠ gb162)); have n22_ := am_ ((by rw [hg]; exact Nat.ne_of_lt (zE (g := gb170) (o := .cells #[.slice Ao46 t164.length co46, .slice Ao52 t167.length co52] 24 (0, 0)) (by (with_reducible repeat (first | refine ze ?_ _ | refine zg ?_ | refine zd ?_ _)); exact BK170.out)) : gb170 ≠ gb179)); have n23_ := am_ ((by rw [hg]; exact Nat.ne_of_gt (zE (g := gb170) (o := .cells #[.slice Ao46 t164.length co46, .slice Ao52 t167.length co52] 24 (0, 0)) (by (with_reducible repeat (first | refine ze ?_ _ | refine zg ?_ | refine zd ?_ _)); exact BK170.out)) : gb179 ≠ gb170)); clear HO_8; clear HO166; clear HO169; clear HO175; clear HO178; clear BK153; clear BK154; clear BK155; clear BK162; clear BK170; clear HB; have HO_8 := n0_; have HO166 := n1_; have HO169 := n2_; have HO175 := n3_; have HO178 := n4_; have BK153 := n5_; have BK154 := n6_; have BK155 := n7_; have BK162 := n8_; have BK170 := n9_; have HB := n10_; have BK179 := n11_; have GW179 := n12_; have GE179 := n13_; have NB153_179 := n14_; have NB179_153 := n15_; have NB154_179 := n16_; have NB179_154 := n17_; have NB155_179 := n18_; have NB179_155 := n19_; have NB162_179 := n20_; have NB179_162 := n21_; have NB170_179 := n22_; have NB179_170 := n23_; clear n0_ n1_ n2_ n3_ n4_ n5_ n6_ n7_ n8_ n9_ n10_ n11_ n12_ n13_ n14_ n15_ n16_ n17_ n18_ n19_ n20_ n21_ n22_ n23_; clear hb hbox hg; obtain ⟨Ao58, co58, eo58⟩ := Kd.z4 HO175.out; subst eo58; have hnb59 := NB179_153.out; have hnc59 := NB153_179.out; have hnb60 := NB179_154.out; have hnc60 := NB154_179.out; have hnb61 := NB179_155.out; have hnc61 := NB155_179.out; have hnb62 := NB179_162.out; have hnc62 := NB162_179.out; have hnb63 := NB179_170.out; have hnc63 := NB170_179.out; have hcz64_0 : w57.cell? ⟨gb179, 0, none⟩ = some (.slice none 0 0) := (zi BK179.out 0).trans rfl; have hcz64_1 : w57.cell? ⟨gb179, 1, none⟩ = some (.slice none 0 0) := (zi BK179.out 1).trans rfl; have hfz64_0 := zh BK179.out 0; have hfz64_1 := zh BK179.out 1; obtain ⟨Ao65, co65, eo65⟩ := Kd.z4 HO178.out; subst eo65))
        have n0_ : Aside0 (Kd.R k90 90 ((w57.setCell ⟨gb179, 0, none⟩ (.slice Ao58 t173.length co58)).setCell ⟨gb179, 1, none⟩ (.slice Ao65 t176.length co65)) w.heap.size (fun k_ => k_ ≠ gb162) (.slice (some ⟨go29, 0, none⟩) t157.length co34) y172) := ⟨by (with_reducible repeat (first | apply Kd.zq | apply Kd.zr | apply Kd.zy)); exact Kd.zL (Kd.zS (p := ⟨gb179, 1, none⟩) (Kd.zS (p := ⟨gb179, 0, none⟩) (Kd.zZ HO_8.out BK179.out (by decide)) (fun _ hk => hk.2) (.slice Ao58 t173.length co58)) (fun _ hk => hk.2) (.slice Ao65 t176.length co65)) (fun _ hk => hk.1)⟩
        have n1_ : Aside0 (Kd.R (Kd.int .i64) 3 ((w57.setCell ⟨gb179, 0, none⟩ (.slice Ao58 t173.length co58)).setCell ⟨gb179, 1, none⟩ (.slice Ao65 t176.length co65)) w.heap.size (fun k_ => some k_ ≠ (.slice Ao52 t167.length co52 : Value).ownBlock ∧ some k_ ≠ (.slice Ao58 t173.length co58 : Value).ownBlock ∧ some k_ ≠ (.slice Ao65 t176.length co65 : Value).ownBlock) (.slice Ao46 t164.length co46) t164) := ⟨by (with_reducible repeat (first | apply Kd.zq | apply Kd.zr | apply Kd.zy)); exact Kd.zL (Kd.zS (p := ⟨gb179, 1, none⟩) (Kd.zS (p := ⟨gb179, 0, none⟩) (Kd.zZ HO166.out BK179.out (by decide)) (fun _ hk => hk.2) (.slice Ao58 t173.length co58)) (fun _ hk => hk.2) (.slice Ao65 t176.length co65)) (fun _ hk => ⟨hk.1.1.1, ⟨hk.1.1.2, hk.1.2⟩⟩)⟩
        have n2_ : Aside0 (Kd.R (Kd.int .i64) 3 ((w57.setCell ⟨gb179, 0, none⟩ (.slice Ao58 t173.length co58)).setCell ⟨gb179, 1, none⟩ (.slice Ao65 t176.length co65)) w.heap.size (fun k_ => some k_ ≠ (.slice Ao46 t164.length co46 : Value).ownBlock ∧ some k_ ≠ (.slice Ao58 t173.length co58 : Value).ownBlock ∧ some k_ ≠ (.slice Ao65 t176.length co65 : Value).ownBlock) (.slice Ao52 t167.length co52) t167) := ⟨by (with_reducible repeat (first | apply Kd.zq | apply Kd.zr | apply Kd.zy)); exact Kd.zL (Kd.zS (p := ⟨gb179, 1, none⟩) (Kd.zS (p := ⟨gb179, 0, none⟩) (Kd.zZ HO169.out BK179.out (by decide)) (fun _ hk => hk.2) (.slice Ao58 t173.length co58)) (fun _ hk => hk.2) (.slice Ao65 t176.length co65)) (fun _ hk => ⟨hk.1.1.1, ⟨hk.1.1.2, hk.1.2⟩⟩)⟩
        have n3_ : Aside0 (Kd.R (Kd.int .i64) 3 ((w57.setCell ⟨gb179, 0, none⟩ (.slice Ao58 t173.length co58)).setCell ⟨gb179, 1, none⟩ (.slice Ao65 t176.length co65)) w.heap.size (fun k_ => some k_ ≠ (.slice Ao46 t164.length co46 : Value).ownBlock ∧ some k_ ≠ (.slice Ao52 t167.length co52 : Value).ownBlock ∧ some k_ ≠ (.slice Ao65 t176.length co65 : Value).ownBlock) (.slice Ao58 t173.length co58) t173) := ⟨by (with_reducible repeat (first | apply Kd.zq | apply Kd.zr | apply Kd.zy)); exact Kd.zL (Kd.zS (p := ⟨gb179, 1, none⟩) (Kd.zS (p := ⟨gb179, 0, none⟩) (Kd.zZ HO175.out BK179.out (by decide)) (fun _ hk => hk.2) (.slice Ao58 t173.length co58)) (fun _ hk => hk.2) (.slice Ao65 t176.length co65)) (fun _ hk => ⟨hk.1.1.2, ⟨hk.1.2, hk.1.1.1⟩⟩)⟩
        have n4_ : Aside0 (Kd.R (Kd.int .i64) 3 ((w57.setCell ⟨gb179, 0, none⟩ (.slice Ao58 t173.length co58)).setCell ⟨gb179, 1, none⟩ (.slice Ao65 t176.length co65)) w.heap.size (fun k_ => some k_ ≠ (.slice Ao46 t164.length co46 : Value).ownBlock ∧ some k_ ≠ (.slice Ao52 t167.length co52 : Value).ownBlock ∧ some k_ ≠ (.slice Ao58 t173.length co58 : Value).ownBlock) (.slice Ao65 t176.length co65) t176) := ⟨by (with_reducible repeat (first | apply Kd.zq | apply Kd.zr | apply Kd.zy)); exact Kd.zL (Kd.zS (p := ⟨gb179, 1, none⟩) (Kd.zS (p := ⟨gb179, 0, none⟩) (Kd.zZ HO178.out BK179.out (by decide)) (fun _ hk => hk.2) (.slice Ao58 t173.length co58)) (fun _ hk => hk.2) (.slice Ao65 t176.length co65)) (fun _ hk => ⟨hk.1.1.2, ⟨hk.1.2, hk.1.1.1⟩⟩)⟩
        have n5_ : Aside0 (((w57.setCell ⟨gb179, 0, none⟩ (.slice Ao58 t173.length co58)).setCell ⟨gb179, 1, none⟩ (.slice Ao65 t176.length co65)).heap[gb153]? = some (.cells #[.slice A0_0 l0_0.length c0_0, .slice A0_1 l0_1.length c0_1] 24 (0, 0))) := ⟨by (with_reducible repeat (first | refine ze ?_ _ | refine zg ?_ | refine zd ?_ _)); refine zI ?_ NB153_179.out _; (with_reducible repeat (first | refine ze ?_ _ | refine zg ?_ | refine zd ?_ _)); refine zI ?_ NB153_179.out _; (with_reducible repeat (first | refine ze ?_ _ | refine zg ?_ | refine zd ?_ _)); exact BK153.out⟩
        have n6_ : Aside0 (((w57.setCell ⟨gb179, 0, none⟩ (.slice Ao58 t173.length co58)).setCell ⟨gb179, 1, none⟩ (.slice Ao65 t176.length co65)).heap[gb154]? = some (.cells #[.slice none 0 0, .slice none 0 0] 24 (0, 0))) := ⟨by (with_reducible repeat (first | refine ze ?_ _ | refine zg ?_ | refine zd ?_ _)); refine zI ?_ NB154_179.out _; (with_reducible repeat (first | refine ze ?_ _ | refine zg ?_ | refine zd ?_ _)); refine zI ?_ NB154_179.out _; (with_reducible repeat (first | refine ze ?_ _ | refine zg ?_ | refine zd ?_ _)); exact BK154.out⟩
        have n7_ : Aside0 (((w57.setCell ⟨gb179, 0, none⟩ (.slice Ao58 t173.length co58)).setCell ⟨gb179, 1, none⟩ (.slice Ao65 t176.length co65)).heap[gb155]? = some (.cells #[.slice none 0 0, .slice none 0 0] 24 (0, 0))) := ⟨by (with_reducible repeat (first | refine ze ?_ _ | refine zg ?_ | refine zd ?_ _)); refine zI ?_ NB155_179.out _; (with_reducible repeat (first | refine ze ?_ _ | refine zg ?_ | refine zd ?_ _)); refine zI ?_ NB155_179.out _; (with_reducible repeat (first | refine ze ?_ _ | refine zg ?_ | refine zd ?_ _)); exact BK155.out⟩
        have n8_ : Aside0 (((w57.setCell ⟨gb179, 0, none⟩ (.slice Ao58 t173.length co58)).setCell ⟨gb179, 1, none⟩ (.slice Ao65 t176.length co65)).heap[gb162]? = some (.cells #[.int .i64 ((zl t157 a1).f0), .int .i64 ((zl t157 a1).f1)] 90 (0, 0))) := ⟨by (with_reducible repeat (first | refine ze ?_ _ | refine zg ?_ | refine zd ?_ _)); refine zI ?_ NB162_179.out _; (with_reducible repeat (first | refine ze ?_ _ | refine zg ?_ | refine zd ?_ _)); refine zI ?_ NB162_179.out _; (with_reducible repeat (first | refine ze ?_ _ | refine zg ?_ | refine zd ?_ _)); exact BK162.out⟩
        have n9_ : Aside0 (((w57.setCell ⟨gb179, 0, none⟩ (.slice Ao58 t173.length co58)).setCell ⟨gb179, 1, none⟩ (.slice Ao65 t176.length co65)).heap[gb170]? = some (.cells #[.slice Ao46 t164.length co46, .slice Ao52 t167.length co52] 24 (0, 0))) := ⟨by (with_reducible repeat (first | refine ze ?_ _ | refine zg ?_ | refine zd ?_ _)); refine zI ?_ NB170_179.out _; (with_reducible repeat (first | refine ze ?_ _ | refine zg ?_ | refine zd ?_ _)); refine zI ?_ NB170_179.out _; (with_reducible repeat (first | refine ze ?_ _ | refine zg ?_ | refine zd ?_ _)); exact BK170.out⟩
        have n10_ : Aside0 (((w57.setCell ⟨gb179, 0, none⟩ (.slice Ao58 t173.length co58)).setCell ⟨gb179, 1, none⟩ (.slice Ao65 t176.length co65)).heap[gb179]? = some (.cells #[.slice Ao58 t173.length co58, .slice Ao65 t176.length co65] 24 (0, 0))) := ⟨by (with_reducible repeat (first | refine ze ?_ _ | refine zg ?_ | refine zd ?_ _)); refine zN (cs := #[.slice Ao58 t173.length co58, .slice none 0 0]) ?_ 1 _ rfl; (with_reducible repeat (first | refine ze ?_ _ | refine zg ?_ | refine zd ?_ _)); refine zN (cs := #[.slice none 0 0, .slice none 0 0]) ?_ 0 _ rfl; (with_reducible repeat (first | refine ze ?_ _ | refine zg ?_ | refine zd ?_ _)); exact BK179.out⟩
        have n11_ : Aside0 (Below w.heap.size w ((w57.setCell ⟨gb179, 0, none⟩ (.slice Ao58 t173.length co58)).setCell ⟨gb179, 1, none⟩ (.slice Ao65 t176.length co65))) := ⟨by repeat (first | (with_reducible first | exact HB.out | apply zb | apply za | apply zc | refine zf ?_ GE153.out | refine zf ?_ GE154.out | refine zf ?_ GE155.out | refine zf ?_ GE162.out | refine zf ?_ GE170.out | refine zf ?_ GE179.out) | exact HB.out)⟩
        (try clear HO_8)
        (try clear HO166)
        (try clear HO169)
        (try clear HO175)
        (try clear HO178)
        (try clear BK153)
        (try clear BK154)
        (try clear BK155)
        (try clear BK162)
        (try clear BK170)
        (try clear BK179)
        (try clear HB)
        generalize ((w57.setCell ⟨gb179, 0, none⟩ (.slice Ao58 t173.length co58)).setCell ⟨gb179, 1, none⟩ (.slice Ao65 t176.length co65)) = w66 at n0_ n1_ n2_ n3_ n4_ n5_ n6_ n7_ n8_ n9_ n10_ n11_ ⊢
        have HO_8 := n0_
        have HO166 := n1_
        have HO169 := n2_
        have HO175 := n3_
        have HO178 := n4_
        have BK153 := n5_
        have BK154 := n6_
        have BK155 := n7_
        have BK162 := n8_
        have BK170 := n9_
        have BK179 := n10_
        have HB := n11_
        clear n0_ n1_ n2_ n3_ n4_ n5_ n6_ n7_ n8_ n9_ n10_ n11_
        have n0_ := am_ (Kd.zy HO_8.out)
        have n1_ := am_ (Kd.zy HO166.out)
        have n2_ := am_ (Kd.zy HO169.out)
        have n3_ := am_ (Kd.zy HO175.out)
        have n4_ := am_ (Kd.zy HO178.out)
        have n5_ := am_ (zg BK153.out)
        have n6_ := am_ (zg BK154.out)
        have n7_ := am_ (zg BK155.out)
        have n8_ := am_ (zg BK162.out)
        have n9_ := am_ (zg BK170.out)
        have n10_ := am_ (zg BK179.out)
        have n11_ := am_ (zc HB.out)
        clear HO_8
        clear HO166
        clear HO169
        clear HO175
        clear HO178
        clear BK153
        clear BK154
        clear BK155
        clear BK162
        clear BK170
        clear BK179
        clear HB
        have HO_8 := n0_
        have HO166 := n1_
        have HO169 := n2_
        have HO175 := n3_
        have HO178 := n4_
        have BK153 := n5_
        have BK154 := n6_
        have BK155 := n7_
        have BK162 := n8_
        have BK170 := n9_
        have BK179 := n10_
        have HB := n11_
        clear n0_ n1_ n2_ n3_ n4_ n5_ n6_ n7_ n8_ n9_ n10_ n11_
        have p180 : 0 ≤ (a1 : Int) := of_decide_eq_true (by first | (with_reducible assumption) | assumption)
        have q180 : a1 < (y172.length : Int) := (by have h_ : (a1 : Int) < ((t157.length : Int) : Int) := of_decide_eq_true (by first | (with_reducible assumption) | assumption); first | (have e_ := (Kd.zQ HO_8.out).1; omega) | simpa only [Ny163.out, Ny172.out, List.length_set] using h_)
        have ql180 : ((a1 : Int) < ((t157.length : Int) : Int)) = True := eq_true (of_decide_eq_true (by first | (with_reducible assumption) | assumption))
        obtain ⟨ad180, e180, hx180_0, hx180_1⟩ := at_T90 (Kd.zQ HO_8.out).2.2 a1 p180 q180
        obtain rfl : (⟨go29, 0, none⟩ : Addr) = ad180 := (by injection e180)
        (first | simp only [add_plain] at hx180_0 | simp only [add_at] at hx180_0 | simp only [Addr.add, Nat.zero_add] at hx180_0 | skip)
        (first | simp only [add_plain] at hx180_1 | simp only [add_at] at hx180_1 | simp only [Addr.add, Nat.zero_add] at hx180_1 | skip)
        replace p180 := eq_true p180
        replace q180 := eq_true q180
        refine start_ (n := 6) (S := fun w' => w'.cell? ⟨gb162, 0, none⟩ = some (.int .i64 ((zl t157 a1).f0)) ∧ w'.cell? ⟨gb162, 1, none⟩ = some (.int .i64 ((zl t157 a1).f1)) ∧ w'.cell? ⟨go29, (a1).toNat * 2, none⟩ = some (.int .i64 ((zl y172 a1).f0)) ∧ w'.cell? ⟨go29, (a1).toNat * 2 + 1, none⟩ = some (.int .i64 ((zl y172 a1).f1))) (ds := []) (bl_ 6 0) (by kernel_rfl) rfl rfl ⟨(zi BK162.out 0).trans rfl, (zi BK162.out 1).trans rfl, hx180_0, hx180_1⟩ (fun hHeld => ?_)
        generalize w66.drew = w67 at HO_8 HO166 HO169 HO175 HO178 BK153 BK154 BK155 BK162 BK170 BK179 HB hx180_0 hx180_1 hHeld ⊢
        refine zG (i := 0) (N := some 66) (v := ?_) (a' := ?_) (bl_ 6 1) rfl rfl (by kernel_rfl) (fun _ _ _ h => h) (Or.inl ⟨by rfl, ?_⟩) ?_ ?_
        rotate_left
        ·intro w'
         go_simp
         with_reducible rfl
        rotate_left
        ·simp only [Act.put, sI_, s0_, s1_, zv, zx]
         rfl
        refine zG (i := 1) (N := some 67) (v := ?_) (a' := ?_) (bl_ 6 3) rfl rfl (by kernel_rfl) (fun _ _ _ h => h) (Or.inl ⟨by rfl, ?_⟩) ?_ ?_
        rotate_left
        ·intro w'
         go_simp
         with_reducible rfl
        rotate_left
        ·simp only [Act.put, sI_, s0_, s1_, zv, zx]
         rfl
        refine zG (i := 2) (N := some 68) (v := ?_) (a' := ?_) (bl_ 6 7) rfl rfl (by kernel_rfl) (fun _ _ _ h => h) (Or.inl ⟨by rfl, ?_⟩) ?_ ?_
        rotate_left
        ·intro w'
         go_simp
         with_reducible rfl
        rotate_left
        ·simp only [Act.put, sI_, s0_, s1_, zv, zx]
         rfl
        refine take_ (i := 3) (N := some 69) (v := ?_) (a' := ?_) (bl_ 6 15) rfl rfl (by kernel_rfl) (fun _ _ _ h => h) (Or.inl ⟨by rfl, ?_⟩) hHeld ?_ ?_
        rotate_left
        ·rintro w' ⟨s0, s1, s2, s3⟩
         go_simp
         with_reducible rfl
        rotate_left
        ·simp only [Act.put, sI_, s0_, s1_, zv, zx]
         rfl
        refine take_ (i := 4) (N := some 70) (v := ?_) (a' := ?_) (bl_ 6 31) rfl rfl (by kernel_rfl) (fun _ _ _ h => h) (Or.inl ⟨by rfl, ?_⟩) hHeld ?_ ?_
        rotate_left
        ·rintro w' ⟨s0, s1, s2, s3⟩
         go_simp
         with_reducible rfl
        rotate_left
        ·simp only [Act.put, sI_, s0_, s1_, zv, zx]
         rfl
        refine zG (i := 5) (N := some 71) (v := ?_) (a' := ?_) (bl_ 6 63) rfl rfl (by kernel_rfl) (fun _ _ _ h => h) (Or.inl ⟨by rfl, ?_⟩) ?_ ?_
        rotate_left
        ·intro w'
         go_simp
         rw [zJ.ite2 c33b0]
        rotate_left
        ·simp only [Act.put, sI_, s0_, s1_, zv, zx]
         rfl
        refine done_ (by kernel_rfl) ?_
        try go_wp2
        have n0_ := am_ (Kd.zy HO_8.out)
        have n1_ := am_ (Kd.zy HO166.out)
        have n2_ := am_ (Kd.zy HO169.out)
        have n3_ := am_ (Kd.zy HO175.out)
        have n4_ := am_ (Kd.zy HO178.out)
        have n5_ := am_ (zg BK153.out)
        have n6_ := am_ (zg BK154.out)
        have n7_ := am_ (zg BK155.out)
        have n8_ := am_ (zg BK162.out)
        have n9_ := am_ (zg BK170.out)
        have n10_ := am_ (zg BK179.out)
        have n11_ := am_ (zc HB.out)
        clear HO_8
        clear HO166
        clear HO169
        clear HO175
        clear HO178
        clear BK153
        clear BK154
        clear BK155
        clear BK162
        clear BK170
        clear BK179
        clear HB
        have HO_8 := n0_
        have HO166 := n1_
        have HO169 := n2_
        have HO175 := n3_
        have HO178 := n4_
        have BK153 := n5_
        have BK154 := n6_
        have BK155 := n7_
        have BK162 := n8_
        have BK170 := n9_
        have BK179 := n10_
        have HB := n11_
        clear n0_ n1_ n2_ n3_ n4_ n5_ n6_ n7_ n8_ n9_ n10_ n11_
        refine start_ (n := 5) (S := fun w' => w'.cell? ⟨gb170, 0, none⟩ = some (.slice Ao46 t164.length co46) ∧ w'.cell? ⟨gb170, 1, none⟩ = some (.slice Ao52 t167.length co52) ∧ w'.cell? ⟨gb179, 0, none⟩ = some (.slice Ao58 t173.length co58) ∧ w'.cell? ⟨gb179, 1, none⟩ = some (.slice Ao65 t176.length co65)) (ds := []) (bl_ 5 0) (by kernel_rfl) rfl rfl ⟨(zi BK170.out 0).trans rfl, (zi BK170.out 1).trans rfl, (zi BK179.out 0).trans rfl, (zi BK179.out 1).trans rfl⟩ (fun hHeld => ?_)
        generalize w67.drew = w68 at HO_8 HO166 HO169 HO175 HO178 BK153 BK154 BK155 BK162 BK170 BK179 HB hHeld ⊢
        refine take_ (i := 0) (N := some 74) (v := ?_) (a' := ?_) (bl_ 5 1) rfl rfl (by kernel_rfl) (fun _ _ _ h => h) (Or.inl ⟨by rfl, ?_⟩) hHeld ?_ ?_
        rotate_left
        ·rintro w' ⟨s0, s1, s2, s3⟩
         go_simp
         with_reducible rfl
        rotate_left
        ·simp only [Act.put, sI_, s0_, s1_, zv, zx]
         rfl
        refine take_ (i := 1) (N := some 75) (v := ?_) (a' := ?_) (bl_ 5 3) rfl rfl (by kernel_rfl) (fun _ _ _ h => h) (Or.inl ⟨by rfl, ?_⟩) hHeld ?_ ?_
        rotate_left
        ·rintro w' ⟨s0, s1, s2, s3⟩
         go_simp
         with_reducible rfl
        rotate_left
        ·simp only [Act.put, sI_, s0_, s1_, zv, zx]
         rfl
        refine one_ (i := 2) (N := none) (bl_ 5 7) rfl rfl (by kernel_rfl) (by decide) (fun K hK => ?_)
        have hs69 : w68.cell? ⟨gb154, 0, none⟩ = some (.slice none 0 0) := (zi BK154.out 0).trans rfl
        have hfs69 := zh BK154.out 0
        have hns69_0 := NB153_154.out
        have hns69_2 := NB155_154.out
        have hns69_3 := NB162_154.out
        have hns69_4 := NB170_154.out
        have hns69_5 := NB179_154.out
        have hms69_0 := NB154_153.out
        have hms69_2 := NB154_155.out
        have hms69_3 := NB154_162.out
        have hms69_4 := NB154_170.out
        have hms69_5 := NB154_179.out
        have hs70 : w68.cell? ⟨gb154, 1, none⟩ = some (.slice none 0 0) := (zi BK154.out 1).trans rfl
        have hfs70 := zh BK154.out 1
        have hns70_0 := NB153_154.out
        have hns70_2 := NB155_154.out
        have hns70_3 := NB162_154.out
        have hns70_4 := NB170_154.out
        have hns70_5 := NB179_154.out
        have hms70_0 := NB154_153.out
        have hms70_2 := NB154_155.out
        have hms70_3 := NB154_162.out
        have hms70_4 := NB154_170.out
        have hms70_5 := NB154_179.out
        refine skip_ (w1 := ?_) (by rfl) rfl ?_ ?_
        rotate_left
        ·go_simp
         rfl
        refine hK.out _ _ ⟨((cell_far (p := ⟨gb154, _, none⟩) NB170_154.out _).trans (((cell_far (p := ⟨gb154, _, none⟩) NB170_154.out _).trans (hHeld.1)))), ((cell_far (p := ⟨gb154, _, none⟩) NB170_154.out _).trans (((cell_far (p := ⟨gb154, _, none⟩) NB170_154.out _).trans (hHeld.2.1)))), ((cell_far (p := ⟨gb154, _, none⟩) NB179_154.out _).trans (((cell_far (p := ⟨gb154, _, none⟩) NB179_154.out _).trans (hHeld.2.2.1)))), ((cell_far (p := ⟨gb154, _, none⟩) NB179_154.out _).trans (((cell_far (p := ⟨gb154, _, none⟩) NB179_154.out _).trans (hHeld.2.2.2))))⟩ (fun hHeld => ?_)
        clear hK K
        refine one_ (i := 3) (N := none) (bl_ 5 15) rfl rfl (by kernel_rfl) (by decide) (fun K hK => ?_)
        have hs71 : w68.cell? ⟨gb155, 0, none⟩ = some (.slice none 0 0) := (zi BK155.out 0).trans rfl
        have hfs71 := zh BK155.out 0
        have hns71_0 := NB153_155.out
        have hns71_1 := NB154_155.out
        have hns71_3 := NB162_155.out
        have hns71_4 := NB170_155.out
        have hns71_5 := NB179_155.out
        have hms71_0 := NB155_153.out
        have hms71_1 := NB155_154.out
        have hms71_3 := NB155_162.out
        have hms71_4 := NB155_170.out
        have hms71_5 := NB155_179.out
        have hs72 : w68.cell? ⟨gb155, 1, none⟩ = some (.slice none 0 0) := (zi BK155.out 1).trans rfl
        have hfs72 := zh BK155.out 1
        have hns72_0 := NB153_155.out
        have hns72_1 := NB154_155.out
        have hns72_3 := NB162_155.out
        have hns72_4 := NB170_155.out
        have hns72_5 := NB179_155.out
        have hms72_0 := NB155_153.out
        have hms72_1 := NB155_154.out
        have hms72_3 := NB155_162.out
        have hms72_4 := NB155_170.out
        have hms72_5 := NB155_179.out
        refine skip_ (w1 := ?_) (by rfl) rfl ?_ ?_
        rotate_left
        ·go_simp
         rfl
        refine hK.out _ _ ⟨((cell_far (p := ⟨gb155, _, none⟩) NB170_155.out _).trans (((cell_far (p := ⟨gb155, _, none⟩) NB170_155.out _).trans (hHeld.1)))), ((cell_far (p := ⟨gb155, _, none⟩) NB170_155.out _).trans (((cell_far (p := ⟨gb155, _, none⟩) NB170_155.out _).trans (hHeld.2.1)))), ((cell_far (p := ⟨gb155, _, none⟩) NB179_155.out _).trans (((cell_far (p := ⟨gb155, _, none⟩) NB179_155.out _).trans (hHeld.2.2.1)))), ((cell_far (p := ⟨gb155, _, none⟩) NB179_155.out _).trans (((cell_far (p := ⟨gb155, _, none⟩) NB179_155.out _).trans (hHeld.2.2.2))))⟩ (fun hHeld => ?_)
        clear hK K
        refine zG (i := 4) (N := some 6) (v := ?_) (a' := ?_) (bl_ 5 31) rfl rfl (by kernel_rfl) (fun _ _ _ h => h) (Or.inl ⟨by rfl, ?_⟩) ?_ ?_
        rotate_left
        ·intro w'
         go_simp
         with_reducible rfl
        rotate_left
        ·simp only [Act.put, sI_, s0_, s1_, zv, zx]
         rfl
        refine done_ (by kernel_rfl) ?_
        try go_wp2
        refine bodyPost_ret (results_list (rs := [.cell 4 24, .cell 5 24, .tmp 6]) rfl (by simp) (.cell gb154 24 #[.slice Ao46 t164.length co46, .slice Ao52 t167.length co52] (0, 0) _ rfl (by (with_reducible repeat (first | refine ze ?_ _ | refine zg ?_ | refine zd ?_ _)); refine zI ?_ NB154_155.out _; (with_reducible repeat (first | refine ze ?_ _ | refine zg ?_ | refine zd ?_ _)); refine zI ?_ NB154_155.out _; (with_reducible repeat (first | refine ze ?_ _ | refine zg ?_ | refine zd ?_ _)); refine zN (cs := #[.slice Ao46 t164.length co46, .slice none 0 0]) ?_ 1 _ rfl; (with_reducible repeat (first | refine ze ?_ _ | refine zg ?_ | refine zd ?_ _)); refine zN (cs := #[.slice none 0 0, .slice none 0 0]) ?_ 0 _ rfl; (with_reducible repeat (first | refine ze ?_ _ | refine zg ?_ | refine zd ?_ _)); exact BK154.out) Try.underlying24 rfl (by kernel_rfl) (.cell gb155 24 #[.slice Ao58 t173.length co58, .slice Ao65 t176.length co65] (0, 0) _ rfl (by (with_reducible repeat (first | refine ze ?_ _ | refine zg ?_ | refine zd ?_ _)); refine zN (cs := #[.slice Ao58 t173.length co58, .slice none 0 0]) ?_ 1 _ rfl; (with_reducible repeat (first | refine ze ?_ _ | refine zg ?_ | refine zd ?_ _)); refine zN (cs := #[.slice none 0 0, .slice none 0 0]) ?_ 0 _ rfl; (with_reducible repeat (first | refine ze ?_ _ | refine zg ?_ | refine zd ?_ _)); refine zI ?_ NB155_154.out _; (with_reducible repeat (first | refine ze ?_ _ | refine zg ?_ | refine zd ?_ _)); refine zI ?_ NB155_154.out _; (with_reducible repeat (first | refine ze ?_ _ | refine zg ?_ | refine zd ?_ _)); exact BK155.out) Try.underlying24 rfl (by kernel_rfl) (.tmp .nil)))) rfl ?_
        exact ⟨_, _, _, _, by first | rfl | (simp [zz, zA] <;> rfl) | (simp [*, zz, zA] <;> rfl), by (with_reducible repeat (first | apply Kd.zq | apply Kd.zr | apply Kd.zy)); exact Kd.zL (Kd.zS (p := ⟨gb155, 1, none⟩) (Kd.zS (p := ⟨gb155, 0, none⟩) (Kd.zS (p := ⟨gb154, 1, none⟩) (Kd.zS (p := ⟨gb154, 0, none⟩) (Kd.zZ (Kd.zZ HO166.out BK154.out (by decide)) BK155.out (by decide)) (fun _ hk => hk.1.2) (.slice Ao46 t164.length co46)) (fun _ hk => hk.1.2) (.slice Ao52 t167.length co52)) (fun _ hk => hk.2) (.slice Ao58 t173.length co58)) (fun _ hk => hk.2) (.slice Ao65 t176.length co65)) (fun _ hk => ⟨hk.1.1.1, ⟨hk.1.1.2.1, hk.1.1.2.2⟩⟩), by (with_reducible repeat (first | apply Kd.zq | apply Kd.zr | apply Kd.zy)); exact Kd.zL (Kd.zS (p := ⟨gb155, 1, none⟩) (Kd.zS (p := ⟨gb155, 0, none⟩) (Kd.zS (p := ⟨gb154, 1, none⟩) (Kd.zS (p := ⟨gb154, 0, none⟩) (Kd.zZ (Kd.zZ HO169.out BK154.out (by decide)) BK155.out (by decide)) (fun _ hk => hk.1.2) (.slice Ao46 t164.length co46)) (fun _ hk => hk.1.2) (.slice Ao52 t167.length co52)) (fun _ hk => hk.2) (.slice Ao58 t173.length co58)) (fun _ hk => hk.2) (.slice Ao65 t176.length co65)) (fun _ hk => ⟨hk.1.1.1, ⟨hk.1.1.2.1, hk.1.1.2.2⟩⟩), by (with_reducible repeat (first | apply Kd.zq | apply Kd.zr | apply Kd.zy)); exact Kd.zL (Kd.zS (p := ⟨gb155, 1, none⟩) (Kd.zS (p := ⟨gb155, 0, none⟩) (Kd.zS (p := ⟨gb154, 1, none⟩) (Kd.zS (p := ⟨gb154, 0, none⟩) (Kd.zZ (Kd.zZ HO175.out BK154.out (by decide)) BK155.out (by decide)) (fun _ hk => hk.1.2) (.slice Ao46 t164.length co46)) (fun _ hk => hk.1.2) (.slice Ao52 t167.length co52)) (fun _ hk => hk.2) (.slice Ao58 t173.length co58)) (fun _ hk => hk.2) (.slice Ao65 t176.length co65)) (fun _ hk => ⟨hk.1.1.1, ⟨hk.1.1.2.1, hk.1.1.2.2⟩⟩), by (with_reducible repeat (first | apply Kd.zq | apply Kd.zr | apply Kd.zy)); exact Kd.zL (Kd.zS (p := ⟨gb155, 1, none⟩) (Kd.zS (p := ⟨gb155, 0, none⟩) (Kd.zS (p := ⟨gb154, 1, none⟩) (Kd.zS (p := ⟨gb154, 0, none⟩) (Kd.zZ (Kd.zZ HO178.out BK154.out (by decide)) BK155.out (by decide)) (fun _ hk => hk.1.2) (.slice Ao46 t164.length co46)) (fun _ hk => hk.1.2) (.slice Ao52 t167.length co52)) (fun _ hk => hk.2) (.slice Ao58 t173.length co58)) (fun _ hk => hk.2) (.slice Ao65 t176.length co65)) (fun _ hk => ⟨hk.1.1.1, ⟨hk.1.1.2.1, hk.1.1.2.2⟩⟩), by repeat (first | (with_reducible first | exact HB.out | apply zb | apply za | apply zc | refine zf ?_ GE153.out | refine zf ?_ GE154.out | refine zf ?_ GE155.out | refine zf ?_ GE162.out | refine zf ?_ GE170.out | refine zf ?_ GE179.out) | exact HB.out)⟩
      ·rw [if_neg c28] at H
       exact absurd H (by simp)
     ·rw [if_neg c27] at H
      exact absurd H (by simp)
 ·rw [if_neg c4] at H
  have c4b0 : (t156 == 0) = false := beq_eq_false_iff_ne.mpr c4
  have c4b1 : (t156 != 0) = true := bne_iff_ne.mpr c4
  simp only [Option.some.injEq, Prod.mk.injEq] at H
  obtain ⟨rfl, rfl, rfl, rfl, rfl⟩ := H
  go_enter Try.func15, Try.ntmps15
  go_wp2_with (first | ((with_reducible refine zp (N := 2) rfl ?_); refine zw ?hg (N := 2) ?hd (cs := #[.slice A0_0 l0_0.length c0_0, .slice A0_1 l0_1.length c0_1]) (t := 24) ?hr ?_; (case hd => rfl); (case hg => rfl); (case hr => first | (go_simp; done) | (go_simp; rfl)); intro gb153 hg w73 hbox hb; have n0_ := am_ (zj (by repeat (first | (with_reducible first | exact HB.out | apply zb | apply za | apply zc) | exact HB.out)) hb); have n1_ := am_ (hbox); have n2_ := am_ ((by rw [hg]; exact (zk (by repeat (first | (with_reducible first | exact HB.out | apply zb | apply za | apply zc) | exact HB.out))) : w.heap.size ≤ gb153)); have n3_ := am_ ((by rw [hg]; exact (zk (by repeat (first | (with_reducible first | exact HB.out | apply zb | apply za | apply zc) | exact HB.out))) : w.heap.size ≤ gb153)); clear HB; have HB := n0_; have BK153 := n1_; have GW153 := n2_; have GE153 := n3_; clear n0_ n1_ n2_ n3_; clear hb hbox hg) | ((with_reducible refine zp (N := 4) rfl ?_); refine zw ?hg (N := 4) ?hd (cs := #[.slice none 0 0, .slice none 0 0]) (t := 24) ?hr ?_; (case hd => rfl); (case hg => rfl); (case hr => first | (go_simp; done) | (go_simp; rfl)); intro gb154 hg w74 hbox hb; have n0_ := am_ (zm (g := gb153) (o := .cells #[.slice A0_0 l0_0.length c0_0, .slice A0_1 l0_1.length c0_1] 24 (0, 0)) (by (with_reducible repeat (first | refine ze ?_ _ | refine zg ?_ | refine zd ?_ _)); exact BK153.out) hb); have n1_ := am_ (zj (by repeat (first | (with_reducible first | exact HB.out | apply zb | apply za | apply zc | refine zf ?_ GE153.out) | exact HB.out)) hb); have n2_ := am_ (hbox); have n3_ := am_ ((by rw [hg]; exact (zk (by repeat (first | (with_reducible first | exact HB.out | apply zb | apply za | apply zc | refine zf ?_ GE153.out) | exact HB.out))) : w.heap.size ≤ gb154)); have n4_ := am_ ((by rw [hg]; exact (zk (by repeat (first | (with_reducible first | exact HB.out | apply zb | apply za | apply zc | refine zf ?_ GE153.out) | exact HB.out))) : w.heap.size ≤ gb154)); have n5_ := am_ ((by rw [hg]; exact Nat.ne_of_lt (zE (g := gb153) (o := .cells #[.slice A0_0 l0_0.length c0_0, .slice A0_1 l0_1.length c0_1] 24 (0, 0)) (by (with_reducible repeat (first | refine ze ?_ _ | refine zg ?_ | refine zd ?_ _)); exact BK153.out)) : gb153 ≠ gb154)); have n6_ := am_ ((by rw [hg]; exact Nat.ne_of_gt (zE (g := gb153) (o := .cells #[.slice A0_0 l0_0.length c0_0, .slice A0_1 l0_1.length c0_1] 24 (0, 0)) (by (with_reducible repeat (first | refine ze ?_ _ | refine zg ?_ | refine zd ?_ _)); exact BK153.out)) : gb154 ≠ gb153)); clear BK153; clear HB; have BK153 := n0_; have HB := n1_; have BK154 := n2_; have GW154 := n3_; have GE154 := n4_; have NB153_154 := n5_; have NB154_153 := n6_; clear n0_ n1_ n2_ n3_ n4_ n5_ n6_; clear hb hbox hg) | ((with_reducible refine zp (N := 5) rfl ?_); refine zw ?hg (N := 5) ?hd (cs := #[.slice none 0 0, .slice none 0 0]) (t := 24) ?hr ?_; (case hd => rfl); (case hg => rfl); (case hr => first | (go_simp; done) | (go_simp; rfl)); intro gb155 hg w75 hbox hb; have n0_ := am_ (zm (g := gb153) (o := .cells #[.slice A0_0 l0_0.length c0_0, .slice A0_1 l0_1.length c0_1] 24 (0, 0)) (by (with_reducible repeat (first | refine ze ?_ _ | refine zg ?_ | refine zd ?_ _)); exact BK153.out) hb); have n1_ := am_ (zm (g := gb154) (o := .cells #[.slice none 0 0, .slice none 0 0] 24 (0, 0)) (by (with_reducible repeat (first | refine ze ?_ _ | refine zg ?_ | refine zd ?_ _)); exact BK154.out) hb); have n2_ := am_ (zj (by repeat (first | (with_reducible first | exact HB.out | apply zb | apply za | apply zc | refine zf ?_ GE153.out | refine zf ?_ GE154.out) | exact HB.out)) hb); have n3_ := am_ (hbox); have n4_ := am_ ((by rw [hg]; exact (zk (by repeat (first | (with_reducible first | exact HB.out | apply zb | apply za | apply zc | refine zf ?_ GE153.out | refine zf ?_ GE154.out) | exact HB.out))) : w.heap.size ≤ gb155)); have n5_ := am_ ((by rw [hg]; exact (zk (by repeat (first | (with_reducible first | exact HB.out | apply zb | apply za | apply zc | refine zf ?_ GE153.out | refine zf ?_ GE154.out) | exact HB.out))) : w.heap.size ≤ gb155)); have n6_ := am_ ((by rw [hg]; exact Nat.ne_of_lt (zE (g := gb153) (o := .cells #[.slice A0_0 l0_0.length c0_0, .slice A0_1 l0_1.length c0_1] 24 (0, 0)) (by (with_reducible repeat (first | refine ze ?_ _ | refine zg ?_ | refine zd ?_ _)); exact BK153.out)) : gb153 ≠ gb155)); have n7_ := am_ ((by rw [hg]; exact Nat.ne_of_gt (zE (g := gb153) (o := .cells #[.slice A0_0 l0_0.length c0_0, .slice A0_1 l0_1.length c0_1] 24 (0, 0)) (by (with_reducible repeat (first | refine ze ?_ _ | refine zg ?_ | refine zd ?_ _)); exact BK153.out)) : gb155 ≠ gb153)); have n8_ := am_ ((by rw [hg]; exact Nat.ne_of_lt (zE (g := gb154) (o := .cells #[.slice none 0 0, .slice none 0 0] 24 (0, 0)) (by (with_reducible repeat (first | refine ze ?_ _ | refine zg ?_ | refine zd ?_ _)); exact BK154.out)) : gb154 ≠ gb155)); have n9_ := am_ ((by rw [hg]; exact Nat.ne_of_gt (zE (g := gb154) (o := .cells #[.slice none 0 0, .slice none 0 0] 24 (0, 0)) (by (with_reducible repeat (first | refine ze ?_ _ | refine zg ?_ | refine zd ?_ _)); exact BK154.out)) : gb155 ≠ gb154)); clear BK153; clear BK154; clear HB; have BK153 := n0_; have BK154 := n1_; have HB := n2_; have BK155 := n3_; have GW155 := n4_; have GE155 := n5_; have NB153_155 := n6_; have NB155_153 := n7_; have NB154_155 := n8_; have NB155_154 := n9_; clear n0_ n1_ n2_ n3_ n4_ n5_ n6_ n7_ n8_ n9_; clear hb hbox hg; have hnb76 := NB153_154.out; have hnc76 := NB154_153.out; have hnb77 := NB153_155.out; have hnc77 := NB155_153.out; have hcz78_0 : w75.cell? ⟨gb153, 0, none⟩ = some (.slice A0_0 l0_0.length c0_0) := (zi BK153.out 0).trans rfl; have hcz78_1 : w75.cell? ⟨gb153, 1, none⟩ = some (.slice A0_1 l0_1.length c0_1) := (zi BK153.out 1).trans rfl; have hfz78_0 := zh BK153.out 0; have hfz78_1 := zh BK153.out 1) | ((with_reducible refine zR (f := 17) rfl ?_); refine goesL_ (some 17) rfl rfl Try.func17 (by kernel_rfl) rfl #[.agg #[.slice A0_0 l0_0.length c0_0, .slice A0_1 l0_1.length c0_1], .int .i64 (l0_0.length : Int)] rfl (by (try simp only [List.map_toArray, List.map_cons, List.map_nil]); first | done | rfl | (simp only [List.length_drop, List.length_take]; rfl)) ?_; (with_reducible refine (zt.calls k _ _ l0_0 _ _ l0_1 (l0_0.length : Int) t156 _ ?side1 ?side2 ?side3 ?side4 A3.out).mono ?_); (case side1 => repeat (first | exact (Kd.zM HR0_0.out HB.out) | (with_reducible refine Kd.z3 ?_ _) | (with_reducible refine Kd.z2 ?_ _) | (with_reducible refine Kd.zae ?_))); (case side2 => exact HC0_0.out); (case side3 => repeat (first | exact (Kd.zM HR0_1.out HB.out) | (with_reducible refine Kd.z3 ?_ _) | (with_reducible refine Kd.z2 ?_ _) | (with_reducible refine Kd.zae ?_))); (case side4 => exact HC0_1.out); rintro e w79 ⟨rfl, hb⟩; refine ⟨_, rfl, ?_⟩; have n0_ := am_ (zm (g := gb153) (o := .cells #[.slice A0_0 l0_0.length c0_0, .slice A0_1 l0_1.length c0_1] 24 (0, 0)) (by (with_reducible repeat (first | refine ze ?_ _ | refine zg ?_ | refine zd ?_ _)); exact BK153.out) hb); have n1_ := am_ (zm (g := gb154) (o := .cells #[.slice none 0 0, .slice none 0 0] 24 (0, 0)) (by (with_reducible repeat (first | refine ze ?_ _ | refine zg ?_ | refine zd ?_ _)); exact BK154.out) hb); have n2_ := am_ (zm (g := gb155) (o := .cells #[.slice none 0 0, .slice none 0 0] 24 (0, 0)) (by (with_reducible repeat (first | refine ze ?_ _ | refine zg ?_ | refine zd ?_ _)); exact BK155.out) hb); have n3_ := am_ (zj (by repeat (first | (with_reducible first | exact HB.out | apply zb | apply za | apply zc | refine zf ?_ GE153.out | refine zf ?_ GE154.out | refine zf ?_ GE155.out) | exact HB.out)) hb); clear BK153; clear BK154; clear BK155; clear HB; have BK153 := n0_; have BK154 := n1_; have BK155 := n2_; have HB := n3_; clear n0_ n1_ n2_ n3_; (try clear hb); (try clear hb2); (try clear hk); (try clear hi); have hnb80 := NB154_155.out; have hnc80 := NB155_154.out; have hcz81_0 : w79.cell? ⟨gb154, 0, none⟩ = some (.slice none 0 0) := (zi BK154.out 0).trans rfl; have hcz81_1 : w79.cell? ⟨gb154, 1, none⟩ = some (.slice none 0 0) := (zi BK154.out 1).trans rfl; have hfz81_0 := zh BK154.out 0; have hfz81_1 := zh BK154.out 1; have hcz82_0 : w79.cell? ⟨gb155, 0, none⟩ = some (.slice none 0 0) := (zi BK155.out 0).trans rfl; have hcz82_1 : w79.cell? ⟨gb155, 1, none⟩ = some (.slice none 0 0) := (zi BK155.out 1).trans rfl; have hfz82_0 := zh BK155.out 0; have hfz82_1 := zh BK155.out 1))
  refine bodyPost_ret (results_list (rs := [.cell 4 24, .cell 5 24, .tmp 6]) rfl (by simp) (.cell gb154 24 #[.slice none 0 0, .slice none 0 0] (0, 0) _ rfl (by (with_reducible repeat (first | refine ze ?_ _ | refine zg ?_ | refine zd ?_ _)); refine zI ?_ NB154_155.out _; (with_reducible repeat (first | refine ze ?_ _ | refine zg ?_ | refine zd ?_ _)); refine zI ?_ NB154_155.out _; (with_reducible repeat (first | refine ze ?_ _ | refine zg ?_ | refine zd ?_ _)); refine zN (cs := #[.slice none 0 0, .slice none 0 0]) ?_ 1 _ rfl; (with_reducible repeat (first | refine ze ?_ _ | refine zg ?_ | refine zd ?_ _)); refine zN (cs := #[.slice none 0 0, .slice none 0 0]) ?_ 0 _ rfl; (with_reducible repeat (first | refine ze ?_ _ | refine zg ?_ | refine zd ?_ _)); exact BK154.out) Try.underlying24 rfl (by kernel_rfl) (.cell gb155 24 #[.slice none 0 0, .slice none 0 0] (0, 0) _ rfl (by (with_reducible repeat (first | refine ze ?_ _ | refine zg ?_ | refine zd ?_ _)); refine zN (cs := #[.slice none 0 0, .slice none 0 0]) ?_ 1 _ rfl; (with_reducible repeat (first | refine ze ?_ _ | refine zg ?_ | refine zd ?_ _)); refine zN (cs := #[.slice none 0 0, .slice none 0 0]) ?_ 0 _ rfl; (with_reducible repeat (first | refine ze ?_ _ | refine zg ?_ | refine zd ?_ _)); refine zI ?_ NB155_154.out _; (with_reducible repeat (first | refine ze ?_ _ | refine zg ?_ | refine zd ?_ _)); refine zI ?_ NB155_154.out _; (with_reducible repeat (first | refine ze ?_ _ | refine zg ?_ | refine zd ?_ _)); exact BK155.out) Try.underlying24 rfl (by kernel_rfl) (.tmp .nil)))) rfl ?_
  exact ⟨_, _, _, _, by first | rfl | (simp [zz, zA] <;> rfl) | (simp [*, zz, zA] <;> rfl), by first | exact Kd.R_nil _ _ _ _ _ | exact Kd.N_nil _ _ _ _ _ | exact Kd.V_nil _ _ _ _ _ | exact Kd.Q_nil _ _ _ _ _ | exact Kd.S_nil _ _ _ _ _, by first | exact Kd.R_nil _ _ _ _ _ | exact Kd.N_nil _ _ _ _ _ | exact Kd.V_nil _ _ _ _ _ | exact Kd.Q_nil _ _ _ _ _ | exact Kd.S_nil _ _ _ _ _, by first | exact Kd.R_nil _ _ _ _ _ | exact Kd.N_nil _ _ _ _ _ | exact Kd.V_nil _ _ _ _ _ | exact Kd.Q_nil _ _ _ _ _ | exact Kd.S_nil _ _ _ _ _, by first | exact Kd.R_nil _ _ _ _ _ | exact Kd.N_nil _ _ _ _ _ | exact Kd.V_nil _ _ _ _ _ | exact Kd.Q_nil _ _ _ _ _ | exact Kd.S_nil _ _ _ _ _, by repeat (first | (with_reducible first | exact HB.out | apply zb | apply za | apply zc | refine zf ?_ GE153.out | refine zf ?_ GE154.out | refine zf ?_ GE155.out) | exact HB.out)⟩
end Go.Proofs.Ytlidbaejhmamjaa.PB

namespace Go.Proofs.Ytlidbaejhmamjaa.PB
open Go.RowKit Go.Proofs.YtlidbaejhmamjaaW.PrintWords Go.Proofs.YtlidbaejhmamjaaW.PrintLast Go.Proofs.YtlidbaejhmamjaaW.PrintMore
attribute [local go_sem] zX zU z7 z8 zO zP zW zT   -- for this text's walks alone
set_option linter.unusedVariables false
set_option linter.unusedSimpArgs false
def zao.l0 : Nat → Int → List Int → Int → Int → Option (Int × Int)
 | 0, _, _, _, _ => none
 | k + 1, x4, x14, x15, x16 => if x16 < x15 then (if 0 ≤ x16 then (if x16 < (x14.length : Int) then (zao.l0 k (wrap64 (x4 + (rd x14 x16))) x14 x15 (wrap64 (x16 + 1))) else (none)) else (none)) else (some (x4, 0))
def zao.f (k : Nat) (l0_0 : List Int) (l0_1 : List Int) : Option (Int × Int) := (zt.f k l0_0 l0_1 (l0_0.length : Int)).bind fun t182 => (if t182 = 0 then (zao.l0 k 0 l0_0 (l0_0.length : Int) 0) else (some (0, 180)))
set_option maxHeartbeats 8000000 in
set_option maxRecDepth 100000 in
theorem zao.calls (k : Nat) (A0_0 : Option Addr) (c0_0 : Nat) (l0_0 : List Int) (A0_1 : Option Addr) (c0_1 : Nat) (l0_1 : List Int) (r1 : Int) (r2 : Int) (w : World) (hr0_0 : Kd.C (Kd.int .i64) w A0_0 l0_0.length l0_0) (hc0_0 : l0_0.length ≤ c0_0) (hr0_1 : Kd.C (Kd.int .i64) w A0_1 l0_1.length l0_1) (hc0_1 : l0_1.length ≤ c0_1) (h : zao.f k l0_0 l0_1 = some (r1, r2)) :
  Calls Try.prog 19 #[.agg #[.slice A0_0 l0_0.length c0_0, .slice A0_1 l0_1.length c0_1]] w fun e w' => e = .returned (.tuple #[.int .i64 r1, .int .i64 r2]) ∧ Below w.heap.size w w' := by
 have hu24 := Try.underlying24
 have HR0_0 := am_ hr0_0
 have HC0_0 := am_ hc0_0
 clear hr0_0 hc0_0
 have HR0_1 := am_ hr0_1
 have HC0_1 := am_ hc0_1
 clear hr0_1 hc0_1
 have HB := am_ (Below.refl w.heap.size w)
 have H : ((zt.f k l0_0 l0_1 (l0_0.length : Int)).bind fun t182 => (if t182 = 0 then (zao.l0 k 0 l0_0 (l0_0.length : Int) 0) else (some (0, 180)))) = some (r1, r2) := h
 clear h
 replace H := Option.bind_eq_some_iff.mp H
 obtain ⟨t182, A20, H⟩ := H
 replace H : (if t182 = 0 then (zao.l0 k 0 l0_0 (l0_0.length : Int) 0) else (some (0, 180))) = some (r1, r2) := H
 have A2 := am_ A20
 clear A20
 by_cases c3 : t182 = 0
 ·rw [if_pos c3] at H
  have c3b0 : (t182 == 0) = true := beq_iff_eq.mpr c3
  have c3b1 : (t182 != 0) = false := bne_eq_false_iff_eq.mpr c3
  clear c3
  have H' := am_ H
  clear H
  go_enter Try.func19, Try.ntmps19
  go_wp2_with (first | ((with_reducible refine zp (N := 1) rfl ?_); refine zw ?hg (N := 1) ?hd (cs := #[.slice A0_0 l0_0.length c0_0, .slice A0_1 l0_1.length c0_1]) (t := 24) ?hr ?_; (case hd => rfl); (case hg => rfl); (case hr => first | (go_simp; done) | (go_simp; rfl)); intro gb181 hg w4 hbox hb; have n0_ := am_ (zj (by repeat (first | (with_reducible first | exact HB.out | apply zb | apply za | apply zc) | exact HB.out)) hb); have n1_ := am_ (hbox); have n2_ := am_ ((by rw [hg]; exact (zk (by repeat (first | (with_reducible first | exact HB.out | apply zb | apply za | apply zc) | exact HB.out))) : w.heap.size ≤ gb181)); have n3_ := am_ ((by rw [hg]; exact (zk (by repeat (first | (with_reducible first | exact HB.out | apply zb | apply za | apply zc) | exact HB.out))) : w.heap.size ≤ gb181)); clear HB; have HB := n0_; have BK181 := n1_; have GW181 := n2_; have GE181 := n3_; clear n0_ n1_ n2_ n3_; clear hb hbox hg; have hcz5_0 : w4.cell? ⟨gb181, 0, none⟩ = some (.slice A0_0 l0_0.length c0_0) := (zi BK181.out 0).trans rfl; have hcz5_1 : w4.cell? ⟨gb181, 1, none⟩ = some (.slice A0_1 l0_1.length c0_1) := (zi BK181.out 1).trans rfl; have hfz5_0 := zh BK181.out 0; have hfz5_1 := zh BK181.out 1) | ((with_reducible refine zR (f := 17) rfl ?_); refine goesL_ (some 11) rfl rfl Try.func17 (by kernel_rfl) rfl #[.agg #[.slice A0_0 l0_0.length c0_0, .slice A0_1 l0_1.length c0_1], .int .i64 (l0_0.length : Int)] rfl (by (try simp only [List.map_toArray, List.map_cons, List.map_nil]); first | done | rfl | (simp only [List.length_drop, List.length_take]; rfl)) ?_; (with_reducible refine (zt.calls k _ _ l0_0 _ _ l0_1 (l0_0.length : Int) t182 _ ?side1 ?side2 ?side3 ?side4 A2.out).mono ?_); (case side1 => repeat (first | exact (Kd.zM HR0_0.out HB.out) | (with_reducible refine Kd.z3 ?_ _) | (with_reducible refine Kd.z2 ?_ _) | (with_reducible refine Kd.zae ?_))); (case side2 => exact HC0_0.out); (case side3 => repeat (first | exact (Kd.zM HR0_1.out HB.out) | (with_reducible refine Kd.z3 ?_ _) | (with_reducible refine Kd.z2 ?_ _) | (with_reducible refine Kd.zae ?_))); (case side4 => exact HC0_1.out); rintro e w6 ⟨rfl, hb⟩; refine ⟨_, rfl, ?_⟩; have n0_ := am_ (zm (g := gb181) (o := .cells #[.slice A0_0 l0_0.length c0_0, .slice A0_1 l0_1.length c0_1] 24 (0, 0)) (by (with_reducible repeat (first | refine ze ?_ _ | refine zg ?_ | refine zd ?_ _)); exact BK181.out) hb); have n1_ := am_ (zj (by repeat (first | (with_reducible first | exact HB.out | apply zb | apply za | apply zc | refine zf ?_ GE181.out) | exact HB.out)) hb); clear BK181; clear HB; have BK181 := n0_; have HB := n1_; clear n0_ n1_; (try clear hb); (try clear hb2); (try clear hk); (try clear hi); have hcz7_0 : w6.cell? ⟨gb181, 0, none⟩ = some (.slice A0_0 l0_0.length c0_0) := (zi BK181.out 0).trans rfl; have hcz7_1 : w6.cell? ⟨gb181, 1, none⟩ = some (.slice A0_1 l0_1.length c0_1) := (zi BK181.out 1).trans rfl; have hfz7_0 := zh BK181.out 0; have hfz7_1 := zh BK181.out 1))
  go_loopg [4, 16] k (fun kq v4 v16 w' => ∃ (x4_1 : Int) (x16_1 : Int), v4 = .int .i64 x4_1 ∧ v16 = .int .i64 x16_1 ∧ Aside0 (zao.l0 kq x4_1 l0_0 (l0_0.length : Int) x16_1 = some (r1, r2)) ∧ Aside0 (kq ≤ k) ∧ Aside0 (w'.heap[gb181]? = some (.cells #[(.slice A0_0 l0_0.length c0_0), (.slice A0_1 l0_1.length c0_1)] 24 (0, 0))) ∧ Aside0 (Below w.heap.size w w'))
  case atStart => exact ⟨(0), (0), (by first | rfl | (simp; done) | (simp [*]; done)), (by first | rfl | (simp; done) | (simp [*]; done)), H', ⟨Nat.le_refl _⟩, ⟨by (with_reducible repeat (first | refine ze ?_ _ | refine zg ?_ | refine zd ?_ _)); exact BK181.out⟩, ⟨by repeat (first | (with_reducible first | exact HB.out | apply zb | apply za | apply zc | refine zf ?_ GE181.out) | exact HB.out)⟩⟩
  case round =>
   clear H'
   try clear c1
   try clear p2
   try clear c3
   try clear c3b0
   try clear c3b1
   try clear hcz5_0
   try clear hcz5_1
   try clear hcz7_0
   try clear hcz7_1
   try clear hfz5_0
   try clear hfz5_1
   try clear hfz7_0
   try clear hfz7_1
   obtain ⟨x4_1, x16_1, rfl, rfl, HA, HK1, BK181, HB⟩ := hrel
   cases gk with
   | zero => exact absurd HA.out (by simp [zao.l0])
   | succ k1 =>
    have H := HA.out
    clear HA
    simp only [zao.l0] at H
    by_cases c8 : x16_1 < (l0_0.length : Int)
    ·rw [if_pos c8] at H
     have c8b0 : decide (x16_1 < (l0_0.length : Int)) = true := decide_eq_true c8
     clear c8
     by_cases c9 : 0 ≤ x16_1
     ·rw [if_pos c9] at H
      have c9b0 : decide (0 ≤ x16_1) = true := decide_eq_true c9
      clear c9
      by_cases c10 : x16_1 < (l0_0.length : Int)
      ·rw [if_pos c10] at H
       have c10b0 : decide (x16_1 < (l0_0.length : Int)) = true := decide_eq_true c10
       clear c10
       have H' := am_ H
       clear H
       have p183 : 0 ≤ (x16_1 : Int) := of_decide_eq_true (by first | (with_reducible assumption) | assumption)
       have q183 : x16_1 < (l0_0.length : Int) := of_decide_eq_true (by first | (with_reducible assumption) | assumption)
       obtain ⟨ad183, e183, hx183_0⟩ := Kd.at_int HR0_0.out x16_1 p183 q183
       cases e183
       replace hx183_0 := (HB.out.cell (World.block_lt_of_cell? w _ hx183_0)).trans hx183_0
       replace p183 := eq_true p183
       replace q183 := eq_true q183
       go_wp2
       go_roundg k1
       case measure => have := HK1.out; omega
       case rel => exact ⟨(wrap64 (x4_1 + (rd l0_0 x16_1))), (wrap64 (x16_1 + 1)), (by first | rfl | (simp; done) | (simp [*]; done)), (by first | rfl | (simp; done) | (simp [*]; done)), H', ⟨by have := HK1.out; omega⟩, ⟨by (with_reducible repeat (first | refine ze ?_ _ | refine zg ?_ | refine zd ?_ _)); exact BK181.out⟩, ⟨by repeat (first | (with_reducible first | exact HB.out | apply zb | apply za | apply zc | refine zf ?_ GE181.out) | exact HB.out)⟩⟩
      ·rw [if_neg c10] at H
       exact absurd H (by simp)
     ·rw [if_neg c9] at H
      exact absurd H (by simp)
    ·rw [if_neg c8] at H
     have c8b0 : decide (x16_1 < (l0_0.length : Int)) = false := decide_eq_false c8
     clear c8
     simp only [Option.some.injEq, Prod.mk.injEq] at H
     obtain ⟨rfl, rfl⟩ := H
     go_wp2
     go_ret2
     exact ⟨by first | rfl | (simp [zz, zA] <;> rfl) | (simp [*, zz, zA] <;> rfl), by repeat (first | (with_reducible first | exact HB.out | apply zb | apply za | apply zc | refine zf ?_ GE181.out) | exact HB.out)⟩
 ·rw [if_neg c3] at H
  have c3b0 : (t182 == 0) = false := beq_eq_false_iff_ne.mpr c3
  have c3b1 : (t182 != 0) = true := bne_iff_ne.mpr c3
  simp only [Option.some.injEq, Prod.mk.injEq] at H
  obtain ⟨rfl, rfl⟩ := H
  go_enter Try.func19, Try.ntmps19
  go_wp2_with (first | ((with_reducible refine zp (N := 1) rfl ?_); refine zw ?hg (N := 1) ?hd (cs := #[.slice A0_0 l0_0.length c0_0, .slice A0_1 l0_1.length c0_1]) (t := 24) ?hr ?_; (case hd => rfl); (case hg => rfl); (case hr => first | (go_simp; done) | (go_simp; rfl)); intro gb181 hg w11 hbox hb; have n0_ := am_ (zj (by repeat (first | (with_reducible first | exact HB.out | apply zb | apply za | apply zc) | exact HB.out)) hb); have n1_ := am_ (hbox); have n2_ := am_ ((by rw [hg]; exact (zk (by repeat (first | (with_reducible first | exact HB.out | apply zb | apply za | apply zc) | exact HB.out))) : w.heap.size ≤ gb181)); have n3_ := am_ ((by rw [hg]; exact (zk (by repeat (first | (with_reducible first | exact HB.out | apply zb | apply za | apply zc) | exact HB.out))) : w.heap.size ≤ gb181)); clear HB; have HB := n0_; have BK181 := n1_; have GW181 := n2_; have GE181 := n3_; clear n0_ n1_ n2_ n3_; clear hb hbox hg; have hcz12_0 : w11.cell? ⟨gb181, 0, none⟩ = some (.slice A0_0 l0_0.length c0_0) := (zi BK181.out 0).trans rfl; have hcz12_1 : w11.cell? ⟨gb181, 1, none⟩ = some (.slice A0_1 l0_1.length c0_1) := (zi BK181.out 1).trans rfl; have hfz12_0 := zh BK181.out 0; have hfz12_1 := zh BK181.out 1) | ((with_reducible refine zR (f := 17) rfl ?_); refine goesL_ (some 11) rfl rfl Try.func17 (by kernel_rfl) rfl #[.agg #[.slice A0_0 l0_0.length c0_0, .slice A0_1 l0_1.length c0_1], .int .i64 (l0_0.length : Int)] rfl (by (try simp only [List.map_toArray, List.map_cons, List.map_nil]); first | done | rfl | (simp only [List.length_drop, List.length_take]; rfl)) ?_; (with_reducible refine (zt.calls k _ _ l0_0 _ _ l0_1 (l0_0.length : Int) t182 _ ?side1 ?side2 ?side3 ?side4 A2.out).mono ?_); (case side1 => repeat (first | exact (Kd.zM HR0_0.out HB.out) | (with_reducible refine Kd.z3 ?_ _) | (with_reducible refine Kd.z2 ?_ _) | (with_reducible refine Kd.zae ?_))); (case side2 => exact HC0_0.out); (case side3 => repeat (first | exact (Kd.zM HR0_1.out HB.out) | (with_reducible refine Kd.z3 ?_ _) | (with_reducible refine Kd.z2 ?_ _) | (with_reducible refine Kd.zae ?_))); (case side4 => exact HC0_1.out); rintro e w13 ⟨rfl, hb⟩; refine ⟨_, rfl, ?_⟩; have n0_ := am_ (zm (g := gb181) (o := .cells #[.slice A0_0 l0_0.length c0_0, .slice A0_1 l0_1.length c0_1] 24 (0, 0)) (by (with_reducible repeat (first | refine ze ?_ _ | refine zg ?_ | refine zd ?_ _)); exact BK181.out) hb); have n1_ := am_ (zj (by repeat (first | (with_reducible first | exact HB.out | apply zb | apply za | apply zc | refine zf ?_ GE181.out) | exact HB.out)) hb); clear BK181; clear HB; have BK181 := n0_; have HB := n1_; clear n0_ n1_; (try clear hb); (try clear hb2); (try clear hk); (try clear hi)))
  go_ret2
  exact ⟨by first | rfl | (simp [zz, zA] <;> rfl) | (simp [*, zz, zA] <;> rfl), by repeat (first | (with_reducible first | exact HB.out | apply zb | apply za | apply zc | refine zf ?_ GE181.out) | exact HB.out)⟩
end Go.Proofs.Ytlidbaejhmamjaa.PB

namespace Go.Proofs.Ytlidbaejhmamjaa.PB
open Go.RowKit Go.Proofs.YtlidbaejhmamjaaW.PrintWords Go.Proofs.YtlidbaejhmamjaaW.PrintLast Go.Proofs.YtlidbaejhmamjaaW.PrintMore
attribute [local go_sem] zX zU z7 z8 zO zP zW zT   -- for this text's walks alone
set_option linter.unusedVariables false
set_option linter.unusedSimpArgs false
mutual
def zB.j0 : Nat → List Int → Option (Int)
 | 0, _ => none
 | k + 1, x0 => if 0 < (x0.length : Int) then (zB.l0 k x0 (rd x0 0) 1) else (none)
def zB.l0 : Nat → List Int → Int → Int → Option (Int)
 | 0, _, _, _ => none
 | k + 1, x0, x3, x4 => if x4 < (x0.length : Int) then (if 0 ≤ x4 then (zB.l0 k x0 (mx x3 (rd x0 x4)) (wrap64 (x4 + 1))) else (none)) else (some x3)
end
def zB.f (k : Nat) (l0 : List Int) : Option (Int) := if (l0.length : Int) < 1 then (zB.j0 k l0) else (zB.j0 k l0)
set_option maxHeartbeats 8000000 in
set_option maxRecDepth 100000 in
theorem zB.calls (k : Nat) (A0 : Option Addr) (c0 : Nat) (l0 : List Int) (r : Int) (w : World) (hr0 : Kd.C (Kd.int .i64) w A0 l0.length l0) (hc0 : l0.length ≤ c0) (h : zB.f k l0 = some r) :
  Calls Try.prog 41 #[.slice A0 l0.length c0] w fun e w' => e = .returned (.int .i64 r) ∧ Below w.heap.size w w' := by
 have HR0 := am_ hr0
 have HC0 := am_ hc0
 clear hr0 hc0
 have HB := am_ (Below.refl w.heap.size w)
 have H : (if (l0.length : Int) < 1 then (zB.j0 k l0) else (zB.j0 k l0)) = some r := h
 clear h
 have HC2 := am_ H
 clear H
 go_enter Try.func41, Try.ntmps41
 go_upto_if 7 with (fail)
 go_cut [] (fun wc => ∃ (kq : Nat), Aside0 (zB.j0 kq l0 = some r) ∧ Aside0 (kq ≤ k) ∧ Aside0 (Below w.heap.size w wc))
 case first =>
  have H := HC2.out
  clear HC2
  by_cases c3 : (l0.length : Int) < 1
  ·rw [if_pos c3] at H
   exfalso
   cases k with
   | zero => exact absurd H (by simp [zB.j0])
   | succ k => simp only [zB.j0] at H; rw [if_neg (by omega)] at H; exact absurd H (by simp)
  ·rw [if_neg c3] at H
   have c3b0 : decide ((l0.length : Int) < 1) = false := decide_eq_false c3
   have c3b1 : decide (l0.length < 1) = false := decide_eq_false (by omega)
   clear c3
   (first | rw [c3b0] | (simp only [zv, zx]; rw [c3b0]) | skip)
   have H' := am_ H
   clear H
   go_wp2
   go_meet
   case rel => exact ⟨_, H', ⟨by first | omega | exact Nat.le_refl _⟩, ⟨by repeat (first | (with_reducible first | exact HB.out | apply zb | apply za | apply zc) | exact HB.out)⟩⟩
 case rest =>
  clear HC2
  try clear p2
  try clear c3
  try clear c3b0
  try clear c3b1
  obtain ⟨kq, HA, HJ1, HB⟩ := hcut
  cases kq with
  | zero => exact absurd HA.out (by simp [zB.j0])
  | succ kj1 =>
   have H := HA.out
   clear HA
   simp only [zB.j0] at H
   by_cases c4 : 0 < (l0.length : Int)
   ·rw [if_pos c4] at H
    have c4b0 : decide (0 < (l0.length : Int)) = true := decide_eq_true c4
    have c4b1 : decide (0 < l0.length) = true := decide_eq_true (by omega)
    clear c4
    have H' := am_ H
    clear H
    have p184 : 0 ≤ (0 : Int) := (by omega)
    have q184 : 0 < (l0.length : Int) := of_decide_eq_true (by first | (with_reducible assumption) | assumption)
    obtain ⟨ad184, e184, hx184_0⟩ := Kd.at_int HR0.out 0 p184 q184
    cases e184
    have qi184 : (0 < l0.length) = True := eq_true (by omega)
    (try rw [show ((0 : Int)).toNat = 0 from rfl] at hx184_0)
    (try rw [Addr.add_zero'] at hx184_0)
    replace hx184_0 := (HB.out.cell (World.block_lt_of_cell? w _ hx184_0)).trans hx184_0
    replace p184 := eq_true p184
    replace q184 := eq_true q184
    go_wp2
    go_loopg [3, 4] kj1 (fun kq v3 v4 w' => ∃ (x3_2 : Int) (x4_2 : Int), v3 = .int .i64 x3_2 ∧ v4 = .int .i64 x4_2 ∧ Aside0 (zB.l0 kq l0 x3_2 x4_2 = some r) ∧ Aside0 (kq ≤ kj1) ∧ Aside0 (Below w.heap.size w w'))
    case atStart => exact ⟨(rd l0 0), (1), (by first | rfl | (simp; done) | (simp [*]; done)), (by first | rfl | (simp; done) | (simp [*]; done)), H', ⟨Nat.le_refl _⟩, ⟨by repeat (first | (with_reducible first | exact HB.out | apply zb | apply za | apply zc) | exact HB.out)⟩⟩
    case round =>
     clear H'
     try clear p1
     try clear q1
     try clear hx1
     try clear qi1
     try clear p2
     try clear c3
     try clear c3b0
     try clear c3b1
     try clear c4
     try clear c4b0
     try clear c4b1
     try clear hx184_0
     try clear p184
     try clear p2
     try clear q184
     obtain ⟨x3_2, x4_2, rfl, rfl, HA, HK2, HB⟩ := hrel
     cases gk with
     | zero => exact absurd HA.out (by simp [zB.l0])
     | succ k2 =>
      have H := HA.out
      clear HA
      simp only [zB.l0] at H
      by_cases c5 : x4_2 < (l0.length : Int)
      ·rw [if_pos c5] at H
       have c5b0 : decide (x4_2 < (l0.length : Int)) = true := decide_eq_true c5
       clear c5
       by_cases c6 : 0 ≤ x4_2
       ·rw [if_pos c6] at H
        have c6b0 : decide (0 ≤ x4_2) = true := decide_eq_true c6
        clear c6
        obtain ⟨ji7, hji7⟩ : ∃ j_ : Int, (mx x3_2 (rd l0 x4_2)) = j_ := ⟨_, rfl⟩
        replace H : (zB.l0 k2 l0 ji7 (wrap64 (x4_2 + 1))) = some r := by first | (rw [hji7] at H; exact H) | (simp only [hji7] at H ⊢; exact H)
        have hji7_ : (if x3_2 < (rd l0 x4_2) then (rd l0 x4_2) else x3_2) = ji7 := hji7
        have H' := am_ H
        clear H
        have p185 : 0 ≤ (x4_2 : Int) := of_decide_eq_true (by first | (with_reducible assumption) | assumption)
        have q185 : x4_2 < (l0.length : Int) := of_decide_eq_true (by first | (with_reducible assumption) | assumption)
        obtain ⟨ad185, e185, hx185_0⟩ := Kd.at_int HR0.out x4_2 p185 q185
        obtain rfl : ad184 = ad185 := (by injection e185)
        replace hx185_0 := (HB.out.cell (World.block_lt_of_cell? w _ hx185_0)).trans hx185_0
        replace p185 := eq_true p185
        replace q185 := eq_true q185
        go_wp2
        go_roundg k2
        case measure => have := HJ1.out; have := HK2.out; omega
        case rel => exact ⟨(ji7), (wrap64 (x4_2 + 1)), (by first | rfl | (simp; done) | (simp only [← hji7] <;> (first | rfl | simp)) | (simp [*]; done)), (by first | rfl | (simp; done) | (simp [*]; done)), H', ⟨by have := HJ1.out; have := HK2.out; omega⟩, ⟨by repeat (first | (with_reducible first | exact HB.out | apply zb | apply za | apply zc) | exact HB.out)⟩⟩
       ·rw [if_neg c6] at H
        exact absurd H (by simp)
      ·rw [if_neg c5] at H
       have c5b0 : decide (x4_2 < (l0.length : Int)) = false := decide_eq_false c5
       clear c5
       obtain rfl := Option.some.inj H
       go_wp2
       go_ret
       exact ⟨by first | rfl | (simp [zz, zA] <;> rfl) | (simp [*, zz, zA] <;> rfl), by repeat (first | (with_reducible first | exact HB.out | apply zb | apply za | apply zc) | exact HB.out)⟩
   ·rw [if_neg c4] at H
    exact absurd H (by simp)
end Go.Proofs.Ytlidbaejhmamjaa.PB

namespace Go.Proofs.Ytlidbaejhmamjaa.PB
open Go.RowKit Go.Proofs.YtlidbaejhmamjaaW.PrintWords Go.Proofs.YtlidbaejhmamjaaW.PrintLast Go.Proofs.YtlidbaejhmamjaaW.PrintMore
attribute [local go_sem] zX zU z7 z8 zO zP zW zT   -- for this text's walks alone
set_option linter.unusedVariables false
set_option linter.unusedSimpArgs false
mutual
def zD.l0 : Nat → List Int → Int → List Int → Int → Int → List Int → List Int → Option (List Int × Int)
 | 0, _, _, _, _, _, _, _ => none
 | k + 1, x1, x2, x25, x26, x27, x187000, x187001 => if x27 < x26 then (if 0 ≤ x27 then (if x27 < (x25.length : Int) then (if (rd x25 x27) < (-1) then (some (([] : List Int), 1)) else (if (rd x25 x27) > 1 then (some (([] : List Int), 1)) else (zD.l0 k x1 x2 x25 x26 (wrap64 (x27 + 1)) x187000 x187001))) else (none)) else (none)) else (if x2 < 0 then (zD.j1 k x1 x2 true x187000 x187001) else (if x2 > 8 then (zD.j1 k x1 x2 true x187000 x187001) else (if (x187000.length : Int) > 0 then ((zB.f k x187000).bind fun t189 => (zD.j1 k x1 x2 (decide (x2 < t189)) x187000 x187001)) else (zD.j1 k x1 x2 false x187000 x187001))))
def zD.j1 : Nat → List Int → Int → Bool → List Int → List Int → Option (List Int × Int)
 | 0, _, _, _, _, _ => none
 | k + 1, x1, x2, x56, x187000, x187001 => if x56 = true then (some (([] : List Int), 1)) else (if 0 ≤ (x1.length : Int) then (if ((x1.length : Int) : Int).toNat ≤ 35184372088832 then ((zF.f k x187000 x187001).bind fun t193 => (zD.l1 k x1 x2 (List.replicate ((x1.length : Int) : Int).toNat 0) t193 (t193.length : Int) 0)) else (none)) else (none))
def zD.l1 : Nat → List Int → Int → List Int → List (S90) → Int → Int → Option (List Int × Int)
 | 0, _, _, _, _, _, _ => none
 | k + 1, x1, x2, x10, x61, x62, x63 => if x63 < x62 then (if 0 ≤ x63 then (if x63 < (x61.length : Int) then (if 0 ≤ x2 then (if x63 < (x1.length : Int) then (if 0 ≤ (wrap64 (x2 - ((zl x61 x63).f0))) then (if x63 < (x10.length : Int) then (zD.l1 k x1 x2 (x10.set (x63 : Int).toNat (wrap64 ((shl .i64 (-1) x2) + (shl .i64 (wrap64 ((wrap64 ((wrap64 (2 * ((zl x61 x63).f1))) + 1)) + (rd x1 x63))) (wrap64 (x2 - ((zl x61 x63).f0))))))) x61 x62 (wrap64 (x63 + 1))) else (none)) else (none)) else (none)) else (none)) else (none)) else (none)) else (some (x10, 0))
end
def zD.f (k : Nat) (l0_0 : List Int) (l0_1 : List Int) (l1 : List Int) (a2 : Int) : Option (List Int × Int) := (zt.f k l0_0 l0_1 (l0_0.length : Int)).bind fun t187 => (if t187 = 0 then (if (l1.length : Int) = (l0_0.length : Int) then (zD.l0 k l1 a2 l1 (l1.length : Int) 0 l0_0 l0_1) else (some (([] : List Int), 63))) else (some (([] : List Int), 180)))
def zD.T17 : Bool × List (List Nat × List Nat) := (true, [([], []), ([], []), ([], []), ([2], [2]), ([], []), ([4], [4]), ([5], [5]), ([6], [6]), ([], []), ([], []), ([8, 9], [8, 9]), ([10], [10]), ([7, 11], [7, 11]), ([], []), ([], []), ([14], [14]), ([13, 15], [13, 15]), ([12, 16], [12, 16]), ([3, 17], [3, 17]), ([0, 1, 0, 1, 2, 3, 4, 5, 6, 7, 8, 9, 10, 11, 12, 13, 14, 15, 16, 17, 18], [0, 1]), ([19, 18, 0, 1, 2, 3, 4, 5, 6, 7, 8, 9, 10, 11, 12, 13, 14, 15, 16, 17, 18], [18, 19])])
def zD.B17 : List Nat := [0, 0, 0, 4, 0, 16, 48, 112, 0, 0, 768, 1792, 4080, 0, 0, 16384, 57344, 131056, 262140, 524287, 1048575]
theorem zD.tab17 : rtab .any (opsOf Try.f21 17) = zD.T17 := by kernel_rfl
theorem zD.bits17 : zaw zD.T17.2 zD.B17 = true := by kernel_rfl
set_option maxHeartbeats 8000000 in
set_option maxRecDepth 100000 in
theorem zD.calls (k : Nat) (A0_0 : Option Addr) (c0_0 : Nat) (l0_0 : List Int) (A0_1 : Option Addr) (c0_1 : Nat) (l0_1 : List Int) (A1 : Option Addr) (c1 : Nat) (l1 : List Int) (a2 : Int) (r1 : List Int) (r2 : Int) (w : World) (hr0_0 : Kd.C (Kd.int .i64) w A0_0 l0_0.length l0_0) (hc0_0 : l0_0.length ≤ c0_0) (hr0_1 : Kd.C (Kd.int .i64) w A0_1 l0_1.length l0_1) (hc0_1 : l0_1.length ≤ c0_1) (hr1 : Kd.C (Kd.int .i64) w A1 l1.length l1) (hc1 : l1.length ≤ c1) (h : zD.f k l0_0 l0_1 l1 a2 = some (r1, r2)) :
  Calls Try.prog 21 #[.agg #[.slice A0_0 l0_0.length c0_0, .slice A0_1 l0_1.length c0_1], .slice A1 l1.length c1, .int .i64 a2] w fun e w' => ∃ v0_ : Value, e = .returned (.tuple #[v0_, .int .i64 r2]) ∧ Kd.R (Kd.int .i64) 3 w' w.heap.size (fun _ => True) v0_ r1 ∧ Below w.heap.size w w' := by
 have hu24 := Try.underlying24
 have hu90 := Try.underlying90
 have HR0_0 := am_ hr0_0
 have HC0_0 := am_ hc0_0
 clear hr0_0 hc0_0
 have HR0_1 := am_ hr0_1
 have HC0_1 := am_ hc0_1
 clear hr0_1 hc0_1
 have HR1 := am_ hr1
 have HC1 := am_ hc1
 clear hr1 hc1
 have HB := am_ (Below.refl w.heap.size w)
 have H : ((zt.f k l0_0 l0_1 (l0_0.length : Int)).bind fun t187 => (if t187 = 0 then (if (l1.length : Int) = (l0_0.length : Int) then (zD.l0 k l1 a2 l1 (l1.length : Int) 0 l0_0 l0_1) else (some (([] : List Int), 63))) else (some (([] : List Int), 180)))) = some (r1, r2) := h
 clear h
 replace H := Option.bind_eq_some_iff.mp H
 obtain ⟨t187, A40, H⟩ := H
 replace H : (if t187 = 0 then (if (l1.length : Int) = (l0_0.length : Int) then (zD.l0 k l1 a2 l1 (l1.length : Int) 0 l0_0 l0_1) else (some (([] : List Int), 63))) else (some (([] : List Int), 180))) = some (r1, r2) := H
 have A4 := am_ A40
 clear A40
 by_cases c5 : t187 = 0
 ·rw [if_pos c5] at H
  have c5b0 : (t187 == 0) = true := beq_iff_eq.mpr c5
  have c5b1 : (t187 != 0) = false := bne_eq_false_iff_eq.mpr c5
  clear c5
  by_cases c6 : (l1.length : Int) = (l0_0.length : Int)
  ·rw [if_pos c6] at H
   have c6b0 : ((l1.length : Int) == (l0_0.length : Int)) = true := beq_iff_eq.mpr c6
   have c6b1 : ((l1.length : Int) != (l0_0.length : Int)) = false := bne_eq_false_iff_eq.mpr c6
   have c6b2 : (l1.length == l0_0.length) = true := by first | simpa using c6 | (simp at c6 ⊢; omega)
   clear c6
   have H' := am_ H
   clear H
   go_enter Try.func21, Try.ntmps21
   go_wp2_with (first | ((with_reducible refine zp (N := 3) rfl ?_); (try (refine zY (by rfl) ?_; dsimp only)); refine zw ?hg (N := 3) ?hd (cs := #[.slice A0_0 l0_0.length c0_0, .slice A0_1 l0_1.length c0_1]) (t := 24) ?hr ?_; (case hd => rfl); (case hg => rfl); (case hr => first | (go_simp; done) | (go_simp; rfl)); intro gb186 hg w7 hbox hb; have n0_ := am_ (zj (by repeat (first | (with_reducible first | exact HB.out | apply zb | apply za | apply zc) | exact HB.out)) hb); have n1_ := am_ (hbox); have n2_ := am_ ((by rw [hg]; exact (zk (by repeat (first | (with_reducible first | exact HB.out | apply zb | apply za | apply zc) | exact HB.out))) : w.heap.size ≤ gb186)); have n3_ := am_ ((by rw [hg]; exact (zk (by repeat (first | (with_reducible first | exact HB.out | apply zb | apply za | apply zc) | exact HB.out))) : w.heap.size ≤ gb186)); clear HB; have HB := n0_; have BK186 := n1_; have GW186 := n2_; have GE186 := n3_; clear n0_ n1_ n2_ n3_; clear hb hbox hg; have hcz8_0 : w7.cell? ⟨gb186, 0, none⟩ = some (.slice A0_0 l0_0.length c0_0) := (zi BK186.out 0).trans rfl; have hcz8_1 : w7.cell? ⟨gb186, 1, none⟩ = some (.slice A0_1 l0_1.length c0_1) := (zi BK186.out 1).trans rfl; have hfz8_0 := zh BK186.out 0; have hfz8_1 := zh BK186.out 1) | ((with_reducible refine zR (f := 17) rfl ?_); refine goesL_ (some 17) rfl rfl Try.func17 (by kernel_rfl) rfl #[.agg #[.slice A0_0 l0_0.length c0_0, .slice A0_1 l0_1.length c0_1], .int .i64 (l0_0.length : Int)] rfl (by (try simp only [List.map_toArray, List.map_cons, List.map_nil]); first | done | rfl | (simp only [List.length_drop, List.length_take]; rfl)) ?_; (with_reducible refine (zt.calls k _ _ l0_0 _ _ l0_1 (l0_0.length : Int) t187 _ ?side1 ?side2 ?side3 ?side4 A4.out).mono ?_); (case side1 => repeat (first | exact (Kd.zM HR0_0.out HB.out) | (with_reducible refine Kd.z3 ?_ _) | (with_reducible refine Kd.z2 ?_ _) | (with_reducible refine Kd.zae ?_))); (case side2 => exact HC0_0.out); (case side3 => repeat (first | exact (Kd.zM HR0_1.out HB.out) | (with_reducible refine Kd.z3 ?_ _) | (with_reducible refine Kd.z2 ?_ _) | (with_reducible refine Kd.zae ?_))); (case side4 => exact HC0_1.out); rintro e w9 ⟨rfl, hb⟩; refine ⟨_, rfl, ?_⟩; have n0_ := am_ (zm (g := gb186) (o := .cells #[.slice A0_0 l0_0.length c0_0, .slice A0_1 l0_1.length c0_1] 24 (0, 0)) (by (with_reducible repeat (first | refine ze ?_ _ | refine zg ?_ | refine zd ?_ _)); exact BK186.out) hb); have n1_ := am_ (zj (by repeat (first | (with_reducible first | exact HB.out | apply zb | apply za | apply zc | refine zf ?_ GE186.out) | exact HB.out)) hb); clear BK186; clear HB; have BK186 := n0_; have HB := n1_; clear n0_ n1_; (try clear hb); (try clear hb2); (try clear hk); (try clear hi); have hcz10_0 : w9.cell? ⟨gb186, 0, none⟩ = some (.slice A0_0 l0_0.length c0_0) := (zi BK186.out 0).trans rfl; have hcz10_1 : w9.cell? ⟨gb186, 1, none⟩ = some (.slice A0_1 l0_1.length c0_1) := (zi BK186.out 1).trans rfl; have hfz10_0 := zh BK186.out 0; have hfz10_1 := zh BK186.out 1))
   go_loopg [27] k (fun kq v27 w' => ∃ (x27_1 : Int), v27 = .int .i64 x27_1 ∧ Aside0 (zD.l0 kq l1 a2 l1 (l1.length : Int) x27_1 l0_0 l0_1 = some (r1, r2)) ∧ Aside0 (kq ≤ k) ∧ Aside0 (w'.heap[gb186]? = some (.cells #[(.slice A0_0 l0_0.length c0_0), (.slice A0_1 l0_1.length c0_1)] 24 (0, 0))) ∧ Aside0 (Below w.heap.size w w'))
   case atStart => exact ⟨(0), (by first | rfl | (simp; done) | (simp [*]; done)), H', ⟨Nat.le_refl _⟩, ⟨by (with_reducible repeat (first | refine ze ?_ _ | refine zg ?_ | refine zd ?_ _)); exact BK186.out⟩, ⟨by repeat (first | (with_reducible first | exact HB.out | apply zb | apply za | apply zc | refine zf ?_ GE186.out) | exact HB.out)⟩⟩
   case round =>
    clear H'
    try clear c1
    try clear c2
    try clear p2
    try clear c5
    try clear c5b0
    try clear c5b1
    try clear c6
    try clear c6b0
    try clear c6b1
    try clear c6b2
    try clear hcz10_0
    try clear hcz10_1
    try clear hcz8_0
    try clear hcz8_1
    try clear hfz10_0
    try clear hfz10_1
    try clear hfz8_0
    try clear hfz8_1
    obtain ⟨x27_1, rfl, HA, HK1, BK186, HB⟩ := hrel
    cases gk with
    | zero => exact absurd HA.out (by simp [zD.l0])
    | succ k1 =>
     have H := HA.out
     clear HA
     simp only [zD.l0] at H
     by_cases c11 : x27_1 < (l1.length : Int)
     ·rw [if_pos c11] at H
      have c11b0 : decide (x27_1 < (l1.length : Int)) = true := decide_eq_true c11
      clear c11
      by_cases c12 : 0 ≤ x27_1
      ·rw [if_pos c12] at H
       have c12b0 : decide (0 ≤ x27_1) = true := decide_eq_true c12
       clear c12
       by_cases c13 : x27_1 < (l1.length : Int)
       ·rw [if_pos c13] at H
        have c13b0 : decide (x27_1 < (l1.length : Int)) = true := decide_eq_true c13
        clear c13
        by_cases c14 : (rd l1 x27_1) < (-1)
        ·rw [if_pos c14] at H
         have c14b0 : decide ((rd l1 x27_1) < (-1)) = true := decide_eq_true c14
         clear c14
         simp only [Option.some.injEq, Prod.mk.injEq] at H
         obtain ⟨rfl, rfl⟩ := H
         have p188 : 0 ≤ (x27_1 : Int) := of_decide_eq_true (by first | (with_reducible assumption) | assumption)
         have q188 : x27_1 < (l1.length : Int) := of_decide_eq_true (by first | (with_reducible assumption) | assumption)
         obtain ⟨ad188, e188, hx188_0⟩ := Kd.at_int HR1.out x27_1 p188 q188
         cases e188
         replace hx188_0 := (HB.out.cell (World.block_lt_of_cell? w _ hx188_0)).trans hx188_0
         replace p188 := eq_true p188
         replace q188 := eq_true q188
         go_wp2
         go_ret2
         exact ⟨_, by first | rfl | (simp [zz, zA] <;> rfl) | (simp [*, zz, zA] <;> rfl), by first | exact Kd.R_nil _ _ _ _ _ | exact Kd.N_nil _ _ _ _ _ | exact Kd.V_nil _ _ _ _ _ | exact Kd.Q_nil _ _ _ _ _ | exact Kd.S_nil _ _ _ _ _, by repeat (first | (with_reducible first | exact HB.out | apply zb | apply za | apply zc | refine zf ?_ GE186.out) | exact HB.out)⟩
        ·rw [if_neg c14] at H
         have c14b0 : decide ((rd l1 x27_1) < (-1)) = false := decide_eq_false c14
         clear c14
         by_cases c15 : (rd l1 x27_1) > 1
         ·rw [if_pos c15] at H
          have c15b0 : decide (1 < (rd l1 x27_1)) = true := decide_eq_true c15
          clear c15
          simp only [Option.some.injEq, Prod.mk.injEq] at H
          obtain ⟨rfl, rfl⟩ := H
          have p188 : 0 ≤ (x27_1 : Int) := of_decide_eq_true (by first | (with_reducible assumption) | assumption)
          have q188 : x27_1 < (l1.length : Int) := of_decide_eq_true (by first | (with_reducible assumption) | assumption)
          obtain ⟨ad188, e188, hx188_0⟩ := Kd.at_int HR1.out x27_1 p188 q188
          cases e188
          replace hx188_0 := (HB.out.cell (World.block_lt_of_cell? w _ hx188_0)).trans hx188_0
          replace p188 := eq_true p188
          replace q188 := eq_true q188
          go_wp2
          go_ret2
          exact ⟨_, by first | rfl | (simp [zz, zA] <;> rfl) | (simp [*, zz, zA] <;> rfl), by first | exact Kd.R_nil _ _ _ _ _ | exact Kd.N_nil _ _ _ _ _ | exact Kd.V_nil _ _ _ _ _ | exact Kd.Q_nil _ _ _ _ _ | exact Kd.S_nil _ _ _ _ _, by repeat (first | (with_reducible first | exact HB.out | apply zb | apply za | apply zc | refine zf ?_ GE186.out) | exact HB.out)⟩
         ·rw [if_neg c15] at H
          have c15b0 : decide (1 < (rd l1 x27_1)) = false := decide_eq_false c15
          clear c15
          have H' := am_ H
          clear H
          have p188 : 0 ≤ (x27_1 : Int) := of_decide_eq_true (by first | (with_reducible assumption) | assumption)
          have q188 : x27_1 < (l1.length : Int) := of_decide_eq_true (by first | (with_reducible assumption) | assumption)
          obtain ⟨ad188, e188, hx188_0⟩ := Kd.at_int HR1.out x27_1 p188 q188
          cases e188
          replace hx188_0 := (HB.out.cell (World.block_lt_of_cell? w _ hx188_0)).trans hx188_0
          replace p188 := eq_true p188
          replace q188 := eq_true q188
          go_wp2
          go_roundg k1
          case measure => have := HK1.out; omega
          case rel => exact ⟨(wrap64 (x27_1 + 1)), (by first | rfl | (simp; done) | (simp [*]; done)), H', ⟨by have := HK1.out; omega⟩, ⟨by (with_reducible repeat (first | refine ze ?_ _ | refine zg ?_ | refine zd ?_ _)); exact BK186.out⟩, ⟨by repeat (first | (with_reducible first | exact HB.out | apply zb | apply za | apply zc | refine zf ?_ GE186.out) | exact HB.out)⟩⟩
       ·rw [if_neg c13] at H
        exact absurd H (by simp)
      ·rw [if_neg c12] at H
       exact absurd H (by simp)
     ·rw [if_neg c11] at H
      have c11b0 : decide (x27_1 < (l1.length : Int)) = false := decide_eq_false c11
      clear c11
      have HC16 := am_ H
      clear H
      go_upto_region 11 with (fail)
      go_cut [56] (fun v56 wc => ∃ (kq : Nat) (x56_15 : Bool), v56 = .bool x56_15 ∧ Aside0 (zD.j1 kq l1 a2 x56_15 l0_0 l0_1 = some (r1, r2)) ∧ Aside0 (kq ≤ k1) ∧ Aside0 (wc.heap[gb186]? = some (.cells #[(.slice A0_0 l0_0.length c0_0), (.slice A0_1 l0_1.length c0_1)] 24 (0, 0))) ∧ Aside0 (Below w.heap.size w wc))
      case first =>
       have H := HC16.out
       clear HC16
       by_cases c17 : a2 < 0
       ·rw [if_pos c17] at H
        have c17b0 : decide (a2 < 0) = true := decide_eq_true c17
        clear c17
        (first | rw [c17b0] | (simp only [zv, zx]; rw [c17b0]) | skip)
        have H' := am_ H
        clear H
        go_wp2
        go_meet
        case rel => exact ⟨_, (true), (by first | rfl | (simp; done) | (simp [*]; done)), H', ⟨by have := HK1.out; first | omega | exact Nat.le_refl _⟩, ⟨by (with_reducible repeat (first | refine ze ?_ _ | refine zg ?_ | refine zd ?_ _)); exact BK186.out⟩, ⟨by repeat (first | (with_reducible first | exact HB.out | apply zb | apply za | apply zc | refine zf ?_ GE186.out) | exact HB.out)⟩⟩
       ·rw [if_neg c17] at H
        have c17b0 : decide (a2 < 0) = false := decide_eq_false c17
        clear c17
        (first | rw [c17b0] | (simp only [zv, zx]; rw [c17b0]) | skip)
        by_cases c18 : a2 > 8
        ·rw [if_pos c18] at H
         have c18b0 : decide (8 < a2) = true := decide_eq_true c18
         clear c18
         have H' := am_ H
         clear H
         go_wp2
         go_meet
         case rel => exact ⟨_, (true), (by first | rfl | (simp; done) | (simp [*]; done)), H', ⟨by have := HK1.out; first | omega | exact Nat.le_refl _⟩, ⟨by (with_reducible repeat (first | refine ze ?_ _ | refine zg ?_ | refine zd ?_ _)); exact BK186.out⟩, ⟨by repeat (first | (with_reducible first | exact HB.out | apply zb | apply za | apply zc | refine zf ?_ GE186.out) | exact HB.out)⟩⟩
        ·rw [if_neg c18] at H
         have c18b0 : decide (8 < a2) = false := decide_eq_false c18
         clear c18
         by_cases c19 : (l0_0.length : Int) > 0
         ·rw [if_pos c19] at H
          have c19b0 : decide (0 < (l0_0.length : Int)) = true := decide_eq_true c19
          have c19b1 : decide (0 < l0_0.length) = true := decide_eq_true (by omega)
          clear c19
          replace H := Option.bind_eq_some_iff.mp H
          obtain ⟨t189, A200, H⟩ := H
          replace H : (zD.j1 k1 l1 a2 (decide (a2 < t189)) l0_0 l0_1) = some (r1, r2) := H
          have A20 := am_ A200
          clear A200
          have H' := am_ H
          clear H
          have hcz21_0 : wr.cell? ⟨gb186, 0, none⟩ = some (.slice A0_0 l0_0.length c0_0) := (zi BK186.out 0).trans rfl
          have hcz21_1 : wr.cell? ⟨gb186, 1, none⟩ = some (.slice A0_1 l0_1.length c0_1) := (zi BK186.out 1).trans rfl
          have hfz21_0 := zh BK186.out 0
          have hfz21_1 := zh BK186.out 1
          go_wp2_with (first | (go_at_call 41; (with_reducible refine (zB.calls k1 _ _ l0_0 t189 _ ?side1 ?side2 A20.out).mono ?_); (case side1 => repeat (first | exact (Kd.zM HR0_0.out HB.out) | (with_reducible refine Kd.z3 ?_ _) | (with_reducible refine Kd.z2 ?_ _) | (with_reducible refine Kd.zae ?_))); (case side2 => exact HC0_0.out); rintro e w22 ⟨rfl, hb⟩; have n0_ := am_ (zm (g := gb186) (o := .cells #[.slice A0_0 l0_0.length c0_0, .slice A0_1 l0_1.length c0_1] 24 (0, 0)) (by (with_reducible repeat (first | refine ze ?_ _ | refine zg ?_ | refine zd ?_ _)); exact BK186.out) hb); have n1_ := am_ (zj (by repeat (first | (with_reducible first | exact HB.out | apply zb | apply za | apply zc | refine zf ?_ GE186.out) | exact HB.out)) hb); clear BK186; clear HB; have BK186 := n0_; have HB := n1_; clear n0_ n1_; (try clear hb); (try clear hb2); (try clear hk); (try clear hi)))
          go_meet
          case rel => exact ⟨_, (decide (a2 < t189)), (by first | rfl | (simp; done) | (simp [*]; done)), H', ⟨by have := HK1.out; first | omega | exact Nat.le_refl _⟩, ⟨by (with_reducible repeat (first | refine ze ?_ _ | refine zg ?_ | refine zd ?_ _)); exact BK186.out⟩, ⟨by repeat (first | (with_reducible first | exact HB.out | apply zb | apply za | apply zc | refine zf ?_ GE186.out) | exact HB.out)⟩⟩
         ·rw [if_neg c19] at H
          have c19b0 : decide (0 < (l0_0.length : Int)) = false := decide_eq_false c19
          have c19b1 : decide (0 < l0_0.length) = false := decide_eq_false (by omega)
          clear c19
          have H' := am_ H
          clear H
          have hcz23_0 : wr.cell? ⟨gb186, 0, none⟩ = some (.slice A0_0 l0_0.length c0_0) := (zi BK186.out 0).trans rfl
          have hcz23_1 : wr.cell? ⟨gb186, 1, none⟩ = some (.slice A0_1 l0_1.length c0_1) := (zi BK186.out 1).trans rfl
          have hfz23_0 := zh BK186.out 0
          have hfz23_1 := zh BK186.out 1
          go_wp2
          go_meet
          case rel => exact ⟨_, (false), (by first | rfl | (simp; done) | (simp [*]; done)), H', ⟨by have := HK1.out; first | omega | exact Nat.le_refl _⟩, ⟨by (with_reducible repeat (first | refine ze ?_ _ | refine zg ?_ | refine zd ?_ _)); exact BK186.out⟩, ⟨by repeat (first | (with_reducible first | exact HB.out | apply zb | apply za | apply zc | refine zf ?_ GE186.out) | exact HB.out)⟩⟩
      case rest =>
       clear HC16
       try clear c1
       try clear p1
       try clear q1
       try clear hx1
       try clear c2
       try clear p2
       try clear c5
       try clear c5b0
       try clear c5b1
       try clear c6
       try clear c6b0
       try clear c6b1
       try clear c6b2
       try clear p6
       try clear c11
       try clear c11b0
       try clear c12
       try clear c12b0
       try clear c13
       try clear c13b0
       try clear c14
       try clear c14b0
       try clear c15
       try clear c15b0
       try clear c17
       try clear c17b0
       try clear c18
       try clear c18b0
       try clear p18
       try clear q18
       try clear hx18
       try clear c19
       try clear c19b0
       try clear c19b1
       try clear c21
       try clear hcz10_0
       try clear hcz10_1
       try clear hcz21_0
       try clear hcz21_1
       try clear hcz23_0
       try clear hcz23_1
       try clear hcz8_0
       try clear hcz8_1
       try clear hfz10_0
       try clear hfz10_1
       try clear hfz21_0
       try clear hfz21_1
       try clear hfz23_0
       try clear hfz23_1
       try clear hfz8_0
       try clear hfz8_1
       try clear hx188_0
       try clear p188
       try clear p2
       try clear q188
       obtain ⟨kq, x56_15, rfl, HA, HJ15, BK186, HB⟩ := hcut
       cases kq with
       | zero => exact absurd HA.out (by simp [zD.j1])
       | succ kj15 =>
        have H := HA.out
        clear HA
        simp only [zD.j1] at H
        by_cases c24 : x56_15 = true
        ·subst c24
         have H1 : (some (([] : List Int), 1)) = some (r1, r2) := by rw [if_pos rfl] at H; exact H
         clear H
         have H := H1
         clear H1
         simp only [Option.some.injEq, Prod.mk.injEq] at H
         obtain ⟨rfl, rfl⟩ := H
         go_wp2
         go_ret2
         exact ⟨_, by first | rfl | (simp [zz, zA] <;> rfl) | (simp [*, zz, zA] <;> rfl), by first | exact Kd.R_nil _ _ _ _ _ | exact Kd.N_nil _ _ _ _ _ | exact Kd.V_nil _ _ _ _ _ | exact Kd.Q_nil _ _ _ _ _ | exact Kd.S_nil _ _ _ _ _, by repeat (first | (with_reducible first | exact HB.out | apply zb | apply za | apply zc | refine zf ?_ GE186.out) | exact HB.out)⟩
        ·replace c24 := Bool.eq_false_iff.mpr c24
         subst c24
         have H1 : (if 0 ≤ (l1.length : Int) then (if ((l1.length : Int) : Int).toNat ≤ 35184372088832 then ((zF.f kj15 l0_0 l0_1).bind fun t193 => (zD.l1 kj15 l1 a2 (List.replicate ((l1.length : Int) : Int).toNat 0) t193 (t193.length : Int) 0)) else (none)) else (none)) = some (r1, r2) := by rw [if_neg (show ¬ (false = true) by decide)] at H; exact H
         clear H
         have H := H1
         clear H1
         by_cases c25 : 0 ≤ (l1.length : Int)
         ·rw [if_pos c25] at H
          have c25b0 := eq_true c25
          have c25b1 : decide (0 ≤ (l1.length : Int)) = true := decide_eq_true c25
          clear c25
          by_cases c26 : ((l1.length : Int) : Int).toNat ≤ 35184372088832
          ·rw [if_pos c26] at H
           have c26b0 := eq_true c26
           have c26b1 : decide (((l1.length : Int) : Int).toNat ≤ 35184372088832) = true := decide_eq_true c26
           clear c26
           obtain ⟨y190, hy190⟩ : ∃ y_ : List Int, y_ = (List.replicate ((l1.length : Int) : Int).toNat 0) := ⟨_, rfl⟩
           replace H : ((zF.f kj15 l0_0 l0_1).bind fun t193 => (zD.l1 kj15 l1 a2 y190 t193 (t193.length : Int) 0)) = some (r1, r2) := by first | (rw [hy190]; with_reducible exact H) | (have H2_ := (Option.bind_some _ _).symm.trans H; rw [hy190]; with_reducible exact H2_) | (have H2_ := (Option.bind_some _ _).symm.trans H; with_reducible exact H2_) | with_reducible exact H | (rw [hy190]; exact H) | exact H
           have Ny190 := am_ hy190
           clear hy190
           replace H := Option.bind_eq_some_iff.mp H
           obtain ⟨t193, A270, H⟩ := H
           replace H : (zD.l1 kj15 l1 a2 y190 t193 (t193.length : Int) 0) = some (r1, r2) := H
           have A27 := am_ A270
           clear A270
           have H' := am_ H
           clear H
           go_wp2_with (first | ((with_reducible refine zp (N := 59) rfl ?_); (try (refine zY (by rfl) ?_; dsimp only)); refine Kd.R_make (Kd.int .i64) _ 3 rfl (N := 59) rfl 22 _ _ rfl (l1.length : Int) rfl rfl Try.underlying22 (.int .i64 0) 8 info3 rfl (by decide) (by omega) 0 (ok := fun _ => True) (okp := fun _ => True) rfl (fun _ hk => hk) trivial (of_decide_eq_true (by first | (with_reducible assumption) | assumption)) (Nat.le_trans (Nat.mul_le_mul_right _ (of_decide_eq_true (by first | (with_reducible assumption) | assumption) : (l1.length : Int).toNat ≤ 35184372088832)) (by omega)) (Below.refl _ _) (Nat.le_refl _) ?_; intro v191 w28 ho29 hb hg_ hnew_; clear hg_ hnew_; (first | rw [← Ny190.out] at ho29 | (simp only [Int.reduceToNat] at ho29; rw [← Ny190.out] at ho29)); have n0_ := am_ (Kd.zal ho29 (zk (by repeat (first | (with_reducible first | exact HB.out | apply zb | apply za | apply zc | refine zf ?_ GE186.out) | exact HB.out)))); have n1_ := am_ (zm (g := gb186) (o := .cells #[.slice A0_0 l0_0.length c0_0, .slice A0_1 l0_1.length c0_1] 24 (0, 0)) (by (with_reducible repeat (first | refine ze ?_ _ | refine zg ?_ | refine zd ?_ _)); exact BK186.out) hb); have n2_ := am_ (zj (by repeat (first | (with_reducible first | exact HB.out | apply zb | apply za | apply zc | refine zf ?_ GE186.out) | exact HB.out)) hb); clear BK186; clear HB; have HO192 := n0_; have BK186 := n1_; have HB := n2_; clear n0_ n1_ n2_; clear hb ho29; have hcz30_0 : w28.cell? ⟨gb186, 0, none⟩ = some (.slice A0_0 l0_0.length c0_0) := (zi BK186.out 0).trans rfl; have hcz30_1 : w28.cell? ⟨gb186, 1, none⟩ = some (.slice A0_1 l0_1.length c0_1) := (zi BK186.out 1).trans rfl; have hfz30_0 := zh BK186.out 0; have hfz30_1 := zh BK186.out 1) | ((with_reducible refine zR (f := 39) rfl ?_); refine goesL_ (some 61) rfl rfl Try.func39 (by kernel_rfl) rfl #[.agg #[.slice A0_0 l0_0.length c0_0, .slice A0_1 l0_1.length c0_1]] rfl (by (try simp only [List.map_toArray, List.map_cons, List.map_nil]); first | done | rfl | (simp only [List.length_drop, List.length_take]; rfl)) ?_; (with_reducible refine (zF.calls kj15 _ _ l0_0 _ _ l0_1 t193 _ ?side1 ?side2 ?side3 ?side4 A27.out).mono ?_); (case side1 => repeat (first | exact (Kd.zM HR0_0.out HB.out) | (with_reducible refine Kd.z3 ?_ _) | (with_reducible refine Kd.z2 ?_ _) | (with_reducible refine Kd.zae ?_))); (case side2 => exact HC0_0.out); (case side3 => repeat (first | exact (Kd.zM HR0_1.out HB.out) | (with_reducible refine Kd.z3 ?_ _) | (with_reducible refine Kd.z2 ?_ _) | (with_reducible refine Kd.zae ?_))); (case side4 => exact HC0_1.out); rintro e w31 ⟨v194, rfl, ho0, hb⟩; refine ⟨_, rfl, ?_⟩; have n0_ := am_ (Kd.z6 (by (with_reducible repeat (first | apply Kd.zq | apply Kd.zr | apply Kd.zy)); exact HO192.out) hb); have n1_ := am_ (Kd.zal ho0 (zk (by repeat (first | (with_reducible first | exact HB.out | apply zb | apply za | apply zc | refine zf ?_ GE186.out) | exact HB.out)))); have n2_ := am_ (zm (g := gb186) (o := .cells #[.slice A0_0 l0_0.length c0_0, .slice A0_1 l0_1.length c0_1] 24 (0, 0)) (by (with_reducible repeat (first | refine ze ?_ _ | refine zg ?_ | refine zd ?_ _)); exact BK186.out) hb); have n3_ := am_ (zj (by repeat (first | (with_reducible first | exact HB.out | apply zb | apply za | apply zc | refine zf ?_ GE186.out) | exact HB.out)) hb); clear HO192; clear BK186; clear HB; have HO192 := n0_; have HO195 := n1_; have BK186 := n2_; have HB := n3_; clear n0_ n1_ n2_ n3_; (try clear hb); (try clear hb2); (try clear hk); (try clear hi); (try clear ho0); obtain ⟨Ao32, co32, eo32⟩ := Kd.z4 HO195.out; subst eo32))
           go_loopg [63] kj15 (fun kq v63 w' => ∃ (x10_3 : List Int) (x63_3 : Int), v63 = .int .i64 x63_3 ∧ Aside0 (zD.l1 kq l1 a2 x10_3 t193 (t193.length : Int) x63_3 = some (r1, r2)) ∧ Aside0 (kq ≤ kj15) ∧ Aside0 (Kd.R (Kd.int .i64) 3 w' w.heap.size (fun _ => True) v191 x10_3) ∧ Aside0 (Kd.R k90 90 w' w.heap.size (fun _ => True) (.slice Ao32 t193.length co32) t193) ∧ Aside0 (w'.heap[gb186]? = some (.cells #[(.slice A0_0 l0_0.length c0_0), (.slice A0_1 l0_1.length c0_1)] 24 (0, 0))) ∧ Aside0 (Below w.heap.size w w'))
           case atStart => exact ⟨(y190), (0), (by first | rfl | (simp; done) | (simp [*]; done)), H', ⟨Nat.le_refl _⟩, ⟨by (with_reducible repeat (first | apply Kd.zq | apply Kd.zr | apply Kd.zy)); exact HO192.out⟩, ⟨by (with_reducible repeat (first | apply Kd.zq | apply Kd.zr | apply Kd.zy)); exact HO195.out⟩, ⟨by (with_reducible repeat (first | refine ze ?_ _ | refine zg ?_ | refine zd ?_ _)); exact BK186.out⟩, ⟨by repeat (first | (with_reducible first | exact HB.out | apply zb | apply za | apply zc | refine zf ?_ GE186.out) | exact HB.out)⟩⟩
           case round =>
            clear H'
            try clear c1
            try clear p1
            try clear q1
            try clear hx1
            try clear c2
            try clear p2
            try clear c3
            try clear c5
            try clear c5b0
            try clear c5b1
            try clear c6
            try clear c6b0
            try clear c6b1
            try clear c6b2
            try clear p6
            try clear c11
            try clear c11b0
            try clear c12
            try clear c12b0
            try clear c13
            try clear c13b0
            try clear c14
            try clear c14b0
            try clear c15
            try clear c15b0
            try clear c17
            try clear c17b0
            try clear c18
            try clear c18b0
            try clear p18
            try clear q18
            try clear hx18
            try clear c19
            try clear c19b0
            try clear c19b1
            try clear c21
            try clear c24
            try clear c25
            try clear c25b0
            try clear c25b1
            try clear c26
            try clear c26b0
            try clear c26b1
            try clear hcz10_0
            try clear hcz10_1
            try clear hcz21_0
            try clear hcz21_1
            try clear hcz23_0
            try clear hcz23_1
            try clear hcz30_0
            try clear hcz30_1
            try clear hcz8_0
            try clear hcz8_1
            try clear hfz10_0
            try clear hfz10_1
            try clear hfz21_0
            try clear hfz21_1
            try clear hfz23_0
            try clear hfz23_1
            try clear hfz30_0
            try clear hfz30_1
            try clear hfz8_0
            try clear hfz8_1
            try clear hx188_0
            try clear p1
            try clear p18
            try clear p188
            try clear p2
            try clear p6
            try clear q1
            try clear q18
            try clear q188
            obtain ⟨x10_3, x63_3, rfl, HA, HK3, HO_10, HO_61, BK186, HB⟩ := hrel
            cases gk with
            | zero => exact absurd HA.out (by simp [zD.l1])
            | succ k3 =>
             have H := HA.out
             clear HA
             simp only [zD.l1] at H
             by_cases c33 : x63_3 < (t193.length : Int)
             ·rw [if_pos c33] at H
              have c33b0 : decide (x63_3 < (t193.length : Int)) = true := decide_eq_true c33
              clear c33
              by_cases c34 : 0 ≤ x63_3
              ·rw [if_pos c34] at H
               have c34b0 : decide (0 ≤ x63_3) = true := decide_eq_true c34
               clear c34
               by_cases c35 : x63_3 < (t193.length : Int)
               ·rw [if_pos c35] at H
                have c35b0 : decide (x63_3 < (t193.length : Int)) = true := decide_eq_true c35
                clear c35
                by_cases c36 : 0 ≤ a2
                ·rw [if_pos c36] at H
                 have c36b0 := eq_true c36
                 have c36b1 : decide (0 ≤ a2) = true := decide_eq_true c36
                 clear c36
                 obtain ⟨ji37, hji37⟩ : ∃ j_ : Int, (shl .i64 (-1) a2) = j_ := ⟨_, rfl⟩
                 replace H : (if x63_3 < (l1.length : Int) then (if 0 ≤ (wrap64 (a2 - ((zl t193 x63_3).f0))) then (if x63_3 < (x10_3.length : Int) then (zD.l1 k3 l1 a2 (x10_3.set (x63_3 : Int).toNat (wrap64 ((ji37) + (shl .i64 (wrap64 ((wrap64 ((wrap64 (2 * ((zl t193 x63_3).f1))) + 1)) + (rd l1 x63_3))) (wrap64 (a2 - ((zl t193 x63_3).f0))))))) t193 (t193.length : Int) (wrap64 (x63_3 + 1))) else (none)) else (none)) else (none)) = some (r1, r2) := by first | (rw [hji37] at H; exact H) | (simp only [hji37] at H ⊢; exact H)
                 have hji37_ : (IntKind.i64.wrap ((-1) * 2 ^ min a2.toNat 64)) = ji37 := hji37
                 have hji37z : a2 ≤ 64 → (IntKind.i64.wrap ((-1) * 2 ^ a2.toNat)) = ji37 := shl_small hji37
                 have hji37y : (wrap64 ((-1) * 2 ^ min a2.toNat 64)) = ji37 := (zv _).symm.trans hji37_
                 have hji37n : wrap64 (-2 ^ min a2.toNat 64) = ji37 := by have h_ := hji37y; rw [Int.neg_mul, Int.one_mul] at h_; exact h_
                 have hji37x : a2 ≤ 64 → (wrap64 ((-1) * 2 ^ a2.toNat)) = ji37 := fun h_ => (zv _).symm.trans (hji37z h_)
                 by_cases c38 : x63_3 < (l1.length : Int)
                 ·rw [if_pos c38] at H
                  have c38b0 : decide (x63_3 < (l1.length : Int)) = true := decide_eq_true c38
                  clear c38
                  obtain ⟨ji39, hji39⟩ : ∃ j_ : Int, (wrap64 (a2 - ((zl t193 x63_3).f0))) = j_ := ⟨_, rfl⟩
                  replace H : (if 0 ≤ (ji39) then (if x63_3 < (x10_3.length : Int) then (zD.l1 k3 l1 a2 (x10_3.set (x63_3 : Int).toNat (wrap64 ((ji37) + (shl .i64 (wrap64 ((wrap64 ((wrap64 (2 * ((zl t193 x63_3).f1))) + 1)) + (rd l1 x63_3))) (ji39))))) t193 (t193.length : Int) (wrap64 (x63_3 + 1))) else (none)) else (none)) = some (r1, r2) := by first | (rw [hji39] at H; exact H) | (simp only [hji39] at H ⊢; exact H)
                  have hji39w : (IntKind.i64.wrap (a2 - ((zl t193 x63_3).f0))) = ji39 := (zv _).trans hji39
                  by_cases c40 : 0 ≤ (ji39)
                  ·rw [if_pos c40] at H
                   have c40b0 := eq_true c40
                   have c40b1 : decide (0 ≤ (ji39)) = true := decide_eq_true c40
                   clear c40
                   obtain ⟨ji41, hji41⟩ : ∃ j_ : Int, (shl .i64 (wrap64 ((wrap64 ((wrap64 (2 * ((zl t193 x63_3).f1))) + 1)) + (rd l1 x63_3))) (ji39)) = j_ := ⟨_, rfl⟩
                   replace H : (if x63_3 < (x10_3.length : Int) then (zD.l1 k3 l1 a2 (x10_3.set (x63_3 : Int).toNat (wrap64 ((ji37) + (ji41)))) t193 (t193.length : Int) (wrap64 (x63_3 + 1))) else (none)) = some (r1, r2) := by first | (rw [hji41] at H; exact H) | (simp only [hji41] at H ⊢; exact H)
                   have hji41_ : (IntKind.i64.wrap ((wrap64 ((wrap64 ((wrap64 (2 * ((zl t193 x63_3).f1))) + 1)) + (rd l1 x63_3))) * 2 ^ min (ji39).toNat 64)) = ji41 := hji41
                   have hji41z : (ji39) ≤ 64 → (IntKind.i64.wrap ((wrap64 ((wrap64 ((wrap64 (2 * ((zl t193 x63_3).f1))) + 1)) + (rd l1 x63_3))) * 2 ^ (ji39).toNat)) = ji41 := shl_small hji41
                   have hji41y : (wrap64 ((wrap64 ((wrap64 ((wrap64 (2 * ((zl t193 x63_3).f1))) + 1)) + (rd l1 x63_3))) * 2 ^ min (ji39).toNat 64)) = ji41 := (zv _).symm.trans hji41_
                   have hji41x : (ji39) ≤ 64 → (wrap64 ((wrap64 ((wrap64 ((wrap64 (2 * ((zl t193 x63_3).f1))) + 1)) + (rd l1 x63_3))) * 2 ^ (ji39).toNat)) = ji41 := fun h_ => (zv _).symm.trans (hji41z h_)
                   by_cases c42 : x63_3 < (x10_3.length : Int)
                   ·rw [if_pos c42] at H
                    have c42b0 : decide (x63_3 < (x10_3.length : Int)) = true := decide_eq_true c42
                    clear c42
                    obtain ⟨y199, hy199⟩ : ∃ y_ : List Int, y_ = (x10_3.set (x63_3 : Int).toNat (wrap64 ((ji37) + (ji41)))) := ⟨_, rfl⟩
                    replace H : (zD.l1 k3 l1 a2 y199 t193 (t193.length : Int) (wrap64 (x63_3 + 1))) = some (r1, r2) := by first | (rw [hy199]; with_reducible exact H) | (have H2_ := (Option.bind_some _ _).symm.trans H; rw [hy199]; with_reducible exact H2_) | (have H2_ := (Option.bind_some _ _).symm.trans H; with_reducible exact H2_) | with_reducible exact H | (rw [hy199]; exact H) | exact H
                    have Ny199 := am_ hy199
                    clear hy199
                    have H' := am_ H
                    clear H
                    have p196 : 0 ≤ (x63_3 : Int) := of_decide_eq_true (by first | (with_reducible assumption) | assumption)
                    have q196 : x63_3 < (t193.length : Int) := of_decide_eq_true (by first | (with_reducible assumption) | assumption)
                    obtain ⟨ad196, e196, hx196_0, hx196_1⟩ := at_T90 (Kd.zQ HO_61.out).2.2 x63_3 p196 q196
                    cases e196
                    replace p196 := eq_true p196
                    replace q196 := eq_true q196
                    try go_wp2_with (first | ((with_reducible refine zp (N := 12) rfl ?_); (try (refine zY (by rfl) ?_; dsimp only)); refine zw ?hg (N := 12) ?hd (cs := #[.int .i64 0, .int .i64 0]) (t := 90) ?hr ?_; (case hd => rfl); (case hg => rfl); (case hr => first | (go_simp; done) | (go_simp; rfl)); intro gb197 hg w44 hbox hb; have n0_ := am_ (Kd.z6 (by (with_reducible repeat (first | apply Kd.zq | apply Kd.zr | apply Kd.zy)); exact HO_10.out) hb); have n1_ := am_ (Kd.z6 (Kd.R_elderB (by (with_reducible repeat (first | apply Kd.zq | apply Kd.zr | apply Kd.zy)); exact HO_61.out) gb197 (Nat.le_of_eq hg.symm)) hb); have n2_ := am_ (zm (g := gb186) (o := .cells #[.slice A0_0 l0_0.length c0_0, .slice A0_1 l0_1.length c0_1] 24 (0, 0)) (by (with_reducible repeat (first | refine ze ?_ _ | refine zg ?_ | refine zd ?_ _)); exact BK186.out) hb); have n3_ := am_ (zj (by repeat (first | (with_reducible first | exact HB.out | apply zb | apply za | apply zc | refine zf ?_ GE186.out) | exact HB.out)) hb); have n4_ := am_ (hbox); have n5_ := am_ ((by rw [hg]; exact (zk (by repeat (first | (with_reducible first | exact HB.out | apply zb | apply za | apply zc | refine zf ?_ GE186.out) | exact HB.out))) : w.heap.size ≤ gb197)); have n6_ := am_ ((by rw [hg]; exact (zk (by repeat (first | (with_reducible first | exact HB.out | apply zb | apply za | apply zc | refine zf ?_ GE186.out) | exact HB.out))) : w.heap.size ≤ gb197)); have n7_ := am_ ((by rw [hg]; exact Nat.ne_of_lt (zE (g := gb186) (o := .cells #[.slice A0_0 l0_0.length c0_0, .slice A0_1 l0_1.length c0_1] 24 (0, 0)) (by (with_reducible repeat (first | refine ze ?_ _ | refine zg ?_ | refine zd ?_ _)); exact BK186.out)) : gb186 ≠ gb197)); have n8_ := am_ ((by rw [hg]; exact Nat.ne_of_gt (zE (g := gb186) (o := .cells #[.slice A0_0 l0_0.length c0_0, .slice A0_1 l0_1.length c0_1] 24 (0, 0)) (by (with_reducible repeat (first | refine ze ?_ _ | refine zg ?_ | refine zd ?_ _)); exact BK186.out)) : gb197 ≠ gb186)); clear HO_10; clear HO_61; clear BK186; clear HB; have HO_10 := n0_; have HO_61 := n1_; have BK186 := n2_; have HB := n3_; have BK197 := n4_; have GW197 := n5_; have GE197 := n6_; have NB186_197 := n7_; have NB197_186 := n8_; clear n0_ n1_ n2_ n3_ n4_ n5_ n6_ n7_ n8_; clear hb hbox hg; have hnb45 := NB197_186.out; have hnc45 := NB186_197.out; have hcz46_0 : w44.cell? ⟨gb197, 0, none⟩ = some (.int .i64 0) := (zi BK197.out 0).trans rfl; have hcz46_1 : w44.cell? ⟨gb197, 1, none⟩ = some (.int .i64 0) := (zi BK197.out 1).trans rfl; have hfz46_0 := zh BK197.out 0; have hfz46_1 := zh BK197.out 1))
                    have n0_ : Aside0 (Kd.R (Kd.int .i64) 3 ((w44.setCell ⟨gb197, 0, none⟩ (.int .i64 ((zl t193 x63_3).f0))).setCell ⟨gb197, 1, none⟩ (.int .i64 ((zl t193 x63_3).f1))) w.heap.size (fun _ => True) v191 x10_3) := ⟨by (with_reducible repeat (first | apply Kd.zq | apply Kd.zr | apply Kd.zy)); exact Kd.zL (Kd.zS (p := ⟨gb197, 1, none⟩) (Kd.zS (p := ⟨gb197, 0, none⟩) (Kd.zZ HO_10.out BK197.out (by decide)) (fun _ hk => hk.2) (.int .i64 ((zl t193 x63_3).f0))) (fun _ hk => hk.2) (.int .i64 ((zl t193 x63_3).f1))) (fun _ hk => trivial)⟩
                    have n1_ : Aside0 (Kd.R k90 90 ((w44.setCell ⟨gb197, 0, none⟩ (.int .i64 ((zl t193 x63_3).f0))).setCell ⟨gb197, 1, none⟩ (.int .i64 ((zl t193 x63_3).f1))) w.heap.size (fun k_ => k_ ≠ gb197) (.slice (some ad196) t193.length co32) t193) := ⟨by (with_reducible repeat (first | apply Kd.zq | apply Kd.zr | apply Kd.zy)); exact Kd.zL (Kd.zS (p := ⟨gb197, 1, none⟩) (Kd.zS (p := ⟨gb197, 0, none⟩) (Kd.zL HO_61.out (fun k_ hk => (⟨hk, hk.2⟩ : _ ∧ k_ ≠ gb197))) (fun _ hk => hk.2) (.int .i64 ((zl t193 x63_3).f0))) (fun _ hk => hk.2) (.int .i64 ((zl t193 x63_3).f1))) (fun _ hk => hk.1.2)⟩
                    have n2_ : Aside0 (((w44.setCell ⟨gb197, 0, none⟩ (.int .i64 ((zl t193 x63_3).f0))).setCell ⟨gb197, 1, none⟩ (.int .i64 ((zl t193 x63_3).f1))).heap[gb186]? = some (.cells #[.slice A0_0 l0_0.length c0_0, .slice A0_1 l0_1.length c0_1] 24 (0, 0))) := ⟨by (with_reducible repeat (first | refine ze ?_ _ | refine zg ?_ | refine zd ?_ _)); refine zI ?_ NB186_197.out _; (with_reducible repeat (first | refine ze ?_ _ | refine zg ?_ | refine zd ?_ _)); refine zI ?_ NB186_197.out _; (with_reducible repeat (first | refine ze ?_ _ | refine zg ?_ | refine zd ?_ _)); exact BK186.out⟩
                    have n3_ : Aside0 (((w44.setCell ⟨gb197, 0, none⟩ (.int .i64 ((zl t193 x63_3).f0))).setCell ⟨gb197, 1, none⟩ (.int .i64 ((zl t193 x63_3).f1))).heap[gb197]? = some (.cells #[.int .i64 ((zl t193 x63_3).f0), .int .i64 ((zl t193 x63_3).f1)] 90 (0, 0))) := ⟨by (with_reducible repeat (first | refine ze ?_ _ | refine zg ?_ | refine zd ?_ _)); refine zN (cs := #[.int .i64 ((zl t193 x63_3).f0), .int .i64 0]) ?_ 1 _ rfl; (with_reducible repeat (first | refine ze ?_ _ | refine zg ?_ | refine zd ?_ _)); refine zN (cs := #[.int .i64 0, .int .i64 0]) ?_ 0 _ rfl; (with_reducible repeat (first | refine ze ?_ _ | refine zg ?_ | refine zd ?_ _)); exact BK197.out⟩
                    have n4_ : Aside0 (Below w.heap.size w ((w44.setCell ⟨gb197, 0, none⟩ (.int .i64 ((zl t193 x63_3).f0))).setCell ⟨gb197, 1, none⟩ (.int .i64 ((zl t193 x63_3).f1)))) := ⟨by repeat (first | (with_reducible first | exact HB.out | apply zb | apply za | apply zc | refine zf ?_ GE186.out | refine zf ?_ GE197.out) | exact HB.out)⟩
                    (try clear HO_10)
                    (try clear HO_61)
                    (try clear BK186)
                    (try clear BK197)
                    (try clear HB)
                    generalize ((w44.setCell ⟨gb197, 0, none⟩ (.int .i64 ((zl t193 x63_3).f0))).setCell ⟨gb197, 1, none⟩ (.int .i64 ((zl t193 x63_3).f1))) = w47 at n0_ n1_ n2_ n3_ n4_ ⊢
                    have HO_10 := n0_
                    have HO_61 := n1_
                    have BK186 := n2_
                    have BK197 := n3_
                    have HB := n4_
                    clear n0_ n1_ n2_ n3_ n4_
                    have n0_ := am_ (Kd.zy HO_10.out)
                    have n1_ := am_ (Kd.zy HO_61.out)
                    have n2_ := am_ (zg BK186.out)
                    have n3_ := am_ (zg BK197.out)
                    have n4_ := am_ (zc HB.out)
                    clear HO_10
                    clear HO_61
                    clear BK186
                    clear BK197
                    clear HB
                    have HO_10 := n0_
                    have HO_61 := n1_
                    have BK186 := n2_
                    have BK197 := n3_
                    have HB := n4_
                    clear n0_ n1_ n2_ n3_ n4_
                    have p198 : 0 ≤ (x63_3 : Int) := of_decide_eq_true (by first | (with_reducible assumption) | assumption)
                    have q198 : x63_3 < (l1.length : Int) := of_decide_eq_true (by first | (with_reducible assumption) | assumption)
                    obtain ⟨ad198, e198, hx198_0⟩ := Kd.at_int HR1.out x63_3 p198 q198
                    have hw198_0 := hx198_0
                    cases e198
                    replace hx198_0 := (HB.out.cell (World.block_lt_of_cell? w _ hx198_0)).trans hx198_0
                    replace p198 := eq_true p198
                    replace q198 := eq_true q198
                    have p43 : 0 ≤ (x63_3 : Int) := of_decide_eq_true (by first | (with_reducible assumption) | assumption)
                    have q43 : (x63_3 : Int) < ((x10_3.length : Int) : Int) := of_decide_eq_true (by first | (with_reducible assumption) | assumption)
                    obtain ⟨go43, co43, eo43, gb43, gl43, cl43, HG43⟩ := Kd.R_form HO_10.out (by omega)
                    (first | cases eo43 | (injection eo43 with ea_ en_ ec_; (first | subst ea_ | (injection ea_ with ea_; subst ea_)); subst ec_; clear en_))
                    have GB43 := am_ gb43
                    have GG43 := am_ HG43
                    clear gb43 gl43 HG43
                    obtain ⟨hx43_0, hf43_0⟩ := Kd.R_celln 0 HO_10.out (x63_3 : Int) p43 q43
                    replace p43 := eq_true p43
                    replace q43 := eq_true q43
                    have HP49 := Kd.R_putn HO_10.out (x63_3 : Int) (wrap64 ((ji37) + (ji41)))
                    rw [← Ny199.out] at HP49
                    have HQ49 := am_ HP49
                    clear HP49
                    refine start_ (n := 21) (S := fun w' => w'.cell? ⟨gb197, 0, none⟩ = some (.int .i64 ((zl t193 x63_3).f0)) ∧ w'.cell? ⟨gb197, 1, none⟩ = some (.int .i64 ((zl t193 x63_3).f1)) ∧ w'.cell? (ad198.add (x63_3).toNat) = some (.int .i64 (rd l1 x63_3))) (ds := [20]) (bl_ 21 0) (by kernel_rfl) rfl rfl ⟨(zi BK197.out 0).trans rfl, (zi BK197.out 1).trans rfl, ((HB.out.cell (World.block_lt_of_cell? w _ hw198_0)).trans hw198_0)⟩ (fun hHeld => ?_); refine with_tabW zD.tab17 zD.bits17 (fun HT_ HW_ => ?_)
                    generalize w47.drew = w48 at HO_10 HO_61 BK186 BK197 HB GG43 HQ49 hf43_0 hx198_0 hx43_0 hHeld ⊢
                    refine zG (i := 0) (N := some 68) (v := ?_) (a' := ?_) (bl_ 21 1) rfl rfl (zu HT_.out (by kernel_rfl)) (fun _ _ _ h => h) (Or.inl ⟨by rfl, ?_⟩) ?_ ?_
                    rotate_left
                    ·intro w'
                     go_simp
                     with_reducible rfl
                    rotate_left
                    ·simp only [Act.put, sI_, s0_, s1_, zv, zx]
                     rfl
                    refine zG (i := 1) (N := some 69) (v := ?_) (a' := ?_) (bl_ 21 3) rfl rfl (zu HT_.out (by kernel_rfl)) (fun _ _ _ h => h) (Or.inl ⟨by rfl, ?_⟩) ?_ ?_
                    rotate_left
                    ·intro w'
                     go_simp
                     with_reducible rfl
                    rotate_left
                    ·simp only [Act.put, sI_, s0_, s1_, zv, zx]
                     rfl
                    refine zG (i := 2) (N := some 70) (v := ?_) (a' := ?_) (bl_ 21 7) rfl rfl (zu HT_.out (by kernel_rfl)) (fun _ _ _ h => h) (Or.inl ⟨by rfl, ?_⟩) ?_ ?_
                    rotate_left
                    ·intro w'
                     go_simp
                     with_reducible rfl
                    rotate_left
                    ·simp only [Act.put, sI_, s0_, s1_, zv, zx]
                     rfl
                    refine zG (i := 3) (N := some 71) (v := ?_) (a' := ?_) (bl_ 21 15) rfl rfl (zu HT_.out (by kernel_rfl)) (fun _ _ _ h => h) (Or.inl ⟨by rfl, ?_⟩) ?_ ?_
                    rotate_left
                    ·intro w'
                     go_simp
                     with_reducible rfl
                    rotate_left
                    ·simp only [Act.put, sI_, s0_, s1_, zv, zx]
                     rfl
                    refine zG (i := 4) (N := some 72) (v := ?_) (a' := ?_) (bl_ 21 31) rfl rfl (zu HT_.out (by kernel_rfl)) (fun _ _ _ h => h) (Or.inl ⟨by rfl, ?_⟩) ?_ ?_
                    rotate_left
                    ·intro w'
                     go_simp
                     with_reducible rfl
                    rotate_left
                    ·simp only [Act.put, sI_, s0_, s1_, zv, zx]
                     rfl
                    refine zG (i := 8) (N := some 76) (v := ?_) (a' := ?_) (bl_ 21 287) rfl rfl (zu HT_.out (by kernel_rfl)) (fun _ _ _ h => h) (Or.inl ⟨by rfl, ?_⟩) ?_ ?_
                    rotate_left
                    ·intro w'
                     go_simp
                     with_reducible rfl
                    rotate_left
                    ·simp only [Act.put, sI_, s0_, s1_, zv, zx]
                     rfl
                    refine zG (i := 9) (N := some 77) (v := ?_) (a' := ?_) (bl_ 21 799) rfl rfl (zu HT_.out (by kernel_rfl)) (fun _ _ _ h => h) (Or.inl ⟨by rfl, ?_⟩) ?_ ?_
                    rotate_left
                    ·intro w'
                     go_simp
                     with_reducible rfl
                    rotate_left
                    ·simp only [Act.put, sI_, s0_, s1_, zv, zx]
                     rfl
                    refine zG (i := 10) (N := some 78) (v := ?_) (a' := ?_) (bl_ 21 1823) rfl rfl (zu HT_.out (by kernel_rfl)) (fun _ _ _ h => h) (Or.inl ⟨by rfl, ?_⟩) ?_ ?_
                    rotate_left
                    ·intro w'
                     go_simp
                     with_reducible rfl
                    rotate_left
                    ·simp only [Act.put, sI_, s0_, s1_, zv, zx]
                     rfl
                    refine zG (i := 13) (N := some 81) (v := ?_) (a' := ?_) (bl_ 21 10015) rfl rfl (zu HT_.out (by kernel_rfl)) (fun _ _ _ h => h) (Or.inl ⟨by rfl, ?_⟩) ?_ ?_
                    rotate_left
                    ·intro w'
                     go_simp
                     with_reducible rfl
                    rotate_left
                    ·simp only [Act.put, sI_, s0_, s1_, zv, zx]
                     rfl
                    refine zG (i := 14) (N := some 82) (v := ?_) (a' := ?_) (bl_ 21 26399) rfl rfl (zu HT_.out (by kernel_rfl)) (fun _ _ _ h => h) (Or.inl ⟨by rfl, ?_⟩) ?_ ?_
                    rotate_left
                    ·intro w'
                     go_simp
                     with_reducible rfl
                    rotate_left
                    ·simp only [Act.put, sI_, s0_, s1_, zv, zx]
                     rfl
                    refine take_ (i := 5) (N := some 73) (v := ?_) (a' := ?_) (bl_ 21 26431) rfl rfl (zag HT_.out HW_.out (by kernel_rfl)) (fun _ _ _ h => h) (Or.inl ⟨by rfl, ?_⟩) hHeld ?_ ?_
                    rotate_left
                    ·rintro w' ⟨s0, s1, s2⟩
                     go_simp
                     with_reducible rfl
                    rotate_left
                    ·simp only [Act.put, sI_, s0_, s1_, zv, zx]
                     rfl
                    refine zG (i := 6) (N := some 74) (v := ?_) (a' := ?_) (bl_ 21 26495) rfl rfl (zu HT_.out (by kernel_rfl)) (fun _ _ _ h => h) (Or.inl ⟨by rfl, ?_⟩) ?_ ?_
                    rotate_left
                    ·intro w'
                     go_simp
                     with_reducible rfl
                    rotate_left
                    ·simp only [Act.put, sI_, s0_, s1_, zv, zx]
                     rfl
                    refine zG (i := 7) (N := some 75) (v := ?_) (a' := ?_) (bl_ 21 26623) rfl rfl (zu HT_.out (by kernel_rfl)) (fun _ _ _ h => h) (Or.inl ⟨by rfl, ?_⟩) ?_ ?_
                    rotate_left
                    ·intro w'
                     go_simp
                     with_reducible rfl
                    rotate_left
                    ·simp only [Act.put, sI_, s0_, s1_, zv, zx]
                     rfl
                    refine take_ (i := 11) (N := some 79) (v := ?_) (a' := ?_) (bl_ 21 28671) rfl rfl (zag HT_.out HW_.out (by kernel_rfl)) (fun _ _ _ h => h) (Or.inl ⟨by rfl, ?_⟩) hHeld ?_ ?_
                    rotate_left
                    ·rintro w' ⟨s0, s1, s2⟩
                     go_simp
                     with_reducible rfl
                    rotate_left
                    ·simp only [Act.put, sI_, s0_, s1_, zv, zx]
                     rfl
                    refine zG (i := 12) (N := some 80) (v := ?_) (a' := ?_) (bl_ 21 32767) rfl rfl (zu HT_.out (by kernel_rfl)) (fun _ _ _ h => h) (Or.inl ⟨by rfl, ?_⟩) ?_ ?_
                    rotate_left
                    ·intro w'
                     go_simp
                     with_reducible rfl
                    rotate_left
                    ·simp only [Act.put, sI_, s0_, s1_, zv, zx]
                     rfl
                    refine take_ (i := 15) (N := some 83) (v := ?_) (a' := ?_) (bl_ 21 65535) rfl rfl (zag HT_.out HW_.out (by kernel_rfl)) (fun _ _ _ h => h) (Or.inl ⟨by rfl, ?_⟩) hHeld ?_ ?_
                    rotate_left
                    ·rintro w' ⟨s0, s1, s2⟩
                     go_simp
                     with_reducible rfl
                    rotate_left
                    ·simp only [Act.put, sI_, s0_, s1_, zv, zx]
                     rfl
                    refine zG (i := 16) (N := some 84) (v := ?_) (a' := ?_) (bl_ 21 131071) rfl rfl (zu HT_.out (by kernel_rfl)) (fun _ _ _ h => h) (Or.inl ⟨by rfl, ?_⟩) ?_ ?_
                    rotate_left
                    ·intro w'
                     go_simp
                     with_reducible rfl
                    rotate_left
                    ·simp only [Act.put, sI_, s0_, s1_, zv, zx]
                     rfl
                    refine zG (i := 17) (N := some 85) (v := ?_) (a' := ?_) (bl_ 21 262143) rfl rfl (zu HT_.out (by kernel_rfl)) (fun _ _ _ h => h) (Or.inl ⟨by rfl, ?_⟩) ?_ ?_
                    rotate_left
                    ·intro w'
                     go_simp
                     with_reducible rfl
                    rotate_left
                    ·simp only [Act.put, sI_, s0_, s1_, zv, zx]
                     rfl
                    refine zG (i := 18) (N := some 86) (v := ?_) (a' := ?_) (bl_ 21 524287) rfl rfl (zu HT_.out (by kernel_rfl)) (fun _ _ _ h => h) (Or.inl ⟨by rfl, ?_⟩) ?_ ?_
                    rotate_left
                    ·intro w'
                     go_simp
                     with_reducible rfl
                    rotate_left
                    ·simp only [Act.put, sI_, s0_, s1_, zv, zx]
                     rfl
                    refine zG (i := 19) (N := some 87) (v := ?_) (a' := ?_) (bl_ 21 1048575) rfl rfl (zu HT_.out (by kernel_rfl)) (fun _ _ _ h => h) (Or.inl ⟨by rfl, ?_⟩) ?_ ?_
                    rotate_left
                    ·intro w'
                     go_simp
                     with_reducible rfl
                    rotate_left
                    ·simp only [Act.put, sI_, s0_, s1_, zv, zx]
                     rfl
                    refine last_ (i := 20) (N := none) (bl_ 21 2097151) rfl rfl (one_of HT_.out (by kernel_rfl)) (by decide) (fun K hK => ?_)
                    refine skip_ (w1 := ?_) (by rfl) rfl ?_ ?_
                    rotate_left
                    ·go_simp
                     rfl
                    refine hK.out _ _ ?_
                    clear hK K
                    refine done_ (done_of HT_.out (by kernel_rfl)) ?_
                    try go_wp2
                    go_roundg k3
                    case measure => have := HK1.out; have := HJ15.out; have := HK3.out; omega
                    case rel => exact ⟨(y199), (wrap64 (x63_3 + 1)), (by first | rfl | (simp; done) | (simp [*]; done)), H', ⟨by have := HK1.out; have := HJ15.out; have := HK3.out; omega⟩, ⟨by (with_reducible repeat (first | apply Kd.zq | apply Kd.zr | apply Kd.zy)); exact HQ49.out⟩, ⟨by (with_reducible repeat (first | apply Kd.zq | apply Kd.zr | apply Kd.zy)); exact Kd.zL (Kd.zS (p := ⟨go43, (x63_3 : Int).toNat, none⟩) (Kd.zZ HO_61.out GG43.out (by decide)) (fun _ hk => hk.2) (.int .i64 (wrap64 ((ji37) + (ji41))))) (fun _ hk => trivial)⟩, ⟨by (with_reducible repeat (first | refine ze ?_ _ | refine zg ?_ | refine zd ?_ _)); refine zI ?_ (by have h_ := Kd.R_ne HO_10.out BK186.out (by decide); intro e_; exact h_ (by rw [e_]; rfl)) _; (with_reducible repeat (first | refine ze ?_ _ | refine zg ?_ | refine zd ?_ _)); exact BK186.out⟩, ⟨by repeat (first | (with_reducible first | exact HB.out | apply zb | apply za | apply zc | refine zf ?_ GB43.out | refine zf ?_ GE186.out | refine zf ?_ GE197.out) | exact HB.out)⟩⟩
                   ·rw [if_neg c42] at H
                    exact absurd H (by simp)
                  ·rw [if_neg c40] at H
                   exact absurd H (by simp)
                 ·rw [if_neg c38] at H
                  exact absurd H (by simp)
                ·rw [if_neg c36] at H
                 exact absurd H (by simp)
               ·rw [if_neg c35] at H
                exact absurd H (by simp)
              ·rw [if_neg c34] at H
               exact absurd H (by simp)
             ·rw [if_neg c33] at H
              have c33b0 : decide (x63_3 < (t193.length : Int)) = false := decide_eq_false c33
              clear c33
              simp only [Option.some.injEq, Prod.mk.injEq] at H
              obtain ⟨rfl, rfl⟩ := H
              go_wp2
              go_ret2
              exact ⟨_, by first | rfl | (simp [zz, zA] <;> rfl) | (simp [*, zz, zA] <;> rfl), by (with_reducible repeat (first | apply Kd.zq | apply Kd.zr | apply Kd.zy)); exact HO_10.out, by repeat (first | (with_reducible first | exact HB.out | apply zb | apply za | apply zc | refine zf ?_ GE186.out) | exact HB.out)⟩
          ·rw [if_neg c26] at H
           exact absurd H (by simp)
         ·rw [if_neg c25] at H
          exact absurd H (by simp)
  ·rw [if_neg c6] at H
   have c6b0 : ((l1.length : Int) == (l0_0.length : Int)) = false := beq_eq_false_iff_ne.mpr c6
   have c6b1 : ((l1.length : Int) != (l0_0.length : Int)) = true := bne_iff_ne.mpr c6
   have c6b2 : (l1.length == l0_0.length) = false := by first | simpa using c6 | (simp at c6 ⊢; omega)
   simp only [Option.some.injEq, Prod.mk.injEq] at H
   obtain ⟨rfl, rfl⟩ := H
   go_enter Try.func21, Try.ntmps21
   go_wp2_with (first | ((with_reducible refine zp (N := 3) rfl ?_); (try (refine zY (by rfl) ?_; dsimp only)); refine zw ?hg (N := 3) ?hd (cs := #[.slice A0_0 l0_0.length c0_0, .slice A0_1 l0_1.length c0_1]) (t := 24) ?hr ?_; (case hd => rfl); (case hg => rfl); (case hr => first | (go_simp; done) | (go_simp; rfl)); intro gb186 hg w50 hbox hb; have n0_ := am_ (zj (by repeat (first | (with_reducible first | exact HB.out | apply zb | apply za | apply zc) | exact HB.out)) hb); have n1_ := am_ (hbox); have n2_ := am_ ((by rw [hg]; exact (zk (by repeat (first | (with_reducible first | exact HB.out | apply zb | apply za | apply zc) | exact HB.out))) : w.heap.size ≤ gb186)); have n3_ := am_ ((by rw [hg]; exact (zk (by repeat (first | (with_reducible first | exact HB.out | apply zb | apply za | apply zc) | exact HB.out))) : w.heap.size ≤ gb186)); clear HB; have HB := n0_; have BK186 := n1_; have GW186 := n2_; have GE186 := n3_; clear n0_ n1_ n2_ n3_; clear hb hbox hg; have hcz51_0 : w50.cell? ⟨gb186, 0, none⟩ = some (.slice A0_0 l0_0.length c0_0) := (zi BK186.out 0).trans rfl; have hcz51_1 : w50.cell? ⟨gb186, 1, none⟩ = some (.slice A0_1 l0_1.length c0_1) := (zi BK186.out 1).trans rfl; have hfz51_0 := zh BK186.out 0; have hfz51_1 := zh BK186.out 1) | ((with_reducible refine zR (f := 17) rfl ?_); refine goesL_ (some 17) rfl rfl Try.func17 (by kernel_rfl) rfl #[.agg #[.slice A0_0 l0_0.length c0_0, .slice A0_1 l0_1.length c0_1], .int .i64 (l0_0.length : Int)] rfl (by (try simp only [List.map_toArray, List.map_cons, List.map_nil]); first | done | rfl | (simp only [List.length_drop, List.length_take]; rfl)) ?_; (with_reducible refine (zt.calls k _ _ l0_0 _ _ l0_1 (l0_0.length : Int) t187 _ ?side1 ?side2 ?side3 ?side4 A4.out).mono ?_); (case side1 => repeat (first | exact (Kd.zM HR0_0.out HB.out) | (with_reducible refine Kd.z3 ?_ _) | (with_reducible refine Kd.z2 ?_ _) | (with_reducible refine Kd.zae ?_))); (case side2 => exact HC0_0.out); (case side3 => repeat (first | exact (Kd.zM HR0_1.out HB.out) | (with_reducible refine Kd.z3 ?_ _) | (with_reducible refine Kd.z2 ?_ _) | (with_reducible refine Kd.zae ?_))); (case side4 => exact HC0_1.out); rintro e w52 ⟨rfl, hb⟩; refine ⟨_, rfl, ?_⟩; have n0_ := am_ (zm (g := gb186) (o := .cells #[.slice A0_0 l0_0.length c0_0, .slice A0_1 l0_1.length c0_1] 24 (0, 0)) (by (with_reducible repeat (first | refine ze ?_ _ | refine zg ?_ | refine zd ?_ _)); exact BK186.out) hb); have n1_ := am_ (zj (by repeat (first | (with_reducible first | exact HB.out | apply zb | apply za | apply zc | refine zf ?_ GE186.out) | exact HB.out)) hb); clear BK186; clear HB; have BK186 := n0_; have HB := n1_; clear n0_ n1_; (try clear hb); (try clear hb2); (try clear hk); (try clear hi); have hcz53_0 : w52.cell? ⟨gb186, 0, none⟩ = some (.slice A0_0 l0_0.length c0_0) := (zi BK186.out 0).trans rfl; have hcz53_1 : w52.cell? ⟨gb186, 1, none⟩ = some (.slice A0_1 l0_1.length c0_1) := (zi BK186.out 1).trans rfl; have hfz53_0 := zh BK186.out 0; have hfz53_1 := zh BK186.out 1))
   go_ret2
   exact ⟨_, by first | rfl | (simp [zz, zA] <;> rfl) | (simp [*, zz, zA] <;> rfl), by first | exact Kd.R_nil _ _ _ _ _ | exact Kd.N_nil _ _ _ _ _ | exact Kd.V_nil _ _ _ _ _ | exact Kd.Q_nil _ _ _ _ _ | exact Kd.S_nil _ _ _ _ _, by repeat (first | (with_reducible first | exact HB.out | apply zb | apply za | apply zc | refine zf ?_ GE186.out) | exact HB.out)⟩
 ·rw [if_neg c5] at H
  have c5b0 : (t187 == 0) = false := beq_eq_false_iff_ne.mpr c5
  have c5b1 : (t187 != 0) = true := bne_iff_ne.mpr c5
  simp only [Option.some.injEq, Prod.mk.injEq] at H
  obtain ⟨rfl, rfl⟩ := H
  go_enter Try.func21, Try.ntmps21
  go_wp2_with (first | ((with_reducible refine zp (N := 3) rfl ?_); (try (refine zY (by rfl) ?_; dsimp only)); refine zw ?hg (N := 3) ?hd (cs := #[.slice A0_0 l0_0.length c0_0, .slice A0_1 l0_1.length c0_1]) (t := 24) ?hr ?_; (case hd => rfl); (case hg => rfl); (case hr => first | (go_simp; done) | (go_simp; rfl)); intro gb186 hg w54 hbox hb; have n0_ := am_ (zj (by repeat (first | (with_reducible first | exact HB.out | apply zb | apply za | apply zc) | exact HB.out)) hb); have n1_ := am_ (hbox); have n2_ := am_ ((by rw [hg]; exact (zk (by repeat (first | (with_reducible first | exact HB.out | apply zb | apply za | apply zc) | exact HB.out))) : w.heap.size ≤ gb186)); have n3_ := am_ ((by rw [hg]; exact (zk (by repeat (first | (with_reducible first | exact HB.out | apply zb | apply za | apply zc) | exact HB.out))) : w.heap.size ≤ gb186)); clear HB; have HB := n0_; have BK186 := n1_; have GW186 := n2_; have GE186 := n3_; clear n0_ n1_ n2_ n3_; clear hb hbox hg; have hcz55_0 : w54.cell? ⟨gb186, 0, none⟩ = some (.slice A0_0 l0_0.length c0_0) := (zi BK186.out 0).trans rfl; have hcz55_1 : w54.cell? ⟨gb186, 1, none⟩ = some (.slice A0_1 l0_1.length c0_1) := (zi BK186.out 1).trans rfl; have hfz55_0 := zh BK186.out 0; have hfz55_1 := zh BK186.out 1) | ((with_reducible refine zR (f := 17) rfl ?_); refine goesL_ (some 17) rfl rfl Try.func17 (by kernel_rfl) rfl #[.agg #[.slice A0_0 l0_0.length c0_0, .slice A0_1 l0_1.length c0_1], .int .i64 (l0_0.length : Int)] rfl (by (try simp only [List.map_toArray, List.map_cons, List.map_nil]); first | done | rfl | (simp only [List.length_drop, List.length_take]; rfl)) ?_; (with_reducible refine (zt.calls k _ _ l0_0 _ _ l0_1 (l0_0.length : Int) t187 _ ?side1 ?side2 ?side3 ?side4 A4.out).mono ?_); (case side1 => repeat (first | exact (Kd.zM HR0_0.out HB.out) | (with_reducible refine Kd.z3 ?_ _) | (with_reducible refine Kd.z2 ?_ _) | (with_reducible refine Kd.zae ?_))); (case side2 => exact HC0_0.out); (case side3 => repeat (first | exact (Kd.zM HR0_1.out HB.out) | (with_reducible refine Kd.z3 ?_ _) | (with_reducible refine Kd.z2 ?_ _) | (with_reducible refine Kd.zae ?_))); (case side4 => exact HC0_1.out); rintro e w56 ⟨rfl, hb⟩; refine ⟨_, rfl, ?_⟩; have n0_ := am_ (zm (g := gb186) (o := .cells #[.slice A0_0 l0_0.length c0_0, .slice A0_1 l0_1.length c0_1] 24 (0, 0)) (by (with_reducible repeat (first | refine ze ?_ _ | refine zg ?_ | refine zd ?_ _)); exact BK186.out) hb); have n1_ := am_ (zj (by repeat (first | (with_reducible first | exact HB.out | apply zb | apply za | apply zc | refine zf ?_ GE186.out) | exact HB.out)) hb); clear BK186; clear HB; have BK186 := n0_; have HB := n1_; clear n0_ n1_; (try clear hb); (try clear hb2); (try clear hk); (try clear hi)))
  go_ret2
  exact ⟨_, by first | rfl | (simp [zz, zA] <;> rfl) | (simp [*, zz, zA] <;> rfl), by first | exact Kd.R_nil _ _ _ _ _ | exact Kd.N_nil _ _ _ _ _ | exact Kd.V_nil _ _ _ _ _ | exact Kd.Q_nil _ _ _ _ _ | exact Kd.S_nil _ _ _ _ _, by repeat (first | (with_reducible first | exact HB.out | apply zb | apply za | apply zc | refine zf ?_ GE186.out) | exact HB.out)⟩
end Go.Proofs.Ytlidbaejhmamjaa.PB

namespace Go.Proofs.Ytlidbaejhmamjaa.PB
open Go.RowKit Go.Proofs.YtlidbaejhmamjaaW.PrintWords Go.Proofs.YtlidbaejhmamjaaW.PrintLast Go.Proofs.YtlidbaejhmamjaaW.PrintMore
attribute [local go_sem] zX zU z7 z8 zO zP zW zT   -- for this text's walks alone
set_option linter.unusedVariables false
set_option linter.unusedSimpArgs false
def zn.l0 : Nat → List Int → List Int → Int → Option (Bool)
 | 0, _, _, _ => none
 | k + 1, x0, x1, x5 => if x5 < (x0.length : Int) then (if 0 ≤ x5 then (if x5 < (x1.length : Int) then (if (rd x0 x5) = (rd x1 x5) then (zn.l0 k x0 x1 (wrap64 (x5 + 1))) else (some false)) else (none)) else (none)) else (some true)
def zn.f (k : Nat) (l0 : List Int) (l1 : List Int) : Option (Bool) := if (l0.length : Int) = (l1.length : Int) then (zn.l0 k l0 l1 0) else (some false)
set_option maxHeartbeats 8000000 in
set_option maxRecDepth 100000 in
theorem zn.calls (k : Nat) (A0 : Option Addr) (c0 : Nat) (l0 : List Int) (A1 : Option Addr) (c1 : Nat) (l1 : List Int) (r : Bool) (w : World) (hr0 : Kd.C (Kd.int .i64) w A0 l0.length l0) (hc0 : l0.length ≤ c0) (hr1 : Kd.C (Kd.int .i64) w A1 l1.length l1) (hc1 : l1.length ≤ c1) (h : zn.f k l0 l1 = some r) :
  Calls Try.prog 23 #[.slice A0 l0.length c0, .slice A1 l1.length c1] w fun e w' => e = .returned (.bool r) ∧ zar w w' := by
 have HR0 := am_ hr0
 have HC0 := am_ hc0
 clear hr0 hc0
 have HR1 := am_ hr1
 have HC1 := am_ hc1
 clear hr1 hc1
 have H : (if (l0.length : Int) = (l1.length : Int) then (zn.l0 k l0 l1 0) else (some false)) = some r := h
 clear h
 by_cases c3 : (l0.length : Int) = (l1.length : Int)
 ·rw [if_pos c3] at H
  have c3b0 : ((l0.length : Int) == (l1.length : Int)) = true := beq_iff_eq.mpr c3
  have c3b1 : ((l0.length : Int) != (l1.length : Int)) = false := bne_eq_false_iff_eq.mpr c3
  have c3b2 : (l0.length == l1.length) = true := by first | simpa using c3 | (simp at c3 ⊢; omega)
  clear c3
  have H' := am_ H
  clear H
  go_enter Try.func23, Try.ntmps23
  go_wp2
  repeat (go_quiet (fail); try go_wp2)
  go_loopg [5] k (fun kq v5 w' => ∃ (x5_1 : Int), v5 = .int .i64 x5_1 ∧ Aside0 (zn.l0 kq l0 l1 x5_1 = some r) ∧ Aside0 (kq ≤ k) ∧ zar w w')
  case atStart => exact ⟨(0), (by first | rfl | (simp; done) | (simp [*]; done)), H', ⟨Nat.le_refl _⟩, by repeat (first | exact zar.refl _ | apply zar.step)⟩
  case round =>
   clear H'
   try clear c1
   try clear c2
   try clear p2
   try clear c3
   try clear c3b0
   try clear c3b1
   try clear c3b2
   obtain ⟨x5_1, rfl, HA, HK1, ⟨m1, rfl⟩⟩ := hrel
   cases gk with
   | zero => exact absurd HA.out (by simp [zn.l0])
   | succ k1 =>
    have H := HA.out
    clear HA
    simp only [zn.l0] at H
    by_cases c4 : x5_1 < (l0.length : Int)
    ·rw [if_pos c4] at H
     have c4b0 : decide (x5_1 < (l0.length : Int)) = true := decide_eq_true c4
     clear c4
     by_cases c5 : 0 ≤ x5_1
     ·rw [if_pos c5] at H
      have c5b0 : decide (0 ≤ x5_1) = true := decide_eq_true c5
      clear c5
      by_cases c6 : x5_1 < (l1.length : Int)
      ·rw [if_pos c6] at H
       have c6b0 : decide (x5_1 < (l1.length : Int)) = true := decide_eq_true c6
       clear c6
       by_cases c7 : (rd l0 x5_1) = (rd l1 x5_1)
       ·rw [if_pos c7] at H
        have c7b0 : ((rd l0 x5_1) == (rd l1 x5_1)) = true := beq_iff_eq.mpr c7
        have c7b1 : ((rd l0 x5_1) != (rd l1 x5_1)) = false := bne_eq_false_iff_eq.mpr c7
        clear c7
        have H' := am_ H
        clear H
        have p133 : 0 ≤ (x5_1 : Int) := of_decide_eq_true (by first | (with_reducible assumption) | assumption)
        have q133 : x5_1 < (l0.length : Int) := of_decide_eq_true (by first | (with_reducible assumption) | assumption)
        obtain ⟨ad133, e133, hx133_0⟩ := Kd.at_int HR0.out x5_1 p133 q133
        cases e133
        replace p133 := eq_true p133
        replace q133 := eq_true q133
        have p134 : 0 ≤ (x5_1 : Int) := of_decide_eq_true (by first | (with_reducible assumption) | assumption)
        have q134 : x5_1 < (l1.length : Int) := of_decide_eq_true (by first | (with_reducible assumption) | assumption)
        obtain ⟨ad134, e134, hx134_0⟩ := Kd.at_int HR1.out x5_1 p134 q134
        cases e134
        replace p134 := eq_true p134
        replace q134 := eq_true q134
        go_wp2
        repeat (go_quiet (fail); try go_wp2)
        go_roundg k1
        case measure => have := HK1.out; omega
        case rel => exact ⟨(wrap64 (x5_1 + 1)), (by first | rfl | (simp; done) | (simp [*]; done)), H', ⟨by have := HK1.out; omega⟩, by repeat (first | exact zar.refl _ | apply zar.step)⟩
       ·rw [if_neg c7] at H
        have c7b0 : ((rd l0 x5_1) == (rd l1 x5_1)) = false := beq_eq_false_iff_ne.mpr c7
        have c7b1 : ((rd l0 x5_1) != (rd l1 x5_1)) = true := bne_iff_ne.mpr c7
        obtain rfl := Option.some.inj H
        have p133 : 0 ≤ (x5_1 : Int) := of_decide_eq_true (by first | (with_reducible assumption) | assumption)
        have q133 : x5_1 < (l0.length : Int) := of_decide_eq_true (by first | (with_reducible assumption) | assumption)
        obtain ⟨ad133, e133, hx133_0⟩ := Kd.at_int HR0.out x5_1 p133 q133
        cases e133
        replace p133 := eq_true p133
        replace q133 := eq_true q133
        have p134 : 0 ≤ (x5_1 : Int) := of_decide_eq_true (by first | (with_reducible assumption) | assumption)
        have q134 : x5_1 < (l1.length : Int) := of_decide_eq_true (by first | (with_reducible assumption) | assumption)
        obtain ⟨ad134, e134, hx134_0⟩ := Kd.at_int HR1.out x5_1 p134 q134
        cases e134
        replace p134 := eq_true p134
        replace q134 := eq_true q134
        go_wp2
        repeat (go_quiet (fail); try go_wp2)
        go_ret
        exact ⟨by first | rfl | (simp; done) | (simp [*]; done), by repeat (first | exact zar.refl _ | apply zar.step)⟩
      ·rw [if_neg c6] at H
       exact absurd H (by simp)
     ·rw [if_neg c5] at H
      exact absurd H (by simp)
    ·rw [if_neg c4] at H
     have c4b0 : decide (x5_1 < (l0.length : Int)) = false := decide_eq_false c4
     clear c4
     obtain rfl := Option.some.inj H
     go_wp2
     repeat (go_quiet (fail); try go_wp2)
     go_ret
     exact ⟨by first | rfl | (simp; done) | (simp [*]; done), by repeat (first | exact zar.refl _ | apply zar.step)⟩
 ·rw [if_neg c3] at H
  have c3b0 : ((l0.length : Int) == (l1.length : Int)) = false := beq_eq_false_iff_ne.mpr c3
  have c3b1 : ((l0.length : Int) != (l1.length : Int)) = true := bne_iff_ne.mpr c3
  have c3b2 : (l0.length == l1.length) = false := by first | simpa using c3 | (simp at c3 ⊢; omega)
  obtain rfl := Option.some.inj H
  go_enter Try.func23, Try.ntmps23
  go_wp2
  repeat (go_quiet (fail); try go_wp2)
  go_ret
  exact ⟨by first | rfl | (simp; done) | (simp [*]; done), by repeat (first | exact zar.refl _ | apply zar.step)⟩
end Go.Proofs.Ytlidbaejhmamjaa.PB

namespace Go.Proofs.Ytlidbaejhmamjaa.LW
open Go.RowKit Go.Proofs.YtlidbaejhmamjaaW.PrintWords Go.Proofs.YtlidbaejhmamjaaW.PrintLast Go.Proofs.YtlidbaejhmamjaaW.PrintMore Go.Proofs.Ytlidbaejhmamjaa.PB Go.Proofs.Ytlidbaejhmamjaa.LA Go.Proofs.Ytlidbaejhmamjaa.AC
set_option linter.unusedVariables false
set_option linter.unusedSimpArgs false
/-- A row of whole numbers that is read. -/
structure Rd (w : World) (A : Option Addr) (c : Nat) (xs : List Int) : Prop where
 row : Kd.C (Kd.int .i64) w A xs.length xs
 cap : xs.length ≤ c
/-- A region's box. -/
def Bx (w : World) (g : Nat) (A0 : Option Addr) (n0 c0 : Nat) (A1 : Option Addr) (n1 c1 : Nat) : Prop := w.heap[g]? = some (.cells #[.slice A0 n0 c0, .slice A1 n1 c1] 24 (0, 0))
theorem Rd.step {w w' : World} {A : Option Addr} {c : Nat} {xs : List Int} (h : Rd w A c xs) (hb : Below w.heap.size w w') : Rd w' A c xs := ⟨Kd.zM h.row hb, h.cap⟩
theorem Rd.of_R {w : World} {base : Nat} {ok : Nat → Prop} {v : Value} {xs : List Int} (h : Kd.R (Kd.int .i64) 3 w base ok v xs) : ∃ A c, v = .slice A xs.length c ∧ Rd w A c xs := by
 obtain ⟨A, c, rfl⟩ := Kd.z4 h
 have := Kd.zQ h
 exact ⟨A, c, rfl, this.2.2, this.2.1⟩
theorem Rd.put {w w' : World} {A : Option Addr} {c : Nat} {xs : List Int} (h : Rd w A c xs) {g : Nat} {A0 A1 : Option Addr} {n0 c0 n1 c1 : Nat} (hk : Bx w g A0 n0 c0 A1 n1 c1) (hg : w.grownBy w' (some g)) : Rd w' A c xs := by
 refine ⟨⟨h.row.1, h.row.2.1, fun hn => ?_⟩, h.cap⟩
 obtain ⟨ad, e, hc⟩ := h.row.2.2 hn
 refine ⟨ad, e, fun j p hj => ?_⟩
 obtain ⟨cs, hs, hr, hcell⟩ := hc j p hj
 refine ⟨cs, hs, hr, fun i u hu => ?_⟩
 have hold := hcell i u hu
 have hu2 : u = .int .i64 p := by
  have hr2 : cs = [Value.int .i64 p] := hr
  subst hr2
  cases i with
  | zero => exact (Option.some.inj hu).symm
  | succ i => cases hu
 by_cases hb : (ad.add (j * (Kd.int .i64).sz + i)).block = g
 ·exfalso
  unfold World.cell? at hold
  rw [hb, hk, hu2] at hold
  simp only at hold
  split at hold
  ·cases hold
  ·generalize (ad.add (j * (Kd.int .i64).sz + i)).off = o at hold
   match o with
   | 0 => simp at hold
   | 1 => simp at hold
   | o + 2 => simp at hold
 ·rw [World.cell?_of_block (w := w) (hg.block _ (by
   unfold World.cell? at hold
   split at hold
   ·rename_i h1; exact zE h1
   ·cases hold) (fun e => hb (Option.some.inj e)))]
  exact hold
theorem Bx.step {w w' : World} {g : Nat} {A0 A1 : Option Addr} {n0 c0 n1 c1 : Nat} (h : Bx w g A0 n0 c0 A1 n1 c1) (hb : Below w.heap.size w w') : Bx w' g A0 n0 c0 A1 n1 c1 := zm h hb
theorem Bx.put {w w' : World} {g g' : Nat} {A0 A1 : Option Addr} {n0 c0 n1 c1 : Nat} (h : Bx w g A0 n0 c0 A1 n1 c1) (hg : w.grownBy w' (some g')) (hne : g ≠ g') : Bx w' g A0 n0 c0 A1 n1 c1 := zai hg h (fun e => hne (Option.some.inj e))
theorem Bx.lt {w : World} {g : Nat} {A0 A1 : Option Addr} {n0 c0 n1 c1 : Nat} (h : Bx w g A0 n0 c0 A1 n1 c1) : g < w.heap.size := zE h
theorem Bx.c0 {w : World} {g : Nat} {A0 A1 : Option Addr} {n0 c0 n1 c1 : Nat} (h : Bx w g A0 n0 c0 A1 n1 c1) : w.cell? ⟨g, 0, none⟩ = some (.slice A0 n0 c0) := (zi h 0).trans rfl
theorem Bx.c1 {w : World} {g : Nat} {A0 A1 : Option Addr} {n0 c0 n1 c1 : Nat} (h : Bx w g A0 n0 c0 A1 n1 c1) : w.cell? ⟨g, 1, none⟩ = some (.slice A1 n1 c1) := (zi h 1).trans rfl
theorem info24 : (Try.prog.info? 24).map (·.size) = some 2 := by kernel_rfl
theorem zaa (A0 A1 : Option Addr) (n0 c0 n1 c1 : Nat) : (#[Value.slice A0 n0 c0, .slice A1 n1 c1] : Array Value).all (·.oneCell') = true := by simp [Value.oneCell']
theorem awake_vals : ∃ (p0 p1 a0 a1 b0 b1 l y1 y2 y3 y4 y5 : List Int), zaz.f 40 2 = some (p0, p1, 0) ∧ zJ.f 40 p0 p1 1 = some (a0, a1, b0, b1, 0) ∧ zao.f 40 b0 b1 = some (1, 0) ∧ zD.f 40 b0 b1 y1 1 = some (l, 0) ∧
  zn.f 40 l y2 = some true ∧ zt.f 40 p0 p1 2 = some 0 ∧ decide (Win a0 a1 y3 0) = true ∧ decide (Win b0 b1 y4 0) = false ∧ zn.f 40 b1 y5 = some true ∧
  y1 = [1, -1] ∧ y2 = [2, 0] ∧ y3 = [0, -1] ∧ y4 = [0, -1] ∧ y5 = [0, 1] :=
 ⟨[0, 0], [0, 0], [0, 1], [0, 0], [0, 1], [0, 1], [2, 0], _, _, _, _, _, by kernel_rfl, by kernel_rfl, by kernel_rfl, by kernel_rfl, by kernel_rfl, by kernel_rfl, by decide +kernel, by decide +kernel, by kernel_rfl, rfl, rfl, rfl, rfl, rfl⟩
end Go.Proofs.Ytlidbaejhmamjaa.LW
