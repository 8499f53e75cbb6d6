/- Part 5 of the proof of SplitPlays: what the functions below it compute, each shown by a walk or by plain reasoning; no condition of its own. -/
import Derived.Test.YtlidbaejhmamjaaSP1
import Derived.Test.YtlidbaejhmamjaaSP3
import Derived.Test.YtlidbaejhmamjaaSP4
namespace Go.Proofs.Ytlidbaejhmamjaa.PB
open Go.RowKit Go.Proofs.YtlidbaejhmamjaaW.PrintWords Go.Proofs.YtlidbaejhmamjaaW.PrintLast Go.Proofs.YtlidbaejhmamjaaW.PrintMore
attribute [local go_sem] zao zar zaB zaC zaf zag zap zas   -- for this text's walks alone
set_option linter.unusedVariables false
set_option linter.unusedSimpArgs false
def zaM.f (k : Nat) (l0_0 : List Int) (l0_1 : List Int) (l1_0 : List Int) (l1_1 : List Int) : Option (Bool) := (zC.f k l0_0 l1_0).bind fun t137 => (if t137 = true then ((zC.f k l0_1 l1_1).bind fun t138 => (some t138)) else (some false))
set_option maxHeartbeats 8000000 in
set_option maxRecDepth 100000 in
theorem zaM.calls (k : Nat) (A0_0 : Option Addr) (c0_0 : Nat) (l0_0 : List Int) (A0_1 : Option Addr) (c0_1 : Nat) (l0_1 : List Int) (A1_0 : Option Addr) (c1_0 : Nat) (l1_0 : List Int) (A1_1 : Option Addr) (c1_1 : Nat) (l1_1 : List Int) (r : Bool) (w : World) (hr0_0 : Kd.C (Kd.int .i64) w A0_0 l0_0.length l0_0) (hc0_0 : l0_0.length ≤ c0_0) (hr0_1 : Kd.C (Kd.int .i64) w A0_1 l0_1.length l0_1) (hc0_1 : l0_1.length ≤ c0_1) (hr1_0 : Kd.C (Kd.int .i64) w A1_0 l1_0.length l1_0) (hc1_0 : l1_0.length ≤ c1_0) (hr1_1 : Kd.C (Kd.int .i64) w A1_1 l1_1.length l1_1) (hc1_1 : l1_1.length ≤ c1_1) (h : zaM.f k l0_0 l0_1 l1_0 l1_1 = some r) :
  Calls Try.prog 13 #[.agg #[.slice A0_0 l0_0.length c0_0, .slice A0_1 l0_1.length c0_1], .agg #[.slice A1_0 l1_0.length c1_0, .slice A1_1 l1_1.length c1_1]] w fun e w' => e = .returned (.bool r) ∧ Below w.heap.size w w' := by
 have hu24 := Try.underlying24
 have HR0_0 := am_ hr0_0
 have HC0_0 := am_ hc0_0
 clear hr0_0 hc0_0
 have HR0_1 := am_ hr0_1
 have HC0_1 := am_ hc0_1
 clear hr0_1 hc0_1
 have HR1_0 := am_ hr1_0
 have HC1_0 := am_ hc1_0
 clear hr1_0 hc1_0
 have HR1_1 := am_ hr1_1
 have HC1_1 := am_ hc1_1
 clear hr1_1 hc1_1
 have HB := am_ (Below.refl w.heap.size w)
 have H : ((zC.f k l0_0 l1_0).bind fun t137 => (if t137 = true then ((zC.f k l0_1 l1_1).bind fun t138 => (some t138)) else (some false))) = some r := h
 clear h
 replace H := Option.bind_eq_some_iff.mp H
 obtain ⟨t137, A30, H⟩ := H
 replace H : (if t137 = true then ((zC.f k l0_1 l1_1).bind fun t138 => (some t138)) else (some false)) = some r := H
 have A3 := am_ A30
 clear A30
 by_cases c4 : t137 = true
 ·subst c4
  have H1 : ((zC.f k l0_1 l1_1).bind fun t138 => (some t138)) = some r := by rw [if_pos rfl] at H; exact H
  clear H
  have H := H1
  clear H1
  replace H := Option.bind_eq_some_iff.mp H
  obtain ⟨t138, A50, H⟩ := H
  replace H : (some t138) = some r := H
  have A5 := am_ A50
  clear A50
  obtain rfl := Option.some.inj H
  go_enter Try.func13, Try.ntmps13
  go_wp2_with (first | ((with_reducible refine zr (N := 2) rfl ?_); refine zt ?hg (N := 2) ?hd (cs := #[.slice A0_0 l0_0.length c0_0, .slice A0_1 l0_1.length c0_1]) (t := 24) ?hr ?_; (case hd => rfl); (case hg => rfl); (case hr => first | (go_simp; done) | (go_simp; rfl)); intro gb135 hg w6 hbox hb; have n0_ := am_ (zh (by repeat (first | (with_reducible first | exact HB.out | apply zc | apply za | apply zb) | exact HB.out)) hb); have n1_ := am_ (hbox); have n2_ := am_ ((by rw [hg]; exact (zk (by repeat (first | (with_reducible first | exact HB.out | apply zc | apply za | apply zb) | exact HB.out))) : w.heap.size ≤ gb135)); have n3_ := am_ ((by rw [hg]; exact (zk (by repeat (first | (with_reducible first | exact HB.out | apply zc | apply za | apply zb) | exact HB.out))) : w.heap.size ≤ gb135)); clear HB; have HB := n0_; have BK135 := n1_; have GW135 := n2_; have GE135 := n3_; clear n0_ n1_ n2_ n3_; clear hb hbox hg) | ((with_reducible refine zr (N := 3) rfl ?_); refine zt ?hg (N := 3) ?hd (cs := #[.slice A1_0 l1_0.length c1_0, .slice A1_1 l1_1.length c1_1]) (t := 24) ?hr ?_; (case hd => rfl); (case hg => rfl); (case hr => first | (go_simp; done) | (go_simp; rfl)); intro gb136 hg w7 hbox hb; have n0_ := am_ (zo (g := gb135) (o := .cells #[.slice A0_0 l0_0.length c0_0, .slice A0_1 l0_1.length c0_1] 24 (0, 0)) (by (with_reducible repeat (first | refine ze ?_ _ | refine zg ?_ | refine zd ?_ _)); exact BK135.out) hb); have n1_ := am_ (zh (by repeat (first | (with_reducible first | exact HB.out | apply zc | apply za | apply zb | refine zf ?_ GE135.out) | exact HB.out)) hb); have n2_ := am_ (hbox); have n3_ := am_ ((by rw [hg]; exact (zk (by repeat (first | (with_reducible first | exact HB.out | apply zc | apply za | apply zb | refine zf ?_ GE135.out) | exact HB.out))) : w.heap.size ≤ gb136)); have n4_ := am_ ((by rw [hg]; exact (zk (by repeat (first | (with_reducible first | exact HB.out | apply zc | apply za | apply zb | refine zf ?_ GE135.out) | exact HB.out))) : w.heap.size ≤ gb136)); have n5_ := am_ ((by rw [hg]; exact Nat.ne_of_lt (zL (g := gb135) (o := .cells #[.slice A0_0 l0_0.length c0_0, .slice A0_1 l0_1.length c0_1] 24 (0, 0)) (by (with_reducible repeat (first | refine ze ?_ _ | refine zg ?_ | refine zd ?_ _)); exact BK135.out)) : gb135 ≠ gb136)); have n6_ := am_ ((by rw [hg]; exact Nat.ne_of_gt (zL (g := gb135) (o := .cells #[.slice A0_0 l0_0.length c0_0, .slice A0_1 l0_1.length c0_1] 24 (0, 0)) (by (with_reducible repeat (first | refine ze ?_ _ | refine zg ?_ | refine zd ?_ _)); exact BK135.out)) : gb136 ≠ gb135)); clear BK135; clear HB; have BK135 := n0_; have HB := n1_; have BK136 := n2_; have GW136 := n3_; have GE136 := n4_; have NB135_136 := n5_; have NB136_135 := n6_; clear n0_ n1_ n2_ n3_ n4_ n5_ n6_; clear hb hbox hg; have hnb8 := NB135_136.out; have hnc8 := NB136_135.out; have hcz9_0 : w7.cell? ⟨gb135, 0, none⟩ = some (.slice A0_0 l0_0.length c0_0) := (zj BK135.out 0).trans rfl; have hcz9_1 : w7.cell? ⟨gb135, 1, none⟩ = some (.slice A0_1 l0_1.length c0_1) := (zj BK135.out 1).trans rfl; have hfz9_0 := zi BK135.out 0; have hfz9_1 := zi BK135.out 1; have hcz10_0 : w7.cell? ⟨gb136, 0, none⟩ = some (.slice A1_0 l1_0.length c1_0) := (zj BK136.out 0).trans rfl; have hcz10_1 : w7.cell? ⟨gb136, 1, none⟩ = some (.slice A1_1 l1_1.length c1_1) := (zj BK136.out 1).trans rfl; have hfz10_0 := zi BK136.out 0; have hfz10_1 := zi BK136.out 1) | ((with_reducible refine zV (f := 23) rfl ?_); refine zaF (some 9) rfl rfl Try.func23 (by kernel_rfl) rfl #[.slice A0_0 l0_0.length c0_0, .slice A1_0 l1_0.length c1_0] rfl (by (try simp only [List.map_toArray, List.map_cons, List.map_nil]); first | done | rfl | (simp only [List.length_drop, List.length_take]; rfl)) ?_; (with_reducible refine (zC.calls k _ _ l0_0 _ _ l1_0 true _ ?side1 ?side2 ?side3 ?side4 A3.out).mono ?_); (case side1 => repeat (first | exact (Kd.zU HR0_0.out HB.out) | (with_reducible refine Kd.zaa ?_ _) | (with_reducible refine Kd.zab ?_ _) | (with_reducible refine Kd.zam ?_))); (case side2 => exact HC0_0.out); (case side3 => repeat (first | exact (Kd.zU HR1_0.out HB.out) | (with_reducible refine Kd.zaa ?_ _) | (with_reducible refine Kd.zab ?_ _) | (with_reducible refine Kd.zam ?_))); (case side4 => exact HC1_0.out); rintro e w' ⟨rfl, ⟨nd, rfl⟩⟩; refine ⟨_, rfl, ?_⟩) | (go_at_call 23; (with_reducible refine (zC.calls k _ _ l0_1 _ _ l1_1 t138 _ ?side1 ?side2 ?side3 ?side4 A5.out).mono ?_); (case side1 => repeat (first | exact (Kd.zU HR0_1.out (by repeat (first | (with_reducible first | exact HB.out | apply zc | apply za | apply zb | refine zf ?_ GE135.out | refine zf ?_ GE136.out) | exact HB.out))) | (with_reducible refine Kd.zaa ?_ _) | (with_reducible refine Kd.zab ?_ _) | (with_reducible refine Kd.zam ?_))); (case side2 => exact HC0_1.out); (case side3 => repeat (first | exact (Kd.zU HR1_1.out (by repeat (first | (with_reducible first | exact HB.out | apply zc | apply za | apply zb | refine zf ?_ GE135.out | refine zf ?_ GE136.out) | exact HB.out))) | (with_reducible refine Kd.zaa ?_ _) | (with_reducible refine Kd.zab ?_ _) | (with_reducible refine Kd.zam ?_))); (case side4 => exact HC1_1.out); rintro e w' ⟨rfl, ⟨nd, rfl⟩⟩))
  go_ret
  exact ⟨by first | rfl | (simp [zq, zp] <;> rfl) | (simp [*, zq, zp] <;> rfl), by repeat (first | (with_reducible first | exact HB.out | apply zc | apply za | apply zb | refine zf ?_ GE135.out | refine zf ?_ GE136.out) | exact HB.out)⟩
 ·replace c4 := Bool.eq_false_iff.mpr c4
  subst c4
  have H1 : (some false) = some r := by rw [if_neg (show ¬ (false = true) by decide)] at H; exact H
  clear H
  have H := H1
  clear H1
  obtain rfl := Option.some.inj H
  go_enter Try.func13, Try.ntmps13
  go_wp2_with (first | ((with_reducible refine zr (N := 2) rfl ?_); refine zt ?hg (N := 2) ?hd (cs := #[.slice A0_0 l0_0.length c0_0, .slice A0_1 l0_1.length c0_1]) (t := 24) ?hr ?_; (case hd => rfl); (case hg => rfl); (case hr => first | (go_simp; done) | (go_simp; rfl)); intro gb135 hg w11 hbox hb; have n0_ := am_ (zh (by repeat (first | (with_reducible first | exact HB.out | apply zc | apply za | apply zb) | exact HB.out)) hb); have n1_ := am_ (hbox); have n2_ := am_ ((by rw [hg]; exact (zk (by repeat (first | (with_reducible first | exact HB.out | apply zc | apply za | apply zb) | exact HB.out))) : w.heap.size ≤ gb135)); have n3_ := am_ ((by rw [hg]; exact (zk (by repeat (first | (with_reducible first | exact HB.out | apply zc | apply za | apply zb) | exact HB.out))) : w.heap.size ≤ gb135)); clear HB; have HB := n0_; have BK135 := n1_; have GW135 := n2_; have GE135 := n3_; clear n0_ n1_ n2_ n3_; clear hb hbox hg) | ((with_reducible refine zr (N := 3) rfl ?_); refine zt ?hg (N := 3) ?hd (cs := #[.slice A1_0 l1_0.length c1_0, .slice A1_1 l1_1.length c1_1]) (t := 24) ?hr ?_; (case hd => rfl); (case hg => rfl); (case hr => first | (go_simp; done) | (go_simp; rfl)); intro gb136 hg w12 hbox hb; have n0_ := am_ (zo (g := gb135) (o := .cells #[.slice A0_0 l0_0.length c0_0, .slice A0_1 l0_1.length c0_1] 24 (0, 0)) (by (with_reducible repeat (first | refine ze ?_ _ | refine zg ?_ | refine zd ?_ _)); exact BK135.out) hb); have n1_ := am_ (zh (by repeat (first | (with_reducible first | exact HB.out | apply zc | apply za | apply zb | refine zf ?_ GE135.out) | exact HB.out)) hb); have n2_ := am_ (hbox); have n3_ := am_ ((by rw [hg]; exact (zk (by repeat (first | (with_reducible first | exact HB.out | apply zc | apply za | apply zb | refine zf ?_ GE135.out) | exact HB.out))) : w.heap.size ≤ gb136)); have n4_ := am_ ((by rw [hg]; exact (zk (by repeat (first | (with_reducible first | exact HB.out | apply zc | apply za | apply zb | refine zf ?_ GE135.out) | exact HB.out))) : w.heap.size ≤ gb136)); have n5_ := am_ ((by rw [hg]; exact Nat.ne_of_lt (zL (g := gb135) (o := .cells #[.slice A0_0 l0_0.length c0_0, .slice A0_1 l0_1.length c0_1] 24 (0, 0)) (by (with_reducible repeat (first | refine ze ?_ _ | refine zg ?_ | refine zd ?_ _)); exact BK135.out)) : gb135 ≠ gb136)); have n6_ := am_ ((by rw [hg]; exact Nat.ne_of_gt (zL (g := gb135) (o := .cells #[.slice A0_0 l0_0.length c0_0, .slice A0_1 l0_1.length c0_1] 24 (0, 0)) (by (with_reducible repeat (first | refine ze ?_ _ | refine zg ?_ | refine zd ?_ _)); exact BK135.out)) : gb136 ≠ gb135)); clear BK135; clear HB; have BK135 := n0_; have HB := n1_; have BK136 := n2_; have GW136 := n3_; have GE136 := n4_; have NB135_136 := n5_; have NB136_135 := n6_; clear n0_ n1_ n2_ n3_ n4_ n5_ n6_; clear hb hbox hg; have hnb13 := NB135_136.out; have hnc13 := NB136_135.out; have hcz14_0 : w12.cell? ⟨gb135, 0, none⟩ = some (.slice A0_0 l0_0.length c0_0) := (zj BK135.out 0).trans rfl; have hcz14_1 : w12.cell? ⟨gb135, 1, none⟩ = some (.slice A0_1 l0_1.length c0_1) := (zj BK135.out 1).trans rfl; have hfz14_0 := zi BK135.out 0; have hfz14_1 := zi BK135.out 1; have hcz15_0 : w12.cell? ⟨gb136, 0, none⟩ = some (.slice A1_0 l1_0.length c1_0) := (zj BK136.out 0).trans rfl; have hcz15_1 : w12.cell? ⟨gb136, 1, none⟩ = some (.slice A1_1 l1_1.length c1_1) := (zj BK136.out 1).trans rfl; have hfz15_0 := zi BK136.out 0; have hfz15_1 := zi BK136.out 1) | ((with_reducible refine zV (f := 23) rfl ?_); refine zaF (some 9) rfl rfl Try.func23 (by kernel_rfl) rfl #[.slice A0_0 l0_0.length c0_0, .slice A1_0 l1_0.length c1_0] rfl (by (try simp only [List.map_toArray, List.map_cons, List.map_nil]); first | done | rfl | (simp only [List.length_drop, List.length_take]; rfl)) ?_; (with_reducible refine (zC.calls k _ _ l0_0 _ _ l1_0 false _ ?side1 ?side2 ?side3 ?side4 A3.out).mono ?_); (case side1 => repeat (first | exact (Kd.zU HR0_0.out HB.out) | (with_reducible refine Kd.zaa ?_ _) | (with_reducible refine Kd.zab ?_ _) | (with_reducible refine Kd.zam ?_))); (case side2 => exact HC0_0.out); (case side3 => repeat (first | exact (Kd.zU HR1_0.out HB.out) | (with_reducible refine Kd.zaa ?_ _) | (with_reducible refine Kd.zab ?_ _) | (with_reducible refine Kd.zam ?_))); (case side4 => exact HC1_0.out); rintro e w' ⟨rfl, ⟨nd, rfl⟩⟩; refine ⟨_, rfl, ?_⟩))
  go_ret
  exact ⟨by first | rfl | (simp [zq, zp] <;> rfl) | (simp [*, zq, zp] <;> rfl), by repeat (first | (with_reducible first | exact HB.out | apply zc | apply za | apply zb | refine zf ?_ GE135.out | refine zf ?_ GE136.out) | exact HB.out)⟩
end Go.Proofs.Ytlidbaejhmamjaa.PB

namespace Go.Proofs.Ytlidbaejhmamjaa.PB
open Go.RowKit Go.Proofs.YtlidbaejhmamjaaW.PrintWords Go.Proofs.YtlidbaejhmamjaaW.PrintLast Go.Proofs.YtlidbaejhmamjaaW.PrintMore
attribute [local go_sem] zao zar zaB zaC zaf zag zap zas   -- for this text's walks alone
set_option linter.unusedVariables false
set_option linter.unusedSimpArgs false
mutual
def zy.j0 : Nat → Int → Bool → List Int → List Int → Option (Int)
 | 0, _, _, _, _ => none
 | k + 1, x1, x25, x250000, x250001 => if x25 = true then (some 180) else (zy.l0 k x1 0 x250000 x250001)
def zy.l0 : Nat → Int → Int → List Int → List Int → Option (Int)
 | 0, _, _, _, _ => none
 | k + 1, x1, x5, x250000, x250001 => if x5 < x1 then (if 0 ≤ x5 then (if x5 < (x250000.length : Int) then (if (rd x250000 x5) < 0 then (some 180) else (if (rd x250000 x5) > 8 then (some 180) else (if x5 < (x250001.length : Int) then (if (rd x250001 x5) < 0 then (some 180) else (if 0 ≤ (rd x250000 x5) then (if (rd x250001 x5) ≥ (shl .i64 1 (rd x250000 x5)) then (some 180) else (zy.l0 k x1 (wrap64 (x5 + 1)) x250000 x250001)) else (none))) else (none)))) else (none)) else (none)) else (some 0)
end
def zy.f (k : Nat) (l0_0 : List Int) (l0_1 : List Int) (a1 : Int) : Option (Int) := if a1 < 0 then (zy.j0 k a1 true l0_0 l0_1) else (if a1 > 256 then (zy.j0 k a1 true l0_0 l0_1) else (if (l0_0.length : Int) = a1 then (zy.j0 k a1 ((l0_1.length : Int) != a1) l0_0 l0_1) else (zy.j0 k a1 true l0_0 l0_1)))
set_option maxHeartbeats 8000000 in
set_option maxRecDepth 100000 in
theorem zy.calls (k : Nat) (A0_0 : Option Addr) (c0_0 : Nat) (l0_0 : List Int) (A0_1 : Option Addr) (c0_1 : Nat) (l0_1 : List Int) (a1 : Int) (r : Int) (w : World) (hr0_0 : Kd.C (Kd.int .i64) w A0_0 l0_0.length l0_0) (hc0_0 : l0_0.length ≤ c0_0) (hr0_1 : Kd.C (Kd.int .i64) w A0_1 l0_1.length l0_1) (hc0_1 : l0_1.length ≤ c0_1) (h : zy.f k l0_0 l0_1 a1 = some r) :
  Calls Try.prog 18 #[.agg #[.slice A0_0 l0_0.length c0_0, .slice A0_1 l0_1.length c0_1], .int .i64 a1] w fun e w' => e = .returned (.int .i64 r) ∧ Below w.heap.size w w' := by
 have hu24 := Try.underlying24
 have HR0_0 := am_ hr0_0
 have HC0_0 := am_ hc0_0
 clear hr0_0 hc0_0
 have HR0_1 := am_ hr0_1
 have HC0_1 := am_ hc0_1
 clear hr0_1 hc0_1
 have HB := am_ (Below.refl w.heap.size w)
 have H : (if a1 < 0 then (zy.j0 k a1 true l0_0 l0_1) else (if a1 > 256 then (zy.j0 k a1 true l0_0 l0_1) else (if (l0_0.length : Int) = a1 then (zy.j0 k a1 ((l0_1.length : Int) != a1) l0_0 l0_1) else (zy.j0 k a1 true l0_0 l0_1)))) = some r := h
 clear h
 have HC3 := am_ H
 clear H
 go_enter Try.func18, Try.ntmps18
 go_upto_region 1 with (first | ((with_reducible refine zr (N := 2) rfl ?_); (try (refine z6 (by rfl) ?_; dsimp only)); refine zt ?hg (N := 2) ?hd (cs := #[.slice A0_0 l0_0.length c0_0, .slice A0_1 l0_1.length c0_1]) (t := 24) ?hr ?_; (case hd => rfl); (case hg => rfl); (case hr => first | (go_simp; done) | (go_simp; rfl)); intro gb249 hg w4 hbox hb; have n0_ := am_ (zh (by repeat (first | (with_reducible first | exact HB.out | apply zc | apply za | apply zb) | exact HB.out)) hb); have n1_ := am_ (hbox); have n2_ := am_ ((by rw [hg]; exact (zk (by repeat (first | (with_reducible first | exact HB.out | apply zc | apply za | apply zb) | exact HB.out))) : w.heap.size ≤ gb249)); have n3_ := am_ ((by rw [hg]; exact (zk (by repeat (first | (with_reducible first | exact HB.out | apply zc | apply za | apply zb) | exact HB.out))) : w.heap.size ≤ gb249)); clear HB; have HB := n0_; have BK249 := n1_; have GW249 := n2_; have GE249 := n3_; clear n0_ n1_ n2_ n3_; clear hb hbox hg))
 repeat (go_quiet (first | ((with_reducible refine zr (N := 2) rfl ?_); (try (refine z6 (by rfl) ?_; dsimp only)); refine zt ?hg (N := 2) ?hd (cs := #[.slice A0_0 l0_0.length c0_0, .slice A0_1 l0_1.length c0_1]) (t := 24) ?hr ?_; (case hd => rfl); (case hg => rfl); (case hr => first | (go_simp; done) | (go_simp; rfl)); intro gb249 hg w4 hbox hb; have n0_ := am_ (zh (by repeat (first | (with_reducible first | exact HB.out | apply zc | apply za | apply zb) | exact HB.out)) hb); have n1_ := am_ (hbox); have n2_ := am_ ((by rw [hg]; exact (zk (by repeat (first | (with_reducible first | exact HB.out | apply zc | apply za | apply zb) | exact HB.out))) : w.heap.size ≤ gb249)); have n3_ := am_ ((by rw [hg]; exact (zk (by repeat (first | (with_reducible first | exact HB.out | apply zc | apply za | apply zb) | exact HB.out))) : w.heap.size ≤ gb249)); clear HB; have HB := n0_; have BK249 := n1_; have GW249 := n2_; have GE249 := n3_; clear n0_ n1_ n2_ n3_; clear hb hbox hg)); go_upto_region 1 with (first | ((with_reducible refine zr (N := 2) rfl ?_); (try (refine z6 (by rfl) ?_; dsimp only)); refine zt ?hg (N := 2) ?hd (cs := #[.slice A0_0 l0_0.length c0_0, .slice A0_1 l0_1.length c0_1]) (t := 24) ?hr ?_; (case hd => rfl); (case hg => rfl); (case hr => first | (go_simp; done) | (go_simp; rfl)); intro gb249 hg w4 hbox hb; have n0_ := am_ (zh (by repeat (first | (with_reducible first | exact HB.out | apply zc | apply za | apply zb) | exact HB.out)) hb); have n1_ := am_ (hbox); have n2_ := am_ ((by rw [hg]; exact (zk (by repeat (first | (with_reducible first | exact HB.out | apply zc | apply za | apply zb) | exact HB.out))) : w.heap.size ≤ gb249)); have n3_ := am_ ((by rw [hg]; exact (zk (by repeat (first | (with_reducible first | exact HB.out | apply zc | apply za | apply zb) | exact HB.out))) : w.heap.size ≤ gb249)); clear HB; have HB := n0_; have BK249 := n1_; have GW249 := n2_; have GE249 := n3_; clear n0_ n1_ n2_ n3_; clear hb hbox hg)))
 (try simp only [Act.put, sI_, s0_, s1_])
 go_cut [25] (fun v25 wc => ∃ (kq : Nat) (x25_2 : Bool), v25 = .bool x25_2 ∧ Aside0 (zy.j0 kq a1 x25_2 l0_0 l0_1 = some r) ∧ Aside0 (kq ≤ k) ∧ Aside0 (wc.heap[gb249]? = some (.cells #[(.slice A0_0 l0_0.length c0_0), (.slice A0_1 l0_1.length c0_1)] 24 (0, 0))) ∧ Aside0 (Below w.heap.size w wc))
 case first =>
  have H := HC3.out
  clear HC3
  by_cases c5 : a1 < 0
  ·rw [if_pos c5] at H
   have c5b0 : decide (a1 < 0) = true := decide_eq_true c5
   clear c5
   (first | rw [c5b0] | (simp only [zl, zm]; rw [c5b0]) | skip)
   have H' := am_ H
   clear H
   go_wp2
   repeat (go_quiet (fail); try go_wp2)
   go_meet
   case rel => exact ⟨_, (true), (by first | rfl | (simp; done) | (simp [*]; done)), H', ⟨by first | omega | exact Nat.le_refl _⟩, ⟨by (with_reducible repeat (first | refine ze ?_ _ | refine zg ?_ | refine zd ?_ _)); exact BK249.out⟩, ⟨by repeat (first | (with_reducible first | exact HB.out | apply zc | apply za | apply zb | refine zf ?_ GE249.out) | exact HB.out)⟩⟩
  ·rw [if_neg c5] at H
   have c5b0 : decide (a1 < 0) = false := decide_eq_false c5
   clear c5
   (first | rw [c5b0] | (simp only [zl, zm]; rw [c5b0]) | skip)
   by_cases c6 : a1 > 256
   ·rw [if_pos c6] at H
    have c6b0 : decide (256 < a1) = true := decide_eq_true c6
    clear c6
    have H' := am_ H
    clear H
    go_wp2
    repeat (go_quiet (fail); try go_wp2)
    go_meet
    case rel => exact ⟨_, (true), (by first | rfl | (simp; done) | (simp [*]; done)), H', ⟨by first | omega | exact Nat.le_refl _⟩, ⟨by (with_reducible repeat (first | refine ze ?_ _ | refine zg ?_ | refine zd ?_ _)); exact BK249.out⟩, ⟨by repeat (first | (with_reducible first | exact HB.out | apply zc | apply za | apply zb | refine zf ?_ GE249.out) | exact HB.out)⟩⟩
   ·rw [if_neg c6] at H
    have c6b0 : decide (256 < a1) = false := decide_eq_false c6
    clear c6
    by_cases c7 : (l0_0.length : Int) = a1
    ·rw [if_pos c7] at H
     have c7b0 : ((l0_0.length : Int) == a1) = true := beq_iff_eq.mpr c7
     have c7b1 : ((l0_0.length : Int) != a1) = false := bne_eq_false_iff_eq.mpr c7
     clear c7
     have H' := am_ H
     clear H
     have hcz8_0 : w4.cell? ⟨gb249, 0, none⟩ = some (.slice A0_0 l0_0.length c0_0) := (zj BK249.out 0).trans rfl
     have hcz8_1 : w4.cell? ⟨gb249, 1, none⟩ = some (.slice A0_1 l0_1.length c0_1) := (zj BK249.out 1).trans rfl
     have hfz8_0 := zi BK249.out 0
     have hfz8_1 := zi BK249.out 1
     go_wp2
     repeat (go_quiet (fail); try go_wp2)
     go_meet
     case rel => exact ⟨_, (((l0_1.length : Int) != a1)), (by first | rfl | (simp; done) | (simp [*]; done)), H', ⟨by first | omega | exact Nat.le_refl _⟩, ⟨by (with_reducible repeat (first | refine ze ?_ _ | refine zg ?_ | refine zd ?_ _)); exact BK249.out⟩, ⟨by repeat (first | (with_reducible first | exact HB.out | apply zc | apply za | apply zb | refine zf ?_ GE249.out) | exact HB.out)⟩⟩
    ·rw [if_neg c7] at H
     have c7b0 : ((l0_0.length : Int) == a1) = false := beq_eq_false_iff_ne.mpr c7
     have c7b1 : ((l0_0.length : Int) != a1) = true := bne_iff_ne.mpr c7
     have H' := am_ H
     clear H
     have hcz9_0 : w4.cell? ⟨gb249, 0, none⟩ = some (.slice A0_0 l0_0.length c0_0) := (zj BK249.out 0).trans rfl
     have hcz9_1 : w4.cell? ⟨gb249, 1, none⟩ = some (.slice A0_1 l0_1.length c0_1) := (zj BK249.out 1).trans rfl
     have hfz9_0 := zi BK249.out 0
     have hfz9_1 := zi BK249.out 1
     go_wp2
     repeat (go_quiet (fail); try go_wp2)
     go_meet
     case rel => exact ⟨_, (true), (by first | rfl | (simp; done) | (simp [*]; done)), H', ⟨by first | omega | exact Nat.le_refl _⟩, ⟨by (with_reducible repeat (first | refine ze ?_ _ | refine zg ?_ | refine zd ?_ _)); exact BK249.out⟩, ⟨by repeat (first | (with_reducible first | exact HB.out | apply zc | apply za | apply zb | refine zf ?_ GE249.out) | exact HB.out)⟩⟩
 case rest =>
  clear HC3
  try clear c1
  try clear p2
  try clear c5
  try clear c5b0
  try clear c6
  try clear c6b0
  try clear c7
  try clear c7b0
  try clear c7b1
  try clear hcz8_0
  try clear hcz8_1
  try clear hcz9_0
  try clear hcz9_1
  try clear hfz8_0
  try clear hfz8_1
  try clear hfz9_0
  try clear hfz9_1
  obtain ⟨kq, x25_2, rfl, HA, HJ2, BK249, HB⟩ := hcut
  cases kq with
  | zero => exact absurd HA.out (by simp [zy.j0])
  | succ kj2 =>
   have H := HA.out
   clear HA
   simp only [zy.j0] at H
   by_cases c10 : x25_2 = true
   ·subst c10
    have H1 : (some 180) = some r := by rw [if_pos rfl] at H; exact H
    clear H
    have H := H1
    clear H1
    obtain rfl := Option.some.inj H
    go_wp2
    repeat (go_quiet (fail); try go_wp2)
    go_ret
    exact ⟨by first | rfl | (simp [zq, zp] <;> rfl) | (simp [*, zq, zp] <;> rfl), by repeat (first | (with_reducible first | exact HB.out | apply zc | apply za | apply zb | refine zf ?_ GE249.out) | exact HB.out)⟩
   ·replace c10 := Bool.eq_false_iff.mpr c10
    subst c10
    have H1 : (zy.l0 kj2 a1 0 l0_0 l0_1) = some r := by rw [if_neg (show ¬ (false = true) by decide)] at H; exact H
    clear H
    have H := H1
    clear H1
    have H' := am_ H
    clear H
    go_wp2
    repeat (go_quiet (fail); try go_wp2)
    go_loopg [5] kj2 (fun kq v5 w' => ∃ (x5_2 : Int), v5 = .int .i64 x5_2 ∧ Aside0 (zy.l0 kq a1 x5_2 l0_0 l0_1 = some r) ∧ Aside0 (kq ≤ kj2) ∧ Aside0 (w'.heap[gb249]? = some (.cells #[(.slice A0_0 l0_0.length c0_0), (.slice A0_1 l0_1.length c0_1)] 24 (0, 0))) ∧ Aside0 (Below w.heap.size w w'))
    case atStart => exact ⟨(0), (by first | rfl | (simp; done) | (simp [*]; done)), H', ⟨Nat.le_refl _⟩, ⟨by (with_reducible repeat (first | refine ze ?_ _ | refine zg ?_ | refine zd ?_ _)); exact BK249.out⟩, ⟨by repeat (first | (with_reducible first | exact HB.out | apply zc | apply za | apply zb | refine zf ?_ GE249.out) | exact HB.out)⟩⟩
    case round =>
     clear H'
     try clear c1
     try clear p2
     try clear c5
     try clear c5b0
     try clear c6
     try clear c6b0
     try clear c7
     try clear c7b0
     try clear c7b1
     try clear c10
     try clear hcz8_0
     try clear hcz8_1
     try clear hcz9_0
     try clear hcz9_1
     try clear hfz8_0
     try clear hfz8_1
     try clear hfz9_0
     try clear hfz9_1
     try clear p2
     obtain ⟨x5_2, rfl, HA, HK2, BK249, HB⟩ := hrel
     cases gk with
     | zero => exact absurd HA.out (by simp [zy.l0])
     | succ k2 =>
      have H := HA.out
      clear HA
      simp only [zy.l0] at H
      by_cases c11 : x5_2 < a1
      ·rw [if_pos c11] at H
       have c11b0 : decide (x5_2 < a1) = true := decide_eq_true c11
       clear c11
       by_cases c12 : 0 ≤ x5_2
       ·rw [if_pos c12] at H
        have c12b0 : decide (0 ≤ x5_2) = true := decide_eq_true c12
        clear c12
        by_cases c13 : x5_2 < (l0_0.length : Int)
        ·rw [if_pos c13] at H
         have c13b0 : decide (x5_2 < (l0_0.length : Int)) = true := decide_eq_true c13
         clear c13
         by_cases c14 : (rd l0_0 x5_2) < 0
         ·rw [if_pos c14] at H
          have c14b0 : decide ((rd l0_0 x5_2) < 0) = true := decide_eq_true c14
          clear c14
          obtain rfl := Option.some.inj H
          have hcz15_0 : wr.cell? ⟨gb249, 0, none⟩ = some (.slice A0_0 l0_0.length c0_0) := (zj BK249.out 0).trans rfl
          have hcz15_1 : wr.cell? ⟨gb249, 1, none⟩ = some (.slice A0_1 l0_1.length c0_1) := (zj BK249.out 1).trans rfl
          have hfz15_0 := zi BK249.out 0
          have hfz15_1 := zi BK249.out 1
          have p250 : 0 ≤ (x5_2 : Int) := of_decide_eq_true (by first | (with_reducible assumption) | assumption)
          have q250 : x5_2 < (l0_0.length : Int) := of_decide_eq_true (by first | (with_reducible assumption) | assumption)
          obtain ⟨ad250, e250, hx250_0⟩ := Kd.z3 HR0_0.out x5_2 p250 q250
          cases e250
          replace hx250_0 := (HB.out.cell (World.block_lt_of_cell? w _ hx250_0)).trans hx250_0
          replace p250 := eq_true p250
          replace q250 := eq_true q250
          go_wp2
          repeat (go_quiet (fail); try go_wp2)
          go_ret
          exact ⟨by first | rfl | (simp [zq, zp] <;> rfl) | (simp [*, zq, zp] <;> rfl), by repeat (first | (with_reducible first | exact HB.out | apply zc | apply za | apply zb | refine zf ?_ GE249.out) | exact HB.out)⟩
         ·rw [if_neg c14] at H
          have c14b0 : decide ((rd l0_0 x5_2) < 0) = false := decide_eq_false c14
          clear c14
          by_cases c16 : (rd l0_0 x5_2) > 8
          ·rw [if_pos c16] at H
           have c16b0 : decide (8 < (rd l0_0 x5_2)) = true := decide_eq_true c16
           clear c16
           obtain rfl := Option.some.inj H
           have hcz17_0 : wr.cell? ⟨gb249, 0, none⟩ = some (.slice A0_0 l0_0.length c0_0) := (zj BK249.out 0).trans rfl
           have hcz17_1 : wr.cell? ⟨gb249, 1, none⟩ = some (.slice A0_1 l0_1.length c0_1) := (zj BK249.out 1).trans rfl
           have hfz17_0 := zi BK249.out 0
           have hfz17_1 := zi BK249.out 1
           have p250 : 0 ≤ (x5_2 : Int) := of_decide_eq_true (by first | (with_reducible assumption) | assumption)
           have q250 : x5_2 < (l0_0.length : Int) := of_decide_eq_true (by first | (with_reducible assumption) | assumption)
           obtain ⟨ad250, e250, hx250_0⟩ := Kd.z3 HR0_0.out x5_2 p250 q250
           cases e250
           replace hx250_0 := (HB.out.cell (World.block_lt_of_cell? w _ hx250_0)).trans hx250_0
           replace p250 := eq_true p250
           replace q250 := eq_true q250
           have p251 : 0 ≤ (x5_2 : Int) := of_decide_eq_true (by first | (with_reducible assumption) | assumption)
           have q251 : x5_2 < (l0_0.length : Int) := of_decide_eq_true (by first | (with_reducible assumption) | assumption)
           obtain ⟨ad251, e251, hx251_0⟩ := Kd.z3 HR0_0.out x5_2 p251 q251
           obtain rfl : ad250 = ad251 := (by injection e251)
           replace hx251_0 := (HB.out.cell (World.block_lt_of_cell? w _ hx251_0)).trans hx251_0
           replace p251 := eq_true p251
           replace q251 := eq_true q251
           go_wp2
           repeat (go_quiet (fail); try go_wp2)
           go_ret
           exact ⟨by first | rfl | (simp [zq, zp] <;> rfl) | (simp [*, zq, zp] <;> rfl), by repeat (first | (with_reducible first | exact HB.out | apply zc | apply za | apply zb | refine zf ?_ GE249.out) | exact HB.out)⟩
          ·rw [if_neg c16] at H
           have c16b0 : decide (8 < (rd l0_0 x5_2)) = false := decide_eq_false c16
           clear c16
           by_cases c18 : x5_2 < (l0_1.length : Int)
           ·rw [if_pos c18] at H
            have c18b0 : decide (x5_2 < (l0_1.length : Int)) = true := decide_eq_true c18
            clear c18
            by_cases c19 : (rd l0_1 x5_2) < 0
            ·rw [if_pos c19] at H
             have c19b0 : decide ((rd l0_1 x5_2) < 0) = true := decide_eq_true c19
             clear c19
             obtain rfl := Option.some.inj H
             have hcz20_0 : wr.cell? ⟨gb249, 0, none⟩ = some (.slice A0_0 l0_0.length c0_0) := (zj BK249.out 0).trans rfl
             have hcz20_1 : wr.cell? ⟨gb249, 1, none⟩ = some (.slice A0_1 l0_1.length c0_1) := (zj BK249.out 1).trans rfl
             have hfz20_0 := zi BK249.out 0
             have hfz20_1 := zi BK249.out 1
             have p250 : 0 ≤ (x5_2 : Int) := of_decide_eq_true (by first | (with_reducible assumption) | assumption)
             have q250 : x5_2 < (l0_0.length : Int) := of_decide_eq_true (by first | (with_reducible assumption) | assumption)
             obtain ⟨ad250, e250, hx250_0⟩ := Kd.z3 HR0_0.out x5_2 p250 q250
             cases e250
             replace hx250_0 := (HB.out.cell (World.block_lt_of_cell? w _ hx250_0)).trans hx250_0
             replace p250 := eq_true p250
             replace q250 := eq_true q250
             have p251 : 0 ≤ (x5_2 : Int) := of_decide_eq_true (by first | (with_reducible assumption) | assumption)
             have q251 : x5_2 < (l0_0.length : Int) := of_decide_eq_true (by first | (with_reducible assumption) | assumption)
             obtain ⟨ad251, e251, hx251_0⟩ := Kd.z3 HR0_0.out x5_2 p251 q251
             obtain rfl : ad250 = ad251 := (by injection e251)
             replace hx251_0 := (HB.out.cell (World.block_lt_of_cell? w _ hx251_0)).trans hx251_0
             replace p251 := eq_true p251
             replace q251 := eq_true q251
             have p252 : 0 ≤ (x5_2 : Int) := of_decide_eq_true (by first | (with_reducible assumption) | assumption)
             have q252 : x5_2 < (l0_1.length : Int) := of_decide_eq_true (by first | (with_reducible assumption) | assumption)
             obtain ⟨ad252, e252, hx252_0⟩ := Kd.z3 HR0_1.out x5_2 p252 q252
             cases e252
             replace hx252_0 := (HB.out.cell (World.block_lt_of_cell? w _ hx252_0)).trans hx252_0
             replace p252 := eq_true p252
             replace q252 := eq_true q252
             go_wp2
             repeat (go_quiet (fail); try go_wp2)
             go_ret
             exact ⟨by first | rfl | (simp [zq, zp] <;> rfl) | (simp [*, zq, zp] <;> rfl), by repeat (first | (with_reducible first | exact HB.out | apply zc | apply za | apply zb | refine zf ?_ GE249.out) | exact HB.out)⟩
            ·rw [if_neg c19] at H
             have c19b0 : decide ((rd l0_1 x5_2) < 0) = false := decide_eq_false c19
             clear c19
             by_cases c21 : 0 ≤ (rd l0_0 x5_2)
             ·rw [if_pos c21] at H
              have c21b0 := eq_true c21
              have c21b1 : decide (0 ≤ (rd l0_0 x5_2)) = true := decide_eq_true c21
              clear c21
              obtain ⟨ji22, hji22⟩ : ∃ j_ : Int, (shl .i64 1 (rd l0_0 x5_2)) = j_ := ⟨_, rfl⟩
              replace H : (if (rd l0_1 x5_2) ≥ (ji22) then (some 180) else (zy.l0 k2 a1 (wrap64 (x5_2 + 1)) l0_0 l0_1)) = some r := by first | (rw [hji22] at H; exact H) | (simp only [hji22] at H ⊢; exact H)
              have hji22_ : (IntKind.i64.wrap (1 * 2 ^ min (rd l0_0 x5_2).toNat 64)) = ji22 := hji22
              have hji22z : (rd l0_0 x5_2) ≤ 64 → (IntKind.i64.wrap (1 * 2 ^ (rd l0_0 x5_2).toNat)) = ji22 := shl_small hji22
              have hji22u : (IntKind.i64.wrap (2 ^ min (rd l0_0 x5_2).toNat 64)) = ji22 := by have h_ := hji22_; rw [Int.one_mul] at h_; exact h_
              have hji22v : (rd l0_0 x5_2) ≤ 64 → (IntKind.i64.wrap (2 ^ (rd l0_0 x5_2).toNat)) = ji22 := fun hle_ => by have h_ := hji22z hle_; rw [Int.one_mul] at h_; exact h_
              have hji22y : (wrap64 (1 * 2 ^ min (rd l0_0 x5_2).toNat 64)) = ji22 := (zl _).symm.trans hji22_
              have hji22x : (rd l0_0 x5_2) ≤ 64 → (wrap64 (1 * 2 ^ (rd l0_0 x5_2).toNat)) = ji22 := fun h_ => (zl _).symm.trans (hji22z h_)
              by_cases c23 : (rd l0_1 x5_2) ≥ (ji22)
              ·rw [if_pos c23] at H
               have c23b0 : decide ((ji22) ≤ (rd l0_1 x5_2)) = true := decide_eq_true c23
               clear c23
               obtain rfl := Option.some.inj H
               have hcz24_0 : wr.cell? ⟨gb249, 0, none⟩ = some (.slice A0_0 l0_0.length c0_0) := (zj BK249.out 0).trans rfl
               have hcz24_1 : wr.cell? ⟨gb249, 1, none⟩ = some (.slice A0_1 l0_1.length c0_1) := (zj BK249.out 1).trans rfl
               have hfz24_0 := zi BK249.out 0
               have hfz24_1 := zi BK249.out 1
               have p250 : 0 ≤ (x5_2 : Int) := of_decide_eq_true (by first | (with_reducible assumption) | assumption)
               have q250 : x5_2 < (l0_0.length : Int) := of_decide_eq_true (by first | (with_reducible assumption) | assumption)
               obtain ⟨ad250, e250, hx250_0⟩ := Kd.z3 HR0_0.out x5_2 p250 q250
               cases e250
               replace hx250_0 := (HB.out.cell (World.block_lt_of_cell? w _ hx250_0)).trans hx250_0
               replace p250 := eq_true p250
               replace q250 := eq_true q250
               have p251 : 0 ≤ (x5_2 : Int) := of_decide_eq_true (by first | (with_reducible assumption) | assumption)
               have q251 : x5_2 < (l0_0.length : Int) := of_decide_eq_true (by first | (with_reducible assumption) | assumption)
               obtain ⟨ad251, e251, hx251_0⟩ := Kd.z3 HR0_0.out x5_2 p251 q251
               obtain rfl : ad250 = ad251 := (by injection e251)
               replace hx251_0 := (HB.out.cell (World.block_lt_of_cell? w _ hx251_0)).trans hx251_0
               replace p251 := eq_true p251
               replace q251 := eq_true q251
               have p252 : 0 ≤ (x5_2 : Int) := of_decide_eq_true (by first | (with_reducible assumption) | assumption)
               have q252 : x5_2 < (l0_1.length : Int) := of_decide_eq_true (by first | (with_reducible assumption) | assumption)
               obtain ⟨ad252, e252, hx252_0⟩ := Kd.z3 HR0_1.out x5_2 p252 q252
               cases e252
               replace hx252_0 := (HB.out.cell (World.block_lt_of_cell? w _ hx252_0)).trans hx252_0
               replace p252 := eq_true p252
               replace q252 := eq_true q252
               have p253 : 0 ≤ (x5_2 : Int) := of_decide_eq_true (by first | (with_reducible assumption) | assumption)
               have q253 : x5_2 < (l0_1.length : Int) := of_decide_eq_true (by first | (with_reducible assumption) | assumption)
               obtain ⟨ad253, e253, hx253_0⟩ := Kd.z3 HR0_1.out x5_2 p253 q253
               obtain rfl : ad252 = ad253 := (by injection e253)
               replace hx253_0 := (HB.out.cell (World.block_lt_of_cell? w _ hx253_0)).trans hx253_0
               replace p253 := eq_true p253
               replace q253 := eq_true q253
               have p254 : 0 ≤ (x5_2 : Int) := of_decide_eq_true (by first | (with_reducible assumption) | assumption)
               have q254 : x5_2 < (l0_0.length : Int) := of_decide_eq_true (by first | (with_reducible assumption) | assumption)
               obtain ⟨ad254, e254, hx254_0⟩ := Kd.z3 HR0_0.out x5_2 p254 q254
               obtain rfl : ad250 = ad254 := (by injection e254)
               replace hx254_0 := (HB.out.cell (World.block_lt_of_cell? w _ hx254_0)).trans hx254_0
               replace p254 := eq_true p254
               replace q254 := eq_true q254
               go_wp2
               repeat (go_quiet (fail); try go_wp2)
               go_ret
               exact ⟨by first | rfl | (simp [zq, zp] <;> rfl) | (simp only [← hji22]; first | rfl | (simp [zq, zp] <;> rfl)) | (simp [*, zq, zp] <;> rfl), by repeat (first | (with_reducible first | exact HB.out | apply zc | apply za | apply zb | refine zf ?_ GE249.out) | exact HB.out)⟩
              ·rw [if_neg c23] at H
               have c23b0 : decide ((ji22) ≤ (rd l0_1 x5_2)) = false := decide_eq_false c23
               clear c23
               have H' := am_ H
               clear H
               have hcz25_0 : wr.cell? ⟨gb249, 0, none⟩ = some (.slice A0_0 l0_0.length c0_0) := (zj BK249.out 0).trans rfl
               have hcz25_1 : wr.cell? ⟨gb249, 1, none⟩ = some (.slice A0_1 l0_1.length c0_1) := (zj BK249.out 1).trans rfl
               have hfz25_0 := zi BK249.out 0
               have hfz25_1 := zi BK249.out 1
               have p250 : 0 ≤ (x5_2 : Int) := of_decide_eq_true (by first | (with_reducible assumption) | assumption)
               have q250 : x5_2 < (l0_0.length : Int) := of_decide_eq_true (by first | (with_reducible assumption) | assumption)
               obtain ⟨ad250, e250, hx250_0⟩ := Kd.z3 HR0_0.out x5_2 p250 q250
               cases e250
               replace hx250_0 := (HB.out.cell (World.block_lt_of_cell? w _ hx250_0)).trans hx250_0
               replace p250 := eq_true p250
               replace q250 := eq_true q250
               have p251 : 0 ≤ (x5_2 : Int) := of_decide_eq_true (by first | (with_reducible assumption) | assumption)
               have q251 : x5_2 < (l0_0.length : Int) := of_decide_eq_true (by first | (with_reducible assumption) | assumption)
               obtain ⟨ad251, e251, hx251_0⟩ := Kd.z3 HR0_0.out x5_2 p251 q251
               obtain rfl : ad250 = ad251 := (by injection e251)
               replace hx251_0 := (HB.out.cell (World.block_lt_of_cell? w _ hx251_0)).trans hx251_0
               replace p251 := eq_true p251
               replace q251 := eq_true q251
               have p252 : 0 ≤ (x5_2 : Int) := of_decide_eq_true (by first | (with_reducible assumption) | assumption)
               have q252 : x5_2 < (l0_1.length : Int) := of_decide_eq_true (by first | (with_reducible assumption) | assumption)
               obtain ⟨ad252, e252, hx252_0⟩ := Kd.z3 HR0_1.out x5_2 p252 q252
               cases e252
               replace hx252_0 := (HB.out.cell (World.block_lt_of_cell? w _ hx252_0)).trans hx252_0
               replace p252 := eq_true p252
               replace q252 := eq_true q252
               have p253 : 0 ≤ (x5_2 : Int) := of_decide_eq_true (by first | (with_reducible assumption) | assumption)
               have q253 : x5_2 < (l0_1.length : Int) := of_decide_eq_true (by first | (with_reducible assumption) | assumption)
               obtain ⟨ad253, e253, hx253_0⟩ := Kd.z3 HR0_1.out x5_2 p253 q253
               obtain rfl : ad252 = ad253 := (by injection e253)
               replace hx253_0 := (HB.out.cell (World.block_lt_of_cell? w _ hx253_0)).trans hx253_0
               replace p253 := eq_true p253
               replace q253 := eq_true q253
               have p254 : 0 ≤ (x5_2 : Int) := of_decide_eq_true (by first | (with_reducible assumption) | assumption)
               have q254 : x5_2 < (l0_0.length : Int) := of_decide_eq_true (by first | (with_reducible assumption) | assumption)
               obtain ⟨ad254, e254, hx254_0⟩ := Kd.z3 HR0_0.out x5_2 p254 q254
               obtain rfl : ad250 = ad254 := (by injection e254)
               replace hx254_0 := (HB.out.cell (World.block_lt_of_cell? w _ hx254_0)).trans hx254_0
               replace p254 := eq_true p254
               replace q254 := eq_true q254
               go_wp2
               repeat (go_quiet (fail); try go_wp2)
               go_roundg k2
               case measure => have := HJ2.out; have := HK2.out; omega
               case rel => exact ⟨(wrap64 (x5_2 + 1)), (by first | rfl | (simp; done) | (simp [*]; done)), H', ⟨by have := HJ2.out; have := HK2.out; omega⟩, ⟨by (with_reducible repeat (first | refine ze ?_ _ | refine zg ?_ | refine zd ?_ _)); exact BK249.out⟩, ⟨by repeat (first | (with_reducible first | exact HB.out | apply zc | apply za | apply zb | refine zf ?_ GE249.out) | exact HB.out)⟩⟩
             ·rw [if_neg c21] at H
              exact absurd H (by simp)
           ·rw [if_neg c18] at H
            exact absurd H (by simp)
        ·rw [if_neg c13] at H
         exact absurd H (by simp)
       ·rw [if_neg c12] at H
        exact absurd H (by simp)
      ·rw [if_neg c11] at H
       have c11b0 : decide (x5_2 < a1) = false := decide_eq_false c11
       clear c11
       obtain rfl := Option.some.inj H
       go_wp2
       repeat (go_quiet (fail); try go_wp2)
       go_ret
       exact ⟨by first | rfl | (simp [zq, zp] <;> rfl) | (simp [*, zq, zp] <;> rfl), by repeat (first | (with_reducible first | exact HB.out | apply zc | apply za | apply zb | refine zf ?_ GE249.out) | exact HB.out)⟩
end Go.Proofs.Ytlidbaejhmamjaa.PB

namespace Go.Proofs.Ytlidbaejhmamjaa.PB
open Go.RowKit Go.Proofs.YtlidbaejhmamjaaW.PrintWords Go.Proofs.YtlidbaejhmamjaaW.PrintLast Go.Proofs.YtlidbaejhmamjaaW.PrintMore
attribute [local go_sem] zao zar zaB zaC zaf zag zap zas   -- for this text's walks alone
set_option linter.unusedVariables false
set_option linter.unusedSimpArgs false
def zan.f (l0_0 : List Int) (l0_1 : List Int) : Option (List Int × List Int) := if ([] : List Int).length + l0_0.length < 17592186044416 then (if ([] : List Int).length + l0_1.length < 17592186044416 then (some ((([] : List Int) ++ l0_0), (([] : List Int) ++ l0_1))) else (none)) else (none)
set_option maxHeartbeats 8000000 in
set_option maxRecDepth 100000 in
theorem zan.calls (A0_0 : Option Addr) (c0_0 : Nat) (l0_0 : List Int) (A0_1 : Option Addr) (c0_1 : Nat) (l0_1 : List Int) (r1 : List Int) (r2 : List Int) (w : World) (hr0_0 : Kd.C (Kd.int .i64) w A0_0 l0_0.length l0_0) (hc0_0 : l0_0.length ≤ c0_0) (hr0_1 : Kd.C (Kd.int .i64) w A0_1 l0_1.length l0_1) (hc0_1 : l0_1.length ≤ c0_1) (h : zan.f l0_0 l0_1 = some (r1, r2)) :
  Calls Try.prog 26 #[.agg #[.slice A0_0 l0_0.length c0_0, .slice A0_1 l0_1.length c0_1]] w fun e w' => ∃ v0_ v1_ : Value, e = .returned (.agg #[v0_, v1_]) ∧ Kd.R (Kd.int .i64) 3 w' w.heap.size (fun k_ => some k_ ≠ (v1_ : Value).ownBlock) v0_ r1 ∧ Kd.R (Kd.int .i64) 3 w' w.heap.size (fun k_ => some k_ ≠ (v0_ : Value).ownBlock) v1_ r2 ∧ Below w.heap.size w w' := by
 have hu24 := Try.underlying24
 have HR0_0 := am_ hr0_0
 have HC0_0 := am_ hc0_0
 clear hr0_0 hc0_0
 have HR0_1 := am_ hr0_1
 have HC0_1 := am_ hc0_1
 clear hr0_1 hc0_1
 have HB := am_ (Below.refl w.heap.size w)
 have H : (if ([] : List Int).length + l0_0.length < 17592186044416 then (if ([] : List Int).length + l0_1.length < 17592186044416 then (some ((([] : List Int) ++ l0_0), (([] : List Int) ++ l0_1))) else (none)) else (none)) = some (r1, r2) := h
 clear h
 by_cases c2 : ([] : List Int).length + l0_0.length < 17592186044416
 ·rw [if_pos c2] at H
  have LMc2 := am_ c2
  clear c2
  obtain ⟨y258, hy258⟩ : ∃ y_ : List Int, y_ = (([] : List Int) ++ l0_0) := ⟨_, rfl⟩
  replace H : (if ([] : List Int).length + l0_1.length < 17592186044416 then (some (y258, (([] : List Int) ++ l0_1))) else (none)) = some (r1, r2) := by first | (rw [hy258]; with_reducible exact H) | (have H2_ := (Option.bind_some _ _).symm.trans H; rw [hy258]; with_reducible exact H2_) | (have H2_ := (Option.bind_some _ _).symm.trans H; with_reducible exact H2_) | with_reducible exact H | (rw [hy258]; exact H) | exact H
  have Ny258 := am_ hy258
  clear hy258
  by_cases c3 : ([] : List Int).length + l0_1.length < 17592186044416
  ·rw [if_pos c3] at H
   have LMc3 := am_ c3
   clear c3
   obtain ⟨y261, hy261⟩ : ∃ y_ : List Int, y_ = (([] : List Int) ++ l0_1) := ⟨_, rfl⟩
   replace H : (some (y258, y261)) = some (r1, r2) := by first | (rw [hy261]; with_reducible exact H) | (have H2_ := (Option.bind_some _ _).symm.trans H; rw [hy261]; with_reducible exact H2_) | (have H2_ := (Option.bind_some _ _).symm.trans H; with_reducible exact H2_) | with_reducible exact H | (rw [hy261]; exact H) | exact H
   have Ny261 := am_ hy261
   clear hy261
   simp only [Option.some.injEq, Prod.mk.injEq] at H
   obtain ⟨rfl, rfl⟩ := H
   go_enter Try.func26, Try.ntmps26
   go_wp2_with (first | ((with_reducible refine zr (N := 1) rfl ?_); refine zt ?hg (N := 1) ?hd (cs := #[.slice A0_0 l0_0.length c0_0, .slice A0_1 l0_1.length c0_1]) (t := 24) ?hr ?_; (case hd => rfl); (case hg => rfl); (case hr => first | (go_simp; done) | (go_simp; rfl)); intro gb255 hg w4 hbox hb; have n0_ := am_ (zh (by repeat (first | (with_reducible first | exact HB.out | apply zc | apply za | apply zb) | exact HB.out)) hb); have n1_ := am_ (hbox); have n2_ := am_ ((by rw [hg]; exact (zk (by repeat (first | (with_reducible first | exact HB.out | apply zc | apply za | apply zb) | exact HB.out))) : w.heap.size ≤ gb255)); have n3_ := am_ ((by rw [hg]; exact (zk (by repeat (first | (with_reducible first | exact HB.out | apply zc | apply za | apply zb) | exact HB.out))) : w.heap.size ≤ gb255)); clear HB; have HB := n0_; have BK255 := n1_; have GW255 := n2_; have GE255 := n3_; clear n0_ n1_ n2_ n3_; clear hb hbox hg) | ((with_reducible refine zr (N := 2) rfl ?_); refine zt ?hg (N := 2) ?hd (cs := #[.slice none 0 0, .slice none 0 0]) (t := 24) ?hr ?_; (case hd => rfl); (case hg => rfl); (case hr => first | (go_simp; done) | (go_simp; rfl)); intro gb256 hg w5 hbox hb; have n0_ := am_ (zo (g := gb255) (o := .cells #[.slice A0_0 l0_0.length c0_0, .slice A0_1 l0_1.length c0_1] 24 (0, 0)) (by (with_reducible repeat (first | refine ze ?_ _ | refine zg ?_ | refine zd ?_ _)); exact BK255.out) hb); have n1_ := am_ (zh (by repeat (first | (with_reducible first | exact HB.out | apply zc | apply za | apply zb | refine zf ?_ GE255.out) | exact HB.out)) hb); have n2_ := am_ (hbox); have n3_ := am_ ((by rw [hg]; exact (zk (by repeat (first | (with_reducible first | exact HB.out | apply zc | apply za | apply zb | refine zf ?_ GE255.out) | exact HB.out))) : w.heap.size ≤ gb256)); have n4_ := am_ ((by rw [hg]; exact (zk (by repeat (first | (with_reducible first | exact HB.out | apply zc | apply za | apply zb | refine zf ?_ GE255.out) | exact HB.out))) : w.heap.size ≤ gb256)); have n5_ := am_ ((by rw [hg]; exact Nat.ne_of_lt (zL (g := gb255) (o := .cells #[.slice A0_0 l0_0.length c0_0, .slice A0_1 l0_1.length c0_1] 24 (0, 0)) (by (with_reducible repeat (first | refine ze ?_ _ | refine zg ?_ | refine zd ?_ _)); exact BK255.out)) : gb255 ≠ gb256)); have n6_ := am_ ((by rw [hg]; exact Nat.ne_of_gt (zL (g := gb255) (o := .cells #[.slice A0_0 l0_0.length c0_0, .slice A0_1 l0_1.length c0_1] 24 (0, 0)) (by (with_reducible repeat (first | refine ze ?_ _ | refine zg ?_ | refine zd ?_ _)); exact BK255.out)) : gb256 ≠ gb255)); clear BK255; clear HB; have BK255 := n0_; have HB := n1_; have BK256 := n2_; have GW256 := n3_; have GE256 := n4_; have NB255_256 := n5_; have NB256_255 := n6_; clear n0_ n1_ n2_ n3_ n4_ n5_ n6_; clear hb hbox hg) | ((with_reducible refine zr (N := 3) rfl ?_); refine zt ?hg (N := 3) ?hd (cs := #[.slice none 0 0, .slice none 0 0]) (t := 24) ?hr ?_; (case hd => rfl); (case hg => rfl); (case hr => first | (go_simp; done) | (go_simp; rfl)); intro gb257 hg w6 hbox hb; have n0_ := am_ (zo (g := gb255) (o := .cells #[.slice A0_0 l0_0.length c0_0, .slice A0_1 l0_1.length c0_1] 24 (0, 0)) (by (with_reducible repeat (first | refine ze ?_ _ | refine zg ?_ | refine zd ?_ _)); exact BK255.out) hb); have n1_ := am_ (zo (g := gb256) (o := .cells #[.slice none 0 0, .slice none 0 0] 24 (0, 0)) (by (with_reducible repeat (first | refine ze ?_ _ | refine zg ?_ | refine zd ?_ _)); exact BK256.out) hb); have n2_ := am_ (zh (by repeat (first | (with_reducible first | exact HB.out | apply zc | apply za | apply zb | refine zf ?_ GE255.out | refine zf ?_ GE256.out) | exact HB.out)) hb); have n3_ := am_ (hbox); have n4_ := am_ ((by rw [hg]; exact (zk (by repeat (first | (with_reducible first | exact HB.out | apply zc | apply za | apply zb | refine zf ?_ GE255.out | refine zf ?_ GE256.out) | exact HB.out))) : w.heap.size ≤ gb257)); have n5_ := am_ ((by rw [hg]; exact (zk (by repeat (first | (with_reducible first | exact HB.out | apply zc | apply za | apply zb | refine zf ?_ GE255.out | refine zf ?_ GE256.out) | exact HB.out))) : w.heap.size ≤ gb257)); have n6_ := am_ ((by rw [hg]; exact Nat.ne_of_lt (zL (g := gb255) (o := .cells #[.slice A0_0 l0_0.length c0_0, .slice A0_1 l0_1.length c0_1] 24 (0, 0)) (by (with_reducible repeat (first | refine ze ?_ _ | refine zg ?_ | refine zd ?_ _)); exact BK255.out)) : gb255 ≠ gb257)); have n7_ := am_ ((by rw [hg]; exact Nat.ne_of_gt (zL (g := gb255) (o := .cells #[.slice A0_0 l0_0.length c0_0, .slice A0_1 l0_1.length c0_1] 24 (0, 0)) (by (with_reducible repeat (first | refine ze ?_ _ | refine zg ?_ | refine zd ?_ _)); exact BK255.out)) : gb257 ≠ gb255)); have n8_ := am_ ((by rw [hg]; exact Nat.ne_of_lt (zL (g := gb256) (o := .cells #[.slice none 0 0, .slice none 0 0] 24 (0, 0)) (by (with_reducible repeat (first | refine ze ?_ _ | refine zg ?_ | refine zd ?_ _)); exact BK256.out)) : gb256 ≠ gb257)); have n9_ := am_ ((by rw [hg]; exact Nat.ne_of_gt (zL (g := gb256) (o := .cells #[.slice none 0 0, .slice none 0 0] 24 (0, 0)) (by (with_reducible repeat (first | refine ze ?_ _ | refine zg ?_ | refine zd ?_ _)); exact BK256.out)) : gb257 ≠ gb256)); clear BK255; clear BK256; clear HB; have BK255 := n0_; have BK256 := n1_; have HB := n2_; have BK257 := n3_; have GW257 := n4_; have GE257 := n5_; have NB255_257 := n6_; have NB257_255 := n7_; have NB256_257 := n8_; have NB257_256 := n9_; clear n0_ n1_ n2_ n3_ n4_ n5_ n6_ n7_ n8_ n9_; clear hb hbox hg; have hnb7 := NB257_255.out; have hnc7 := NB255_257.out; have hnb8 := NB257_256.out; have hnc8 := NB256_257.out; have hcz9_0 : w6.cell? ⟨gb257, 0, none⟩ = some (.slice none 0 0) := (zj BK257.out 0).trans rfl; have hcz9_1 : w6.cell? ⟨gb257, 1, none⟩ = some (.slice none 0 0) := (zj BK257.out 1).trans rfl; have hfz9_0 := zi BK257.out 0; have hfz9_1 := zi BK257.out 1; have hnb10 := NB255_256.out; have hnc10 := NB256_255.out; have hcz11_0 : w6.cell? ⟨gb255, 0, none⟩ = some (.slice A0_0 l0_0.length c0_0) := (zj BK255.out 0).trans rfl; have hcz11_1 : w6.cell? ⟨gb255, 1, none⟩ = some (.slice A0_1 l0_1.length c0_1) := (zj BK255.out 1).trans rfl; have hfz11_0 := zi BK255.out 0; have hfz11_1 := zi BK255.out 1) | ((with_reducible refine gate_builtin (b := .append) (xs := #[.tmp 5, .tmp 7]) rfl ?_); at_builtin; refine Kd.R_append_rows (Kd.int .i64) (w0 := w) w.heap.size rfl (.tmp 5) (.tmp 7) 22 3 (.int .i64 0) 8 rfl Try.underlying22 info3 rfl (by decide) (by omega) (.slice none 0 0) ([] : List Int) l0_0 _ _ _ (fun _ => True) (fun _ => False) rfl rfl ?aO ?aR (fun _ _ h => h) (fun _ h => h.elim) ?aF ?aB ?aS ?aL ?_; (case aR => repeat (first | exact (Kd.zU HR0_0.out HB.out) | (with_reducible refine Kd.zaa ?_ _) | (with_reducible refine Kd.zab ?_ _) | (with_reducible refine Kd.zam ?_))); (case aB => exact (by repeat (first | (with_reducible first | exact HB.out | apply zc | apply za | apply zb | refine zf ?_ GE255.out | refine zf ?_ GE256.out | refine zf ?_ GE257.out) | exact HB.out))); (case aF => exact (fun _ _ => trivial)); (case aO => exact ((Kd.zaK _ _ _ _ (fun _ => True)))); (case aS => exact (zk (by repeat (first | (with_reducible first | exact HB.out | apply zc | apply za | apply zb | refine zf ?_ GE255.out | refine zf ?_ GE256.out | refine zf ?_ GE257.out) | exact HB.out)))); (case aL => have := LMc2.out; omega); intro v259 w12 ho hb hg hat; rw [← Ny258.out] at ho; have n0_ := am_ (zah (g := gb255) (o := .cells #[.slice A0_0 l0_0.length c0_0, .slice A0_1 l0_1.length c0_1] 24 (0, 0)) (by (with_reducible repeat (first | refine ze ?_ _ | refine zg ?_ | refine zd ?_ _)); exact BK255.out) hg (by simp [Value.ownBlock])); have n1_ := am_ (zah (g := gb256) (o := .cells #[.slice none 0 0, .slice none 0 0] 24 (0, 0)) (by (with_reducible repeat (first | refine ze ?_ _ | refine zg ?_ | refine zd ?_ _)); exact BK256.out) hg (by simp [Value.ownBlock])); have n2_ := am_ (zah (g := gb257) (o := .cells #[.slice none 0 0, .slice none 0 0] 24 (0, 0)) (by (with_reducible repeat (first | refine ze ?_ _ | refine zg ?_ | refine zd ?_ _)); exact BK257.out) hg (by simp [Value.ownBlock])); have n3_ := am_ (hb); have n4_ := am_ (ho); clear BK255; clear BK256; clear BK257; clear HB; have BK255 := n0_; have BK256 := n1_; have BK257 := n2_; have HB := n3_; have HO260 := n4_; clear n0_ n1_ n2_ n3_ n4_; clear ho hb hg hat; obtain ⟨Ao13, co13, eo13⟩ := Kd.zad HO260.out; subst eo13; have hcz14_0 : w12.cell? ⟨gb257, 0, none⟩ = some (.slice none 0 0) := (zj BK257.out 0).trans rfl; have hcz14_1 : w12.cell? ⟨gb257, 1, none⟩ = some (.slice none 0 0) := (zj BK257.out 1).trans rfl; have hfz14_0 := zi BK257.out 0; have hfz14_1 := zi BK257.out 1; have hcz15_0 : w12.cell? ⟨gb255, 0, none⟩ = some (.slice A0_0 l0_0.length c0_0) := (zj BK255.out 0).trans rfl; have hcz15_1 : w12.cell? ⟨gb255, 1, none⟩ = some (.slice A0_1 l0_1.length c0_1) := (zj BK255.out 1).trans rfl; have hfz15_0 := zi BK255.out 0; have hfz15_1 := zi BK255.out 1) | ((with_reducible refine gate_builtin (b := .append) (xs := #[.tmp 11, .tmp 13]) rfl ?_); at_builtin; refine Kd.R_append_rows (Kd.int .i64) (w0 := w) w.heap.size rfl (.tmp 11) (.tmp 13) 22 3 (.int .i64 0) 8 rfl Try.underlying22 info3 rfl (by decide) (by omega) (.slice none 0 0) ([] : List Int) l0_1 _ _ _ (fun k_ => some k_ ≠ (.slice Ao13 y258.length co13 : Value).ownBlock) (fun _ => False) rfl rfl ?aO ?aR (fun _ _ h => h) (fun _ h => h.elim) ?aF ?aB ?aS ?aL ?_; (case aR => exact Kd.zU HR0_1.out (by repeat (first | (with_reducible first | exact HB.out | apply zc | apply za | apply zb | refine zf ?_ GE255.out | refine zf ?_ GE256.out | refine zf ?_ GE257.out) | exact HB.out))); (case aB => exact (by repeat (first | (with_reducible first | exact HB.out | apply zc | apply za | apply zb | refine zf ?_ GE255.out | refine zf ?_ GE256.out | refine zf ?_ GE257.out) | exact HB.out))); (case aF => exact (fun k_ hk => Kd.fresh' (Kd.R_lt (by (with_reducible repeat (first | apply Kd.zw | apply Kd.zu | apply Kd.zA)); exact (Kd.zN (Kd.zX (p := ⟨gb257, 0, none⟩) (Kd.z5 HO260.out BK257.out (by decide)) (fun _ hk => hk.2) (.slice Ao13 y258.length co13)) (fun _ h_ => h_.1)))) k_ hk)); (case aO => exact ((Kd.zaK _ _ _ _ (fun k_ => some k_ ≠ (.slice Ao13 y258.length co13 : Value).ownBlock)))); (case aS => exact (zk (by repeat (first | (with_reducible first | exact HB.out | apply zc | apply za | apply zb | refine zf ?_ GE255.out | refine zf ?_ GE256.out | refine zf ?_ GE257.out) | exact HB.out)))); (case aL => have := LMc3.out; omega); intro v262 w16 ho hb hg hat; rw [← Ny261.out] at ho; have n0_ := am_ (zah (g := gb255) (o := .cells #[.slice A0_0 l0_0.length c0_0, .slice A0_1 l0_1.length c0_1] 24 (0, 0)) (by (with_reducible repeat (first | refine ze ?_ _ | refine zg ?_ | refine zd ?_ _)); refine zK ?_ NB255_257.out _; (with_reducible repeat (first | refine ze ?_ _ | refine zg ?_ | refine zd ?_ _)); exact BK255.out) hg (by simp [Value.ownBlock])); have n1_ := am_ (zah (g := gb256) (o := .cells #[.slice none 0 0, .slice none 0 0] 24 (0, 0)) (by (with_reducible repeat (first | refine ze ?_ _ | refine zg ?_ | refine zd ?_ _)); refine zK ?_ NB256_257.out _; (with_reducible repeat (first | refine ze ?_ _ | refine zg ?_ | refine zd ?_ _)); exact BK256.out) hg (by simp [Value.ownBlock])); have n2_ := am_ (zah (g := gb257) (o := .cells #[.slice Ao13 y258.length co13, .slice none 0 0] 24 (0, 0)) (by (with_reducible repeat (first | refine ze ?_ _ | refine zg ?_ | refine zd ?_ _)); refine zQ (cs := #[.slice none 0 0, .slice none 0 0]) ?_ 0 _ rfl; (with_reducible repeat (first | refine ze ?_ _ | refine zg ?_ | refine zd ?_ _)); exact BK257.out) hg (by simp [Value.ownBlock])); have n3_ := am_ (Kd.R_after (Kd.R_apart_nil (by (with_reducible repeat (first | apply Kd.zw | apply Kd.zu | apply Kd.zA)); exact (Kd.zN (Kd.zX (p := ⟨gb257, 0, none⟩) (Kd.z5 HO260.out BK257.out (by decide)) (fun _ hk => hk.2) (.slice Ao13 y258.length co13)) (fun _ h_ => h_.1)))) hg hat); have n4_ := am_ (hb); have n5_ := am_ (ho); clear BK255; clear BK256; clear BK257; clear HO260; clear HB; have BK255 := n0_; have BK256 := n1_; have BK257 := n2_; have HO260 := n3_; have HB := n4_; have HO263 := n5_; clear n0_ n1_ n2_ n3_ n4_ n5_; clear ho hb hg hat; obtain ⟨Ao17, co17, eo17⟩ := Kd.zad HO263.out; subst eo17; have hcz18_0 : w16.cell? ⟨gb257, 0, none⟩ = some (.slice Ao13 y258.length co13) := (zj BK257.out 0).trans rfl; have hcz18_1 : w16.cell? ⟨gb257, 1, none⟩ = some (.slice none 0 0) := (zj BK257.out 1).trans rfl; have hfz18_0 := zi BK257.out 0; have hfz18_1 := zi BK257.out 1; have hcz19_0 : w16.cell? ⟨gb256, 0, none⟩ = some (.slice none 0 0) := (zj BK256.out 0).trans rfl; have hcz19_1 : w16.cell? ⟨gb256, 1, none⟩ = some (.slice none 0 0) := (zj BK256.out 1).trans rfl; have hfz19_0 := zi BK256.out 0; have hfz19_1 := zi BK256.out 1))
   refine bodyPost_ret (results_cell_row rfl _ _ gb256 24 #[.slice Ao13 y258.length co13, .slice Ao17 y261.length co17] (0, 0) _ rfl (by (with_reducible repeat (first | refine ze ?_ _ | refine zg ?_ | refine zd ?_ _)); refine zQ (cs := #[.slice Ao13 y258.length co13, .slice none 0 0]) ?_ 1 _ rfl; (with_reducible repeat (first | refine ze ?_ _ | refine zg ?_ | refine zd ?_ _)); refine zQ (cs := #[.slice none 0 0, .slice none 0 0]) ?_ 0 _ rfl; (with_reducible repeat (first | refine ze ?_ _ | refine zg ?_ | refine zd ?_ _)); refine zK ?_ NB256_257.out _; (with_reducible repeat (first | refine ze ?_ _ | refine zg ?_ | refine zd ?_ _)); exact BK256.out) Try.underlying24 rfl (by kernel_rfl)) rfl ?_
   exact ⟨_, _, by first | rfl | (simp [zq, zp] <;> rfl) | (simp [*, zq, zp] <;> rfl), by (with_reducible repeat (first | apply Kd.zw | apply Kd.zu | apply Kd.zA)); exact Kd.zN (Kd.zX (p := ⟨gb256, 1, none⟩) (Kd.zX (p := ⟨gb256, 0, none⟩) (Kd.zX (p := ⟨gb257, 1, none⟩) (Kd.z5 (Kd.z5 HO260.out BK257.out (by decide)) BK256.out (by decide)) (fun _ hk => hk.1.2) (.slice Ao17 y261.length co17)) (fun _ hk => hk.2) (.slice Ao13 y258.length co13)) (fun _ hk => hk.2) (.slice Ao17 y261.length co17)) (fun _ hk => hk.1.1.2), by (with_reducible repeat (first | apply Kd.zw | apply Kd.zu | apply Kd.zA)); exact Kd.zN (Kd.zX (p := ⟨gb256, 1, none⟩) (Kd.zX (p := ⟨gb256, 0, none⟩) (Kd.zX (p := ⟨gb257, 1, none⟩) (Kd.z5 (Kd.z5 HO263.out BK257.out (by decide)) BK256.out (by decide)) (fun _ hk => hk.1.2) (.slice Ao17 y261.length co17)) (fun _ hk => hk.2) (.slice Ao13 y258.length co13)) (fun _ hk => hk.2) (.slice Ao17 y261.length co17)) (fun _ hk => hk.1.1), by repeat (first | (with_reducible first | exact HB.out | apply zc | apply za | apply zb | refine zf ?_ GE255.out | refine zf ?_ GE256.out | refine zf ?_ GE257.out) | exact HB.out)⟩
  ·rw [if_neg c3] at H
   exact absurd H (by simp)
 ·rw [if_neg c2] at H
  exact absurd H (by simp)
end Go.Proofs.Ytlidbaejhmamjaa.PB

namespace Go.Proofs.Ytlidbaejhmamjaa.LA
open Go.RowKit Go.Proofs.YtlidbaejhmamjaaW.PrintWords Go.Proofs.YtlidbaejhmamjaaW.PrintLast Go.Proofs.YtlidbaejhmamjaaW.PrintMore Go.Proofs.Ytlidbaejhmamjaa.PB
set_option linter.unusedVariables false
set_option linter.unusedSimpArgs false
theorem zeros_ev (n : Nat) (hn : n ≤ 256) : EvS (fun k => zT.f k (n : Int)) (List.replicate n 0) := by
 have key : ∀ m i : Nat, m + i = n → EvS (fun k => zT.l0 k (n : Int) (List.replicate i 0) (i : Int)) (List.replicate n 0) := by
  intro m
  induction m with
  | zero =>
   intro i hi
   obtain rfl : i = n := by omega
   exact EvS.done fun k => by simp only [zT.l0]; rw [if_neg (by omega)]
  | succ m ih =>
   intro i hi
   refine EvS.succ (fun k => ?_) (ih (i + 1) (by omega))
   simp only [zT.l0]
   rw [if_pos (by omega), if_pos (by rw [List.length_replicate]; omega), wnext i (by omega), List.replicate_succ']
 exact key n 0 (by omega)
theorem same_ev (l0 l1 : List Int) (hn : l0.length ≤ 100000) : EvS (fun k => zC.f k l0 l1) (decide (l0 = l1)) := by
 unfold zC.f
 by_cases hl : (l0.length : Int) = (l1.length : Int)
 ·simp only [if_pos hl]
  have key : ∀ m i : Nat, m + i = l0.length → EvS (fun k => zC.l0 k l0 l1 (i : Int)) (decide (l0.drop i = l1.drop i)) := by
   intro m
   induction m with
   | zero =>
    intro i hi
    rw [List.drop_eq_nil_of_le (by omega), List.drop_eq_nil_of_le (by omega)]
    exact EvS.done fun k => by simp only [zC.l0]; rw [if_neg (by omega)]; rfl
   | succ m ih =>
    intro i hi
    have h0 : i < l0.length := by omega
    have h1 : i < l1.length := by omega
    have r0 : rd l0 (i : Int) = l0[i] := by simp [rd, h0]
    have r1 : rd l1 (i : Int) = l1[i] := by simp [rd, h1]
    rw [List.drop_eq_getElem_cons h0, List.drop_eq_getElem_cons h1]
    by_cases he : l0[i] = l1[i]
    ·have := ih (i + 1) (by omega)
     refine EvS.succ (fun k => ?_) (show EvS (fun k => zC.l0 k l0 l1 ((i + 1 : Nat) : Int)) (decide (l0[i] :: l0.drop (i + 1) = l1[i] :: l1.drop (i + 1))) from by
      rw [show decide (l0[i] :: l0.drop (i + 1) = l1[i] :: l1.drop (i + 1)) = decide (l0.drop (i + 1) = l1.drop (i + 1)) from decide_eq_decide.mpr ⟨fun h => (List.cons.inj h).2, fun h => by rw [he, h]⟩]
      exact this)
     simp only [zC.l0]
     rw [if_pos (by omega), if_pos (by omega), if_pos (by omega), if_pos (by rw [r0, r1, he]), wnext i (by omega)]
    ·rw [decide_eq_false (fun h => he (List.cons.inj h).1)]
     refine EvS.done fun k => ?_
     simp only [zC.l0]
     rw [if_pos (by omega), if_pos (by omega), if_pos (by omega), if_neg (by rw [r0, r1]; exact he)]
  simpa using key l0.length 0 (by omega)
 ·simp only [if_neg hl]
  rw [decide_eq_false (fun e => hl (by rw [e]))]
  exact EvS.pure false
theorem Same_ev (a b c d : List Int) (ha : a.length ≤ 100000) (hb : b.length ≤ 100000) : EvS (fun k => zaM.f k a b c d) (decide (a = c) && decide (b = d)) := by
 unfold zaM.f
 refine EvS.bind (same_ev a c ha) ?_
 by_cases h : a = c
 ·rw [decide_eq_true h]
  simp only [if_true, Bool.true_and]
  exact EvS.bind (same_ev b d hb) (EvS.pure _)
 ·rw [decide_eq_false h]
  exact EvS.pure _
theorem refWhole_ev (k : Int) : EvS (fun f => z4.f f k) (wholeL k, wholeL k, wholeE k) := by
 unfold z4.f
 by_cases h0 : k < 0
 ·simp only [if_pos h0, wholeL, wholeE, if_neg (show ¬ (0 ≤ k ∧ k ≤ 256) by omega)]
  exact EvS.done fun f => by simp only [z4.j0]; rfl
 ·by_cases h1 : k > 256
  ·simp only [if_neg h0, decide_eq_true h1, wholeL, wholeE, if_neg (show ¬ (0 ≤ k ∧ k ≤ 256) by omega)]
   exact EvS.done fun f => by simp only [z4.j0]; rfl
  ·obtain ⟨n, rfl⟩ : ∃ n : Nat, k = n := ⟨k.toNat, by omega⟩
   simp only [if_neg h0, decide_eq_false h1, wholeL, wholeE, if_pos (show (0 ≤ (n : Int) ∧ (n : Int) ≤ 256) by omega), Int.toNat_natCast]
   refine EvS.succ (fun f => by simp only [z4.j0]; rfl) ?_
   simp only [Bool.false_eq_true, if_false]
   exact EvS.bind (zeros_ev n (by omega)) (EvS.bind (zeros_ev n (by omega)) (EvS.pure _))
theorem refCheck_ev (lv at_ : List Int) (k : Int) : EvS (fun f => zy.f f lv at_ k) (chkE lv at_ k) := by
 unfold zy.f
 have bad : (¬ ((lv.length : Int) = k ∧ Reg lv at_)) → chkE lv at_ k = 180 := fun h => if_neg h
 have stop : EvS (fun f => zy.j0 f k true lv at_) 180 := EvS.done fun f => by simp only [zy.j0]; rfl
 by_cases h0 : k < 0
 ·simp only [if_pos h0]; rw [bad (by omega)]; exact stop
 ·by_cases h1 : k > 256
  ·simp only [if_neg h0, if_pos h1]; rw [bad (by rintro ⟨h2, h3⟩; have := h3.1; omega)]; exact stop
  ·by_cases h2 : (lv.length : Int) = k
   ·by_cases h3 : (at_.length : Int) = k
    ·simp only [if_neg h0, if_neg h1, if_pos h2]
     rw [show ((at_.length : Int) != k) = false by simp [h3]]
     refine EvS.succ (fun f => by simp only [zy.j0]; rfl) ?_
     simp only [Bool.false_eq_true, if_false]
     have hl : at_.length = lv.length := by omega
     have key : ∀ m i : Nat, m + i = lv.length → EvS (fun f => zy.l0 f k (i : Int) lv at_) (if ∀ j, j < lv.length → i ≤ j → Fit (rd lv (j : Nat)) (rd at_ (j : Nat)) then 0 else 180) := by
      intro m
      induction m with
      | zero =>
       intro i hi
       rw [if_pos (fun j h1 h2 => by omega)]
       exact EvS.done fun f => by simp only [zy.l0]; rw [if_neg (by omega)]
      | succ m ih =>
       intro i hi
       have hno : ¬ Fit (rd lv (i : Int)) (rd at_ (i : Int)) → (if ∀ j, j < lv.length → i ≤ j → Fit (rd lv (j : Nat)) (rd at_ (j : Nat)) then (0 : Int) else 180) = 180 := fun hf => if_neg (fun h => hf (h i (by omega) (Nat.le_refl _)))
       by_cases f0 : rd lv (i : Int) < 0
       ·rw [hno (fun h => by have := h.1; omega)]
        exact EvS.done fun f => by
         simp only [zy.l0]
         rw [if_pos (by omega), if_pos (by omega), if_pos (by omega), if_pos f0]
       ·by_cases f1 : rd lv (i : Int) > 8
        ·rw [hno (fun h => by have := h.2.1; omega)]
         exact EvS.done fun f => by
          simp only [zy.l0]
          rw [if_pos (by omega), if_pos (by omega), if_pos (by omega), if_neg f0, if_pos f1]
        ·by_cases f2 : rd at_ (i : Int) < 0
         ·rw [hno (fun h => by have := h.2.2.1; omega)]
          exact EvS.done fun f => by
           simp only [zy.l0]
           rw [if_pos (by omega), if_pos (by omega), if_pos (by omega), if_neg f0, if_neg f1, if_pos (by omega), if_pos f2]
         ·by_cases f3 : rd at_ (i : Int) ≥ 2 ^ (rd lv (i : Int)).toNat
          ·rw [hno (fun h => by have := h.2.2.2; omega)]
           exact EvS.done fun f => by
            simp only [zy.l0]
            rw [if_pos (by omega), if_pos (by omega), if_pos (by omega), if_neg f0, if_neg f1, if_pos (by omega), if_neg f2, if_pos (by omega), shl_one _ (by omega) (by omega), if_pos f3]
          ·have hf : Fit (rd lv (i : Int)) (rd at_ (i : Int)) := ⟨by omega, by omega, by omega, by omega⟩
           have := ih (i + 1) (by omega)
           rw [ite_cong (show (∀ j, j < lv.length → i ≤ j → Fit (rd lv (j : Nat)) (rd at_ (j : Nat))) ↔ (∀ j, j < lv.length → i + 1 ≤ j → Fit (rd lv (j : Nat)) (rd at_ (j : Nat))) from ⟨fun h j h1 h2 => h j h1 (by omega), fun h j h1 h2 => by
            by_cases hj : i = j
            ·subst hj; exact hf
            ·exact h j h1 (by omega)⟩)]
           refine EvS.succ (fun f => ?_) this
           simp only [zy.l0]
           rw [if_pos (by omega), if_pos (by omega), if_pos (by omega), if_neg f0, if_neg f1, if_pos (by omega), if_neg f2, if_pos (by omega), shl_one _ (by omega) (by omega), if_neg f3, wnext i (by omega)]
     have := key lv.length 0 (by omega)
     rw [show chkE lv at_ k = (if ∀ j, j < lv.length → 0 ≤ j → Fit (rd lv (j : Nat)) (rd at_ (j : Nat)) then 0 else 180) from by
      unfold chkE
      exact ite_cong ⟨fun h j h1 _ => h.2.2.2 j h1, fun h => ⟨h2, by omega, hl, fun j h1 => h j h1 (Nat.zero_le _)⟩⟩ _ _]
     exact this
    ·simp only [if_neg h0, if_neg h1, if_pos h2]
     rw [show ((at_.length : Int) != k) = true by simp [h3], bad (by rintro ⟨_, h4⟩; have := h4.2.1; omega)]; exact stop
   ·simp only [if_neg h0, if_neg h1, if_neg h2]; rw [bad (fun h => h2 h.1)]; exact stop
end Go.Proofs.Ytlidbaejhmamjaa.LA

namespace Go.Proofs.Ytlidbaejhmamjaa.NW
open Go.RowKit Go.Proofs.YtlidbaejhmamjaaW.PrintWords Go.Proofs.YtlidbaejhmamjaaW.PrintLast Go.Proofs.YtlidbaejhmamjaaW.PrintMore Go.Proofs.Ytlidbaejhmamjaa.PB Go.Proofs.Ytlidbaejhmamjaa.LA Go.Proofs.Ytlidbaejhmamjaa.AC Go.Proofs.Ytlidbaejhmamjaa.LW
set_option linter.unusedVariables false
set_option linter.unusedSimpArgs false
theorem wshifts (d pd : Int) (h0 : 0 ≤ d) (h1 : d ≤ 40) (hp : pd = 2 ^ d.toNat) :
  IntKind.i64.wrap (1 * 2 ^ min d.toNat 64) = pd ∧ IntKind.i64.wrap (2 ^ min d.toNat 64) = pd ∧ wrap64 (1 * 2 ^ min d.toNat 64) = pd ∧ wrap64 (2 ^ min d.toNat 64) = pd := by
 rw [Nat.min_eq_left (by omega)]
 have hb : 0 < (2 : Int) ^ d.toNat ∧ (2 : Int) ^ d.toNat ≤ 2 ^ 40 := ⟨Int.pow_pos (by decide), pow_le' (by omega)⟩
 rw [show (2 : Int) ^ 40 = 1099511627776 by decide] at hb
 rw [← hp] at hb ⊢
 have e1 : wrap64 pd = pd := w64 _ (by omega) (by omega)
 simp only [zl, Int.one_mul, e1, and_self]
theorem sv_abs (z : Int) : sv (decide (z < 0)) (absI z) = z := by
 by_cases h : z < 0
 ·rw [decide_eq_true h]; unfold sv absI; rw [if_pos rfl, if_pos h]; omega
 ·rw [decide_eq_false h]; unfold sv absI; rw [if_neg (by decide), if_neg h]
theorem abs_len {z : Int} {t : List Int} (hu : U32 t) (ht : Tr t) (h : nv t = absI z) : t.length = 0 ↔ z = 0 := by
 constructor
 ·intro h0
  rw [List.length_eq_zero_iff.1 h0] at h
  unfold absI at h
  simp only [nv] at h
  split at h <;> omega
 ·intro h0
  subst h0
  exact nv_zero_len hu ht (by rw [h]; rfl)
/-- One comparison, in parts of 2^-62. -/
theorem cmp_law (d l z b : Int) (d0 : 0 ≤ d) (d1 : d ≤ 62) (l0 : 0 ≤ l) (l1 : l ≤ 8) (tz tb : List Int) (hz : tz.length = 0 ↔ z = 0) (hb : tb.length = 0 ↔ b = 0) (ex : Int) (hex : ex = if tz.length = 0 then 0 else l - d) :
  (¬ sgnI (z * 2 ^ (ex - lvE tz ex tb 0).toNat - b * 2 ^ (0 - lvE tz ex tb 0).toNat) < 0 ↔ b * 2 ^ (62 - l.toNat) ≤ z * 2 ^ (62 - d.toNat)) ∧
  (¬ 0 < sgnI (z * 2 ^ (ex - lvE tz ex tb 0).toNat - b * 2 ^ (0 - lvE tz ex tb 0).toNat) ↔ z * 2 ^ (62 - d.toNat) ≤ b * 2 ^ (62 - l.toNat)) := by
 obtain ⟨L, hL⟩ : ∃ L : Nat, l = L := ⟨l.toNat, by omega⟩
 obtain ⟨D, hD⟩ : ∃ D : Nat, d = D := ⟨d.toNat, by omega⟩
 subst hL hD
 rw [Int.toNat_natCast, Int.toNat_natCast]
 have key : ∃ (U : Int), 0 < U ∧ (z * 2 ^ (ex - lvE tz ex tb 0).toNat - b * 2 ^ (0 - lvE tz ex tb 0).toNat) * U = z * 2 ^ (62 - D) - b * 2 ^ (62 - L) := by
  by_cases h1 : tz.length = 0
  ·rw [if_pos h1] at hex
   have e : lvE tz ex tb 0 = 0 := by unfold lvE; rw [if_pos h1]
   rw [e, hex, hz.1 h1]
   exact ⟨2 ^ (62 - L), zak _, by simp [Int.neg_mul]⟩
  ·rw [if_neg h1] at hex
   by_cases h2 : tb.length = 0
   ·have e : lvE tz ex tb 0 = ex := by unfold lvE; rw [if_neg h1, if_pos h2]
    rw [e, hb.1 h2]
    exact ⟨2 ^ (62 - D), zak _, by simp⟩
   ·by_cases h3 : 0 < ex
    ·have e : lvE tz ex tb 0 = 0 := by unfold lvE; rw [if_neg h1, if_neg h2, if_pos h3]
     rw [e]
     refine ⟨2 ^ (62 - L), zak _, ?_⟩
     rw [Int.sub_mul, Int.mul_assoc, ← zaR, show (ex - 0).toNat + (62 - L) = 62 - D by omega]
     simp
    ·have e : lvE tz ex tb 0 = ex := by unfold lvE; rw [if_neg h1, if_neg h2, if_neg h3]
     rw [e]
     refine ⟨2 ^ (62 - D), zak _, ?_⟩
     rw [Int.sub_mul, Int.mul_assoc b, ← zaR, show (0 - ex).toNat + (62 - D) = 62 - L by omega]
     simp
 obtain ⟨U, hU, hk⟩ := key
 generalize z * 2 ^ (ex - lvE tz ex tb 0).toNat - b * 2 ^ (0 - lvE tz ex tb 0).toNat = V at *
 rcases Int.lt_trichotomy V 0 with h | h | h
 ·have := Int.mul_neg_of_neg_of_pos h hU
  rw [sgnI_neg h]
  constructor <;> omega
 ·rw [h, Int.zero_mul] at hk
  rw [h, sgnI_zero rfl]
  constructor <;> omega
 ·have := Int.mul_pos h hU
  rw [sgnI_pos h]
  constructor <;> omega
def zaE.T6 : Bool × List (List Nat × List Nat) := (true, [([], []), ([], []), ([0, 1], [0, 1]), ([2], [2]), ([3], [3]), ([], []), ([5], [5]), ([], []), ([6, 7], [6, 7]), ([8], [8]), ([], []), ([9, 10], [9, 10]), ([4, 11, 4], [4, 11]), ([], []), ([13, 12, 12, 0, 1, 2, 3, 4, 5, 6, 7, 8, 9, 10, 11, 12, 13], [12, 13])])
def zaE.B6 : List Nat := [0, 0, 3, 7, 15, 0, 32, 0, 224, 480, 0, 2016, 4095, 0, 16383]
theorem zaE.tab6 : rtab .any (opsOf Try.f25 6) = zaE.T6 := by kernel_rfl
theorem zaE.bits6 : zaG zaE.T6.2 zaE.B6 = true := by kernel_rfl
def zaE.T7 : Bool × List (List Nat × List Nat) := (true, [([], []), ([0], [0]), ([], []), ([1, 2], [1, 2]), ([3], [3]), ([4], [4]), ([], []), ([6], [6]), ([], []), ([7, 8], [7, 8]), ([9], [9]), ([10], [10]), ([5, 11], [5, 11]), ([12], [12]), ([], []), ([14, 13, 13, 0, 1, 2, 3, 4, 5, 6, 7, 8, 9, 10, 11, 12, 13, 14], [13, 14])])
def zaE.B7 : List Nat := [0, 1, 0, 7, 15, 31, 0, 64, 0, 448, 960, 1984, 4095, 8191, 0, 32767]
theorem zaE.tab7 : rtab .any (opsOf Try.f25 7) = zaE.T7 := by kernel_rfl
theorem zaE.bits7 : zaG zaE.T7.2 zaE.B7 = true := by kernel_rfl
def zaE.T8 : Bool × List (List Nat × List Nat) := (true, [([], []), ([0], [0]), ([], []), ([1, 2], [1, 2]), ([3], [3]), ([4], [4]), ([5], [5]), ([], []), ([7], [7]), ([], []), ([8, 9], [8, 9]), ([10], [10]), ([11], [11]), ([6, 12], [6, 12]), ([13], [13]), ([], []), ([15, 14, 14, 0, 1, 2, 3, 4, 5, 6, 7, 8, 9, 10, 11, 12, 13, 14, 15], [14, 15])])
def zaE.B8 : List Nat := [0, 1, 0, 7, 15, 31, 63, 0, 128, 0, 896, 1920, 3968, 8191, 16383, 0, 65535]
theorem zaE.tab8 : rtab .any (opsOf Try.f25 8) = zaE.T8 := by kernel_rfl
theorem zaE.bits8 : zaG zaE.T8.2 zaE.B8 = true := by kernel_rfl
set_option maxRecDepth 100000 in
set_option maxHeartbeats 4000000 in
theorem rwithin_calls (A0 : Option Addr) (c0 : Nat) (lv : List Int) (A1 : Option Addr) (c1 : Nat) (at_ : List Int) (A2 : Option Addr) (c2 : Nat) (es : List Int) (d : Int) (w : World)
  (hr0 : Kd.C (Kd.int .i64) w A0 lv.length lv) (hk0 : lv.length ≤ c0) (hr1 : Kd.C (Kd.int .i64) w A1 at_.length at_) (hk1 : at_.length ≤ c1) (hr2 : Kd.C (Kd.int .i64) w A2 es.length es) (hk2 : es.length ≤ c2) (hes : I64 es) :
  Calls Try.prog 25 #[.agg #[.slice A0 lv.length c0, .slice A1 at_.length c1], .slice A2 es.length c2, .int .i64 d] w fun e w' => e = .returned (.bool (decide (Win lv at_ es d))) ∧ Below w.heap.size w w' := by
 have hu24 := Try.underlying24
 have hu101 := Try.underlying101
 have HR0 := am_ hr0
 have HR1 := am_ hr1
 have HR2 := am_ hr2
 have HK0 := am_ hk0
 have HK1 := am_ hk1
 have HK2 := am_ hk2
 have HES := am_ hes
 clear hr0 hr1 hr2 hk0 hk1 hk2 hes
 obtain ⟨k, hk⟩ := (refCheck_ev lv at_ lv.length).get
 have HF := am_ hk
 clear hk
 generalize hbn : decide (Win lv at_ es d) = bb
 have HBN := am_ hbn
 clear hbn
 generalize hcr : chkE lv at_ lv.length = cr at *
 have HCR := am_ hcr
 clear hcr
 go_enter Try.func25, Try.ntmps25
 go_wp2_with (first
  | ((with_reducible refine zr (N := 3) rfl ?_); refine zt rfl (N := 3) rfl (cs := #[.slice A0 lv.length c0, .slice A1 at_.length c1]) (t := 24) ?hr ?_; (case hr => first | (go_simp; done) | (go_simp; rfl)); intro g3 hg3 w1 hw1 hb1; have B1 := am_ hb1; have K1 := am_ hw1; have L1 := am_ (show w.heap.size ≤ g3 by omega); clear hg3 hw1 hb1; have hc0 : w1.cell? ⟨g3, 0, none⟩ = some (.slice A0 lv.length c0) := (zj K1.out 0).trans rfl; have hc1 : w1.cell? ⟨g3, 1, none⟩ = some (.slice A1 at_.length c1) := (zj K1.out 1).trans rfl)
  | fail)
 refine (zy.calls k A0 c0 lv A1 c1 at_ lv.length cr w1 (Kd.zU HR0.out B1.out) HK0.out (Kd.zU HR1.out B1.out) HK1.out HF.out).mono ?_
 rintro e w2 ⟨rfl, hb2⟩
 have B2 := am_ (zh B1.out hb2)
 have K2 := am_ (zo K1.out hb2)
 have hc0' : w2.cell? ⟨g3, 0, none⟩ = some (.slice A0 lv.length c0) := (zj K2.out 0).trans rfl
 have hc1' : w2.cell? ⟨g3, 1, none⟩ = some (.slice A1 at_.length c1) := (zj K2.out 1).trans rfl
 clear hb2 hc0 hc1
 by_cases hz : cr = 0
 ·have hzb : (cr != 0) = false := by rw [hz]; rfl
  have HREG := am_ (chk_ok (HCR.out.trans hz))
  clear hz
  by_cases hl : es.length = lv.length
  ·have hlb : ((es.length : Int) != (lv.length : Int)) = false := by rw [hl]; exact bne_self_eq_false _
   have HLE := am_ hl
   clear hl
   by_cases hd0 : d < 0
   ·have hdb : decide (d < 0) = true := decide_eq_true hd0
    have HN := am_ (show ¬ Win lv at_ es d from fun h => by have := h.2.2.1; omega)
    clear hd0
    go_wp2_with fail
    go_ret
    exact ⟨by rw [← HBN.out, decide_eq_false HN.out]; first | done | rfl, B2.out⟩
   ·have hdb : decide (d < 0) = false := decide_eq_false hd0
    by_cases hd6 : 62 < d
    ·have hde : decide (62 < d) = true := decide_eq_true hd6
     have HN := am_ (show ¬ Win lv at_ es d from fun h => by have := h.2.2.2.1; omega)
     clear hd0 hd6
     go_wp2_with fail
     go_ret
     exact ⟨by rw [← HBN.out, decide_eq_false HN.out]; first | done | rfl, B2.out⟩
    ·have hde : decide (62 < d) = false := decide_eq_false hd6
     have HD := am_ (show 0 ≤ d ∧ d ≤ 62 by omega)
     clear hd0 hd6
     go_wp2_with fail
     have Q0 := am_ (Kd.zU HR0.out B2.out)
     have Q1 := am_ (Kd.zU HR1.out B2.out)
     have Q2 := am_ (Kd.zU HR2.out B2.out)
     clear hc0' hc1'
     go_loopg [7] es.length (fun m v7 wr => ∃ x : Int, v7 = .int .i64 x ∧ Aside0 (0 ≤ x ∧ x + m = es.length) ∧ Aside0 (∀ j : Nat, (j : Int) < x → InP d (rd es (j : Nat)) (rd lv (j : Nat)) (rd at_ (j : Nat))) ∧ Aside0 (Below w2.heap.size w2 wr))
     case atStart => exact ⟨0, rfl, ⟨by omega⟩, ⟨fun j hj => by omega⟩, ⟨Below.refl _ _⟩⟩
     case round =>
      obtain ⟨x, rfl, hm, hall, HB⟩ := hrel
      by_cases hx : x < (es.length : Int)
      ·have hxb : decide (x < (es.length : Int)) = true := decide_eq_true hx
       obtain ⟨j, rfl⟩ : ∃ j : Nat, x = j := ⟨x.toNat, by have := hm.out; omega⟩
       have hj : j < es.length := by omega
       have HJ := am_ hj
       clear hx hj
       have hj0 := eq_true HJ.out
       have hj1 := eq_true (show (j : Int) < (es.length : Int) by have := HJ.out; omega)
       have hj2 := eq_true (show (0 : Int) ≤ (j : Int) by omega)
       have hj3 := eq_true (show j < lv.length by have := HJ.out; have := HLE.out; omega)
       have hj4 := eq_true (show (j : Int) < (lv.length : Int) by have := HJ.out; have := HLE.out; omega)
       have hj5 := eq_true (show j < at_.length by have := HJ.out; have := HLE.out; have := HREG.out.2.1; omega)
       have hj6 := eq_true (show (j : Int) < (at_.length : Int) by have := HJ.out; have := HLE.out; have := HREG.out.2.1; omega)
       obtain ⟨ae, ee, hze⟩ := Kd.z3 Q2.out (j : Int) (by omega) (by have := HJ.out; omega)
       obtain ⟨al, el, hzl⟩ := Kd.z3 Q0.out (j : Int) (by omega) (by have := HJ.out; have := HLE.out; omega)
       obtain ⟨aa, ea, hza⟩ := Kd.z3 Q1.out (j : Int) (by omega) (by have := HJ.out; have := HLE.out; have := HREG.out.2.1; omega)
       cases ee
       cases el
       cases ea
       rw [Int.toNat_natCast] at hze hzl hza
       have HFIT := am_ (HREG.out.2.2 j (by have := HJ.out; have := HLE.out; omega))
       have HEE := am_ (i64_rd HES.out j HJ.out)
       have HW := am_ (show Win lv at_ es d → InP d (rd es (j : Int)) (rd lv (j : Int)) (rd at_ (j : Int)) from fun h => h.2.2.2.2 j (by have := HJ.out; have := HLE.out; omega))
       have HQ := am_ (show InP d (rd es (j : Int)) (rd lv (j : Int)) (rd at_ (j : Int)) → ∀ i : Nat, (i : Int) < (j : Int) + 1 → InP d (rd es (i : Nat)) (rd lv (i : Nat)) (rd at_ (i : Nat)) from fun h i hi => by
        by_cases hij : i = j
        ·subst hij; exact h
        ·exact hall.out i (by omega))
       generalize rd lv (j : Int) = l at *
       generalize rd at_ (j : Int) = a at *
       generalize rd es (j : Int) = z at *
       have HZ := am_ (show ∀ w' : World, Below w2.heap.size w2 w' → w'.cell? ⟨g3, 0, none⟩ = some (.slice (some al) lv.length c0) ∧ w'.cell? ⟨g3, 1, none⟩ = some (.slice (some aa) at_.length c1) ∧ w'.cell? (ae.add j) = some (.int .i64 z) ∧ w'.cell? (al.add j) = some (.int .i64 l) ∧ w'.cell? (aa.add j) = some (.int .i64 a) from fun W hW => ⟨(zj (zo K2.out hW) 0).trans rfl, (zj (zo K2.out hW) 1).trans rfl, za4 hW hze, za4 hW hzl, za4 hW hza⟩)
       clear hze hzl hza hall
       obtain ⟨pl, hpl⟩ : ∃ p : Int, p = 2 ^ l.toNat := ⟨_, rfl⟩
       have HP := am_ hpl
       obtain ⟨sh1, sh2, sh3, sh4⟩ := wshifts l pl HFIT.out.1 (by have := HFIT.out.2.1; omega) hpl
       have hpb : 0 < pl ∧ pl ≤ 256 := by rw [hpl]; exact ⟨zak _, by have h_ : (2 : Int) ^ l.toNat ≤ 2 ^ 8 := pow_le' (by have := HFIT.out.2.1; omega); rwa [show (2 : Int) ^ 8 = 256 by decide] at h_⟩
       have ha8 : 0 ≤ a ∧ a < 256 := fit_256 HFIT.out
       have hw2 : wrap64 (2 * a) = 2 * a := w64 _ (by omega) (by omega)
       have hw3 : wrap64 (2 * a + 2) = 2 * a + 2 := w64 _ (by omega) (by omega)
       obtain ⟨lo, hlo⟩ : ∃ x, x = 2 * a - pl := ⟨_, rfl⟩
       obtain ⟨hi, hhi⟩ : ∃ x, x = 2 * a + 2 - pl := ⟨_, rfl⟩
       have hw4 : wrap64 (2 * a - pl) = lo := by rw [w64 _ (by omega) (by omega), hlo]
       have hw5 : wrap64 (2 * a + 2 - pl) = hi := by rw [w64 _ (by omega) (by omega), hhi]
       have hl0 := eq_true HFIT.out.1
       obtain ⟨D, hD⟩ : ∃ D, wrap64 (l - d) = D := ⟨_, rfl⟩
       have HDD := am_ (show D = l - d by rw [← hD]; exact w64 _ (by have := HFIT.out.1; have := HFIT.out.2.1; have := HD.out; omega) (by have := HFIT.out.1; have := HFIT.out.2.1; have := HD.out; omega))
       obtain ⟨tz, ez, vz, uz, rz, nz⟩ := whole_ev z HEE.out
       obtain ⟨tl, el, vl, ul, rl, nl⟩ := whole_ev lo (by omega)
       obtain ⟨th, eh, vh, uh, rh, nh⟩ := whole_ev hi (by omega)
       obtain ⟨kz, fz⟩ := ez.get
       obtain ⟨kl, fl⟩ := el.get
       obtain ⟨kh, fh⟩ := eh.get
       have FZ := am_ fz
       have FL := am_ fl
       have FH := am_ fh
       obtain ⟨ex, hex⟩ : ∃ ex : Int, ex = if tz.length = 0 then 0 else wrap64 (0 + D) := ⟨_, rfl⟩
       have HEX := am_ hex
       have HEX2 := am_ (show ex = if tz.length = 0 then 0 else l - d by rw [hex, HDD.out, Int.zero_add, w64 _ (by have := HFIT.out.1; have := HFIT.out.2.1; have := HD.out; omega) (by have := HFIT.out.1; have := HFIT.out.2.1; have := HD.out; omega)])
       have q1 := (cmp_law d l z lo HD.out.1 HD.out.2 HFIT.out.1 HFIT.out.2.1 tz tl (abs_len uz rz vz) (abs_len ul rl vl) ex HEX2.out).1
       have q2 := (cmp_law d l z hi HD.out.1 HD.out.2 HFIT.out.1 HFIT.out.2.1 tz th (abs_len uz rz vz) (abs_len uh rh vh) ex HEX2.out).2
       have V1 := am_ (show sv (decide (z < 0)) (nv tz) = z by rw [vz, sv_abs])
       have V2 := am_ (show sv (decide (lo < 0)) (nv tl) = lo by rw [vl, sv_abs])
       have V3 := am_ (show sv (decide (hi < 0)) (nv th) = hi by rw [vh, sv_abs])
       have U1 := am_ (And.intro uz (And.intro rz nz))
       have U2 := am_ (And.intro ul (And.intro rl nl))
       have U3 := am_ (And.intro uh (And.intro rh nh))
       have HEXB := am_ (show -100000 ≤ ex ∧ ex ≤ 100000 by rw [HEX2.out]; split <;> have := HFIT.out.1 <;> have := HFIT.out.2.1 <;> have := HD.out <;> omega)
       have HLO := am_ hlo
       have HHI := am_ hhi
       have Y1 := am_ q1
       have Y2 := am_ q2
       clear ez el eh vz vl vh uz ul uh rz rl rh nz nl nh fz fl fh hex q1 q2 hlo hhi hpl hpb ha8
       generalize decide (z < 0) = nz at *
       generalize decide (lo < 0) = nl at *
       generalize decide (hi < 0) = nh at *
       go_wp2_with fail
       have hb : Below wr.heap.size wr wr.drew := zaH (Below.refl _ _)
       replace HB := am_ (zh HB.out hb)
       clear hb
       refine zaY (n := 15) (S := fun w' => w'.cell? ⟨g3, 0, none⟩ = some (.slice (some al) lv.length c0) ∧ w'.cell? ⟨g3, 1, none⟩ = some (.slice (some aa) at_.length c1) ∧ w'.cell? (ae.add j) = some (.int .i64 z) ∧ w'.cell? (al.add j) = some (.int .i64 l) ∧ w'.cell? (aa.add j) = some (.int .i64 a)) (ds := [14]) (bl_ 15 0) (by kernel_rfl) rfl rfl ⟨(HZ.out _ HB.out).1, (HZ.out _ HB.out).2.1, (HZ.out _ HB.out).2.2.1, (HZ.out _ HB.out).2.2.2.1, (HZ.out _ HB.out).2.2.2.2⟩ (fun hHeld => ?_); refine zav zaE.tab6 zaE.bits6 (fun HT_ HW_ => ?_)
       generalize wr.drew = u1 at HB  hHeld ⊢
       refine zz (i := 0) (N := some 39) (v := ?_) (a' := ?_) (bl_ 15 1) rfl rfl (zn HT_.out (by kernel_rfl)) (fun _ _ _ h => h) (Or.inl ⟨by rfl, ?_⟩) ?_ ?_; rotate_left; (focus (intro w'; go_simp; first | done | with_reducible rfl)); rotate_left; (focus (simp only [Act.put, sI_, s0_, s1_, zl, zm]; first | done | rfl))
       refine zz (i := 1) (N := some 40) (v := ?_) (a' := ?_) (bl_ 15 3) rfl rfl (zn HT_.out (by kernel_rfl)) (fun _ _ _ h => h) (Or.inl ⟨by rfl, ?_⟩) ?_ ?_; rotate_left; (focus (intro w'; go_simp; first | done | with_reducible rfl)); rotate_left; (focus (simp only [Act.put, sI_, s0_, s1_, zl, zm]; first | done | rfl))
       refine zz (i := 2) (N := some 41) (v := ?_) (a' := ?_) (bl_ 15 7) rfl rfl (zn HT_.out (by kernel_rfl)) (fun _ _ _ h => h) (Or.inl ⟨by rfl, ?_⟩) ?_ ?_; rotate_left; (focus (intro w'; go_simp; first | done | with_reducible rfl)); rotate_left; (focus (simp only [Act.put, sI_, s0_, s1_, zl, zm]; first | done | rfl))
       refine zz (i := 5) (N := some 44) (v := ?_) (a' := ?_) (bl_ 15 39) rfl rfl (zn HT_.out (by kernel_rfl)) (fun _ _ _ h => h) (Or.inl ⟨by rfl, ?_⟩) ?_ ?_; rotate_left; (focus (intro w'; go_simp; first | done | with_reducible rfl)); rotate_left; (focus (simp only [Act.put, sI_, s0_, s1_, zl, zm]; first | done | rfl))
       refine zz (i := 7) (N := some 46) (v := ?_) (a' := ?_) (bl_ 15 167) rfl rfl (zn HT_.out (by kernel_rfl)) (fun _ _ _ h => h) (Or.inl ⟨by rfl, ?_⟩) ?_ ?_; rotate_left; (focus (intro w'; go_simp; first | done | with_reducible rfl)); rotate_left; (focus (simp only [Act.put, sI_, s0_, s1_, zl, zm]; first | done | rfl))
       refine zz (i := 10) (N := some 49) (v := ?_) (a' := ?_) (bl_ 15 1191) rfl rfl (zn HT_.out (by kernel_rfl)) (fun _ _ _ h => h) (Or.inl ⟨by rfl, ?_⟩) ?_ ?_; rotate_left; (focus (intro w'; go_simp; first | done | with_reducible rfl)); rotate_left; (focus (simp only [Act.put, sI_, s0_, s1_, zl, zm]; first | done | rfl))
       refine zau (i := 3) (N := some 42) (v := ?_) (a' := ?_) (bl_ 15 1199) rfl rfl (zR HT_.out HW_.out (by kernel_rfl)) (fun _ _ _ h => h) (Or.inl ⟨by rfl, ?_⟩) hHeld ?_ ?_; rotate_left; (focus (rintro w' ⟨s0, s1, s2, s3, s4⟩; go_simp; first | done | with_reducible rfl)); rotate_left; (focus (simp only [Act.put, sI_, s0_, s1_, zl, zm]; first | done | rfl))
       refine zau (i := 6) (N := some 45) (v := ?_) (a' := ?_) (bl_ 15 1263) rfl rfl (zR HT_.out HW_.out (by kernel_rfl)) (fun _ _ _ h => h) (Or.inl ⟨by rfl, ?_⟩) hHeld ?_ ?_; rotate_left; (focus (rintro w' ⟨s0, s1, s2, s3, s4⟩; go_simp; first | done | with_reducible rfl)); rotate_left; (focus (simp only [Act.put, sI_, s0_, s1_, zl, zm]; first | done | rfl))
       refine zz (i := 8) (N := some 47) (v := ?_) (a' := ?_) (bl_ 15 1519) rfl rfl (zn HT_.out (by kernel_rfl)) (fun _ _ _ h => h) (Or.inl ⟨by rfl, ?_⟩) ?_ ?_; rotate_left; (focus (intro w'; go_simp; first | done | with_reducible rfl)); rotate_left; (focus (simp only [Act.put, sI_, s0_, s1_, zl, zm]; first | done | rfl))
       refine zau (i := 9) (N := some 48) (v := ?_) (a' := ?_) (bl_ 15 2031) rfl rfl (zR HT_.out HW_.out (by kernel_rfl)) (fun _ _ _ h => h) (Or.inl ⟨by rfl, ?_⟩) hHeld ?_ ?_; rotate_left; (focus (rintro w' ⟨s0, s1, s2, s3, s4⟩; go_simp; first | done | with_reducible rfl)); rotate_left; (focus (simp only [Act.put, sI_, s0_, s1_, zl, zm]; first | done | rfl))
       refine zz (i := 11) (N := some 50) (v := ?_) (a' := ?_) (bl_ 15 4079) rfl rfl (zn HT_.out (by kernel_rfl)) (fun _ _ _ h => h) (Or.inl ⟨by rfl, ?_⟩) ?_ ?_; rotate_left; (focus (intro w'; go_simp; first | done | with_reducible rfl)); rotate_left; (focus (simp only [Act.put, sI_, s0_, s1_, zl, zm]; first | done | rfl))
       refine join_ (σ := Option Addr × Nat × Nat) 1 (bl_ 15 16383) (fun s_ => [(43, .agg #[.bool nz, .slice s_.1 tz.length s_.2.1, .int .i64 0]), (51, .agg #[.bool nz, .slice s_.1 tz.length s_.2.1, .int .i64 ex]), (8, .pointer (some ⟨s_.2.2, 0, none⟩))]) (fun s_ w' => (w'.cell? ⟨g3, 0, none⟩ = some (.slice (some al) lv.length c0) ∧ w'.cell? ⟨g3, 1, none⟩ = some (.slice (some aa) at_.length c1) ∧ w'.cell? (ae.add j) = some (.int .i64 z) ∧ w'.cell? (al.add j) = some (.int .i64 l) ∧ w'.cell? (aa.add j) = some (.int .i64 a)) ∧ (Ru w' s_.1 s_.2.1 tz 2) ∧ (B3 w' s_.2.2 false none 0 0 0) ∧ (w2.heap.size ≤ s_.2.2) ∧ (Below w2.heap.size w2 w')) ?_ ?_
       rotate_left
       ·intro hJ
        refine two_ (i := 4) (j := 13) (Ni := some 43) (Nj := some 8) (bl_ 15 4095) (bl_ 15 12271) rfl rfl rfl rfl (two_of HT_.out (by kernel_rfl)) (by decide) (by decide) (fun K hK => ?_) (fun K hK => ?_)
        ·skip
         refine zbc Try.func47 (by kernel_rfl) rfl #[.int .i64 (z)] (by rfl) rfl rfl (by (try simp only [List.map_toArray, List.map_cons, List.map_nil]); first | done | rfl) ?_
         refine (zaj.calls kz (z) nz tz 0 u1 FZ.out).mono ?_
         rintro e_ u3 ⟨v0, rfl, h0, hb⟩
         refine ⟨_, rfl, ?_⟩
         obtain ⟨A_x, c_x, rfl, r_t⟩ := Ru.of_R h0 U1.out.1 U1.out.2.1 U1.out.2.2
         replace HB := am_ (zh HB.out hb)
         have R_x := am_ r_t
         clear hb h0 r_t
         refine hK.out _ _ ⟨(HZ.out _ HB.out).1, (HZ.out _ HB.out).2.1, (HZ.out _ HB.out).2.2.1, (HZ.out _ HB.out).2.2.2.1, (HZ.out _ HB.out).2.2.2.2⟩ (fun hHeld => ?_); clear hK K
         refine zZ (a' := ?_) ?_ ?_; rotate_left; (focus (show Act.put _ (some 43) _ = _; simp only [Act.put, sI_, s0_, s1_, zl, zm]; first | done | rfl))
         refine two_ (i := 12) (j := 13) (Ni := some 51) (Nj := some 8) (bl_ 15 8191) (bl_ 15 12287) rfl rfl rfl rfl (two_of HT_.out (by kernel_rfl)) (by decide) (by decide) (fun K hK => ?_) (fun K hK => ?_)
         ·skip
          refine zbc Try.func46 (by kernel_rfl) rfl #[.agg #[.bool nz, .slice A_x tz.length c_x, .int .i64 0], .int .i64 (wrap64 (l - d))] (by rfl) rfl rfl (by (try simp only [List.map_toArray, List.map_cons, List.map_nil]); first | done | rfl) ?_
          have mc := moved_calls nz A_x tz.length c_x 0 (wrap64 (l - d)) u3
          rw [hD, ← HEX.out, ← hD] at mc
          refine mc.mono ?_
          clear mc
          rintro e_ u4 ⟨rfl, hb⟩
          refine ⟨_, rfl, ?_⟩
          replace R_x := am_ (R_x.out.step hb); replace HB := am_ (zh HB.out hb)
          clear hb
          refine hK.out _ _ ⟨(HZ.out _ HB.out).1, (HZ.out _ HB.out).2.1, (HZ.out _ HB.out).2.2.1, (HZ.out _ HB.out).2.2.2.1, (HZ.out _ HB.out).2.2.2.2⟩ (fun hHeld => ?_); clear hK K
          refine zZ (a' := ?_) ?_ ?_; rotate_left; (focus (show Act.put _ (some 51) _ = _; simp only [Act.put, sI_, s0_, s1_, zl, zm]; first | done | rfl))
          refine one_ (i := 13) (N := some 8) (bl_ 15 16383) rfl rfl (zae HT_.out (by kernel_rfl)) (by decide) (fun K hK => ?_)
          refine zai ?hg (N := 8) ?hd (cs := #[.bool false, .slice none 0 0, .int .i64 0]) (t := 101) ?hr ?_; (case hd => rfl); (case hg => rfl); (case hr => first | (go_simp; done) | (go_simp; rfl))
          intro g_x hg_ u5 hw_ hb_
          have L_x := am_ (show w2.heap.size ≤ g_x by have := HB.out.size; omega)
          replace R_x := am_ (R_x.out.step hb_); replace HB := am_ (zh HB.out hb_)
          have K_x := am_ (show B3 u5 g_x false none 0 0 0 from hw_); clear hg_ hw_ hb_
          refine hK.out _ _ ⟨(HZ.out _ HB.out).1, (HZ.out _ HB.out).2.1, (HZ.out _ HB.out).2.2.1, (HZ.out _ HB.out).2.2.2.1, (HZ.out _ HB.out).2.2.2.2⟩ (fun hHeld => ?_); clear hK K
          refine zZ (a' := ?_) ?_ ?_; rotate_left; (focus (show Act.put _ (some 8) _ = _; simp only [Act.put, sI_, s0_, s1_, zl, zm]; first | done | rfl))
          exact zZ (by first | (simp only [zY, Act.put, sI_, s0_, s1_]; done) | (simp only [zY, Act.put, sI_, s0_, s1_]; rfl)) (hJ (A_x, c_x, g_x) _ ⟨hHeld, R_x.out, K_x.out, L_x.out, HB.out⟩)
         ·skip
          refine zai ?hg (N := 8) ?hd (cs := #[.bool false, .slice none 0 0, .int .i64 0]) (t := 101) ?hr ?_; (case hd => rfl); (case hg => rfl); (case hr => first | (go_simp; done) | (go_simp; rfl))
          intro g_x hg_ u4 hw_ hb_
          have L_x := am_ (show w2.heap.size ≤ g_x by have := HB.out.size; omega)
          replace R_x := am_ (R_x.out.step hb_); replace HB := am_ (zh HB.out hb_)
          have K_x := am_ (show B3 u4 g_x false none 0 0 0 from hw_); clear hg_ hw_ hb_
          refine hK.out _ _ ⟨(HZ.out _ HB.out).1, (HZ.out _ HB.out).2.1, (HZ.out _ HB.out).2.2.1, (HZ.out _ HB.out).2.2.2.1, (HZ.out _ HB.out).2.2.2.2⟩ (fun hHeld => ?_); clear hK K
          refine zZ (a' := ?_) ?_ ?_; rotate_left; (focus (show Act.put _ (some 8) _ = _; simp only [Act.put, sI_, s0_, s1_, zl, zm]; first | done | rfl))
          refine one_ (i := 12) (N := some 51) (bl_ 15 16383) rfl rfl (zae HT_.out (by kernel_rfl)) (by decide) (fun K hK => ?_)
          refine zbc Try.func46 (by kernel_rfl) rfl #[.agg #[.bool nz, .slice A_x tz.length c_x, .int .i64 0], .int .i64 (wrap64 (l - d))] (by rfl) rfl rfl (by (try simp only [List.map_toArray, List.map_cons, List.map_nil]); first | done | rfl) ?_
          have mc := moved_calls nz A_x tz.length c_x 0 (wrap64 (l - d)) u4
          rw [hD, ← HEX.out, ← hD] at mc
          refine mc.mono ?_
          clear mc
          rintro e_ u5 ⟨rfl, hb⟩
          refine ⟨_, rfl, ?_⟩
          replace R_x := am_ (R_x.out.step hb); replace K_x := am_ (K_x.out.step hb); replace HB := am_ (zh HB.out hb)
          clear hb
          refine hK.out _ _ ⟨(HZ.out _ HB.out).1, (HZ.out _ HB.out).2.1, (HZ.out _ HB.out).2.2.1, (HZ.out _ HB.out).2.2.2.1, (HZ.out _ HB.out).2.2.2.2⟩ (fun hHeld => ?_); clear hK K
          refine zZ (a' := ?_) ?_ ?_; rotate_left; (focus (show Act.put _ (some 51) _ = _; simp only [Act.put, sI_, s0_, s1_, zl, zm]; first | done | rfl))
          exact zZ (by first | (simp only [zY, Act.put, sI_, s0_, s1_]; done) | (simp only [zY, Act.put, sI_, s0_, s1_]; rfl)) (hJ (A_x, c_x, g_x) _ ⟨hHeld, R_x.out, K_x.out, L_x.out, HB.out⟩)
        ·skip
         refine zai ?hg (N := 8) ?hd (cs := #[.bool false, .slice none 0 0, .int .i64 0]) (t := 101) ?hr ?_; (case hd => rfl); (case hg => rfl); (case hr => first | (go_simp; done) | (go_simp; rfl))
         intro g_x hg_ u3 hw_ hb_
         have L_x := am_ (show w2.heap.size ≤ g_x by have := HB.out.size; omega)
         replace HB := am_ (zh HB.out hb_)
         have K_x := am_ (show B3 u3 g_x false none 0 0 0 from hw_); clear hg_ hw_ hb_
         refine hK.out _ _ ⟨(HZ.out _ HB.out).1, (HZ.out _ HB.out).2.1, (HZ.out _ HB.out).2.2.1, (HZ.out _ HB.out).2.2.2.1, (HZ.out _ HB.out).2.2.2.2⟩ (fun hHeld => ?_); clear hK K
         refine zZ (a' := ?_) ?_ ?_; rotate_left; (focus (show Act.put _ (some 8) _ = _; simp only [Act.put, sI_, s0_, s1_, zl, zm]; first | done | rfl))
         refine one_ (i := 4) (N := some 43) (bl_ 15 12287) rfl rfl (zae HT_.out (by kernel_rfl)) (by decide) (fun K hK => ?_)
         refine zbc Try.func47 (by kernel_rfl) rfl #[.int .i64 (z)] (by rfl) rfl rfl (by (try simp only [List.map_toArray, List.map_cons, List.map_nil]); first | done | rfl) ?_
         refine (zaj.calls kz (z) nz tz 0 u3 FZ.out).mono ?_
         rintro e_ u4 ⟨v0, rfl, h0, hb⟩
         refine ⟨_, rfl, ?_⟩
         obtain ⟨A_x, c_x, rfl, r_t⟩ := Ru.of_R h0 U1.out.1 U1.out.2.1 U1.out.2.2
         replace K_x := am_ (K_x.out.step hb); replace HB := am_ (zh HB.out hb)
         have R_x := am_ r_t
         clear hb h0 r_t
         refine hK.out _ _ ⟨(HZ.out _ HB.out).1, (HZ.out _ HB.out).2.1, (HZ.out _ HB.out).2.2.1, (HZ.out _ HB.out).2.2.2.1, (HZ.out _ HB.out).2.2.2.2⟩ (fun hHeld => ?_); clear hK K
         refine zZ (a' := ?_) ?_ ?_; rotate_left; (focus (show Act.put _ (some 43) _ = _; simp only [Act.put, sI_, s0_, s1_, zl, zm]; first | done | rfl))
         refine one_ (i := 12) (N := some 51) (bl_ 15 16383) rfl rfl (zae HT_.out (by kernel_rfl)) (by decide) (fun K hK => ?_)
         refine zbc Try.func46 (by kernel_rfl) rfl #[.agg #[.bool nz, .slice A_x tz.length c_x, .int .i64 0], .int .i64 (wrap64 (l - d))] (by rfl) rfl rfl (by (try simp only [List.map_toArray, List.map_cons, List.map_nil]); first | done | rfl) ?_
         have mc := moved_calls nz A_x tz.length c_x 0 (wrap64 (l - d)) u4
         rw [hD, ← HEX.out, ← hD] at mc
         refine mc.mono ?_
         clear mc
         rintro e_ u5 ⟨rfl, hb⟩
         refine ⟨_, rfl, ?_⟩
         replace R_x := am_ (R_x.out.step hb); replace K_x := am_ (K_x.out.step hb); replace HB := am_ (zh HB.out hb)
         clear hb
         refine hK.out _ _ ⟨(HZ.out _ HB.out).1, (HZ.out _ HB.out).2.1, (HZ.out _ HB.out).2.2.1, (HZ.out _ HB.out).2.2.2.1, (HZ.out _ HB.out).2.2.2.2⟩ (fun hHeld => ?_); clear hK K
         refine zZ (a' := ?_) ?_ ?_; rotate_left; (focus (show Act.put _ (some 51) _ = _; simp only [Act.put, sI_, s0_, s1_, zl, zm]; first | done | rfl))
         exact zZ (by first | (simp only [zY, Act.put, sI_, s0_, s1_]; done) | (simp only [zY, Act.put, sI_, s0_, s1_]; rfl)) (hJ (A_x, c_x, g_x) _ ⟨hHeld, R_x.out, K_x.out, L_x.out, HB.out⟩)
       rintro ⟨A_x, c_x, g_x⟩ u2 ⟨hHeld, h0_, h1_, h2_, h3_⟩
       clear HB
       have R_x := am_ (show Ru u2 A_x c_x tz 2 from h0_)
       have K_x := am_ (show B3 u2 g_x false none 0 0 0 from h1_)
       have L_x := am_ (show w2.heap.size ≤ g_x from h2_)
       have HB := am_ (show Below w2.heap.size w2 u2 from h3_)
       clear h0_ h1_ h2_ h3_
       have f_x_0 := K_x.out.f 0
       have c_x_0_ := K_x.out.c0
       have f_x_1 := K_x.out.f 1
       have c_x_1_ := K_x.out.c1
       have f_x_2 := K_x.out.f 2
       have c_x_2_ := K_x.out.c2
       refine zZ (a' := ?_) ?_ ?_; rotate_left; (focus (simp only [zY, Act.put, sI_, s0_, s1_]; first | done | rfl))
       refine last_ (i := 14) (N := none) (bl_ 15 32767) rfl rfl (zae HT_.out (by kernel_rfl)) (by decide) (fun K hK => ?_)
       refine skip_ (w1 := ?_) (by rfl) rfl ?_ ?_; rotate_left; (focus (go_simp; first | done | rfl))
       refine hK.out _ _ ?_; clear hK K
       refine done_ (zaL HT_.out (by kernel_rfl)) ?_
       clear f_x_0 c_x_0_ f_x_1 c_x_1_ f_x_2 c_x_2_ hHeld
       have hs_ := z8 u2 g_x 0 (.bool nz); replace R_x := am_ (R_x.out.put K_x.out hs_); replace HB := am_ (HB.out.grown hs_ HB.out.size (fun k_ hk_ => by cases hk_; exact L_x.out)); replace K_x := am_ (show B3 (u2.setCell ⟨g_x, 0, none⟩ (.bool nz)) g_x nz none 0 0 0 from zaD K_x.out 0 _); clear hs_; generalize u2.setCell ⟨g_x, 0, none⟩ (.bool nz) = u3 at HB R_x K_x ⊢
       have hs_ := z8 u3 g_x 1 (.slice A_x tz.length c_x); replace R_x := am_ (R_x.out.put K_x.out hs_); replace HB := am_ (HB.out.grown hs_ HB.out.size (fun k_ hk_ => by cases hk_; exact L_x.out)); replace K_x := am_ (show B3 (u3.setCell ⟨g_x, 1, none⟩ (.slice A_x tz.length c_x)) g_x nz A_x tz.length c_x 0 from zaD K_x.out 1 _); clear hs_; generalize u3.setCell ⟨g_x, 1, none⟩ (.slice A_x tz.length c_x) = u4 at HB R_x K_x ⊢
       have hs_ := z8 u4 g_x 2 (.int .i64 ex); replace R_x := am_ (R_x.out.put K_x.out hs_); replace HB := am_ (HB.out.grown hs_ HB.out.size (fun k_ hk_ => by cases hk_; exact L_x.out)); replace K_x := am_ (show B3 (u4.setCell ⟨g_x, 2, none⟩ (.int .i64 ex)) g_x nz A_x tz.length c_x ex from zaD K_x.out 2 _); clear hs_; generalize u4.setCell ⟨g_x, 2, none⟩ (.int .i64 ex) = u5 at HB R_x K_x ⊢
       go_wp2_with fail
       have hb : Below u5.heap.size u5 u5.drew := zaH (Below.refl _ _)
       replace R_x := am_ (R_x.out.step hb); replace K_x := am_ (K_x.out.step hb); replace HB := am_ (zh HB.out hb)
       clear hb
       refine zaY (n := 16) (S := fun w' => w'.cell? ⟨g3, 0, none⟩ = some (.slice (some al) lv.length c0) ∧ w'.cell? ⟨g3, 1, none⟩ = some (.slice (some aa) at_.length c1) ∧ w'.cell? (ae.add j) = some (.int .i64 z) ∧ w'.cell? (al.add j) = some (.int .i64 l) ∧ w'.cell? (aa.add j) = some (.int .i64 a)) (ds := [15]) (bl_ 16 0) (by kernel_rfl) rfl rfl ⟨(HZ.out _ HB.out).1, (HZ.out _ HB.out).2.1, (HZ.out _ HB.out).2.2.1, (HZ.out _ HB.out).2.2.2.1, (HZ.out _ HB.out).2.2.2.2⟩ (fun hHeld => ?_); refine zav zaE.tab7 zaE.bits7 (fun HT_ HW_ => ?_)
       generalize u5.drew = u6 at HB R_x K_x hHeld ⊢
       refine zz (i := 0) (N := some 52) (v := ?_) (a' := ?_) (bl_ 16 1) rfl rfl (zn HT_.out (by kernel_rfl)) (fun _ _ _ h => h) (Or.inl ⟨by rfl, ?_⟩) ?_ ?_; rotate_left; (focus (intro w'; go_simp; first | done | with_reducible rfl)); rotate_left; (focus (simp only [Act.put, sI_, s0_, s1_, zl, zm]; first | done | rfl))
       refine zz (i := 2) (N := some 54) (v := ?_) (a' := ?_) (bl_ 16 5) rfl rfl (zn HT_.out (by kernel_rfl)) (fun _ _ _ h => h) (Or.inl ⟨by rfl, ?_⟩) ?_ ?_; rotate_left; (focus (intro w'; go_simp; first | done | with_reducible rfl)); rotate_left; (focus (simp only [Act.put, sI_, s0_, s1_, zl, zm]; first | done | rfl))
       refine zz (i := 6) (N := some 58) (v := ?_) (a' := ?_) (bl_ 16 69) rfl rfl (zn HT_.out (by kernel_rfl)) (fun _ _ _ h => h) (Or.inl ⟨by rfl, ?_⟩) ?_ ?_; rotate_left; (focus (intro w'; go_simp; first | done | with_reducible rfl)); rotate_left; (focus (simp only [Act.put, sI_, s0_, s1_, zl, zm]; first | done | rfl))
       refine zz (i := 8) (N := some 60) (v := ?_) (a' := ?_) (bl_ 16 325) rfl rfl (zn HT_.out (by kernel_rfl)) (fun _ _ _ h => h) (Or.inl ⟨by rfl, ?_⟩) ?_ ?_; rotate_left; (focus (intro w'; go_simp; first | done | with_reducible rfl)); rotate_left; (focus (simp only [Act.put, sI_, s0_, s1_, zl, zm]; first | done | rfl))
       refine zau (i := 1) (N := some 53) (v := ?_) (a' := ?_) (bl_ 16 327) rfl rfl (zR HT_.out HW_.out (by kernel_rfl)) (fun _ _ _ h => h) (Or.inl ⟨by rfl, ?_⟩) hHeld ?_ ?_; rotate_left; (focus (rintro w' ⟨s0, s1, s2, s3, s4⟩; go_simp; first | done | with_reducible rfl)); rotate_left; (focus (simp only [Act.put, sI_, s0_, s1_, zl, zm]; first | done | rfl))
       refine zz (i := 3) (N := some 55) (v := ?_) (a' := ?_) (bl_ 16 335) rfl rfl (zn HT_.out (by kernel_rfl)) (fun _ _ _ h => h) (Or.inl ⟨by rfl, ?_⟩) ?_ ?_; rotate_left; (focus (intro w'; go_simp; first | done | with_reducible rfl)); rotate_left; (focus (simp only [Act.put, sI_, s0_, s1_, zl, zm]; first | done | rfl))
       refine zau (i := 4) (N := some 56) (v := ?_) (a' := ?_) (bl_ 16 351) rfl rfl (zR HT_.out HW_.out (by kernel_rfl)) (fun _ _ _ h => h) (Or.inl ⟨by rfl, ?_⟩) hHeld ?_ ?_; rotate_left; (focus (rintro w' ⟨s0, s1, s2, s3, s4⟩; go_simp; first | done | with_reducible rfl)); rotate_left; (focus (simp only [Act.put, sI_, s0_, s1_, zl, zm]; first | done | rfl))
       refine zz (i := 5) (N := some 57) (v := ?_) (a' := ?_) (bl_ 16 383) rfl rfl (zn HT_.out (by kernel_rfl)) (fun _ _ _ h => h) (Or.inl ⟨by rfl, ?_⟩) ?_ ?_; rotate_left; (focus (intro w'; go_simp; first | done | with_reducible rfl)); rotate_left; (focus (simp only [Act.put, sI_, s0_, s1_, zl, zm]; first | done | rfl))
       refine zau (i := 7) (N := some 59) (v := ?_) (a' := ?_) (bl_ 16 511) rfl rfl (zR HT_.out HW_.out (by kernel_rfl)) (fun _ _ _ h => h) (Or.inl ⟨by rfl, ?_⟩) hHeld ?_ ?_; rotate_left; (focus (rintro w' ⟨s0, s1, s2, s3, s4⟩; go_simp; first | done | with_reducible rfl)); rotate_left; (focus (simp only [Act.put, sI_, s0_, s1_, zl, zm]; first | done | rfl))
       refine zz (i := 9) (N := some 61) (v := ?_) (a' := ?_) (bl_ 16 1023) rfl rfl (zn HT_.out (by kernel_rfl)) (fun _ _ _ h => h) (Or.inl ⟨by rfl, ?_⟩) ?_ ?_; rotate_left; (focus (intro w'; go_simp; first | done | with_reducible rfl)); rotate_left; (focus (simp only [Act.put, sI_, s0_, s1_, zl, zm]; first | done | rfl))
       refine zau (i := 10) (N := some 62) (v := ?_) (a' := ?_) (bl_ 16 2047) rfl rfl (zR HT_.out HW_.out (by kernel_rfl)) (fun _ _ _ h => h) (Or.inl ⟨by rfl, ?_⟩) hHeld ?_ ?_; rotate_left; (focus (rintro w' ⟨s0, s1, s2, s3, s4⟩; go_simp; first | done | with_reducible rfl)); rotate_left; (focus (simp only [Act.put, sI_, s0_, s1_, zl, zm]; first | done | rfl))
       refine zz (i := 11) (N := some 63) (v := ?_) (a' := ?_) (bl_ 16 4095) rfl rfl (zn HT_.out (by kernel_rfl)) (fun _ _ _ h => h) (Or.inl ⟨by rfl, ?_⟩) ?_ ?_; rotate_left; (focus (intro w'; go_simp; first | done | with_reducible rfl)); rotate_left; (focus (simp only [Act.put, sI_, s0_, s1_, zl, zm]; first | done | rfl))
       refine zz (i := 12) (N := some 64) (v := ?_) (a' := ?_) (bl_ 16 8191) rfl rfl (zn HT_.out (by kernel_rfl)) (fun _ _ _ h => h) (Or.inl ⟨by rfl, ?_⟩) ?_ ?_; rotate_left; (focus (intro w'; go_simp; first | done | with_reducible rfl)); rotate_left; (focus (simp only [Act.put, sI_, s0_, s1_, zl, zm]; first | done | rfl))
       refine join_ (σ := Option Addr × Nat × Nat) 1 (bl_ 16 32767) (fun s_ => [(65, .agg #[.bool nl, .slice s_.1 tl.length s_.2.1, .int .i64 0]), (9, .pointer (some ⟨s_.2.2, 0, none⟩))]) (fun s_ w' => (w'.cell? ⟨g3, 0, none⟩ = some (.slice (some al) lv.length c0) ∧ w'.cell? ⟨g3, 1, none⟩ = some (.slice (some aa) at_.length c1) ∧ w'.cell? (ae.add j) = some (.int .i64 z) ∧ w'.cell? (al.add j) = some (.int .i64 l) ∧ w'.cell? (aa.add j) = some (.int .i64 a)) ∧ (Ru w' s_.1 s_.2.1 tl 2) ∧ (B3 w' s_.2.2 false none 0 0 0) ∧ (w2.heap.size ≤ s_.2.2) ∧ (Below w2.heap.size w2 w') ∧ (g_x ≠ s_.2.2) ∧ (Ru w' A_x c_x tz 2) ∧ (B3 w' g_x nz A_x tz.length c_x ex)) ?_ ?_
       rotate_left
       ·intro hJ
        refine two_ (i := 13) (j := 14) (Ni := some 65) (Nj := some 9) (bl_ 16 16383) (bl_ 16 24575) rfl rfl rfl rfl (two_of HT_.out (by kernel_rfl)) (by decide) (by decide) (fun K hK => ?_) (fun K hK => ?_)
        ·skip
         refine zbc Try.func47 (by kernel_rfl) rfl #[.int .i64 (wrap64 (2 * a - pl))] (by rfl) rfl rfl (by (try simp only [List.map_toArray, List.map_cons, List.map_nil]); first | done | rfl) ?_
         refine (zaj.calls kl (wrap64 (2 * a - pl)) nl tl 0 u6 (by rw [hw4]; exact FL.out)).mono ?_
         rintro e_ u8 ⟨v0, rfl, h0, hb⟩
         refine ⟨_, rfl, ?_⟩
         obtain ⟨A_l, c_l, rfl, r_t⟩ := Ru.of_R h0 U2.out.1 U2.out.2.1 U2.out.2.2
         replace R_x := am_ (R_x.out.step hb); replace K_x := am_ (K_x.out.step hb); replace HB := am_ (zh HB.out hb)
         have R_l := am_ r_t
         clear hb h0 r_t
         refine hK.out _ _ ⟨(HZ.out _ HB.out).1, (HZ.out _ HB.out).2.1, (HZ.out _ HB.out).2.2.1, (HZ.out _ HB.out).2.2.2.1, (HZ.out _ HB.out).2.2.2.2⟩ (fun hHeld => ?_); clear hK K
         refine zZ (a' := ?_) ?_ ?_; rotate_left; (focus (show Act.put _ (some 65) _ = _; simp only [Act.put, sI_, s0_, s1_, zl, zm]; first | done | rfl))
         refine one_ (i := 14) (N := some 9) (bl_ 16 32767) rfl rfl (zae HT_.out (by kernel_rfl)) (by decide) (fun K hK => ?_)
         refine zai ?hg (N := 9) ?hd (cs := #[.bool false, .slice none 0 0, .int .i64 0]) (t := 101) ?hr ?_; (case hd => rfl); (case hg => rfl); (case hr => first | (go_simp; done) | (go_simp; rfl))
         intro g_l hg_ u9 hw_ hb_
         have N_l_x := am_ (show g_x ≠ g_l by have := K_x.out.lt; omega)
         have L_l := am_ (show w2.heap.size ≤ g_l by have := HB.out.size; omega)
         replace R_x := am_ (R_x.out.step hb_); replace R_l := am_ (R_l.out.step hb_); replace K_x := am_ (K_x.out.step hb_); replace HB := am_ (zh HB.out hb_)
         have K_l := am_ (show B3 u9 g_l false none 0 0 0 from hw_); clear hg_ hw_ hb_
         refine hK.out _ _ ⟨(HZ.out _ HB.out).1, (HZ.out _ HB.out).2.1, (HZ.out _ HB.out).2.2.1, (HZ.out _ HB.out).2.2.2.1, (HZ.out _ HB.out).2.2.2.2⟩ (fun hHeld => ?_); clear hK K
         refine zZ (a' := ?_) ?_ ?_; rotate_left; (focus (show Act.put _ (some 9) _ = _; simp only [Act.put, sI_, s0_, s1_, zl, zm]; first | done | rfl))
         exact zZ (by first | (simp only [zY, Act.put, sI_, s0_, s1_]; done) | (simp only [zY, Act.put, sI_, s0_, s1_]; rfl)) (hJ (A_l, c_l, g_l) _ ⟨hHeld, R_l.out, K_l.out, L_l.out, HB.out, N_l_x.out, R_x.out, K_x.out⟩)
        ·skip
         refine zai ?hg (N := 9) ?hd (cs := #[.bool false, .slice none 0 0, .int .i64 0]) (t := 101) ?hr ?_; (case hd => rfl); (case hg => rfl); (case hr => first | (go_simp; done) | (go_simp; rfl))
         intro g_l hg_ u8 hw_ hb_
         have N_l_x := am_ (show g_x ≠ g_l by have := K_x.out.lt; omega)
         have L_l := am_ (show w2.heap.size ≤ g_l by have := HB.out.size; omega)
         replace R_x := am_ (R_x.out.step hb_); replace K_x := am_ (K_x.out.step hb_); replace HB := am_ (zh HB.out hb_)
         have K_l := am_ (show B3 u8 g_l false none 0 0 0 from hw_); clear hg_ hw_ hb_
         refine hK.out _ _ ⟨(HZ.out _ HB.out).1, (HZ.out _ HB.out).2.1, (HZ.out _ HB.out).2.2.1, (HZ.out _ HB.out).2.2.2.1, (HZ.out _ HB.out).2.2.2.2⟩ (fun hHeld => ?_); clear hK K
         refine zZ (a' := ?_) ?_ ?_; rotate_left; (focus (show Act.put _ (some 9) _ = _; simp only [Act.put, sI_, s0_, s1_, zl, zm]; first | done | rfl))
         refine one_ (i := 13) (N := some 65) (bl_ 16 32767) rfl rfl (zae HT_.out (by kernel_rfl)) (by decide) (fun K hK => ?_)
         refine zbc Try.func47 (by kernel_rfl) rfl #[.int .i64 (wrap64 (2 * a - pl))] (by rfl) rfl rfl (by (try simp only [List.map_toArray, List.map_cons, List.map_nil]); first | done | rfl) ?_
         refine (zaj.calls kl (wrap64 (2 * a - pl)) nl tl 0 u8 (by rw [hw4]; exact FL.out)).mono ?_
         rintro e_ u9 ⟨v0, rfl, h0, hb⟩
         refine ⟨_, rfl, ?_⟩
         obtain ⟨A_l, c_l, rfl, r_t⟩ := Ru.of_R h0 U2.out.1 U2.out.2.1 U2.out.2.2
         replace R_x := am_ (R_x.out.step hb); replace K_x := am_ (K_x.out.step hb); replace K_l := am_ (K_l.out.step hb); replace HB := am_ (zh HB.out hb)
         have R_l := am_ r_t
         clear hb h0 r_t
         refine hK.out _ _ ⟨(HZ.out _ HB.out).1, (HZ.out _ HB.out).2.1, (HZ.out _ HB.out).2.2.1, (HZ.out _ HB.out).2.2.2.1, (HZ.out _ HB.out).2.2.2.2⟩ (fun hHeld => ?_); clear hK K
         refine zZ (a' := ?_) ?_ ?_; rotate_left; (focus (show Act.put _ (some 65) _ = _; simp only [Act.put, sI_, s0_, s1_, zl, zm]; first | done | rfl))
         exact zZ (by first | (simp only [zY, Act.put, sI_, s0_, s1_]; done) | (simp only [zY, Act.put, sI_, s0_, s1_]; rfl)) (hJ (A_l, c_l, g_l) _ ⟨hHeld, R_l.out, K_l.out, L_l.out, HB.out, N_l_x.out, R_x.out, K_x.out⟩)
       rintro ⟨A_l, c_l, g_l⟩ u7 ⟨hHeld, h0_, h1_, h2_, h3_, h4_, h5_, h6_⟩
       clear HB R_x K_x
       have R_l := am_ (show Ru u7 A_l c_l tl 2 from h0_)
       have K_l := am_ (show B3 u7 g_l false none 0 0 0 from h1_)
       have L_l := am_ (show w2.heap.size ≤ g_l from h2_)
       have HB := am_ (show Below w2.heap.size w2 u7 from h3_)
       have N_l_x := am_ (show g_x ≠ g_l from h4_)
       have R_x := am_ (show Ru u7 A_x c_x tz 2 from h5_)
       have K_x := am_ (show B3 u7 g_x nz A_x tz.length c_x ex from h6_)
       clear h0_ h1_ h2_ h3_ h4_ h5_ h6_
       have f_l_0 := K_l.out.f 0
       have c_l_0_ := K_l.out.c0
       have f_l_1 := K_l.out.f 1
       have c_l_1_ := K_l.out.c1
       have f_l_2 := K_l.out.f 2
       have c_l_2_ := K_l.out.c2
       refine zZ (a' := ?_) ?_ ?_; rotate_left; (focus (simp only [zY, Act.put, sI_, s0_, s1_]; first | done | rfl))
       refine last_ (i := 15) (N := none) (bl_ 16 65535) rfl rfl (zae HT_.out (by kernel_rfl)) (by decide) (fun K hK => ?_)
       refine skip_ (w1 := ?_) (by rfl) rfl ?_ ?_; rotate_left; (focus (go_simp; first | done | rfl))
       refine hK.out _ _ ?_; clear hK K
       refine done_ (zaL HT_.out (by kernel_rfl)) ?_
       clear f_l_0 c_l_0_ f_l_1 c_l_1_ f_l_2 c_l_2_ hHeld
       have hs_ := z8 u7 g_l 0 (.bool nl); replace R_x := am_ (R_x.out.put K_l.out hs_); replace R_l := am_ (R_l.out.put K_l.out hs_); replace K_x := am_ (K_x.out.put hs_ N_l_x.out); replace HB := am_ (HB.out.grown hs_ HB.out.size (fun k_ hk_ => by cases hk_; exact L_l.out)); replace K_l := am_ (show B3 (u7.setCell ⟨g_l, 0, none⟩ (.bool nl)) g_l nl none 0 0 0 from zaD K_l.out 0 _); clear hs_; generalize u7.setCell ⟨g_l, 0, none⟩ (.bool nl) = u8 at HB R_x R_l K_x K_l ⊢
       have hs_ := z8 u8 g_l 1 (.slice A_l tl.length c_l); replace R_x := am_ (R_x.out.put K_l.out hs_); replace R_l := am_ (R_l.out.put K_l.out hs_); replace K_x := am_ (K_x.out.put hs_ N_l_x.out); replace HB := am_ (HB.out.grown hs_ HB.out.size (fun k_ hk_ => by cases hk_; exact L_l.out)); replace K_l := am_ (show B3 (u8.setCell ⟨g_l, 1, none⟩ (.slice A_l tl.length c_l)) g_l nl A_l tl.length c_l 0 from zaD K_l.out 1 _); clear hs_; generalize u8.setCell ⟨g_l, 1, none⟩ (.slice A_l tl.length c_l) = u9 at HB R_x R_l K_x K_l ⊢
       have hs_ := z8 u9 g_l 2 (.int .i64 0); replace R_x := am_ (R_x.out.put K_l.out hs_); replace R_l := am_ (R_l.out.put K_l.out hs_); replace K_x := am_ (K_x.out.put hs_ N_l_x.out); replace HB := am_ (HB.out.grown hs_ HB.out.size (fun k_ hk_ => by cases hk_; exact L_l.out)); replace K_l := am_ (show B3 (u9.setCell ⟨g_l, 2, none⟩ (.int .i64 0)) g_l nl A_l tl.length c_l 0 from zaD K_l.out 2 _); clear hs_; generalize u9.setCell ⟨g_l, 2, none⟩ (.int .i64 0) = u10 at HB R_x R_l K_x K_l ⊢
       go_wp2_with fail
       have hb : Below u10.heap.size u10 u10.drew := zaH (Below.refl _ _)
       replace R_x := am_ (R_x.out.step hb); replace R_l := am_ (R_l.out.step hb); replace K_x := am_ (K_x.out.step hb); replace K_l := am_ (K_l.out.step hb); replace HB := am_ (zh HB.out hb)
       clear hb
       refine zaY (n := 17) (S := fun w' => w'.cell? ⟨g3, 0, none⟩ = some (.slice (some al) lv.length c0) ∧ w'.cell? ⟨g3, 1, none⟩ = some (.slice (some aa) at_.length c1) ∧ w'.cell? (ae.add j) = some (.int .i64 z) ∧ w'.cell? (al.add j) = some (.int .i64 l) ∧ w'.cell? (aa.add j) = some (.int .i64 a)) (ds := [16]) (bl_ 17 0) (by kernel_rfl) rfl rfl ⟨(HZ.out _ HB.out).1, (HZ.out _ HB.out).2.1, (HZ.out _ HB.out).2.2.1, (HZ.out _ HB.out).2.2.2.1, (HZ.out _ HB.out).2.2.2.2⟩ (fun hHeld => ?_); refine zav zaE.tab8 zaE.bits8 (fun HT_ HW_ => ?_)
       generalize u10.drew = u11 at HB R_x R_l K_x K_l hHeld ⊢
       refine zz (i := 0) (N := some 66) (v := ?_) (a' := ?_) (bl_ 17 1) rfl rfl (zn HT_.out (by kernel_rfl)) (fun _ _ _ h => h) (Or.inl ⟨by rfl, ?_⟩) ?_ ?_; rotate_left; (focus (intro w'; go_simp; first | done | with_reducible rfl)); rotate_left; (focus (simp only [Act.put, sI_, s0_, s1_, zl, zm]; first | done | rfl))
       refine zz (i := 2) (N := some 68) (v := ?_) (a' := ?_) (bl_ 17 5) rfl rfl (zn HT_.out (by kernel_rfl)) (fun _ _ _ h => h) (Or.inl ⟨by rfl, ?_⟩) ?_ ?_; rotate_left; (focus (intro w'; go_simp; first | done | with_reducible rfl)); rotate_left; (focus (simp only [Act.put, sI_, s0_, s1_, zl, zm]; first | done | rfl))
       refine zz (i := 7) (N := some 73) (v := ?_) (a' := ?_) (bl_ 17 133) rfl rfl (zn HT_.out (by kernel_rfl)) (fun _ _ _ h => h) (Or.inl ⟨by rfl, ?_⟩) ?_ ?_; rotate_left; (focus (intro w'; go_simp; first | done | with_reducible rfl)); rotate_left; (focus (simp only [Act.put, sI_, s0_, s1_, zl, zm]; first | done | rfl))
       refine zz (i := 9) (N := some 75) (v := ?_) (a' := ?_) (bl_ 17 645) rfl rfl (zn HT_.out (by kernel_rfl)) (fun _ _ _ h => h) (Or.inl ⟨by rfl, ?_⟩) ?_ ?_; rotate_left; (focus (intro w'; go_simp; first | done | with_reducible rfl)); rotate_left; (focus (simp only [Act.put, sI_, s0_, s1_, zl, zm]; first | done | rfl))
       refine zau (i := 1) (N := some 67) (v := ?_) (a' := ?_) (bl_ 17 647) rfl rfl (zR HT_.out HW_.out (by kernel_rfl)) (fun _ _ _ h => h) (Or.inl ⟨by rfl, ?_⟩) hHeld ?_ ?_; rotate_left; (focus (rintro w' ⟨s0, s1, s2, s3, s4⟩; go_simp; first | done | with_reducible rfl)); rotate_left; (focus (simp only [Act.put, sI_, s0_, s1_, zl, zm]; first | done | rfl))
       refine zz (i := 3) (N := some 69) (v := ?_) (a' := ?_) (bl_ 17 655) rfl rfl (zn HT_.out (by kernel_rfl)) (fun _ _ _ h => h) (Or.inl ⟨by rfl, ?_⟩) ?_ ?_; rotate_left; (focus (intro w'; go_simp; first | done | with_reducible rfl)); rotate_left; (focus (simp only [Act.put, sI_, s0_, s1_, zl, zm]; first | done | rfl))
       refine zau (i := 4) (N := some 70) (v := ?_) (a' := ?_) (bl_ 17 671) rfl rfl (zR HT_.out HW_.out (by kernel_rfl)) (fun _ _ _ h => h) (Or.inl ⟨by rfl, ?_⟩) hHeld ?_ ?_; rotate_left; (focus (rintro w' ⟨s0, s1, s2, s3, s4⟩; go_simp; first | done | with_reducible rfl)); rotate_left; (focus (simp only [Act.put, sI_, s0_, s1_, zl, zm]; first | done | rfl))
       refine zz (i := 5) (N := some 71) (v := ?_) (a' := ?_) (bl_ 17 703) rfl rfl (zn HT_.out (by kernel_rfl)) (fun _ _ _ h => h) (Or.inl ⟨by rfl, ?_⟩) ?_ ?_; rotate_left; (focus (intro w'; go_simp; first | done | with_reducible rfl)); rotate_left; (focus (simp only [Act.put, sI_, s0_, s1_, zl, zm]; first | done | rfl))
       refine zz (i := 6) (N := some 72) (v := ?_) (a' := ?_) (bl_ 17 767) rfl rfl (zn HT_.out (by kernel_rfl)) (fun _ _ _ h => h) (Or.inl ⟨by rfl, ?_⟩) ?_ ?_; rotate_left; (focus (intro w'; go_simp; first | done | with_reducible rfl)); rotate_left; (focus (simp only [Act.put, sI_, s0_, s1_, zl, zm]; first | done | rfl))
       refine zau (i := 8) (N := some 74) (v := ?_) (a' := ?_) (bl_ 17 1023) rfl rfl (zR HT_.out HW_.out (by kernel_rfl)) (fun _ _ _ h => h) (Or.inl ⟨by rfl, ?_⟩) hHeld ?_ ?_; rotate_left; (focus (rintro w' ⟨s0, s1, s2, s3, s4⟩; go_simp; first | done | with_reducible rfl)); rotate_left; (focus (simp only [Act.put, sI_, s0_, s1_, zl, zm]; first | done | rfl))
       refine zz (i := 10) (N := some 76) (v := ?_) (a' := ?_) (bl_ 17 2047) rfl rfl (zn HT_.out (by kernel_rfl)) (fun _ _ _ h => h) (Or.inl ⟨by rfl, ?_⟩) ?_ ?_; rotate_left; (focus (intro w'; go_simp; first | done | with_reducible rfl)); rotate_left; (focus (simp only [Act.put, sI_, s0_, s1_, zl, zm]; first | done | rfl))
       refine zau (i := 11) (N := some 77) (v := ?_) (a' := ?_) (bl_ 17 4095) rfl rfl (zR HT_.out HW_.out (by kernel_rfl)) (fun _ _ _ h => h) (Or.inl ⟨by rfl, ?_⟩) hHeld ?_ ?_; rotate_left; (focus (rintro w' ⟨s0, s1, s2, s3, s4⟩; go_simp; first | done | with_reducible rfl)); rotate_left; (focus (simp only [Act.put, sI_, s0_, s1_, zl, zm]; first | done | rfl))
       refine zz (i := 12) (N := some 78) (v := ?_) (a' := ?_) (bl_ 17 8191) rfl rfl (zn HT_.out (by kernel_rfl)) (fun _ _ _ h => h) (Or.inl ⟨by rfl, ?_⟩) ?_ ?_; rotate_left; (focus (intro w'; go_simp; first | done | with_reducible rfl)); rotate_left; (focus (simp only [Act.put, sI_, s0_, s1_, zl, zm]; first | done | rfl))
       refine zz (i := 13) (N := some 79) (v := ?_) (a' := ?_) (bl_ 17 16383) rfl rfl (zn HT_.out (by kernel_rfl)) (fun _ _ _ h => h) (Or.inl ⟨by rfl, ?_⟩) ?_ ?_; rotate_left; (focus (intro w'; go_simp; first | done | with_reducible rfl)); rotate_left; (focus (simp only [Act.put, sI_, s0_, s1_, zl, zm]; first | done | rfl))
       refine join_ (σ := Option Addr × Nat × Nat) 1 (bl_ 17 65535) (fun s_ => [(80, .agg #[.bool nh, .slice s_.1 th.length s_.2.1, .int .i64 0]), (10, .pointer (some ⟨s_.2.2, 0, none⟩))]) (fun s_ w' => (w'.cell? ⟨g3, 0, none⟩ = some (.slice (some al) lv.length c0) ∧ w'.cell? ⟨g3, 1, none⟩ = some (.slice (some aa) at_.length c1) ∧ w'.cell? (ae.add j) = some (.int .i64 z) ∧ w'.cell? (al.add j) = some (.int .i64 l) ∧ w'.cell? (aa.add j) = some (.int .i64 a)) ∧ (Ru w' s_.1 s_.2.1 th 2) ∧ (B3 w' s_.2.2 false none 0 0 0) ∧ (w2.heap.size ≤ s_.2.2) ∧ (Below w2.heap.size w2 w') ∧ (g_x ≠ s_.2.2) ∧ (g_l ≠ s_.2.2) ∧ (Ru w' A_x c_x tz 2) ∧ (Ru w' A_l c_l tl 2) ∧ (B3 w' g_x nz A_x tz.length c_x ex) ∧ (B3 w' g_l nl A_l tl.length c_l 0)) ?_ ?_
       rotate_left
       ·intro hJ
        refine two_ (i := 14) (j := 15) (Ni := some 80) (Nj := some 10) (bl_ 17 32767) (bl_ 17 49151) rfl rfl rfl rfl (two_of HT_.out (by kernel_rfl)) (by decide) (by decide) (fun K hK => ?_) (fun K hK => ?_)
        ·skip
         refine zbc Try.func47 (by kernel_rfl) rfl #[.int .i64 (wrap64 (2 * a + 2 - pl))] (by rfl) rfl rfl (by (try simp only [List.map_toArray, List.map_cons, List.map_nil]); first | done | rfl) ?_
         refine (zaj.calls kh (wrap64 (2 * a + 2 - pl)) nh th 0 u11 (by rw [hw5]; exact FH.out)).mono ?_
         rintro e_ u13 ⟨v0, rfl, h0, hb⟩
         refine ⟨_, rfl, ?_⟩
         obtain ⟨A_h, c_h, rfl, r_t⟩ := Ru.of_R h0 U3.out.1 U3.out.2.1 U3.out.2.2
         replace R_x := am_ (R_x.out.step hb); replace R_l := am_ (R_l.out.step hb); replace K_x := am_ (K_x.out.step hb); replace K_l := am_ (K_l.out.step hb); replace HB := am_ (zh HB.out hb)
         have R_h := am_ r_t
         clear hb h0 r_t
         refine hK.out _ _ ⟨(HZ.out _ HB.out).1, (HZ.out _ HB.out).2.1, (HZ.out _ HB.out).2.2.1, (HZ.out _ HB.out).2.2.2.1, (HZ.out _ HB.out).2.2.2.2⟩ (fun hHeld => ?_); clear hK K
         refine zZ (a' := ?_) ?_ ?_; rotate_left; (focus (show Act.put _ (some 80) _ = _; simp only [Act.put, sI_, s0_, s1_, zl, zm]; first | done | rfl))
         refine one_ (i := 15) (N := some 10) (bl_ 17 65535) rfl rfl (zae HT_.out (by kernel_rfl)) (by decide) (fun K hK => ?_)
         refine zai ?hg (N := 10) ?hd (cs := #[.bool false, .slice none 0 0, .int .i64 0]) (t := 101) ?hr ?_; (case hd => rfl); (case hg => rfl); (case hr => first | (go_simp; done) | (go_simp; rfl))
         intro g_h hg_ u14 hw_ hb_
         have N_h_x := am_ (show g_x ≠ g_h by have := K_x.out.lt; omega)
         have N_h_l := am_ (show g_l ≠ g_h by have := K_l.out.lt; omega)
         have L_h := am_ (show w2.heap.size ≤ g_h by have := HB.out.size; omega)
         replace R_x := am_ (R_x.out.step hb_); replace R_l := am_ (R_l.out.step hb_); replace R_h := am_ (R_h.out.step hb_); replace K_x := am_ (K_x.out.step hb_); replace K_l := am_ (K_l.out.step hb_); replace HB := am_ (zh HB.out hb_)
         have K_h := am_ (show B3 u14 g_h false none 0 0 0 from hw_); clear hg_ hw_ hb_
         refine hK.out _ _ ⟨(HZ.out _ HB.out).1, (HZ.out _ HB.out).2.1, (HZ.out _ HB.out).2.2.1, (HZ.out _ HB.out).2.2.2.1, (HZ.out _ HB.out).2.2.2.2⟩ (fun hHeld => ?_); clear hK K
         refine zZ (a' := ?_) ?_ ?_; rotate_left; (focus (show Act.put _ (some 10) _ = _; simp only [Act.put, sI_, s0_, s1_, zl, zm]; first | done | rfl))
         exact zZ (by first | (simp only [zY, Act.put, sI_, s0_, s1_]; done) | (simp only [zY, Act.put, sI_, s0_, s1_]; rfl)) (hJ (A_h, c_h, g_h) _ ⟨hHeld, R_h.out, K_h.out, L_h.out, HB.out, N_h_x.out, N_h_l.out, R_x.out, R_l.out, K_x.out, K_l.out⟩)
        ·skip
         refine zai ?hg (N := 10) ?hd (cs := #[.bool false, .slice none 0 0, .int .i64 0]) (t := 101) ?hr ?_; (case hd => rfl); (case hg => rfl); (case hr => first | (go_simp; done) | (go_simp; rfl))
         intro g_h hg_ u13 hw_ hb_
         have N_h_x := am_ (show g_x ≠ g_h by have := K_x.out.lt; omega)
         have N_h_l := am_ (show g_l ≠ g_h by have := K_l.out.lt; omega)
         have L_h := am_ (show w2.heap.size ≤ g_h by have := HB.out.size; omega)
         replace R_x := am_ (R_x.out.step hb_); replace R_l := am_ (R_l.out.step hb_); replace K_x := am_ (K_x.out.step hb_); replace K_l := am_ (K_l.out.step hb_); replace HB := am_ (zh HB.out hb_)
         have K_h := am_ (show B3 u13 g_h false none 0 0 0 from hw_); clear hg_ hw_ hb_
         refine hK.out _ _ ⟨(HZ.out _ HB.out).1, (HZ.out _ HB.out).2.1, (HZ.out _ HB.out).2.2.1, (HZ.out _ HB.out).2.2.2.1, (HZ.out _ HB.out).2.2.2.2⟩ (fun hHeld => ?_); clear hK K
         refine zZ (a' := ?_) ?_ ?_; rotate_left; (focus (show Act.put _ (some 10) _ = _; simp only [Act.put, sI_, s0_, s1_, zl, zm]; first | done | rfl))
         refine one_ (i := 14) (N := some 80) (bl_ 17 65535) rfl rfl (zae HT_.out (by kernel_rfl)) (by decide) (fun K hK => ?_)
         refine zbc Try.func47 (by kernel_rfl) rfl #[.int .i64 (wrap64 (2 * a + 2 - pl))] (by rfl) rfl rfl (by (try simp only [List.map_toArray, List.map_cons, List.map_nil]); first | done | rfl) ?_
         refine (zaj.calls kh (wrap64 (2 * a + 2 - pl)) nh th 0 u13 (by rw [hw5]; exact FH.out)).mono ?_
         rintro e_ u14 ⟨v0, rfl, h0, hb⟩
         refine ⟨_, rfl, ?_⟩
         obtain ⟨A_h, c_h, rfl, r_t⟩ := Ru.of_R h0 U3.out.1 U3.out.2.1 U3.out.2.2
         replace R_x := am_ (R_x.out.step hb); replace R_l := am_ (R_l.out.step hb); replace K_x := am_ (K_x.out.step hb); replace K_l := am_ (K_l.out.step hb); replace K_h := am_ (K_h.out.step hb); replace HB := am_ (zh HB.out hb)
         have R_h := am_ r_t
         clear hb h0 r_t
         refine hK.out _ _ ⟨(HZ.out _ HB.out).1, (HZ.out _ HB.out).2.1, (HZ.out _ HB.out).2.2.1, (HZ.out _ HB.out).2.2.2.1, (HZ.out _ HB.out).2.2.2.2⟩ (fun hHeld => ?_); clear hK K
         refine zZ (a' := ?_) ?_ ?_; rotate_left; (focus (show Act.put _ (some 80) _ = _; simp only [Act.put, sI_, s0_, s1_, zl, zm]; first | done | rfl))
         exact zZ (by first | (simp only [zY, Act.put, sI_, s0_, s1_]; done) | (simp only [zY, Act.put, sI_, s0_, s1_]; rfl)) (hJ (A_h, c_h, g_h) _ ⟨hHeld, R_h.out, K_h.out, L_h.out, HB.out, N_h_x.out, N_h_l.out, R_x.out, R_l.out, K_x.out, K_l.out⟩)
       rintro ⟨A_h, c_h, g_h⟩ u12 ⟨hHeld, h0_, h1_, h2_, h3_, h4_, h5_, h6_, h7_, h8_, h9_⟩
       clear HB R_x R_l K_x K_l
       have R_h := am_ (show Ru u12 A_h c_h th 2 from h0_)
       have K_h := am_ (show B3 u12 g_h false none 0 0 0 from h1_)
       have L_h := am_ (show w2.heap.size ≤ g_h from h2_)
       have HB := am_ (show Below w2.heap.size w2 u12 from h3_)
       have N_h_x := am_ (show g_x ≠ g_h from h4_)
       have N_h_l := am_ (show g_l ≠ g_h from h5_)
       have R_x := am_ (show Ru u12 A_x c_x tz 2 from h6_)
       have R_l := am_ (show Ru u12 A_l c_l tl 2 from h7_)
       have K_x := am_ (show B3 u12 g_x nz A_x tz.length c_x ex from h8_)
       have K_l := am_ (show B3 u12 g_l nl A_l tl.length c_l 0 from h9_)
       clear h0_ h1_ h2_ h3_ h4_ h5_ h6_ h7_ h8_ h9_
       have f_h_0 := K_h.out.f 0
       have c_h_0_ := K_h.out.c0
       have f_h_1 := K_h.out.f 1
       have c_h_1_ := K_h.out.c1
       have f_h_2 := K_h.out.f 2
       have c_h_2_ := K_h.out.c2
       refine zZ (a' := ?_) ?_ ?_; rotate_left; (focus (simp only [zY, Act.put, sI_, s0_, s1_]; first | done | rfl))
       refine last_ (i := 16) (N := none) (bl_ 17 131071) rfl rfl (zae HT_.out (by kernel_rfl)) (by decide) (fun K hK => ?_)
       refine skip_ (w1 := ?_) (by rfl) rfl ?_ ?_; rotate_left; (focus (go_simp; first | done | rfl))
       refine hK.out _ _ ?_; clear hK K
       refine done_ (zaL HT_.out (by kernel_rfl)) ?_
       clear f_h_0 c_h_0_ f_h_1 c_h_1_ f_h_2 c_h_2_ hHeld
       have hs_ := z8 u12 g_h 0 (.bool nh); replace R_x := am_ (R_x.out.put K_h.out hs_); replace R_l := am_ (R_l.out.put K_h.out hs_); replace R_h := am_ (R_h.out.put K_h.out hs_); replace K_x := am_ (K_x.out.put hs_ N_h_x.out); replace K_l := am_ (K_l.out.put hs_ N_h_l.out); replace HB := am_ (HB.out.grown hs_ HB.out.size (fun k_ hk_ => by cases hk_; exact L_h.out)); replace K_h := am_ (show B3 (u12.setCell ⟨g_h, 0, none⟩ (.bool nh)) g_h nh none 0 0 0 from zaD K_h.out 0 _); clear hs_; generalize u12.setCell ⟨g_h, 0, none⟩ (.bool nh) = u13 at HB R_x R_l R_h K_x K_l K_h ⊢
       have hs_ := z8 u13 g_h 1 (.slice A_h th.length c_h); replace R_x := am_ (R_x.out.put K_h.out hs_); replace R_l := am_ (R_l.out.put K_h.out hs_); replace R_h := am_ (R_h.out.put K_h.out hs_); replace K_x := am_ (K_x.out.put hs_ N_h_x.out); replace K_l := am_ (K_l.out.put hs_ N_h_l.out); replace HB := am_ (HB.out.grown hs_ HB.out.size (fun k_ hk_ => by cases hk_; exact L_h.out)); replace K_h := am_ (show B3 (u13.setCell ⟨g_h, 1, none⟩ (.slice A_h th.length c_h)) g_h nh A_h th.length c_h 0 from zaD K_h.out 1 _); clear hs_; generalize u13.setCell ⟨g_h, 1, none⟩ (.slice A_h th.length c_h) = u14 at HB R_x R_l R_h K_x K_l K_h ⊢
       have hs_ := z8 u14 g_h 2 (.int .i64 0); replace R_x := am_ (R_x.out.put K_h.out hs_); replace R_l := am_ (R_l.out.put K_h.out hs_); replace R_h := am_ (R_h.out.put K_h.out hs_); replace K_x := am_ (K_x.out.put hs_ N_h_x.out); replace K_l := am_ (K_l.out.put hs_ N_h_l.out); replace HB := am_ (HB.out.grown hs_ HB.out.size (fun k_ hk_ => by cases hk_; exact L_h.out)); replace K_h := am_ (show B3 (u14.setCell ⟨g_h, 2, none⟩ (.int .i64 0)) g_h nh A_h th.length c_h 0 from zaD K_h.out 2 _); clear hs_; generalize u14.setCell ⟨g_h, 2, none⟩ (.int .i64 0) = u15 at HB R_x R_l R_h K_x K_l K_h ⊢
       have c_x_0 := K_x.out.c0; have c_x_1 := K_x.out.c1; have c_x_2 := K_x.out.c2; have c_l_0 := K_l.out.c0; have c_l_1 := K_l.out.c1; have c_l_2 := K_l.out.c2; have c_h_0 := K_h.out.c0; have c_h_1 := K_h.out.c1; have c_h_2 := K_h.out.c2
       go_wp2_with fail
       have HIN := am_ (show InP d z l a ↔ (lo * 2 ^ (62 - l.toNat) ≤ z * 2 ^ (62 - d.toNat) ∧ z * 2 ^ (62 - d.toNat) ≤ hi * 2 ^ (62 - l.toNat)) by unfold InP; rw [HLO.out, HHI.out, HP.out])
       have cc := rcmp_calls nz nl A_x c_x tz ex A_l c_l tl 0 2 u15 R_x.out R_l.out (by omega) ⟨HEXB.out, by omega, by omega⟩
       rw [V1.out, V2.out] at cc
       have y_ := Y1.out
       generalize sgnI (z * 2 ^ (ex - lvE tz ex tl 0).toNat - lo * 2 ^ (0 - lvE tz ex tl 0).toNat) = s1 at cc y_
       have Z_s1 := am_ y_
       clear y_
       refine cc.mono ?_
       clear cc
       rintro e_ u17 ⟨rfl, hb⟩
       clear c_x_0 c_x_1 c_x_2 c_l_0 c_l_1 c_l_2 c_h_0 c_h_1 c_h_2
       replace R_x := am_ (R_x.out.step hb); replace R_l := am_ (R_l.out.step hb); replace R_h := am_ (R_h.out.step hb); replace K_x := am_ (K_x.out.step hb); replace K_l := am_ (K_l.out.step hb); replace K_h := am_ (K_h.out.step hb); replace HB := am_ (zh HB.out hb)
       clear hb
       have c_x_0 := K_x.out.c0; have c_x_1 := K_x.out.c1; have c_x_2 := K_x.out.c2; have c_l_0 := K_l.out.c0; have c_l_1 := K_l.out.c1; have c_l_2 := K_l.out.c2; have c_h_0 := K_h.out.c0; have c_h_1 := K_h.out.c1; have c_h_2 := K_h.out.c2
       by_cases hn1 : s1 < 0
       ·have hn1b : decide (s1 < 0) = true := decide_eq_true hn1
        have HN1 := am_ hn1
        clear hn1
        go_wp2_with fail
        go_ret
        exact ⟨by rw [← HBN.out, decide_eq_false (fun h => by have h1_ := Z_s1.out.mpr (HIN.out.1 (HW.out h)).1; have := HN1.out; omega)]; first | done | rfl, zh B2.out HB.out⟩
       ·have hn1b : decide (s1 < 0) = false := decide_eq_false hn1
        have HN1 := am_ hn1
        clear hn1
        go_wp2_with fail
        have cc := rcmp_calls nz nh A_x c_x tz ex A_h c_h th 0 2 u17 R_x.out R_h.out (by omega) ⟨HEXB.out, by omega, by omega⟩
        rw [V1.out, V3.out] at cc
        have y_ := Y2.out
        generalize sgnI (z * 2 ^ (ex - lvE tz ex th 0).toNat - hi * 2 ^ (0 - lvE tz ex th 0).toNat) = s2 at cc y_
        have Z_s2 := am_ y_
        clear y_
        refine cc.mono ?_
        clear cc
        rintro e_ u18 ⟨rfl, hb⟩
        clear c_x_0 c_x_1 c_x_2 c_l_0 c_l_1 c_l_2 c_h_0 c_h_1 c_h_2
        replace R_x := am_ (R_x.out.step hb); replace R_l := am_ (R_l.out.step hb); replace R_h := am_ (R_h.out.step hb); replace K_x := am_ (K_x.out.step hb); replace K_l := am_ (K_l.out.step hb); replace K_h := am_ (K_h.out.step hb); replace HB := am_ (zh HB.out hb)
        clear hb
        have c_x_0 := K_x.out.c0; have c_x_1 := K_x.out.c1; have c_x_2 := K_x.out.c2; have c_l_0 := K_l.out.c0; have c_l_1 := K_l.out.c1; have c_l_2 := K_l.out.c2; have c_h_0 := K_h.out.c0; have c_h_1 := K_h.out.c1; have c_h_2 := K_h.out.c2
        by_cases hn2 : 0 < s2
        ·have hn2b : decide (0 < s2) = true := decide_eq_true hn2
         have HN2 := am_ hn2
         clear hn2
         go_wp2_with fail
         go_ret
         exact ⟨by rw [← HBN.out, decide_eq_false (fun h => by have h1_ := Z_s2.out.mpr (HIN.out.1 (HW.out h)).2; have := HN2.out; omega)]; first | done | rfl, zh B2.out HB.out⟩
        ·have hn2b : decide (0 < s2) = false := decide_eq_false hn2
         have HN2 := am_ hn2
         clear hn2
         have HN := am_ (HIN.out.2 ⟨Z_s1.out.mp (by have := HN1.out; omega), Z_s2.out.mp (by have := HN2.out; omega)⟩)
         clear c_x_0 c_x_1 c_x_2 c_l_0 c_l_1 c_l_2 c_h_0 c_h_1 c_h_2
         go_wp2_with fail
         go_roundg (gk - 1)
         case measure => have := hm.out; have := HJ.out; omega
         case rel => exact ⟨(j : Int) + 1, by rw [show wrap64 ((j : Int) + 1) = (j : Int) + 1 from w64 _ (by omega) (by have := HJ.out; have := HLE.out; have := HREG.out.1; omega)], ⟨by have := hm.out; have := HJ.out; omega⟩, ⟨HQ.out HN.out⟩, ⟨HB.out⟩⟩
      ·have hxb : decide (x < (es.length : Int)) = false := decide_eq_false hx
       have HX := am_ (show x = es.length by have := hm.out; omega)
       clear hx
       go_wp2_with fail
       go_ret
       exact ⟨by rw [← HBN.out, decide_eq_true ⟨HREG.out, HLE.out, HD.out.1, HD.out.2, fun i hi => hall.out i (by have := HX.out; have := HLE.out; omega)⟩]; first | done | rfl, zh B2.out HB.out⟩
  ·have hlb : ((es.length : Int) != (lv.length : Int)) = true := by rw [bne_iff_ne]; omega
   have HN := am_ (show ¬ Win lv at_ es d from fun h => hl h.2.1)
   clear hl
   go_wp2_with fail
   go_ret
   exact ⟨by rw [← HBN.out, decide_eq_false HN.out]; first | done | rfl, B2.out⟩
 ·have hzb : (cr != 0) = true := by rw [bne_iff_ne]; exact hz
  have HN := am_ (show ¬ Win lv at_ es d from fun h => chk_bad (by rw [HCR.out]; exact hz) h.1)
  clear hz
  go_wp2_with fail
  go_ret
  exact ⟨by rw [← HBN.out, decide_eq_false HN.out]; first | done | rfl, B2.out⟩
end Go.Proofs.Ytlidbaejhmamjaa.NW

namespace Go.Proofs.Ytlidbaejhmamjaa.LA
open Go.RowKit Go.Proofs.YtlidbaejhmamjaaW.PrintWords Go.Proofs.YtlidbaejhmamjaaW.PrintLast Go.Proofs.YtlidbaejhmamjaaW.PrintMore Go.Proofs.Ytlidbaejhmamjaa.PB
set_option linter.unusedVariables false
set_option linter.unusedSimpArgs false
theorem rd_nat (xs : List Int) (i : Nat) (h : i < xs.length) : rd xs (i : Int) = xs[i] := by simp [rd, h]
theorem rd_set_same (xs : List Int) (i : Nat) (v : Int) (h : i < xs.length) : rd (xs.set i v) (i : Int) = v := by simp [rd, h]
theorem rd_set_other (xs : List Int) (i j : Nat) (v : Int) (h : i ≠ j) : rd (xs.set i v) (j : Int) = rd xs (j : Int) := by simp [rd, List.getD_eq_getElem?_getD, List.getElem?_set_ne h]
theorem pz_set : ∀ (lv at_ : List Int) (i : Nat) (a b : Int), (pz lv at_).set i ⟨a, b⟩ = pz (lv.set i a) (at_.set i b)
 | [], _, i, a, b => by simp [pz]
 | _ :: _, [], i, a, b => by simp [pz]
 | x :: lv, y :: at_, 0, a, b => by simp [pz]
 | x :: lv, y :: at_, i + 1, a, b => by
  have := pz_set lv at_ i a b
  simp [pz] at this ⊢
  exact this
theorem pz_f0 : ∀ (lv at_ : List Int), at_.length = lv.length → (pz lv at_).map (·.f0) = lv
 | [], [], _ => rfl
 | x :: lv, y :: at_, h => by
  have := pz_f0 lv at_ (by simpa using h)
  simp [pz] at this ⊢
  exact this
theorem pz_f1 : ∀ (lv at_ : List Int), at_.length = lv.length → (pz lv at_).map (·.f1) = at_
 | [], [], _ => rfl
 | x :: lv, y :: at_, h => by
  have := pz_f1 lv at_ (by simpa using h)
  simp [pz] at this ⊢
  exact this
def HOk (lv at_ : List Int) (s : Int) : Prop := Reg lv at_ ∧ 0 ≤ s ∧ s < lv.length ∧ rd lv s ≠ 8
instance (lv at_ : List Int) (s : Int) : Decidable (HOk lv at_ s) := by unfold HOk; infer_instance
def hE (lv at_ : List Int) (s : Int) : Int := if HOk lv at_ s then 0 else if Reg lv at_ then 1 else 180
def hL (lv at_ : List Int) (s : Int) : List Int := if HOk lv at_ s then lv.set s.toNat (rd lv s + 1) else []
def hA (lv at_ : List Int) (s : Int) : List Int := if HOk lv at_ s then at_.set s.toNat (2 * rd at_ s) else []
def hB (lv at_ : List Int) (s : Int) : List Int := if HOk lv at_ s then at_.set s.toNat (2 * rd at_ s + 1) else []
theorem fit_at {l a : Int} (h : Fit l a) : 0 ≤ a ∧ a < 256 := by
 obtain ⟨h0, h1, h2, h3⟩ := h
 have h4 : (2 : Int) ^ l.toNat ≤ 2 ^ 8 := by
  have := Nat.pow_le_pow_right (n := 2) (by decide) (show l.toNat ≤ 8 by omega)
  exact_mod_cast this
 have e : (2 : Int) ^ 8 = 256 := by decide
 omega
theorem chk_self (lv at_ : List Int) : chkE lv at_ lv.length = if Reg lv at_ then 0 else 180 := by
 unfold chkE
 exact ite_cong ⟨fun h => h.2, fun h => ⟨rfl, h⟩⟩ _ _
theorem Halve_ev (lv at_ : List Int) (s : Int) : EvS (fun k => z2.f k lv at_ s) (hL lv at_ s, hA lv at_ s, hL lv at_ s, hB lv at_ s, hE lv at_ s) := by
 unfold z2.f
 refine EvS.bind (Check_ev lv at_ _) ?_
 rw [chk_self]
 by_cases hr : Reg lv at_
 ·simp only [if_pos hr, if_true]
  refine EvS.bind (parts_ev lv at_ hr.2.1 hr.1) ?_
  have bad : ¬ HOk lv at_ s → EvS (fun k => z2.j0 k s (pz lv at_) true) (hL lv at_ s, hA lv at_ s, hL lv at_ s, hB lv at_ s, hE lv at_ s) := fun h => by
   unfold hL hA hB hE
   simp only [if_neg h, if_pos hr]
   exact EvS.done fun k => by simp only [z2.j0]; rfl
  by_cases h0 : s < 0
  ·simp only [if_pos h0]; exact bad (fun h => by have := h.2.1; omega)
  ·by_cases h1 : s ≥ (lv.length : Int)
   ·simp only [if_neg h0, if_pos h1]; exact bad (fun h => by have := h.2.2.1; omega)
   ·obtain ⟨i, rfl⟩ : ∃ i : Nat, s = i := ⟨s.toNat, by omega⟩
    have hi : i < lv.length := by omega
    have hp := pz_rd lv at_ i hi (by have := hr.2.1; omega)
    have hl := za0 lv at_ hr.2.1
    simp only [if_neg h0, if_neg h1, if_pos (show (0 : Int) ≤ (i : Int) by omega), if_pos (show (i : Int) < ((pz lv at_).length : Int) by omega), hp]
    by_cases h8 : rd lv (i : Int) = 8
    ·rw [show (rd lv (i : Int) == 8) = true by rw [h8]; rfl]
     exact bad (fun h => h.2.2.2 h8)
    ·rw [show (rd lv (i : Int) == 8) = false from beq_eq_false_iff_ne.mpr h8]
     have hok : HOk lv at_ (i : Int) := ⟨hr, by omega, by omega, h8⟩
     have hf := hr.2.2 i hi
     have ha := fit_at hf
     have hl0 := hf.1
     have hl1 := hf.2.1
     have hia : i < at_.length := by have := hr.2.1; omega
     refine EvS.succ (fun k => by simp only [z2.j0]; rfl) ?_
     simp only [Bool.false_eq_true, if_false, if_pos (show (0 : Int) ≤ (i : Int) by omega), if_pos (show (i : Int) < ((pz lv at_).length : Int) by omega), hp, Option.bind_some, Int.toNat_natCast, w64 (rd lv (i : Int) + 1) (by omega) (by omega), w64 (2 * rd at_ (i : Int)) (by omega) (by omega), pz_set]
     refine EvS.bind (region_ev _ (by rw [za0 _ _ (by simp [hr.2.1])]; simp; exact hr.1)) ?_
     have hp2 := pz_rd (lv.set i (rd lv (i : Int) + 1)) (at_.set i (2 * rd at_ (i : Int))) i (by simp [hi]) (by simp [hia])
     rw [rd_set_same _ _ _ hi, rd_set_same _ _ _ hia] at hp2
     simp only [hp2, w64 (2 * rd at_ (i : Int) + 1) (by omega) (by omega), List.set_set, pz_f0 (lv.set i (rd lv (i : Int) + 1)) (at_.set i (2 * rd at_ (i : Int))) (by simp [hr.2.1]), pz_f1 (lv.set i (rd lv (i : Int) + 1)) (at_.set i (2 * rd at_ (i : Int))) (by simp [hr.2.1])]
     refine EvS.bind (region_ev _ (by rw [za0 _ _ (by simp [hr.2.1])]; simp; exact hr.1)) ?_
     have hp3 := pz_rd (lv.set i (rd lv (i : Int) + 1)) (at_.set i (2 * rd at_ (i : Int) + 1)) i (by simp [hi]) (by simp [hia])
     rw [rd_set_same _ _ _ hi, rd_set_same _ _ _ hia] at hp3
     have hne : (rd lv (i : Int) + 1 == rd lv (i : Int)) = false := beq_eq_false_iff_ne.mpr (by omega)
     simp only [hp3, hne, Bool.false_and, Bool.false_eq_true, if_false, pz_f0 (lv.set i (rd lv (i : Int) + 1)) (at_.set i (2 * rd at_ (i : Int) + 1)) (by simp [hr.2.1]), pz_f1 (lv.set i (rd lv (i : Int) + 1)) (at_.set i (2 * rd at_ (i : Int) + 1)) (by simp [hr.2.1])]
     unfold hL hA hB hE
     simp only [if_pos hok, Int.toNat_natCast]
     exact EvS.pure _
 ·have hn : ¬ HOk lv at_ s := fun h => hr h.1
  simp only [if_neg hr, if_neg (show ¬ ((180 : Int) = 0) by decide)]
  unfold hL hA hB hE
  simp only [if_neg hn, if_neg hr]
  exact EvS.pure _
def wayN (lv at_ : List Int) : Int := if Reg lv at_ then lv.sum else 0
def wayE (lv at_ : List Int) : Int := if Reg lv at_ then 0 else 180
theorem sum_take (lv : List Int) (i : Nat) (h : i < lv.length) : (lv.take (i + 1)).sum = (lv.take i).sum + rd lv (i : Int) := by
 rw [List.take_add_one, List.getElem?_eq_getElem h, List.sum_append, rd_nat lv i h]
 simp
theorem sum_bound (lv at_ : List Int) (hr : Reg lv at_) : ∀ i, i ≤ lv.length → 0 ≤ (lv.take i).sum ∧ (lv.take i).sum ≤ 8 * i
 | 0, _ => by simp
 | i + 1, h => by
  have ih := sum_bound lv at_ hr i (by omega)
  have hf := hr.2.2 i (by omega)
  have h0 := hf.1
  have h1 := hf.2.1
  rw [sum_take lv i (by omega)]
  omega
theorem Way_ev (lv at_ : List Int) : EvS (fun k => zaz.f k lv at_) (wayN lv at_, wayE lv at_) := by
 unfold zaz.f
 refine EvS.bind (Check_ev lv at_ _) ?_
 rw [chk_self]
 by_cases hr : Reg lv at_
 ·simp only [if_pos hr, if_true, wayN, wayE]
  have key : ∀ m i : Nat, m + i = lv.length → EvS (fun k => zaz.l0 k (lv.take i).sum lv (lv.length : Int) (i : Int)) (lv.sum, 0) := by
   intro m
   induction m with
   | zero =>
    intro i hi
    rw [List.take_of_length_le (by omega)]
    exact EvS.done fun k => by simp only [zaz.l0]; rw [if_neg (by omega)]
   | succ m ih =>
    intro i hi
    refine EvS.succ (fun k => ?_) (ih (i + 1) (by omega))
    have b := sum_bound lv at_ hr (i + 1) (by omega)
    have hl := hr.1
    rw [sum_take lv i (by omega)] at b ⊢
    simp only [zaz.l0]
    rw [if_pos (by omega), if_pos (by omega), if_pos (by omega), wnext i (by omega), w64 _ (by omega) (by omega)]
  simpa using key lv.length 0 (by omega)
 ·simp only [if_neg hr, if_neg (show ¬ ((180 : Int) = 0) by decide), wayN, wayE]
  exact EvS.pure _
end Go.Proofs.Ytlidbaejhmamjaa.LA

namespace Go.Proofs.Ytlidbaejhmamjaa.PB
open Go.RowKit Go.Proofs.YtlidbaejhmamjaaW.PrintWords Go.Proofs.YtlidbaejhmamjaaW.PrintLast Go.Proofs.YtlidbaejhmamjaaW.PrintMore
attribute [local go_sem] zao zar zaB zaC zaf zag zap zas   -- for this text's walks alone
set_option linter.unusedVariables false
set_option linter.unusedSimpArgs false
def zB.j0 : Nat → Int → Bool → List Int → List Int → Option (List Int × List Int × List Int × List Int × Int)
 | 0, _, _, _, _ => none
 | k + 1, x1, x33, x265000, x265001 => if x33 = true then (some (([] : List Int), ([] : List Int), ([] : List Int), ([] : List Int), 1)) else ((zan.f x265000 x265001).bind fun bt269 => ((zan.f x265000 x265001).bind fun bt276 => (if 0 ≤ x1 then (if x1 < (bt269.1.length : Int) then (if x1 < (bt276.1.length : Int) then (if x1 < (x265001.length : Int) then (if x1 < (bt269.2.length : Int) then (if x1 < (bt276.2.length : Int) then (some ((bt269.1.set (x1 : Int).toNat (wrap64 ((rd bt269.1 x1) + 1))), (bt269.2.set (x1 : Int).toNat (wrap64 (2 * (rd x265001 x1)))), (bt276.1.set (x1 : Int).toNat (wrap64 ((rd bt276.1 x1) + 1))), (bt276.2.set (x1 : Int).toNat (wrap64 ((wrap64 (2 * (rd x265001 x1))) + 1))), 0)) else (none)) else (none)) else (none)) else (none)) else (none)) else (none))))
def zB.f (k : Nat) (l0_0 : List Int) (l0_1 : List Int) (a1 : Int) : Option (List Int × List Int × List Int × List Int × Int) := (zy.f k l0_0 l0_1 (l0_0.length : Int)).bind fun t267 => (if t267 = 0 then (if a1 < 0 then (zB.j0 k a1 true l0_0 l0_1) else (if a1 ≥ (l0_0.length : Int) then (zB.j0 k a1 true l0_0 l0_1) else (if 0 ≤ a1 then (if a1 < (l0_0.length : Int) then (zB.j0 k a1 ((rd l0_0 a1) == 8) l0_0 l0_1) else (none)) else (none)))) else (some (([] : List Int), ([] : List Int), ([] : List Int), ([] : List Int), 180)))
def zB.T9 : Bool × List (List Nat × List Nat) := (true, [([], []), ([0], [0]), ([], []), ([], []), ([3], [3]), ([], []), ([4, 5], [4, 5]), ([6], [6]), ([7], [7]), ([1, 2, 0, 1, 2, 3, 4, 5, 6, 7, 8], [1, 2]), ([9, 8, 0, 1, 2, 3, 4, 5, 6, 7, 8], [8, 9])])
def zB.B9 : List Nat := [0, 1, 0, 0, 8, 0, 56, 120, 248, 511, 1023]
theorem zB.tab9 : rtab .any (opsOf Try.f16 9) = zB.T9 := by kernel_rfl
theorem zB.bits9 : zaG zB.T9.2 zB.B9 = true := by kernel_rfl
def zB.T10 : Bool × List (List Nat × List Nat) := (true, [([], []), ([0], [0]), ([], []), ([], []), ([3], [3]), ([], []), ([4, 5], [4, 5]), ([6], [6]), ([7], [7]), ([8], [8]), ([1, 2, 0, 1, 2, 3, 4, 5, 6, 7, 8, 9], [1, 2]), ([10, 9, 0, 1, 2, 3, 4, 5, 6, 7, 8, 9], [9, 10])])
def zB.B10 : List Nat := [0, 1, 0, 0, 8, 0, 56, 120, 248, 504, 1023, 2047]
theorem zB.tab10 : rtab .any (opsOf Try.f16 10) = zB.T10 := by kernel_rfl
theorem zB.bits10 : zaG zB.T10.2 zB.B10 = true := by kernel_rfl
set_option maxHeartbeats 8000000 in
set_option maxRecDepth 100000 in
theorem zB.calls (k : Nat) (A0_0 : Option Addr) (c0_0 : Nat) (l0_0 : List Int) (A0_1 : Option Addr) (c0_1 : Nat) (l0_1 : List Int) (a1 : Int) (r1 : List Int) (r2 : List Int) (r3 : List Int) (r4 : List Int) (r5 : Int) (w : World) (hr0_0 : Kd.C (Kd.int .i64) w A0_0 l0_0.length l0_0) (hc0_0 : l0_0.length ≤ c0_0) (hr0_1 : Kd.C (Kd.int .i64) w A0_1 l0_1.length l0_1) (hc0_1 : l0_1.length ≤ c0_1) (h : zB.f k l0_0 l0_1 a1 = some (r1, r2, r3, r4, r5)) :
  Calls Try.prog 16 #[.agg #[.slice A0_0 l0_0.length c0_0, .slice A0_1 l0_1.length c0_1], .int .i64 a1] w fun e w' => ∃ v0_ v1_ v2_ v3_ : Value, e = .returned (.tuple #[.agg #[v0_, v1_], .agg #[v2_, v3_], .int .i64 r5]) ∧ Kd.R (Kd.int .i64) 3 w' w.heap.size (fun k_ => some k_ ≠ (v1_ : Value).ownBlock ∧ some k_ ≠ (v2_ : Value).ownBlock ∧ some k_ ≠ (v3_ : Value).ownBlock) v0_ r1 ∧ Kd.R (Kd.int .i64) 3 w' w.heap.size (fun k_ => some k_ ≠ (v0_ : Value).ownBlock ∧ some k_ ≠ (v2_ : Value).ownBlock ∧ some k_ ≠ (v3_ : Value).ownBlock) v1_ r2 ∧ Kd.R (Kd.int .i64) 3 w' w.heap.size (fun k_ => some k_ ≠ (v0_ : Value).ownBlock ∧ some k_ ≠ (v1_ : Value).ownBlock ∧ some k_ ≠ (v3_ : Value).ownBlock) v2_ r3 ∧ Kd.R (Kd.int .i64) 3 w' w.heap.size (fun k_ => some k_ ≠ (v0_ : Value).ownBlock ∧ some k_ ≠ (v1_ : Value).ownBlock ∧ some k_ ≠ (v2_ : Value).ownBlock) v3_ r4 ∧ Below w.heap.size w w' := by
 have hu24 := Try.underlying24
 have HR0_0 := am_ hr0_0
 have HC0_0 := am_ hc0_0
 clear hr0_0 hc0_0
 have HR0_1 := am_ hr0_1
 have HC0_1 := am_ hc0_1
 clear hr0_1 hc0_1
 have HB := am_ (Below.refl w.heap.size w)
 have H : ((zy.f k l0_0 l0_1 (l0_0.length : Int)).bind fun t267 => (if t267 = 0 then (if a1 < 0 then (zB.j0 k a1 true l0_0 l0_1) else (if a1 ≥ (l0_0.length : Int) then (zB.j0 k a1 true l0_0 l0_1) else (if 0 ≤ a1 then (if a1 < (l0_0.length : Int) then (zB.j0 k a1 ((rd l0_0 a1) == 8) l0_0 l0_1) else (none)) else (none)))) else (some (([] : List Int), ([] : List Int), ([] : List Int), ([] : List Int), 180)))) = some (r1, r2, r3, r4, r5) := h
 clear h
 replace H := Option.bind_eq_some_iff.mp H
 obtain ⟨t267, A30, H⟩ := H
 replace H : (if t267 = 0 then (if a1 < 0 then (zB.j0 k a1 true l0_0 l0_1) else (if a1 ≥ (l0_0.length : Int) then (zB.j0 k a1 true l0_0 l0_1) else (if 0 ≤ a1 then (if a1 < (l0_0.length : Int) then (zB.j0 k a1 ((rd l0_0 a1) == 8) l0_0 l0_1) else (none)) else (none)))) else (some (([] : List Int), ([] : List Int), ([] : List Int), ([] : List Int), 180))) = some (r1, r2, r3, r4, r5) := H
 have A3 := am_ A30
 clear A30
 by_cases c4 : t267 = 0
 ·rw [if_pos c4] at H
  have c4b0 : (t267 == 0) = true := beq_iff_eq.mpr c4
  have c4b1 : (t267 != 0) = false := bne_eq_false_iff_eq.mpr c4
  clear c4
  have HC5 := am_ H
  clear H
  go_enter Try.func16, Try.ntmps16
  go_upto_region 3 with (first | ((with_reducible refine zr (N := 2) rfl ?_); (try (refine z6 (by rfl) ?_; dsimp only)); refine zt ?hg (N := 2) ?hd (cs := #[.slice A0_0 l0_0.length c0_0, .slice A0_1 l0_1.length c0_1]) (t := 24) ?hr ?_; (case hd => rfl); (case hg => rfl); (case hr => first | (go_simp; done) | (go_simp; rfl)); intro gb264 hg w6 hbox hb; have n0_ := am_ (zh (by repeat (first | (with_reducible first | exact HB.out | apply zc | apply za | apply zb) | exact HB.out)) hb); have n1_ := am_ (hbox); have n2_ := am_ ((by rw [hg]; exact (zk (by repeat (first | (with_reducible first | exact HB.out | apply zc | apply za | apply zb) | exact HB.out))) : w.heap.size ≤ gb264)); have n3_ := am_ ((by rw [hg]; exact (zk (by repeat (first | (with_reducible first | exact HB.out | apply zc | apply za | apply zb) | exact HB.out))) : w.heap.size ≤ gb264)); clear HB; have HB := n0_; have BK264 := n1_; have GW264 := n2_; have GE264 := n3_; clear n0_ n1_ n2_ n3_; clear hb hbox hg) | ((with_reducible refine zr (N := 4) rfl ?_); (try (refine z6 (by rfl) ?_; dsimp only)); refine zt ?hg (N := 4) ?hd (cs := #[.slice none 0 0, .slice none 0 0]) (t := 24) ?hr ?_; (case hd => rfl); (case hg => rfl); (case hr => first | (go_simp; done) | (go_simp; rfl)); intro gb265 hg w7 hbox hb; have n0_ := am_ (zo (g := gb264) (o := .cells #[.slice A0_0 l0_0.length c0_0, .slice A0_1 l0_1.length c0_1] 24 (0, 0)) (by (with_reducible repeat (first | refine ze ?_ _ | refine zg ?_ | refine zd ?_ _)); exact BK264.out) hb); have n1_ := am_ (zh (by repeat (first | (with_reducible first | exact HB.out | apply zc | apply za | apply zb | refine zf ?_ GE264.out) | exact HB.out)) hb); have n2_ := am_ (hbox); have n3_ := am_ ((by rw [hg]; exact (zk (by repeat (first | (with_reducible first | exact HB.out | apply zc | apply za | apply zb | refine zf ?_ GE264.out) | exact HB.out))) : w.heap.size ≤ gb265)); have n4_ := am_ ((by rw [hg]; exact (zk (by repeat (first | (with_reducible first | exact HB.out | apply zc | apply za | apply zb | refine zf ?_ GE264.out) | exact HB.out))) : w.heap.size ≤ gb265)); have n5_ := am_ ((by rw [hg]; exact Nat.ne_of_lt (zL (g := gb264) (o := .cells #[.slice A0_0 l0_0.length c0_0, .slice A0_1 l0_1.length c0_1] 24 (0, 0)) (by (with_reducible repeat (first | refine ze ?_ _ | refine zg ?_ | refine zd ?_ _)); exact BK264.out)) : gb264 ≠ gb265)); have n6_ := am_ ((by rw [hg]; exact Nat.ne_of_gt (zL (g := gb264) (o := .cells #[.slice A0_0 l0_0.length c0_0, .slice A0_1 l0_1.length c0_1] 24 (0, 0)) (by (with_reducible repeat (first | refine ze ?_ _ | refine zg ?_ | refine zd ?_ _)); exact BK264.out)) : gb265 ≠ gb264)); clear BK264; clear HB; have BK264 := n0_; have HB := n1_; have BK265 := n2_; have GW265 := n3_; have GE265 := n4_; have NB264_265 := n5_; have NB265_264 := n6_; clear n0_ n1_ n2_ n3_ n4_ n5_ n6_; clear hb hbox hg) | ((with_reducible refine zr (N := 5) rfl ?_); (try (refine z6 (by rfl) ?_; dsimp only)); refine zt ?hg (N := 5) ?hd (cs := #[.slice none 0 0, .slice none 0 0]) (t := 24) ?hr ?_; (case hd => rfl); (case hg => rfl); (case hr => first | (go_simp; done) | (go_simp; rfl)); intro gb266 hg w8 hbox hb; have n0_ := am_ (zo (g := gb264) (o := .cells #[.slice A0_0 l0_0.length c0_0, .slice A0_1 l0_1.length c0_1] 24 (0, 0)) (by (with_reducible repeat (first | refine ze ?_ _ | refine zg ?_ | refine zd ?_ _)); exact BK264.out) hb); have n1_ := am_ (zo (g := gb265) (o := .cells #[.slice none 0 0, .slice none 0 0] 24 (0, 0)) (by (with_reducible repeat (first | refine ze ?_ _ | refine zg ?_ | refine zd ?_ _)); exact BK265.out) hb); have n2_ := am_ (zh (by repeat (first | (with_reducible first | exact HB.out | apply zc | apply za | apply zb | refine zf ?_ GE264.out | refine zf ?_ GE265.out) | exact HB.out)) hb); have n3_ := am_ (hbox); have n4_ := am_ ((by rw [hg]; exact (zk (by repeat (first | (with_reducible first | exact HB.out | apply zc | apply za | apply zb | refine zf ?_ GE264.out | refine zf ?_ GE265.out) | exact HB.out))) : w.heap.size ≤ gb266)); have n5_ := am_ ((by rw [hg]; exact (zk (by repeat (first | (with_reducible first | exact HB.out | apply zc | apply za | apply zb | refine zf ?_ GE264.out | refine zf ?_ GE265.out) | exact HB.out))) : w.heap.size ≤ gb266)); have n6_ := am_ ((by rw [hg]; exact Nat.ne_of_lt (zL (g := gb264) (o := .cells #[.slice A0_0 l0_0.length c0_0, .slice A0_1 l0_1.length c0_1] 24 (0, 0)) (by (with_reducible repeat (first | refine ze ?_ _ | refine zg ?_ | refine zd ?_ _)); exact BK264.out)) : gb264 ≠ gb266)); have n7_ := am_ ((by rw [hg]; exact Nat.ne_of_gt (zL (g := gb264) (o := .cells #[.slice A0_0 l0_0.length c0_0, .slice A0_1 l0_1.length c0_1] 24 (0, 0)) (by (with_reducible repeat (first | refine ze ?_ _ | refine zg ?_ | refine zd ?_ _)); exact BK264.out)) : gb266 ≠ gb264)); have n8_ := am_ ((by rw [hg]; exact Nat.ne_of_lt (zL (g := gb265) (o := .cells #[.slice none 0 0, .slice none 0 0] 24 (0, 0)) (by (with_reducible repeat (first | refine ze ?_ _ | refine zg ?_ | refine zd ?_ _)); exact BK265.out)) : gb265 ≠ gb266)); have n9_ := am_ ((by rw [hg]; exact Nat.ne_of_gt (zL (g := gb265) (o := .cells #[.slice none 0 0, .slice none 0 0] 24 (0, 0)) (by (with_reducible repeat (first | refine ze ?_ _ | refine zg ?_ | refine zd ?_ _)); exact BK265.out)) : gb266 ≠ gb265)); clear BK264; clear BK265; clear HB; have BK264 := n0_; have BK265 := n1_; have HB := n2_; have BK266 := n3_; have GW266 := n4_; have GE266 := n5_; have NB264_266 := n6_; have NB266_264 := n7_; have NB265_266 := n8_; have NB266_265 := n9_; clear n0_ n1_ n2_ n3_ n4_ n5_ n6_ n7_ n8_ n9_; clear hb hbox hg; have hnb9 := NB264_265.out; have hnc9 := NB265_264.out; have hnb10 := NB264_266.out; have hnc10 := NB266_264.out; have hcz11_0 : w8.cell? ⟨gb264, 0, none⟩ = some (.slice A0_0 l0_0.length c0_0) := (zj BK264.out 0).trans rfl; have hcz11_1 : w8.cell? ⟨gb264, 1, none⟩ = some (.slice A0_1 l0_1.length c0_1) := (zj BK264.out 1).trans rfl; have hfz11_0 := zi BK264.out 0; have hfz11_1 := zi BK264.out 1) | ((with_reducible refine zV (f := 18) rfl ?_); refine zaF (some 13) rfl rfl Try.func18 (by kernel_rfl) rfl #[.agg #[.slice A0_0 l0_0.length c0_0, .slice A0_1 l0_1.length c0_1], .int .i64 (l0_0.length : Int)] rfl (by (try simp only [List.map_toArray, List.map_cons, List.map_nil]); first | done | rfl | (simp only [List.length_drop, List.length_take]; rfl)) ?_; (with_reducible refine (zy.calls k _ _ l0_0 _ _ l0_1 (l0_0.length : Int) t267 _ ?side1 ?side2 ?side3 ?side4 A3.out).mono ?_); (case side1 => repeat (first | exact (Kd.zU HR0_0.out HB.out) | (with_reducible refine Kd.zaa ?_ _) | (with_reducible refine Kd.zab ?_ _) | (with_reducible refine Kd.zam ?_))); (case side2 => exact HC0_0.out); (case side3 => repeat (first | exact (Kd.zU HR0_1.out HB.out) | (with_reducible refine Kd.zaa ?_ _) | (with_reducible refine Kd.zab ?_ _) | (with_reducible refine Kd.zam ?_))); (case side4 => exact HC0_1.out); rintro e w12 ⟨rfl, hb⟩; refine ⟨_, rfl, ?_⟩; have n0_ := am_ (zo (g := gb264) (o := .cells #[.slice A0_0 l0_0.length c0_0, .slice A0_1 l0_1.length c0_1] 24 (0, 0)) (by (with_reducible repeat (first | refine ze ?_ _ | refine zg ?_ | refine zd ?_ _)); exact BK264.out) hb); have n1_ := am_ (zo (g := gb265) (o := .cells #[.slice none 0 0, .slice none 0 0] 24 (0, 0)) (by (with_reducible repeat (first | refine ze ?_ _ | refine zg ?_ | refine zd ?_ _)); exact BK265.out) hb); have n2_ := am_ (zo (g := gb266) (o := .cells #[.slice none 0 0, .slice none 0 0] 24 (0, 0)) (by (with_reducible repeat (first | refine ze ?_ _ | refine zg ?_ | refine zd ?_ _)); exact BK266.out) hb); have n3_ := am_ (zh (by repeat (first | (with_reducible first | exact HB.out | apply zc | apply za | apply zb | refine zf ?_ GE264.out | refine zf ?_ GE265.out | refine zf ?_ GE266.out) | exact HB.out)) hb); clear BK264; clear BK265; clear BK266; clear HB; have BK264 := n0_; have BK265 := n1_; have BK266 := n2_; have HB := n3_; clear n0_ n1_ n2_ n3_; (try clear hb); (try clear hb2); (try clear hk); (try clear hi)))
  (try simp only [Act.put, sI_, s0_, s1_])
  go_cut [33] (fun v33 wc => ∃ (kq : Nat) (x33_4 : Bool), v33 = .bool x33_4 ∧ Aside0 (zB.j0 kq a1 x33_4 l0_0 l0_1 = some (r1, r2, r3, r4, r5)) ∧ Aside0 (kq ≤ k) ∧ Aside0 (wc.heap[gb264]? = some (.cells #[(.slice A0_0 l0_0.length c0_0), (.slice A0_1 l0_1.length c0_1)] 24 (0, 0))) ∧ Aside0 (wc.heap[gb265]? = some (.cells #[(.slice none 0 0), (.slice none 0 0)] 24 (0, 0))) ∧ Aside0 (wc.heap[gb266]? = some (.cells #[(.slice none 0 0), (.slice none 0 0)] 24 (0, 0))) ∧ Aside0 (Below w.heap.size w wc))
  case first =>
   have H := HC5.out
   clear HC5
   by_cases c13 : a1 < 0
   ·rw [if_pos c13] at H
    have c13b0 : decide (a1 < 0) = true := decide_eq_true c13
    clear c13
    (first | rw [c13b0] | (simp only [zl, zm]; rw [c13b0]) | skip)
    have H' := am_ H
    clear H
    go_wp2
    go_meet
    case rel => exact ⟨_, (true), (by first | rfl | (simp; done) | (simp [*]; done)), H', ⟨by first | omega | exact Nat.le_refl _⟩, ⟨by (with_reducible repeat (first | refine ze ?_ _ | refine zg ?_ | refine zd ?_ _)); exact BK264.out⟩, ⟨by (with_reducible repeat (first | refine ze ?_ _ | refine zg ?_ | refine zd ?_ _)); exact BK265.out⟩, ⟨by (with_reducible repeat (first | refine ze ?_ _ | refine zg ?_ | refine zd ?_ _)); exact BK266.out⟩, ⟨by repeat (first | (with_reducible first | exact HB.out | apply zc | apply za | apply zb | refine zf ?_ GE264.out | refine zf ?_ GE265.out | refine zf ?_ GE266.out) | exact HB.out)⟩⟩
   ·rw [if_neg c13] at H
    have c13b0 : decide (a1 < 0) = false := decide_eq_false c13
    clear c13
    (first | rw [c13b0] | (simp only [zl, zm]; rw [c13b0]) | skip)
    by_cases c14 : a1 ≥ (l0_0.length : Int)
    ·rw [if_pos c14] at H
     have c14b0 : decide ((l0_0.length : Int) ≤ a1) = true := decide_eq_true c14
     clear c14
     have H' := am_ H
     clear H
     have hnb15 := NB264_265.out
     have hnc15 := NB265_264.out
     have hnb16 := NB264_266.out
     have hnc16 := NB266_264.out
     have hcz17_0 : w12.cell? ⟨gb264, 0, none⟩ = some (.slice A0_0 l0_0.length c0_0) := (zj BK264.out 0).trans rfl
     have hcz17_1 : w12.cell? ⟨gb264, 1, none⟩ = some (.slice A0_1 l0_1.length c0_1) := (zj BK264.out 1).trans rfl
     have hfz17_0 := zi BK264.out 0
     have hfz17_1 := zi BK264.out 1
     go_wp2
     go_meet
     case rel => exact ⟨_, (true), (by first | rfl | (simp; done) | (simp [*]; done)), H', ⟨by first | omega | exact Nat.le_refl _⟩, ⟨by (with_reducible repeat (first | refine ze ?_ _ | refine zg ?_ | refine zd ?_ _)); exact BK264.out⟩, ⟨by (with_reducible repeat (first | refine ze ?_ _ | refine zg ?_ | refine zd ?_ _)); exact BK265.out⟩, ⟨by (with_reducible repeat (first | refine ze ?_ _ | refine zg ?_ | refine zd ?_ _)); exact BK266.out⟩, ⟨by repeat (first | (with_reducible first | exact HB.out | apply zc | apply za | apply zb | refine zf ?_ GE264.out | refine zf ?_ GE265.out | refine zf ?_ GE266.out) | exact HB.out)⟩⟩
    ·rw [if_neg c14] at H
     have c14b0 : decide ((l0_0.length : Int) ≤ a1) = false := decide_eq_false c14
     clear c14
     by_cases c18 : 0 ≤ a1
     ·rw [if_pos c18] at H
      have c18b0 : decide (0 ≤ a1) = true := decide_eq_true c18
      clear c18
      by_cases c19 : a1 < (l0_0.length : Int)
      ·rw [if_pos c19] at H
       have c19b0 : decide (a1 < (l0_0.length : Int)) = true := decide_eq_true c19
       clear c19
       have H' := am_ H
       clear H
       have hnb20 := NB264_265.out
       have hnc20 := NB265_264.out
       have hnb21 := NB264_266.out
       have hnc21 := NB266_264.out
       have hcz22_0 : w12.cell? ⟨gb264, 0, none⟩ = some (.slice A0_0 l0_0.length c0_0) := (zj BK264.out 0).trans rfl
       have hcz22_1 : w12.cell? ⟨gb264, 1, none⟩ = some (.slice A0_1 l0_1.length c0_1) := (zj BK264.out 1).trans rfl
       have hfz22_0 := zi BK264.out 0
       have hfz22_1 := zi BK264.out 1
       have p268 : 0 ≤ (a1 : Int) := of_decide_eq_true (by first | (with_reducible assumption) | assumption)
       have q268 : a1 < (l0_0.length : Int) := of_decide_eq_true (by first | (with_reducible assumption) | assumption)
       obtain ⟨ad268, e268, hx268_0⟩ := Kd.z3 HR0_0.out a1 p268 q268
       cases e268
       replace hx268_0 := (HB.out.cell (World.block_lt_of_cell? w _ hx268_0)).trans hx268_0
       replace p268 := eq_true p268
       replace q268 := eq_true q268
       go_wp2
       go_meet
       case rel => exact ⟨_, (((rd l0_0 a1) == 8)), (by first | rfl | (simp; done) | (simp [*]; done)), H', ⟨by first | omega | exact Nat.le_refl _⟩, ⟨by (with_reducible repeat (first | refine ze ?_ _ | refine zg ?_ | refine zd ?_ _)); exact BK264.out⟩, ⟨by (with_reducible repeat (first | refine ze ?_ _ | refine zg ?_ | refine zd ?_ _)); exact BK265.out⟩, ⟨by (with_reducible repeat (first | refine ze ?_ _ | refine zg ?_ | refine zd ?_ _)); exact BK266.out⟩, ⟨by repeat (first | (with_reducible first | exact HB.out | apply zc | apply za | apply zb | refine zf ?_ GE264.out | refine zf ?_ GE265.out | refine zf ?_ GE266.out) | exact HB.out)⟩⟩
      ·rw [if_neg c19] at H
       exact absurd H (by simp)
     ·rw [if_neg c18] at H
      exact absurd H (by simp)
  case rest =>
   clear HC5
   try clear c1
   try clear c2
   try clear p2
   try clear q2
   try clear hx2
   try clear c4
   try clear c4b0
   try clear c4b1
   try clear c9
   try clear c10
   try clear c13
   try clear c13b0
   try clear c14
   try clear c14b0
   try clear c15
   try clear c16
   try clear c18
   try clear c18b0
   try clear c19
   try clear c19b0
   try clear c20
   try clear c21
   try clear hcz11_0
   try clear hcz11_1
   try clear hcz17_0
   try clear hcz17_1
   try clear hcz22_0
   try clear hcz22_1
   try clear hfz11_0
   try clear hfz11_1
   try clear hfz17_0
   try clear hfz17_1
   try clear hfz22_0
   try clear hfz22_1
   try clear hx268_0
   try clear p268
   try clear q268
   obtain ⟨kq, x33_4, rfl, HA, HJ4, BK264, BK265, BK266, HB⟩ := hcut
   cases kq with
   | zero => exact absurd HA.out (by simp [zB.j0])
   | succ kj4 =>
    have H := HA.out
    clear HA
    simp only [zB.j0] at H
    by_cases c23 : x33_4 = true
    ·subst c23
     have H1 : (some (([] : List Int), ([] : List Int), ([] : List Int), ([] : List Int), 1)) = some (r1, r2, r3, r4, r5) := by rw [if_pos rfl] at H; exact H
     clear H
     have H := H1
     clear H1
     simp only [Option.some.injEq, Prod.mk.injEq] at H
     obtain ⟨rfl, rfl, rfl, rfl, rfl⟩ := H
     have hnb24 := NB265_264.out
     have hnc24 := NB264_265.out
     have hnb25 := NB265_266.out
     have hnc25 := NB266_265.out
     have hcz26_0 : wc.cell? ⟨gb265, 0, none⟩ = some (.slice none 0 0) := (zj BK265.out 0).trans rfl
     have hcz26_1 : wc.cell? ⟨gb265, 1, none⟩ = some (.slice none 0 0) := (zj BK265.out 1).trans rfl
     have hfz26_0 := zi BK265.out 0
     have hfz26_1 := zi BK265.out 1
     have hnb27 := NB266_264.out
     have hnc27 := NB264_266.out
     have hcz28_0 : wc.cell? ⟨gb266, 0, none⟩ = some (.slice none 0 0) := (zj BK266.out 0).trans rfl
     have hcz28_1 : wc.cell? ⟨gb266, 1, none⟩ = some (.slice none 0 0) := (zj BK266.out 1).trans rfl
     have hfz28_0 := zi BK266.out 0
     have hfz28_1 := zi BK266.out 1
     go_wp2
     refine bodyPost_ret (za2 (rs := [.cell 4 24, .cell 5 24, .tmp 6]) rfl (by simp) (.cell gb265 24 #[.slice none 0 0, .slice none 0 0] (0, 0) _ rfl (by (with_reducible repeat (first | refine ze ?_ _ | refine zg ?_ | refine zd ?_ _)); refine zK ?_ NB265_266.out _; (with_reducible repeat (first | refine ze ?_ _ | refine zg ?_ | refine zd ?_ _)); refine zK ?_ NB265_266.out _; (with_reducible repeat (first | refine ze ?_ _ | refine zg ?_ | refine zd ?_ _)); refine zQ (cs := #[.slice none 0 0, .slice none 0 0]) ?_ 1 _ rfl; (with_reducible repeat (first | refine ze ?_ _ | refine zg ?_ | refine zd ?_ _)); refine zQ (cs := #[.slice none 0 0, .slice none 0 0]) ?_ 0 _ rfl; (with_reducible repeat (first | refine ze ?_ _ | refine zg ?_ | refine zd ?_ _)); exact BK265.out) Try.underlying24 rfl (by kernel_rfl) (.cell gb266 24 #[.slice none 0 0, .slice none 0 0] (0, 0) _ rfl (by (with_reducible repeat (first | refine ze ?_ _ | refine zg ?_ | refine zd ?_ _)); refine zQ (cs := #[.slice none 0 0, .slice none 0 0]) ?_ 1 _ rfl; (with_reducible repeat (first | refine ze ?_ _ | refine zg ?_ | refine zd ?_ _)); refine zQ (cs := #[.slice none 0 0, .slice none 0 0]) ?_ 0 _ rfl; (with_reducible repeat (first | refine ze ?_ _ | refine zg ?_ | refine zd ?_ _)); refine zK ?_ NB266_265.out _; (with_reducible repeat (first | refine ze ?_ _ | refine zg ?_ | refine zd ?_ _)); refine zK ?_ NB266_265.out _; (with_reducible repeat (first | refine ze ?_ _ | refine zg ?_ | refine zd ?_ _)); exact BK266.out) Try.underlying24 rfl (by kernel_rfl) (.tmp .nil)))) rfl ?_
     exact ⟨_, _, _, _, by first | rfl | (simp [zq, zp] <;> rfl) | (simp [*, zq, zp] <;> rfl), by first | exact Kd.zaK _ _ _ _ _ | exact Kd.zaP _ _ _ _ _ | exact Kd.zaT _ _ _ _ _ | exact Kd.zaO _ _ _ _ _ | exact Kd.zaS _ _ _ _ _, by first | exact Kd.zaK _ _ _ _ _ | exact Kd.zaP _ _ _ _ _ | exact Kd.zaT _ _ _ _ _ | exact Kd.zaO _ _ _ _ _ | exact Kd.zaS _ _ _ _ _, by first | exact Kd.zaK _ _ _ _ _ | exact Kd.zaP _ _ _ _ _ | exact Kd.zaT _ _ _ _ _ | exact Kd.zaO _ _ _ _ _ | exact Kd.zaS _ _ _ _ _, by first | exact Kd.zaK _ _ _ _ _ | exact Kd.zaP _ _ _ _ _ | exact Kd.zaT _ _ _ _ _ | exact Kd.zaO _ _ _ _ _ | exact Kd.zaS _ _ _ _ _, by repeat (first | (with_reducible first | exact HB.out | apply zc | apply za | apply zb | refine zf ?_ GE264.out | refine zf ?_ GE265.out | refine zf ?_ GE266.out) | exact HB.out)⟩
    ·replace c23 := Bool.eq_false_iff.mpr c23
     subst c23
     have H1 : ((zan.f l0_0 l0_1).bind fun bt269 => ((zan.f l0_0 l0_1).bind fun bt276 => (if 0 ≤ a1 then (if a1 < (bt269.1.length : Int) then (if a1 < (bt276.1.length : Int) then (if a1 < (l0_1.length : Int) then (if a1 < (bt269.2.length : Int) then (if a1 < (bt276.2.length : Int) then (some ((bt269.1.set (a1 : Int).toNat (wrap64 ((rd bt269.1 a1) + 1))), (bt269.2.set (a1 : Int).toNat (wrap64 (2 * (rd l0_1 a1)))), (bt276.1.set (a1 : Int).toNat (wrap64 ((rd bt276.1 a1) + 1))), (bt276.2.set (a1 : Int).toNat (wrap64 ((wrap64 (2 * (rd l0_1 a1))) + 1))), 0)) else (none)) else (none)) else (none)) else (none)) else (none)) else (none)))) = some (r1, r2, r3, r4, r5) := by rw [if_neg (show ¬ (false = true) by decide)] at H; exact H
     clear H
     have H := H1
     clear H1
     replace H := Option.bind_eq_some_iff.mp H
     obtain ⟨⟨t269, t272⟩, A290, H⟩ := H
     replace H : ((zan.f l0_0 l0_1).bind fun bt276 => (if 0 ≤ a1 then (if a1 < (t269.length : Int) then (if a1 < (bt276.1.length : Int) then (if a1 < (l0_1.length : Int) then (if a1 < (t272.length : Int) then (if a1 < (bt276.2.length : Int) then (some ((t269.set (a1 : Int).toNat (wrap64 ((rd t269 a1) + 1))), (t272.set (a1 : Int).toNat (wrap64 (2 * (rd l0_1 a1)))), (bt276.1.set (a1 : Int).toNat (wrap64 ((rd bt276.1 a1) + 1))), (bt276.2.set (a1 : Int).toNat (wrap64 ((wrap64 (2 * (rd l0_1 a1))) + 1))), 0)) else (none)) else (none)) else (none)) else (none)) else (none)) else (none))) = some (r1, r2, r3, r4, r5) := H
     have A29 := am_ A290
     clear A290
     replace H := Option.bind_eq_some_iff.mp H
     obtain ⟨⟨t276, t279⟩, A300, H⟩ := H
     replace H : (if 0 ≤ a1 then (if a1 < (t269.length : Int) then (if a1 < (t276.length : Int) then (if a1 < (l0_1.length : Int) then (if a1 < (t272.length : Int) then (if a1 < (t279.length : Int) then (some ((t269.set (a1 : Int).toNat (wrap64 ((rd t269 a1) + 1))), (t272.set (a1 : Int).toNat (wrap64 (2 * (rd l0_1 a1)))), (t276.set (a1 : Int).toNat (wrap64 ((rd t276 a1) + 1))), (t279.set (a1 : Int).toNat (wrap64 ((wrap64 (2 * (rd l0_1 a1))) + 1))), 0)) else (none)) else (none)) else (none)) else (none)) else (none)) else (none)) = some (r1, r2, r3, r4, r5) := H
     have A30 := am_ A300
     clear A300
     by_cases c31 : 0 ≤ a1
     ·rw [if_pos c31] at H
      have c31b0 : decide (0 ≤ a1) = true := decide_eq_true c31
      clear c31
      by_cases c32 : a1 < (t269.length : Int)
      ·rw [if_pos c32] at H
       have c32b0 : decide (a1 < (t269.length : Int)) = true := decide_eq_true c32
       clear c32
       obtain ⟨y284, hy284⟩ : ∃ y_ : List Int, y_ = (t269.set (a1 : Int).toNat (wrap64 ((rd t269 a1) + 1))) := ⟨_, rfl⟩
       replace H : (if a1 < (t276.length : Int) then (if a1 < (l0_1.length : Int) then (if a1 < (t272.length : Int) then (if a1 < (t279.length : Int) then (some (y284, (t272.set (a1 : Int).toNat (wrap64 (2 * (rd l0_1 a1)))), (t276.set (a1 : Int).toNat (wrap64 ((rd t276 a1) + 1))), (t279.set (a1 : Int).toNat (wrap64 ((wrap64 (2 * (rd l0_1 a1))) + 1))), 0)) else (none)) else (none)) else (none)) else (none)) = some (r1, r2, r3, r4, r5) := by first | (rw [hy284]; with_reducible exact H) | (have H2_ := (Option.bind_some _ _).symm.trans H; rw [hy284]; with_reducible exact H2_) | (have H2_ := (Option.bind_some _ _).symm.trans H; with_reducible exact H2_) | with_reducible exact H | (rw [hy284]; exact H) | exact H
       have Ny284 := am_ hy284
       clear hy284
       by_cases c34 : a1 < (t276.length : Int)
       ·rw [if_pos c34] at H
        have c34b0 : decide (a1 < (t276.length : Int)) = true := decide_eq_true c34
        clear c34
        obtain ⟨y286, hy286⟩ : ∃ y_ : List Int, y_ = (t276.set (a1 : Int).toNat (wrap64 ((rd t276 a1) + 1))) := ⟨_, rfl⟩
        replace H : (if a1 < (l0_1.length : Int) then (if a1 < (t272.length : Int) then (if a1 < (t279.length : Int) then (some (y284, (t272.set (a1 : Int).toNat (wrap64 (2 * (rd l0_1 a1)))), y286, (t279.set (a1 : Int).toNat (wrap64 ((wrap64 (2 * (rd l0_1 a1))) + 1))), 0)) else (none)) else (none)) else (none)) = some (r1, r2, r3, r4, r5) := by first | (rw [hy286]; with_reducible exact H) | (have H2_ := (Option.bind_some _ _).symm.trans H; rw [hy286]; with_reducible exact H2_) | (have H2_ := (Option.bind_some _ _).symm.trans H; with_reducible exact H2_) | with_reducible exact H | (rw [hy286]; exact H) | exact H
        have Ny286 := am_ hy286
        clear hy286
        by_cases c36 : a1 < (l0_1.length : Int)
        ·rw [if_pos c36] at H
         have c36b0 : decide (a1 < (l0_1.length : Int)) = true := decide_eq_true c36
         clear c36
         by_cases c37 : a1 < (t272.length : Int)
         ·rw [if_pos c37] at H
          have c37b0 : decide (a1 < (t272.length : Int)) = true := decide_eq_true c37
          clear c37
          obtain ⟨y288, hy288⟩ : ∃ y_ : List Int, y_ = (t272.set (a1 : Int).toNat (wrap64 (2 * (rd l0_1 a1)))) := ⟨_, rfl⟩
          replace H : (if a1 < (t279.length : Int) then (some (y284, y288, y286, (t279.set (a1 : Int).toNat (wrap64 ((wrap64 (2 * (rd l0_1 a1))) + 1))), 0)) else (none)) = some (r1, r2, r3, r4, r5) := by first | (rw [hy288]; with_reducible exact H) | (have H2_ := (Option.bind_some _ _).symm.trans H; rw [hy288]; with_reducible exact H2_) | (have H2_ := (Option.bind_some _ _).symm.trans H; with_reducible exact H2_) | with_reducible exact H | (rw [hy288]; exact H) | exact H
          have Ny288 := am_ hy288
          clear hy288
          by_cases c39 : a1 < (t279.length : Int)
          ·rw [if_pos c39] at H
           have c39b0 : decide (a1 < (t279.length : Int)) = true := decide_eq_true c39
           clear c39
           obtain ⟨y290, hy290⟩ : ∃ y_ : List Int, y_ = (t279.set (a1 : Int).toNat (wrap64 ((wrap64 (2 * (rd l0_1 a1))) + 1))) := ⟨_, rfl⟩
           replace H : (some (y284, y288, y286, y290, 0)) = some (r1, r2, r3, r4, r5) := by first | (rw [hy290]; with_reducible exact H) | (have H2_ := (Option.bind_some _ _).symm.trans H; rw [hy290]; with_reducible exact H2_) | (have H2_ := (Option.bind_some _ _).symm.trans H; with_reducible exact H2_) | with_reducible exact H | (rw [hy290]; exact H) | exact H
           have Ny290 := am_ hy290
           clear hy290
           simp only [Option.some.injEq, Prod.mk.injEq] at H
           obtain ⟨rfl, rfl, rfl, rfl, rfl⟩ := H
           have hnb41 := NB264_265.out
           have hnc41 := NB265_264.out
           have hnb42 := NB264_266.out
           have hnc42 := NB266_264.out
           have hcz43_0 : wc.cell? ⟨gb264, 0, none⟩ = some (.slice A0_0 l0_0.length c0_0) := (zj BK264.out 0).trans rfl
           have hcz43_1 : wc.cell? ⟨gb264, 1, none⟩ = some (.slice A0_1 l0_1.length c0_1) := (zj BK264.out 1).trans rfl
           have hfz43_0 := zi BK264.out 0
           have hfz43_1 := zi BK264.out 1
           try go_wp2_with (first | ((with_reducible refine zV (f := 26) rfl ?_); refine zaF (some 37) rfl rfl Try.func26 (by kernel_rfl) rfl #[.agg #[.slice A0_0 l0_0.length c0_0, .slice A0_1 l0_1.length c0_1]] rfl (by (try simp only [List.map_toArray, List.map_cons, List.map_nil]); first | done | rfl | (simp only [List.length_drop, List.length_take]; rfl)) ?_; (with_reducible refine (zan.calls _ _ l0_0 _ _ l0_1 t269 t272 _ ?side1 ?side2 ?side3 ?side4 A29.out).mono ?_); (case side1 => repeat (first | exact (Kd.zU HR0_0.out HB.out) | (with_reducible refine Kd.zaa ?_ _) | (with_reducible refine Kd.zab ?_ _) | (with_reducible refine Kd.zam ?_))); (case side2 => exact HC0_0.out); (case side3 => repeat (first | exact (Kd.zU HR0_1.out HB.out) | (with_reducible refine Kd.zaa ?_ _) | (with_reducible refine Kd.zab ?_ _) | (with_reducible refine Kd.zam ?_))); (case side4 => exact HC0_1.out); rintro e w44 ⟨v270, v273, rfl, ho0, ho1, hb⟩; refine ⟨_, rfl, ?_⟩; have n0_ := am_ (Kd.zaw ho0 (zk (by repeat (first | (with_reducible first | exact HB.out | apply zc | apply za | apply zb | refine zf ?_ GE264.out | refine zf ?_ GE265.out | refine zf ?_ GE266.out) | exact HB.out)))); have n1_ := am_ (Kd.zaw ho1 (zk (by repeat (first | (with_reducible first | exact HB.out | apply zc | apply za | apply zb | refine zf ?_ GE264.out | refine zf ?_ GE265.out | refine zf ?_ GE266.out) | exact HB.out)))); have n2_ := am_ (zo (g := gb264) (o := .cells #[.slice A0_0 l0_0.length c0_0, .slice A0_1 l0_1.length c0_1] 24 (0, 0)) (by (with_reducible repeat (first | refine ze ?_ _ | refine zg ?_ | refine zd ?_ _)); exact BK264.out) hb); have n3_ := am_ (zo (g := gb265) (o := .cells #[.slice none 0 0, .slice none 0 0] 24 (0, 0)) (by (with_reducible repeat (first | refine ze ?_ _ | refine zg ?_ | refine zd ?_ _)); exact BK265.out) hb); have n4_ := am_ (zo (g := gb266) (o := .cells #[.slice none 0 0, .slice none 0 0] 24 (0, 0)) (by (with_reducible repeat (first | refine ze ?_ _ | refine zg ?_ | refine zd ?_ _)); exact BK266.out) hb); have n5_ := am_ (zh (by repeat (first | (with_reducible first | exact HB.out | apply zc | apply za | apply zb | refine zf ?_ GE264.out | refine zf ?_ GE265.out | refine zf ?_ GE266.out) | exact HB.out)) hb); clear BK264; clear BK265; clear BK266; clear HB; have HO271 := n0_; have HO274 := n1_; have BK264 := n2_; have BK265 := n3_; have BK266 := n4_; have HB := n5_; clear n0_ n1_ n2_ n3_ n4_ n5_; (try clear hb); (try clear hb2); (try clear hk); (try clear hi); (try clear ho0); (try clear ho1)) | ((with_reducible refine zr (N := 7) rfl ?_); (try (refine z6 (by rfl) ?_; dsimp only)); refine zt ?hg (N := 7) ?hd (cs := #[.slice none 0 0, .slice none 0 0]) (t := 24) ?hr ?_; (case hd => rfl); (case hg => rfl); (case hr => first | (go_simp; done) | (go_simp; rfl)); intro gb275 hg w45 hbox hb; have n0_ := am_ (Kd.zal (by (with_reducible repeat (first | apply Kd.zw | apply Kd.zu | apply Kd.zA)); exact HO271.out) hb); have n1_ := am_ (Kd.zal (by (with_reducible repeat (first | apply Kd.zw | apply Kd.zu | apply Kd.zA)); exact HO274.out) hb); have n2_ := am_ (zo (g := gb264) (o := .cells #[.slice A0_0 l0_0.length c0_0, .slice A0_1 l0_1.length c0_1] 24 (0, 0)) (by (with_reducible repeat (first | refine ze ?_ _ | refine zg ?_ | refine zd ?_ _)); exact BK264.out) hb); have n3_ := am_ (zo (g := gb265) (o := .cells #[.slice none 0 0, .slice none 0 0] 24 (0, 0)) (by (with_reducible repeat (first | refine ze ?_ _ | refine zg ?_ | refine zd ?_ _)); exact BK265.out) hb); have n4_ := am_ (zo (g := gb266) (o := .cells #[.slice none 0 0, .slice none 0 0] 24 (0, 0)) (by (with_reducible repeat (first | refine ze ?_ _ | refine zg ?_ | refine zd ?_ _)); exact BK266.out) hb); have n5_ := am_ (zh (by repeat (first | (with_reducible first | exact HB.out | apply zc | apply za | apply zb | refine zf ?_ GE264.out | refine zf ?_ GE265.out | refine zf ?_ GE266.out) | exact HB.out)) hb); have n6_ := am_ (hbox); have n7_ := am_ ((by rw [hg]; exact (zk (by repeat (first | (with_reducible first | exact HB.out | apply zc | apply za | apply zb | refine zf ?_ GE264.out | refine zf ?_ GE265.out | refine zf ?_ GE266.out) | exact HB.out))) : w.heap.size ≤ gb275)); have n8_ := am_ ((by rw [hg]; exact (zk (by repeat (first | (with_reducible first | exact HB.out | apply zc | apply za | apply zb | refine zf ?_ GE264.out | refine zf ?_ GE265.out | refine zf ?_ GE266.out) | exact HB.out))) : w.heap.size ≤ gb275)); have n9_ := am_ ((by rw [hg]; exact Nat.ne_of_lt (zL (g := gb264) (o := .cells #[.slice A0_0 l0_0.length c0_0, .slice A0_1 l0_1.length c0_1] 24 (0, 0)) (by (with_reducible repeat (first | refine ze ?_ _ | refine zg ?_ | refine zd ?_ _)); exact BK264.out)) : gb264 ≠ gb275)); have n10_ := am_ ((by rw [hg]; exact Nat.ne_of_gt (zL (g := gb264) (o := .cells #[.slice A0_0 l0_0.length c0_0, .slice A0_1 l0_1.length c0_1] 24 (0, 0)) (by (with_reducible repeat (first | refine ze ?_ _ | refine zg ?_ | refine zd ?_ _)); exact BK264.out)) : gb275 ≠ gb264)); have n11_ := am_ ((by rw [hg]; exact Nat.ne_of_lt (zL (g := gb265) (o := .cells #[.slice none 0 0, .slice none 0 0] 24 (0, 0)) (by (with_reducible repeat (first | refine ze ?_ _ | refine zg ?_ | refine zd ?_ _)); exact BK265.out)) : gb265 ≠ gb275)); have n12_ := am_ ((by rw [hg]; exact Nat.ne_of_gt (zL (g := gb265) (o := .cells #[.slice none 0 0, .slice none 0 0] 24 (0, 0)) (by (with_reducible repeat (first | refine ze ?_ _ | refine zg ?_ | refine zd ?_ _)); exact BK265.out)) : gb275 ≠ gb265)); have n13_ := am_ ((by rw [hg]; exact Nat.ne_of_lt (zL (g := gb266) (o := .cells #[.slice none 0 0, .slice none 0 0] 24 (0, 0)) (by (with_reducible repeat (first | refine ze ?_ _ | refine zg ?_ | refine zd ?_ _)); exact BK266.out)) : gb266 ≠ gb275)); have n14_ := am_ ((by rw [hg]; exact Nat.ne_of_gt (zL (g := gb266) (o := .cells #[.slice none 0 0, .slice none 0 0] 24 (0, 0)) (by (with_reducible repeat (first | refine ze ?_ _ | refine zg ?_ | refine zd ?_ _)); exact BK266.out)) : gb275 ≠ gb266)); clear HO271; clear HO274; clear BK264; clear BK265; clear BK266; clear HB; have HO271 := n0_; have HO274 := n1_; have BK264 := n2_; have BK265 := n3_; have BK266 := n4_; have HB := n5_; have BK275 := n6_; have GW275 := n7_; have GE275 := n8_; have NB264_275 := n9_; have NB275_264 := n10_; have NB265_275 := n11_; have NB275_265 := n12_; have NB266_275 := n13_; have NB275_266 := n14_; clear n0_ n1_ n2_ n3_ n4_ n5_ n6_ n7_ n8_ n9_ n10_ n11_ n12_ n13_ n14_; clear hb hbox hg; obtain ⟨Ao46, co46, eo46⟩ := Kd.zad HO271.out; subst eo46; have hnb47 := NB275_264.out; have hnc47 := NB264_275.out; have hnb48 := NB275_265.out; have hnc48 := NB265_275.out; have hnb49 := NB275_266.out; have hnc49 := NB266_275.out; have hcz50_0 : w45.cell? ⟨gb275, 0, none⟩ = some (.slice none 0 0) := (zj BK275.out 0).trans rfl; have hcz50_1 : w45.cell? ⟨gb275, 1, none⟩ = some (.slice none 0 0) := (zj BK275.out 1).trans rfl; have hfz50_0 := zi BK275.out 0; have hfz50_1 := zi BK275.out 1; obtain ⟨Ao51, co51, eo51⟩ := Kd.zad HO274.out; subst eo51; have hcz52_0 : w45.cell? ⟨gb264, 0, none⟩ = some (.slice A0_0 l0_0.length c0_0) := (zj BK264.out 0).trans rfl; have hcz52_1 : w45.cell? ⟨gb264, 1, none⟩ = some (.slice A0_1 l0_1.length c0_1) := (zj BK264.out 1).trans rfl; have hfz52_0 := zi BK264.out 0; have hfz52_1 := zi BK264.out 1) | ((with_reducible refine zV (f := 26) rfl ?_); refine zaF (some 39) rfl rfl Try.func26 (by kernel_rfl) rfl #[.agg #[.slice A0_0 l0_0.length c0_0, .slice A0_1 l0_1.length c0_1]] rfl (by (try simp only [List.map_toArray, List.map_cons, List.map_nil]); first | done | rfl | (simp only [List.length_drop, List.length_take]; rfl)) ?_; (with_reducible refine (zan.calls _ _ l0_0 _ _ l0_1 t276 t279 _ ?side1 ?side2 ?side3 ?side4 A30.out).mono ?_); (case side1 => exact Kd.zU HR0_0.out (by repeat (first | (with_reducible first | exact HB.out | apply zc | apply za | apply zb | refine zf ?_ GE264.out | refine zf ?_ GE265.out | refine zf ?_ GE266.out | refine zf ?_ GE275.out) | exact HB.out))); (case side2 => exact HC0_0.out); (case side3 => exact Kd.zU HR0_1.out (by repeat (first | (with_reducible first | exact HB.out | apply zc | apply za | apply zb | refine zf ?_ GE264.out | refine zf ?_ GE265.out | refine zf ?_ GE266.out | refine zf ?_ GE275.out) | exact HB.out))); (case side4 => exact HC0_1.out); rintro e w53 ⟨v277, v280, rfl, ho0, ho1, hb⟩; refine ⟨_, rfl, ?_⟩; have n0_ := am_ (Kd.zN (Kd.R_told (Kd.R_told (Kd.R_old (by (with_reducible repeat (first | apply Kd.zw | apply Kd.zu | apply Kd.zA)); exact (Kd.zN (Kd.zX (p := ⟨gb275, 1, none⟩) (Kd.zX (p := ⟨gb275, 0, none⟩) (Kd.z5 HO271.out BK275.out (by decide)) (fun _ hk => hk.2) (.slice Ao46 t269.length co46)) (fun _ hk => hk.2) (.slice Ao51 t272.length co51)) (fun _ h_ => h_.1))) hb) (Kd.R_base ho0)) (Kd.R_base ho1)) (fun _ h_ => h_.1)); have n1_ := am_ (Kd.zN (Kd.R_told (Kd.R_told (Kd.R_old (by (with_reducible repeat (first | apply Kd.zw | apply Kd.zu | apply Kd.zA)); exact (Kd.zN (Kd.zX (p := ⟨gb275, 1, none⟩) (Kd.zX (p := ⟨gb275, 0, none⟩) (Kd.z5 HO274.out BK275.out (by decide)) (fun _ hk => hk.2) (.slice Ao46 t269.length co46)) (fun _ hk => hk.2) (.slice Ao51 t272.length co51)) (fun _ h_ => h_.1))) hb) (Kd.R_base ho0)) (Kd.R_base ho1)) (fun _ h_ => h_.1)); have n2_ := am_ (Kd.zaw (Kd.R_new' (Kd.R_new' ho0 (Kd.R_lt (by (with_reducible repeat (first | apply Kd.zw | apply Kd.zu | apply Kd.zA)); exact (Kd.zN (Kd.zX (p := ⟨gb275, 1, none⟩) (Kd.zX (p := ⟨gb275, 0, none⟩) (Kd.z5 HO271.out BK275.out (by decide)) (fun _ hk => hk.2) (.slice Ao46 t269.length co46)) (fun _ hk => hk.2) (.slice Ao51 t272.length co51)) (fun _ h_ => h_.1))))) (Kd.R_lt (by (with_reducible repeat (first | apply Kd.zw | apply Kd.zu | apply Kd.zA)); exact (Kd.zN (Kd.zX (p := ⟨gb275, 1, none⟩) (Kd.zX (p := ⟨gb275, 0, none⟩) (Kd.z5 HO274.out BK275.out (by decide)) (fun _ hk => hk.2) (.slice Ao46 t269.length co46)) (fun _ hk => hk.2) (.slice Ao51 t272.length co51)) (fun _ h_ => h_.1))))) (zk (by repeat (first | (with_reducible first | exact HB.out | apply zc | apply za | apply zb | refine zf ?_ GE264.out | refine zf ?_ GE265.out | refine zf ?_ GE266.out | refine zf ?_ GE275.out) | exact HB.out)))); have n3_ := am_ (Kd.zaw (Kd.R_new' (Kd.R_new' ho1 (Kd.R_lt (by (with_reducible repeat (first | apply Kd.zw | apply Kd.zu | apply Kd.zA)); exact (Kd.zN (Kd.zX (p := ⟨gb275, 1, none⟩) (Kd.zX (p := ⟨gb275, 0, none⟩) (Kd.z5 HO271.out BK275.out (by decide)) (fun _ hk => hk.2) (.slice Ao46 t269.length co46)) (fun _ hk => hk.2) (.slice Ao51 t272.length co51)) (fun _ h_ => h_.1))))) (Kd.R_lt (by (with_reducible repeat (first | apply Kd.zw | apply Kd.zu | apply Kd.zA)); exact (Kd.zN (Kd.zX (p := ⟨gb275, 1, none⟩) (Kd.zX (p := ⟨gb275, 0, none⟩) (Kd.z5 HO274.out BK275.out (by decide)) (fun _ hk => hk.2) (.slice Ao46 t269.length co46)) (fun _ hk => hk.2) (.slice Ao51 t272.length co51)) (fun _ h_ => h_.1))))) (zk (by repeat (first | (with_reducible first | exact HB.out | apply zc | apply za | apply zb | refine zf ?_ GE264.out | refine zf ?_ GE265.out | refine zf ?_ GE266.out | refine zf ?_ GE275.out) | exact HB.out)))); have n4_ := am_ (zo (g := gb264) (o := .cells #[.slice A0_0 l0_0.length c0_0, .slice A0_1 l0_1.length c0_1] 24 (0, 0)) (by (with_reducible repeat (first | refine ze ?_ _ | refine zg ?_ | refine zd ?_ _)); refine zK ?_ NB264_275.out _; (with_reducible repeat (first | refine ze ?_ _ | refine zg ?_ | refine zd ?_ _)); refine zK ?_ NB264_275.out _; (with_reducible repeat (first | refine ze ?_ _ | refine zg ?_ | refine zd ?_ _)); exact BK264.out) hb); have n5_ := am_ (zo (g := gb265) (o := .cells #[.slice none 0 0, .slice none 0 0] 24 (0, 0)) (by (with_reducible repeat (first | refine ze ?_ _ | refine zg ?_ | refine zd ?_ _)); refine zK ?_ NB265_275.out _; (with_reducible repeat (first | refine ze ?_ _ | refine zg ?_ | refine zd ?_ _)); refine zK ?_ NB265_275.out _; (with_reducible repeat (first | refine ze ?_ _ | refine zg ?_ | refine zd ?_ _)); exact BK265.out) hb); have n6_ := am_ (zo (g := gb266) (o := .cells #[.slice none 0 0, .slice none 0 0] 24 (0, 0)) (by (with_reducible repeat (first | refine ze ?_ _ | refine zg ?_ | refine zd ?_ _)); refine zK ?_ NB266_275.out _; (with_reducible repeat (first | refine ze ?_ _ | refine zg ?_ | refine zd ?_ _)); refine zK ?_ NB266_275.out _; (with_reducible repeat (first | refine ze ?_ _ | refine zg ?_ | refine zd ?_ _)); exact BK266.out) hb); have n7_ := am_ (zo (g := gb275) (o := .cells #[.slice Ao46 t269.length co46, .slice Ao51 t272.length co51] 24 (0, 0)) (by (with_reducible repeat (first | refine ze ?_ _ | refine zg ?_ | refine zd ?_ _)); refine zQ (cs := #[.slice Ao46 t269.length co46, .slice none 0 0]) ?_ 1 _ rfl; (with_reducible repeat (first | refine ze ?_ _ | refine zg ?_ | refine zd ?_ _)); refine zQ (cs := #[.slice none 0 0, .slice none 0 0]) ?_ 0 _ rfl; (with_reducible repeat (first | refine ze ?_ _ | refine zg ?_ | refine zd ?_ _)); exact BK275.out) hb); have n8_ := am_ (zh (by repeat (first | (with_reducible first | exact HB.out | apply zc | apply za | apply zb | refine zf ?_ GE264.out | refine zf ?_ GE265.out | refine zf ?_ GE266.out | refine zf ?_ GE275.out) | exact HB.out)) hb); clear HO271; clear HO274; clear BK264; clear BK265; clear BK266; clear BK275; clear HB; have HO271 := n0_; have HO274 := n1_; have HO278 := n2_; have HO281 := n3_; have BK264 := n4_; have BK265 := n5_; have BK266 := n6_; have BK275 := n7_; have HB := n8_; clear n0_ n1_ n2_ n3_ n4_ n5_ n6_ n7_ n8_; (try clear hb); (try clear hb2); (try clear hk); (try clear hi); (try clear ho0); (try clear ho1)) | ((with_reducible refine zr (N := 8) rfl ?_); (try (refine z6 (by rfl) ?_; dsimp only)); refine zt ?hg (N := 8) ?hd (cs := #[.slice none 0 0, .slice none 0 0]) (t := 24) ?hr ?_; (case hd => rfl); (case hg => rfl); (case hr => first | (go_simp; done) | (go_simp; rfl)); intro gb282 hg w54 hbox hb; have n0_ := am_ (Kd.zal (by (with_reducible repeat (first | apply Kd.zw | apply Kd.zu | apply Kd.zA)); exact HO271.out) hb); have n1_ := am_ (Kd.zal (by (with_reducible repeat (first | apply Kd.zw | apply Kd.zu | apply Kd.zA)); exact HO274.out) hb); have n2_ := am_ (Kd.zal (by (with_reducible repeat (first | apply Kd.zw | apply Kd.zu | apply Kd.zA)); exact HO278.out) hb); have n3_ := am_ (Kd.zal (by (with_reducible repeat (first | apply Kd.zw | apply Kd.zu | apply Kd.zA)); exact HO281.out) hb); have n4_ := am_ (zo (g := gb264) (o := .cells #[.slice A0_0 l0_0.length c0_0, .slice A0_1 l0_1.length c0_1] 24 (0, 0)) (by (with_reducible repeat (first | refine ze ?_ _ | refine zg ?_ | refine zd ?_ _)); exact BK264.out) hb); have n5_ := am_ (zo (g := gb265) (o := .cells #[.slice none 0 0, .slice none 0 0] 24 (0, 0)) (by (with_reducible repeat (first | refine ze ?_ _ | refine zg ?_ | refine zd ?_ _)); exact BK265.out) hb); have n6_ := am_ (zo (g := gb266) (o := .cells #[.slice none 0 0, .slice none 0 0] 24 (0, 0)) (by (with_reducible repeat (first | refine ze ?_ _ | refine zg ?_ | refine zd ?_ _)); exact BK266.out) hb); have n7_ := am_ (zo (g := gb275) (o := .cells #[.slice Ao46 t269.length co46, .slice Ao51 t272.length co51] 24 (0, 0)) (by (with_reducible repeat (first | refine ze ?_ _ | refine zg ?_ | refine zd ?_ _)); exact BK275.out) hb); have n8_ := am_ (zh (by repeat (first | (with_reducible first | exact HB.out | apply zc | apply za | apply zb | refine zf ?_ GE264.out | refine zf ?_ GE265.out | refine zf ?_ GE266.out | refine zf ?_ GE275.out) | exact HB.out)) hb); have n9_ := am_ (hbox); have n10_ := am_ ((by rw [hg]; exact (zk (by repeat (first | (with_reducible first | exact HB.out | apply zc | apply za | apply zb | refine zf ?_ GE264.out | refine zf ?_ GE265.out | refine zf ?_ GE266.out | refine zf ?_ GE275.out) | exact HB.out))) : w.heap.size ≤ gb282)); have n11_ := am_ ((by rw [hg]; exact (zk (by repeat (first | (with_reducible first | exact HB.out | apply zc | apply za | apply zb | refine zf ?_ GE264.out | refine zf ?_ GE265.out | refine zf ?_ GE266.out | refine zf ?_ GE275.out) | exact HB.out))) : w.heap.size ≤ gb282)); have n12_ := am_ ((by rw [hg]; exact Nat.ne_of_lt (zL (g := gb264) (o := .cells #[.slice A0_0 l0_0.length c0_0, .slice A0_1 l0_1.length c0_1] 24 (0, 0)) (by (with_reducible repeat (first | refine ze ?_ _ | refine zg ?_ | refine zd ?_ _)); exact BK264.out)) : gb264 ≠ gb282)); have n13_ := am_ ((by rw [hg]; exact Nat.ne_of_gt (zL (g := gb264) (o := .cells #[.slice A0_0 l0_0.length c0_0, .slice A0_1 l0_1.length c0_1] 24 (0, 0)) (by (with_reducible repeat (first | refine ze ?_ _ | refine zg ?_ | refine zd ?_ _)); exact BK264.out)) : gb282 ≠ gb264)); have n14_ := am_ ((by rw [hg]; exact Nat.ne_of_lt (zL (g := gb265) (o := .cells #[.slice none 0 0, .slice none 0 0] 24 (0, 0)) (by (with_reducible repeat (first | refine ze ?_ _ | refine zg ?_ | refine zd ?_ _)); exact BK265.out)) : gb265 ≠ gb282)); have n15_ := am_ ((by rw [hg]; exact Nat.ne_of_gt (zL (g := gb265) (o := .cells #[.slice none 0 0, .slice none 0 0] 24 (0, 0)) (by (with_reducible repeat (first | refine ze ?_ _ | refine zg ?_ | refine zd ?_ _)); exact BK265.out)) : gb282 ≠ gb265)); have n16_ := am_ ((by rw [hg]; exact Nat.ne_of_lt (zL (g := gb266) (o := .cells #[.slice none 0 0, .slice none 0 0] 24 (0, 0)) (by (with_reducible repeat (first | refine ze ?_ _ | refine zg ?_ | refine zd ?_ _)); exact BK266.out)) : gb266 ≠ gb282)); have n17_ := am_ ((by rw [hg]; exact Nat.ne_of_gt (zL (g := gb266) (o := .cells #[.slice none 0 0, .slice none 0 0] 24 (0, 0)) (by (with_reducible repeat (first | refine ze ?_ _ | refine zg ?_ | refine zd ?_ _)); exact BK266.out)) : gb282 ≠ gb266)); have n18_ := am_ ((by rw [hg]; exact Nat.ne_of_lt (zL (g := gb275) (o := .cells #[.slice Ao46 t269.length co46, .slice Ao51 t272.length co51] 24 (0, 0)) (by (with_reducible repeat (first | refine ze ?_ _ | refine zg ?_ | refine zd ?_ _)); exact BK275.out)) : gb275 ≠ gb282)); have n19_ := am_ ((by rw [hg]; exact Nat.ne_of_gt (zL (g := gb275) (o := .cells #[.slice Ao46 t269.length co46, .slice Ao51 t272.length co51] 24 (0, 0)) (by (with_reducible repeat (first | refine ze ?_ _ | refine zg ?_ | refine zd ?_ _)); exact BK275.out)) : gb282 ≠ gb275)); clear HO271; clear HO274; clear HO278; clear HO281; clear BK264; clear BK265; clear BK266; clear BK275; clear HB; have HO271 := n0_; have HO274 := n1_; have HO278 := n2_; have HO281 := n3_; have BK264 := n4_; have BK265 := n5_; have BK266 := n6_; have BK275 := n7_; have HB := n8_; have BK282 := n9_; have GW282 := n10_; have GE282 := n11_; have NB264_282 := n12_; have NB282_264 := n13_; have NB265_282 := n14_; have NB282_265 := n15_; have NB266_282 := n16_; have NB282_266 := n17_; have NB275_282 := n18_; have NB282_275 := n19_; clear n0_ n1_ n2_ n3_ n4_ n5_ n6_ n7_ n8_ n9_ n10_ n11_ n12_ n13_ n14_ n15_ n16_ n17_ n18_ n19_; clear hb hbox hg; obtain ⟨Ao55, co55, eo55⟩ := Kd.zad HO278.out; subst eo55; have hnb56 := NB282_264.out; have hnc56 := NB264_282.out; have hnb57 := NB282_265.out; have hnc57 := NB265_282.out; have hnb58 := NB282_266.out; have hnc58 := NB266_282.out; have hnb59 := NB282_275.out; have hnc59 := NB275_282.out; have hcz60_0 : w54.cell? ⟨gb282, 0, none⟩ = some (.slice none 0 0) := (zj BK282.out 0).trans rfl; have hcz60_1 : w54.cell? ⟨gb282, 1, none⟩ = some (.slice none 0 0) := (zj BK282.out 1).trans rfl; have hfz60_0 := zi BK282.out 0; have hfz60_1 := zi BK282.out 1; obtain ⟨Ao61, co61, eo61⟩ := Kd.zad HO281.out; subst eo61) | ((with_reducible refine zJ (t := 24) (p := 8) rfl ?_); refine zat (t := 24) (p := 8) (v := ?vo_w62) (w1 := ((w54.setCell ⟨gb282, 0, none⟩ (.slice Ao55 t276.length co55)).setCell ⟨gb282, 1, none⟩ (.slice Ao61 t279.length co61))) ?hg ?ho ?hn ?hr ?_; (case ho => rfl); (case hg => rfl); (case hn => rfl); (case hr => first | (go_simp; done) | (go_simp; rfl)); intro w62 hw; have n0_ : Aside0 (Kd.R (Kd.int .i64) 3 w62 w.heap.size (fun k_ => some k_ ≠ (.slice Ao51 t272.length co51 : Value).ownBlock ∧ some k_ ≠ (.slice Ao55 t276.length co55 : Value).ownBlock ∧ some k_ ≠ (.slice Ao61 t279.length co61 : Value).ownBlock) (.slice Ao46 t269.length co46) t269) := ⟨(by rw [hw]; exact (by (with_reducible repeat (first | apply Kd.zw | apply Kd.zu | apply Kd.zA)); exact Kd.zN (Kd.zX (p := ⟨gb282, 1, none⟩) (Kd.zX (p := ⟨gb282, 0, none⟩) (Kd.z5 HO271.out BK282.out (by decide)) (fun _ hk => hk.2) (.slice Ao55 t276.length co55)) (fun _ hk => hk.2) (.slice Ao61 t279.length co61)) (fun _ hk => ⟨hk.1.1.1, ⟨hk.1.1.2, hk.1.2⟩⟩)))⟩; have n1_ : Aside0 (Kd.R (Kd.int .i64) 3 w62 w.heap.size (fun k_ => some k_ ≠ (.slice Ao46 t269.length co46 : Value).ownBlock ∧ some k_ ≠ (.slice Ao55 t276.length co55 : Value).ownBlock ∧ some k_ ≠ (.slice Ao61 t279.length co61 : Value).ownBlock) (.slice Ao51 t272.length co51) t272) := ⟨(by rw [hw]; exact (by (with_reducible repeat (first | apply Kd.zw | apply Kd.zu | apply Kd.zA)); exact Kd.zN (Kd.zX (p := ⟨gb282, 1, none⟩) (Kd.zX (p := ⟨gb282, 0, none⟩) (Kd.z5 HO274.out BK282.out (by decide)) (fun _ hk => hk.2) (.slice Ao55 t276.length co55)) (fun _ hk => hk.2) (.slice Ao61 t279.length co61)) (fun _ hk => ⟨hk.1.1.1, ⟨hk.1.1.2, hk.1.2⟩⟩)))⟩; have n2_ : Aside0 (Kd.R (Kd.int .i64) 3 w62 w.heap.size (fun k_ => some k_ ≠ (.slice Ao46 t269.length co46 : Value).ownBlock ∧ some k_ ≠ (.slice Ao51 t272.length co51 : Value).ownBlock ∧ some k_ ≠ (.slice Ao61 t279.length co61 : Value).ownBlock) (.slice Ao55 t276.length co55) t276) := ⟨(by rw [hw]; exact (by (with_reducible repeat (first | apply Kd.zw | apply Kd.zu | apply Kd.zA)); exact Kd.zN (Kd.zX (p := ⟨gb282, 1, none⟩) (Kd.zX (p := ⟨gb282, 0, none⟩) (Kd.z5 HO278.out BK282.out (by decide)) (fun _ hk => hk.2) (.slice Ao55 t276.length co55)) (fun _ hk => hk.2) (.slice Ao61 t279.length co61)) (fun _ hk => ⟨hk.1.1.2, ⟨hk.1.2, hk.1.1.1⟩⟩)))⟩; have n3_ : Aside0 (Kd.R (Kd.int .i64) 3 w62 w.heap.size (fun k_ => some k_ ≠ (.slice Ao46 t269.length co46 : Value).ownBlock ∧ some k_ ≠ (.slice Ao51 t272.length co51 : Value).ownBlock ∧ some k_ ≠ (.slice Ao55 t276.length co55 : Value).ownBlock) (.slice Ao61 t279.length co61) t279) := ⟨(by rw [hw]; exact (by (with_reducible repeat (first | apply Kd.zw | apply Kd.zu | apply Kd.zA)); exact Kd.zN (Kd.zX (p := ⟨gb282, 1, none⟩) (Kd.zX (p := ⟨gb282, 0, none⟩) (Kd.z5 HO281.out BK282.out (by decide)) (fun _ hk => hk.2) (.slice Ao55 t276.length co55)) (fun _ hk => hk.2) (.slice Ao61 t279.length co61)) (fun _ hk => ⟨hk.1.1.2, ⟨hk.1.2, hk.1.1.1⟩⟩)))⟩; have n4_ : Aside0 (w62.heap[gb264]? = some (.cells #[.slice A0_0 l0_0.length c0_0, .slice A0_1 l0_1.length c0_1] 24 (0, 0))) := ⟨(by rw [hw]; exact (by (with_reducible repeat (first | refine ze ?_ _ | refine zg ?_ | refine zd ?_ _)); refine zK ?_ NB264_282.out _; (with_reducible repeat (first | refine ze ?_ _ | refine zg ?_ | refine zd ?_ _)); refine zK ?_ NB264_282.out _; (with_reducible repeat (first | refine ze ?_ _ | refine zg ?_ | refine zd ?_ _)); exact BK264.out))⟩; have n5_ : Aside0 (w62.heap[gb265]? = some (.cells #[.slice none 0 0, .slice none 0 0] 24 (0, 0))) := ⟨(by rw [hw]; exact (by (with_reducible repeat (first | refine ze ?_ _ | refine zg ?_ | refine zd ?_ _)); refine zK ?_ NB265_282.out _; (with_reducible repeat (first | refine ze ?_ _ | refine zg ?_ | refine zd ?_ _)); refine zK ?_ NB265_282.out _; (with_reducible repeat (first | refine ze ?_ _ | refine zg ?_ | refine zd ?_ _)); exact BK265.out))⟩; have n6_ : Aside0 (w62.heap[gb266]? = some (.cells #[.slice none 0 0, .slice none 0 0] 24 (0, 0))) := ⟨(by rw [hw]; exact (by (with_reducible repeat (first | refine ze ?_ _ | refine zg ?_ | refine zd ?_ _)); refine zK ?_ NB266_282.out _; (with_reducible repeat (first | refine ze ?_ _ | refine zg ?_ | refine zd ?_ _)); refine zK ?_ NB266_282.out _; (with_reducible repeat (first | refine ze ?_ _ | refine zg ?_ | refine zd ?_ _)); exact BK266.out))⟩; have n7_ : Aside0 (w62.heap[gb275]? = some (.cells #[.slice Ao46 t269.length co46, .slice Ao51 t272.length co51] 24 (0, 0))) := ⟨(by rw [hw]; exact (by (with_reducible repeat (first | refine ze ?_ _ | refine zg ?_ | refine zd ?_ _)); refine zK ?_ NB275_282.out _; (with_reducible repeat (first | refine ze ?_ _ | refine zg ?_ | refine zd ?_ _)); refine zK ?_ NB275_282.out _; (with_reducible repeat (first | refine ze ?_ _ | refine zg ?_ | refine zd ?_ _)); exact BK275.out))⟩; have n8_ : Aside0 (w62.heap[gb282]? = some (.cells #[.slice Ao55 t276.length co55, .slice Ao61 t279.length co61] 24 (0, 0))) := ⟨(by rw [hw]; exact (by (with_reducible repeat (first | refine ze ?_ _ | refine zg ?_ | refine zd ?_ _)); refine zQ (cs := #[.slice Ao55 t276.length co55, .slice none 0 0]) ?_ 1 _ rfl; (with_reducible repeat (first | refine ze ?_ _ | refine zg ?_ | refine zd ?_ _)); refine zQ (cs := #[.slice none 0 0, .slice none 0 0]) ?_ 0 _ rfl; (with_reducible repeat (first | refine ze ?_ _ | refine zg ?_ | refine zd ?_ _)); exact BK282.out))⟩; have n9_ : Aside0 (Below w.heap.size w w62) := ⟨(by rw [hw]; exact (by repeat (first | (with_reducible first | exact HB.out | apply zc | apply za | apply zb | refine zf ?_ GE264.out | refine zf ?_ GE265.out | refine zf ?_ GE266.out | refine zf ?_ GE275.out | refine zf ?_ GE282.out) | exact HB.out)))⟩; clear hw; clear HO271; clear HO274; clear HO278; clear HO281; clear BK264; clear BK265; clear BK266; clear BK275; clear BK282; clear HB; have HO271 := n0_; have HO274 := n1_; have HO278 := n2_; have HO281 := n3_; have BK264 := n4_; have BK265 := n5_; have BK266 := n6_; have BK275 := n7_; have BK282 := n8_; have HB := n9_; clear n0_ n1_ n2_ n3_ n4_ n5_ n6_ n7_ n8_ n9_; have hcz63_0 : w62.cell? ⟨gb275, 0, none⟩ = some (.slice Ao46 t269.length co46) := (zj BK275.out 0).trans rfl; have hcz63_1 : w62.cell? ⟨gb275, 1, none⟩ = some (.slice Ao51 t272.length co51) := (zj BK275.out 1).trans rfl; have hfz63_0 := zi BK275.out 0; have hfz63_1 := zi BK275.out 1; have p283 : 0 ≤ (a1 : Int) := of_decide_eq_true (by first | (with_reducible assumption) | assumption); have q283 : a1 < (t269.length : Int) := of_decide_eq_true (by first | (with_reducible assumption) | assumption); obtain ⟨ad283, e283, hx283_0⟩ := Kd.z3 (Kd.z9 HO271.out).2.2 a1 p283 q283; cases e283; replace p283 := eq_true p283; replace q283 := eq_true q283; have p33 : 0 ≤ (a1 : Int) := of_decide_eq_true (by first | (with_reducible assumption) | assumption); have q33 : (a1 : Int) < ((t269.length : Int) : Int) := of_decide_eq_true (by first | (with_reducible assumption) | assumption); obtain ⟨go33, co33, eo33, gb33, gl33, cl33, HG33⟩ := Kd.R_form HO271.out (by omega); (first | cases eo33 | (injection eo33 with ea_ en_ ec_; (first | subst ea_ | (injection ea_ with ea_; subst ea_)); subst ec_; clear en_)); have GB33 := am_ gb33; have GG33 := am_ HG33; clear gb33 gl33 HG33; (first | simp only [add_plain] at hx283_0 | skip); obtain ⟨hx33_0, hf33_0⟩ := Kd.zaQ 0 HO271.out (a1 : Int) p33 q33; replace p33 := eq_true p33; replace q33 := eq_true q33; obtain ⟨hy64_, hz64_⟩ := Kd.zaQ 0 HO271.out (a1 : Int) (of_decide_eq_true (by first | (with_reducible assumption) | assumption)) (of_decide_eq_true (by first | (with_reducible assumption) | assumption)); have HP64 := Kd.R_putg HO271.out (a1 : Int) (wrap64 ((rd t269 a1) + 1))) | ((with_reducible refine zJ (t := 3) (p := 46) rfl ?_); refine zat (t := 3) (p := 46) (v := ?vo_w65) (w1 := (w62.setCell ⟨go33, (a1 : Int).toNat, none⟩ (.int .i64 (wrap64 ((rd t269 a1) + 1))))) ?hg ?ho ?hn ?hr ?_; (case ho => rfl); (case hg => rfl); (case hn => rfl); (case hr => first | (go_simp; done) | (go_simp; rfl)); intro w65 hw; have hg : w62.grownBy w65 (some go33) := (by rw [hw]; exact HP64.2); have hp_ : Kd.R (Kd.int .i64) 3 w65 w.heap.size (fun k_ => some k_ ≠ (.slice Ao51 t272.length co51 : Value).ownBlock ∧ some k_ ≠ (.slice Ao55 t276.length co55 : Value).ownBlock ∧ some k_ ≠ (.slice Ao61 t279.length co61 : Value).ownBlock) (.slice (some ⟨go33, 0, none⟩) t269.length co46) y284 := (by rw [hw, Ny284.out]; exact HP64.1); clear HP64; have n0_ := am_ (zah (g := gb264) (o := .cells #[.slice A0_0 l0_0.length c0_0, .slice A0_1 l0_1.length c0_1] 24 (0, 0)) (by (with_reducible repeat (first | refine ze ?_ _ | refine zg ?_ | refine zd ?_ _)); exact BK264.out) hg (Kd.R_ne HO271.out BK264.out (by decide))); have n1_ := am_ (zah (g := gb265) (o := .cells #[.slice none 0 0, .slice none 0 0] 24 (0, 0)) (by (with_reducible repeat (first | refine ze ?_ _ | refine zg ?_ | refine zd ?_ _)); exact BK265.out) hg (Kd.R_ne HO271.out BK265.out (by decide))); have n2_ := am_ (zah (g := gb266) (o := .cells #[.slice none 0 0, .slice none 0 0] 24 (0, 0)) (by (with_reducible repeat (first | refine ze ?_ _ | refine zg ?_ | refine zd ?_ _)); exact BK266.out) hg (Kd.R_ne HO271.out BK266.out (by decide))); have n3_ := am_ (hp_); have n4_ := am_ (Kd.R_after (v := (.slice (some ⟨go33, 0, none⟩) t269.length co46)) (v1 := (.slice (some ⟨go33, 0, none⟩) t269.length co46)) (ok := (fun k_ => some k_ ≠ (.slice Ao55 t276.length co55 : Value).ownBlock ∧ some k_ ≠ (.slice Ao61 t279.length co61 : Value).ownBlock)) (by (with_reducible repeat (first | apply Kd.zw | apply Kd.zu | apply Kd.zA)); exact Kd.zN HO274.out (fun _ hk => ⟨⟨hk.2.1, hk.2.2⟩, hk.1⟩)) hg (.inl rfl)); have n5_ := am_ (zah (g := gb275) (o := .cells #[.slice (some ⟨go33, 0, none⟩) t269.length co46, .slice Ao51 t272.length co51] 24 (0, 0)) (by (with_reducible repeat (first | refine ze ?_ _ | refine zg ?_ | refine zd ?_ _)); exact BK275.out) hg (Kd.R_ne HO271.out BK275.out (by decide))); have n6_ := am_ (Kd.R_after (v := (.slice (some ⟨go33, 0, none⟩) t269.length co46)) (v1 := (.slice (some ⟨go33, 0, none⟩) t269.length co46)) (ok := (fun k_ => some k_ ≠ (.slice Ao51 t272.length co51 : Value).ownBlock ∧ some k_ ≠ (.slice Ao61 t279.length co61 : Value).ownBlock)) (by (with_reducible repeat (first | apply Kd.zw | apply Kd.zu | apply Kd.zA)); exact Kd.zN HO278.out (fun _ hk => ⟨⟨hk.2.1, hk.2.2⟩, hk.1⟩)) hg (.inl rfl)); have n7_ := am_ (Kd.R_after (v := (.slice (some ⟨go33, 0, none⟩) t269.length co46)) (v1 := (.slice (some ⟨go33, 0, none⟩) t269.length co46)) (ok := (fun k_ => some k_ ≠ (.slice Ao51 t272.length co51 : Value).ownBlock ∧ some k_ ≠ (.slice Ao55 t276.length co55 : Value).ownBlock)) (by (with_reducible repeat (first | apply Kd.zw | apply Kd.zu | apply Kd.zA)); exact Kd.zN HO281.out (fun _ hk => ⟨⟨hk.2.1, hk.2.2⟩, hk.1⟩)) hg (.inl rfl)); have n8_ := am_ (zah (g := gb282) (o := .cells #[.slice Ao55 t276.length co55, .slice Ao61 t279.length co61] 24 (0, 0)) (by (with_reducible repeat (first | refine ze ?_ _ | refine zg ?_ | refine zd ?_ _)); exact BK282.out) hg (Kd.R_ne HO271.out BK282.out (by decide))); have n9_ := am_ ((by rw [hw]; exact zf (HB.out) GB33.out : Below w.heap.size w w65)); clear BK264; clear BK265; clear BK266; clear HO271; clear HO274; clear BK275; clear HO278; clear HO281; clear BK282; clear HB; have BK264 := n0_; have BK265 := n1_; have BK266 := n2_; have HO271 := n3_; have HO274 := n4_; have BK275 := n5_; have HO278 := n6_; have HO281 := n7_; have BK282 := n8_; have HB := n9_; clear n0_ n1_ n2_ n3_ n4_ n5_ n6_ n7_ n8_ n9_; clear hg hw hp_; have hcz66_0 : w65.cell? ⟨gb282, 0, none⟩ = some (.slice Ao55 t276.length co55) := (zj BK282.out 0).trans rfl; have hcz66_1 : w65.cell? ⟨gb282, 1, none⟩ = some (.slice Ao61 t279.length co61) := (zj BK282.out 1).trans rfl; have hfz66_0 := zi BK282.out 0; have hfz66_1 := zi BK282.out 1; have p285 : 0 ≤ (a1 : Int) := of_decide_eq_true (by first | (with_reducible assumption) | assumption); have q285 : a1 < (t276.length : Int) := of_decide_eq_true (by first | (with_reducible assumption) | assumption); obtain ⟨ad285, e285, hx285_0⟩ := Kd.z3 (Kd.z9 HO278.out).2.2 a1 p285 q285; cases e285; replace p285 := eq_true p285; replace q285 := eq_true q285; have p35 : 0 ≤ (a1 : Int) := of_decide_eq_true (by first | (with_reducible assumption) | assumption); have q35 : (a1 : Int) < ((t276.length : Int) : Int) := of_decide_eq_true (by first | (with_reducible assumption) | assumption); obtain ⟨go35, co35, eo35, gb35, gl35, cl35, HG35⟩ := Kd.R_form HO278.out (by omega); (first | cases eo35 | (injection eo35 with ea_ en_ ec_; (first | subst ea_ | (injection ea_ with ea_; subst ea_)); subst ec_; clear en_)); have GB35 := am_ gb35; have GG35 := am_ HG35; clear gb35 gl35 HG35; (first | simp only [add_plain] at hx285_0 | skip); obtain ⟨hx35_0, hf35_0⟩ := Kd.zaQ 0 HO278.out (a1 : Int) p35 q35; replace p35 := eq_true p35; replace q35 := eq_true q35; have n_ := am_ (Kd.zN (ok' := (fun k_ => some k_ ≠ (.slice (some ⟨go33, 0, none⟩) t269.length co46 : Value).ownBlock ∧ some k_ ≠ (.slice Ao51 t272.length co51 : Value).ownBlock ∧ some k_ ≠ (.slice Ao61 t279.length co61 : Value).ownBlock)) HO278.out (fun k_ hk => ⟨hk.2, ⟨hk.1.1, hk.1.2⟩⟩)); clear HO278; have HO278 := n_; clear n_; obtain ⟨hy67_, hz67_⟩ := Kd.zaQ 0 HO278.out (a1 : Int) (of_decide_eq_true (by first | (with_reducible assumption) | assumption)) (of_decide_eq_true (by first | (with_reducible assumption) | assumption)); have HP67 := Kd.R_putg HO278.out (a1 : Int) (wrap64 ((rd t276 a1) + 1))) | ((with_reducible refine zJ (t := 3) (p := 53) rfl ?_); refine zat (t := 3) (p := 53) (v := ?vo_w68) (w1 := (w65.setCell ⟨go35, (a1 : Int).toNat, none⟩ (.int .i64 (wrap64 ((rd t276 a1) + 1))))) ?hg ?ho ?hn ?hr ?_; (case ho => rfl); (case hg => rfl); (case hn => rfl); (case hr => first | (go_simp; done) | (go_simp; rfl)); intro w68 hw; have hg : w65.grownBy w68 (some go35) := (by rw [hw]; exact HP67.2); have hp_ : Kd.R (Kd.int .i64) 3 w68 w.heap.size (fun k_ => some k_ ≠ (.slice (some ⟨go33, 0, none⟩) t269.length co46 : Value).ownBlock ∧ some k_ ≠ (.slice Ao51 t272.length co51 : Value).ownBlock ∧ some k_ ≠ (.slice Ao61 t279.length co61 : Value).ownBlock) (.slice (some ⟨go35, 0, none⟩) t276.length co55) y286 := (by rw [hw, Ny286.out]; exact HP67.1); clear HP67; have n0_ := am_ (zah (g := gb264) (o := .cells #[.slice A0_0 l0_0.length c0_0, .slice A0_1 l0_1.length c0_1] 24 (0, 0)) (by (with_reducible repeat (first | refine ze ?_ _ | refine zg ?_ | refine zd ?_ _)); exact BK264.out) hg (Kd.R_ne HO278.out BK264.out (by decide))); have n1_ := am_ (zah (g := gb265) (o := .cells #[.slice none 0 0, .slice none 0 0] 24 (0, 0)) (by (with_reducible repeat (first | refine ze ?_ _ | refine zg ?_ | refine zd ?_ _)); exact BK265.out) hg (Kd.R_ne HO278.out BK265.out (by decide))); have n2_ := am_ (zah (g := gb266) (o := .cells #[.slice none 0 0, .slice none 0 0] 24 (0, 0)) (by (with_reducible repeat (first | refine ze ?_ _ | refine zg ?_ | refine zd ?_ _)); exact BK266.out) hg (Kd.R_ne HO278.out BK266.out (by decide))); have n3_ := am_ (Kd.R_after (v := (.slice (some ⟨go35, 0, none⟩) t276.length co55)) (v1 := (.slice (some ⟨go35, 0, none⟩) t276.length co55)) (ok := (fun k_ => some k_ ≠ (.slice Ao51 t272.length co51 : Value).ownBlock ∧ some k_ ≠ (.slice Ao61 t279.length co61 : Value).ownBlock)) (by (with_reducible repeat (first | apply Kd.zw | apply Kd.zu | apply Kd.zA)); exact Kd.zN HO271.out (fun _ hk => ⟨⟨hk.1, hk.2.2⟩, hk.2.1⟩)) hg (.inl rfl)); have n4_ := am_ (Kd.R_after (v := (.slice (some ⟨go35, 0, none⟩) t276.length co55)) (v1 := (.slice (some ⟨go35, 0, none⟩) t276.length co55)) (ok := (fun k_ => some k_ ≠ (.slice (some ⟨go33, 0, none⟩) t269.length co46 : Value).ownBlock ∧ some k_ ≠ (.slice Ao61 t279.length co61 : Value).ownBlock)) (by (with_reducible repeat (first | apply Kd.zw | apply Kd.zu | apply Kd.zA)); exact Kd.zN HO274.out (fun _ hk => ⟨⟨hk.2, hk.1.2⟩, hk.1.1⟩)) hg (.inl rfl)); have n5_ := am_ (zah (g := gb275) (o := .cells #[.slice (some ⟨go33, 0, none⟩) t269.length co46, .slice Ao51 t272.length co51] 24 (0, 0)) (by (with_reducible repeat (first | refine ze ?_ _ | refine zg ?_ | refine zd ?_ _)); exact BK275.out) hg (Kd.R_ne HO278.out BK275.out (by decide))); have n6_ := am_ (hp_); have n7_ := am_ (Kd.R_after (v := (.slice (some ⟨go35, 0, none⟩) t276.length co55)) (v1 := (.slice (some ⟨go35, 0, none⟩) t276.length co55)) (ok := (fun k_ => some k_ ≠ (.slice (some ⟨go33, 0, none⟩) t269.length co46 : Value).ownBlock ∧ some k_ ≠ (.slice Ao51 t272.length co51 : Value).ownBlock)) (by (with_reducible repeat (first | apply Kd.zw | apply Kd.zu | apply Kd.zA)); exact Kd.zN HO281.out (fun _ hk => ⟨⟨hk.2, hk.1.1⟩, hk.1.2⟩)) hg (.inl rfl)); have n8_ := am_ (zah (g := gb282) (o := .cells #[.slice (some ⟨go35, 0, none⟩) t276.length co55, .slice Ao61 t279.length co61] 24 (0, 0)) (by (with_reducible repeat (first | refine ze ?_ _ | refine zg ?_ | refine zd ?_ _)); exact BK282.out) hg (Kd.R_ne HO278.out BK282.out (by decide))); have n9_ := am_ ((by rw [hw]; exact zf (HB.out) GB35.out : Below w.heap.size w w68)); clear BK264; clear BK265; clear BK266; clear HO271; clear HO274; clear BK275; clear HO278; clear HO281; clear BK282; clear HB; have BK264 := n0_; have BK265 := n1_; have BK266 := n2_; have HO271 := n3_; have HO274 := n4_; have BK275 := n5_; have HO278 := n6_; have HO281 := n7_; have BK282 := n8_; have HB := n9_; clear n0_ n1_ n2_ n3_ n4_ n5_ n6_ n7_ n8_ n9_; clear hg hw hp_))
           have n0_ := am_ (Kd.zA HO271.out)
           have n1_ := am_ (Kd.zA HO274.out)
           have n2_ := am_ (Kd.zA HO278.out)
           have n3_ := am_ (Kd.zA HO281.out)
           have n4_ := am_ (zg BK264.out)
           have n5_ := am_ (zg BK265.out)
           have n6_ := am_ (zg BK266.out)
           have n7_ := am_ (zg BK275.out)
           have n8_ := am_ (zg BK282.out)
           have n9_ := am_ (zb HB.out)
           clear HO271
           clear HO274
           clear HO278
           clear HO281
           clear BK264
           clear BK265
           clear BK266
           clear BK275
           clear BK282
           clear HB
           have HO271 := n0_
           have HO274 := n1_
           have HO278 := n2_
           have HO281 := n3_
           have BK264 := n4_
           have BK265 := n5_
           have BK266 := n6_
           have BK275 := n7_
           have BK282 := n8_
           have HB := n9_
           clear n0_ n1_ n2_ n3_ n4_ n5_ n6_ n7_ n8_ n9_
           have p287 : 0 ≤ (a1 : Int) := of_decide_eq_true (by first | (with_reducible assumption) | assumption)
           have q287 : a1 < (l0_1.length : Int) := of_decide_eq_true (by first | (with_reducible assumption) | assumption)
           obtain ⟨ad287, e287, hx287_0⟩ := Kd.z3 HR0_1.out a1 p287 q287
           have hw287_0 := hx287_0
           cases e287
           replace hx287_0 := (HB.out.cell (World.block_lt_of_cell? w _ hx287_0)).trans hx287_0
           replace p287 := eq_true p287
           replace q287 := eq_true q287
           have p38 : 0 ≤ (a1 : Int) := of_decide_eq_true (by first | (with_reducible assumption) | assumption)
           have q38 : (a1 : Int) < ((t272.length : Int) : Int) := of_decide_eq_true (by first | (with_reducible assumption) | assumption)
           obtain ⟨go38, co38, eo38, gb38, gl38, cl38, HG38⟩ := Kd.R_form HO274.out (by omega)
           (first | cases eo38 | (injection eo38 with ea_ en_ ec_; (first | subst ea_ | (injection ea_ with ea_; subst ea_)); subst ec_; clear en_))
           have GB38 := am_ gb38
           have GG38 := am_ HG38
           clear gb38 gl38 HG38
           obtain ⟨hx38_0, hf38_0⟩ := Kd.zaQ 0 HO274.out (a1 : Int) p38 q38
           replace p38 := eq_true p38
           replace q38 := eq_true q38
           have HP70 := Kd.R_putn HO274.out (a1 : Int) (wrap64 (2 * (rd l0_1 a1)))
           rw [← Ny288.out] at HP70
           have HQ70 := am_ HP70
           clear HP70
           refine zaY (n := 11) (S := fun w' => w'.cell? ⟨gb275, 0, none⟩ = some (.slice (some ⟨go33, 0, none⟩) t269.length co46) ∧ w'.cell? ⟨gb275, 1, none⟩ = some (.slice (some ⟨go38, 0, none⟩) t272.length co51) ∧ w'.cell? ⟨gb264, 0, none⟩ = some (.slice A0_0 l0_0.length c0_0) ∧ w'.cell? ⟨gb264, 1, none⟩ = some (.slice (some ad287) l0_1.length c0_1) ∧ w'.cell? (ad287.add (a1).toNat) = some (.int .i64 (rd l0_1 a1))) (ds := [10]) (bl_ 11 0) (by kernel_rfl) rfl rfl ⟨(zj BK275.out 0).trans rfl, (zj BK275.out 1).trans rfl, (zj BK264.out 0).trans rfl, (zj BK264.out 1).trans rfl, ((HB.out.cell (World.block_lt_of_cell? w _ hw287_0)).trans hw287_0)⟩ (fun hHeld => ?_); refine zav zB.tab9 zB.bits9 (fun HT_ HW_ => ?_)
           generalize w68.drew = w69 at HO271 HO274 HO278 HO281 BK264 BK265 BK266 BK275 BK282 HB GG38 HQ70 hf38_0 hx287_0 hx38_0 hHeld ⊢
           refine zz (i := 0) (N := some 54) (v := ?_) (a' := ?_) (bl_ 11 1) rfl rfl (zn HT_.out (by kernel_rfl)) (fun _ _ _ h => h) (Or.inl ⟨by rfl, ?_⟩) ?_ ?_
           rotate_left
           ·intro w'
            go_simp
            with_reducible rfl
           rotate_left
           ·simp only [Act.put, sI_, s0_, s1_, zl, zm]
            rfl
           refine zz (i := 2) (N := some 56) (v := ?_) (a' := ?_) (bl_ 11 5) rfl rfl (zn HT_.out (by kernel_rfl)) (fun _ _ _ h => h) (Or.inl ⟨by rfl, ?_⟩) ?_ ?_
           rotate_left
           ·intro w'
            go_simp
            with_reducible rfl
           rotate_left
           ·simp only [Act.put, sI_, s0_, s1_, zl, zm]
            rfl
           refine zz (i := 3) (N := some 57) (v := ?_) (a' := ?_) (bl_ 11 13) rfl rfl (zn HT_.out (by kernel_rfl)) (fun _ _ _ h => h) (Or.inl ⟨by rfl, ?_⟩) ?_ ?_
           rotate_left
           ·intro w'
            go_simp
            with_reducible rfl
           rotate_left
           ·simp only [Act.put, sI_, s0_, s1_, zl, zm]
            rfl
           refine zz (i := 5) (N := some 59) (v := ?_) (a' := ?_) (bl_ 11 45) rfl rfl (zn HT_.out (by kernel_rfl)) (fun _ _ _ h => h) (Or.inl ⟨by rfl, ?_⟩) ?_ ?_
           rotate_left
           ·intro w'
            go_simp
            with_reducible rfl
           rotate_left
           ·simp only [Act.put, sI_, s0_, s1_, zl, zm]
            rfl
           refine zau (i := 1) (N := some 55) (v := ?_) (a' := ?_) (bl_ 11 47) rfl rfl (zR HT_.out HW_.out (by kernel_rfl)) (fun _ _ _ h => h) (Or.inl ⟨by rfl, ?_⟩) hHeld ?_ ?_
           rotate_left
           ·rintro w' ⟨s0, s1, s2, s3, s4⟩
            go_simp
            with_reducible rfl
           rotate_left
           ·simp only [Act.put, sI_, s0_, s1_, zl, zm]
            rfl
           refine zau (i := 4) (N := some 58) (v := ?_) (a' := ?_) (bl_ 11 63) rfl rfl (zR HT_.out HW_.out (by kernel_rfl)) (fun _ _ _ h => h) (Or.inl ⟨by rfl, ?_⟩) hHeld ?_ ?_
           rotate_left
           ·rintro w' ⟨s0, s1, s2, s3, s4⟩
            go_simp
            with_reducible rfl
           rotate_left
           ·simp only [Act.put, sI_, s0_, s1_, zl, zm]
            rfl
           refine zz (i := 6) (N := some 60) (v := ?_) (a' := ?_) (bl_ 11 127) rfl rfl (zn HT_.out (by kernel_rfl)) (fun _ _ _ h => h) (Or.inl ⟨by rfl, ?_⟩) ?_ ?_
           rotate_left
           ·intro w'
            go_simp
            with_reducible rfl
           rotate_left
           ·simp only [Act.put, sI_, s0_, s1_, zl, zm]
            rfl
           refine zau (i := 7) (N := some 61) (v := ?_) (a' := ?_) (bl_ 11 255) rfl rfl (zR HT_.out HW_.out (by kernel_rfl)) (fun _ _ _ h => h) (Or.inl ⟨by rfl, ?_⟩) hHeld ?_ ?_
           rotate_left
           ·rintro w' ⟨s0, s1, s2, s3, s4⟩
            go_simp
            with_reducible rfl
           rotate_left
           ·simp only [Act.put, sI_, s0_, s1_, zl, zm]
            rfl
           refine zz (i := 8) (N := some 62) (v := ?_) (a' := ?_) (bl_ 11 511) rfl rfl (zn HT_.out (by kernel_rfl)) (fun _ _ _ h => h) (Or.inl ⟨by rfl, ?_⟩) ?_ ?_
           rotate_left
           ·intro w'
            go_simp
            with_reducible rfl
           rotate_left
           ·simp only [Act.put, sI_, s0_, s1_, zl, zm]
            rfl
           refine zz (i := 9) (N := some 63) (v := ?_) (a' := ?_) (bl_ 11 1023) rfl rfl (zn HT_.out (by kernel_rfl)) (fun _ _ _ h => h) (Or.inl ⟨by rfl, ?_⟩) ?_ ?_
           rotate_left
           ·intro w'
            go_simp
            with_reducible rfl
           rotate_left
           ·simp only [Act.put, sI_, s0_, s1_, zl, zm]
            rfl
           refine last_ (i := 10) (N := none) (bl_ 11 2047) rfl rfl (zae HT_.out (by kernel_rfl)) (by decide) (fun K hK => ?_)
           refine skip_ (w1 := ?_) (by rfl) rfl ?_ ?_
           rotate_left
           ·go_simp
            rfl
           refine hK.out _ _ ?_
           clear hK K
           refine done_ (zaL HT_.out (by kernel_rfl)) ?_
           have n0_ : Aside0 (Kd.R (Kd.int .i64) 3 (w69.setCell ⟨go38, (a1 : Int).toNat, none⟩ (.int .i64 (wrap64 (2 * (rd l0_1 a1))))) w.heap.size (fun k_ => some k_ ≠ (.slice (some ⟨go38, 0, none⟩) t272.length co51 : Value).ownBlock ∧ some k_ ≠ (.slice (some ⟨go35, 0, none⟩) t276.length co55 : Value).ownBlock ∧ some k_ ≠ (.slice Ao61 t279.length co61 : Value).ownBlock) (.slice (some ⟨go33, 0, none⟩) t269.length co46) y284) := ⟨by (with_reducible repeat (first | apply Kd.zw | apply Kd.zu | apply Kd.zA)); exact Kd.zN (Kd.zX (p := ⟨go38, (a1 : Int).toNat, none⟩) (Kd.zN HO271.out (fun k_ hk => (⟨hk, fun e_ => hk.1.1 (by rw [e_]; rfl)⟩ : _ ∧ k_ ≠ go38))) (fun _ hk => hk.2) (.int .i64 (wrap64 (2 * (rd l0_1 a1))))) (fun _ hk => ⟨hk.1.1.1, ⟨hk.1.2, hk.1.1.2⟩⟩)⟩
           have n1_ : Aside0 (Kd.R (Kd.int .i64) 3 (w69.setCell ⟨go38, (a1 : Int).toNat, none⟩ (.int .i64 (wrap64 (2 * (rd l0_1 a1))))) w.heap.size (fun k_ => some k_ ≠ (.slice (some ⟨go33, 0, none⟩) t269.length co46 : Value).ownBlock ∧ some k_ ≠ (.slice (some ⟨go35, 0, none⟩) t276.length co55 : Value).ownBlock ∧ some k_ ≠ (.slice Ao61 t279.length co61 : Value).ownBlock) (.slice (some ⟨go38, 0, none⟩) t272.length co51) y288) := ⟨by (with_reducible repeat (first | apply Kd.zw | apply Kd.zu | apply Kd.zA)); exact Kd.zN HQ70.out (fun _ hk => ⟨hk.1.1, ⟨hk.2, hk.1.2⟩⟩)⟩
           have n2_ : Aside0 (Kd.R (Kd.int .i64) 3 (w69.setCell ⟨go38, (a1 : Int).toNat, none⟩ (.int .i64 (wrap64 (2 * (rd l0_1 a1))))) w.heap.size (fun k_ => some k_ ≠ (.slice (some ⟨go33, 0, none⟩) t269.length co46 : Value).ownBlock ∧ some k_ ≠ (.slice (some ⟨go38, 0, none⟩) t272.length co51 : Value).ownBlock ∧ some k_ ≠ (.slice Ao61 t279.length co61 : Value).ownBlock) (.slice (some ⟨go35, 0, none⟩) t276.length co55) y286) := ⟨by (with_reducible repeat (first | apply Kd.zw | apply Kd.zu | apply Kd.zA)); exact Kd.zN (Kd.zX (p := ⟨go38, (a1 : Int).toNat, none⟩) (Kd.zN HO278.out (fun k_ hk => (⟨hk, fun e_ => hk.2.1 (by rw [e_]; rfl)⟩ : _ ∧ k_ ≠ go38))) (fun _ hk => hk.2) (.int .i64 (wrap64 (2 * (rd l0_1 a1))))) (fun _ hk => ⟨hk.1.1, ⟨hk.1.2.1, hk.1.2.2⟩⟩)⟩
           have n3_ : Aside0 (Kd.R (Kd.int .i64) 3 (w69.setCell ⟨go38, (a1 : Int).toNat, none⟩ (.int .i64 (wrap64 (2 * (rd l0_1 a1))))) w.heap.size (fun k_ => some k_ ≠ (.slice (some ⟨go33, 0, none⟩) t269.length co46 : Value).ownBlock ∧ some k_ ≠ (.slice (some ⟨go38, 0, none⟩) t272.length co51 : Value).ownBlock ∧ some k_ ≠ (.slice (some ⟨go35, 0, none⟩) t276.length co55 : Value).ownBlock) (.slice Ao61 t279.length co61) t279) := ⟨by (with_reducible repeat (first | apply Kd.zw | apply Kd.zu | apply Kd.zA)); exact Kd.zN (Kd.zX (p := ⟨go38, (a1 : Int).toNat, none⟩) (Kd.zN HO281.out (fun k_ hk => (⟨hk, fun e_ => hk.1.2 (by rw [e_]; rfl)⟩ : _ ∧ k_ ≠ go38))) (fun _ hk => hk.2) (.int .i64 (wrap64 (2 * (rd l0_1 a1))))) (fun _ hk => ⟨hk.1.1.1, ⟨hk.1.1.2, hk.1.2⟩⟩)⟩
           have n4_ : Aside0 ((w69.setCell ⟨go38, (a1 : Int).toNat, none⟩ (.int .i64 (wrap64 (2 * (rd l0_1 a1))))).heap[gb264]? = some (.cells #[.slice A0_0 l0_0.length c0_0, .slice (some ad287) l0_1.length c0_1] 24 (0, 0))) := ⟨by (with_reducible repeat (first | refine ze ?_ _ | refine zg ?_ | refine zd ?_ _)); refine zK ?_ (by have h_ := Kd.R_ne HO274.out BK264.out (by decide); intro e_; exact h_ (by rw [e_]; rfl)) _; (with_reducible repeat (first | refine ze ?_ _ | refine zg ?_ | refine zd ?_ _)); exact BK264.out⟩
           have n5_ : Aside0 ((w69.setCell ⟨go38, (a1 : Int).toNat, none⟩ (.int .i64 (wrap64 (2 * (rd l0_1 a1))))).heap[gb265]? = some (.cells #[.slice none 0 0, .slice none 0 0] 24 (0, 0))) := ⟨by (with_reducible repeat (first | refine ze ?_ _ | refine zg ?_ | refine zd ?_ _)); refine zK ?_ (by have h_ := Kd.R_ne HO274.out BK265.out (by decide); intro e_; exact h_ (by rw [e_]; rfl)) _; (with_reducible repeat (first | refine ze ?_ _ | refine zg ?_ | refine zd ?_ _)); exact BK265.out⟩
           have n6_ : Aside0 ((w69.setCell ⟨go38, (a1 : Int).toNat, none⟩ (.int .i64 (wrap64 (2 * (rd l0_1 a1))))).heap[gb266]? = some (.cells #[.slice none 0 0, .slice none 0 0] 24 (0, 0))) := ⟨by (with_reducible repeat (first | refine ze ?_ _ | refine zg ?_ | refine zd ?_ _)); refine zK ?_ (by have h_ := Kd.R_ne HO274.out BK266.out (by decide); intro e_; exact h_ (by rw [e_]; rfl)) _; (with_reducible repeat (first | refine ze ?_ _ | refine zg ?_ | refine zd ?_ _)); exact BK266.out⟩
           have n7_ : Aside0 ((w69.setCell ⟨go38, (a1 : Int).toNat, none⟩ (.int .i64 (wrap64 (2 * (rd l0_1 a1))))).heap[gb275]? = some (.cells #[.slice (some ⟨go33, 0, none⟩) t269.length co46, .slice (some ⟨go38, 0, none⟩) t272.length co51] 24 (0, 0))) := ⟨by (with_reducible repeat (first | refine ze ?_ _ | refine zg ?_ | refine zd ?_ _)); refine zK ?_ (by have h_ := Kd.R_ne HO274.out BK275.out (by decide); intro e_; exact h_ (by rw [e_]; rfl)) _; (with_reducible repeat (first | refine ze ?_ _ | refine zg ?_ | refine zd ?_ _)); exact BK275.out⟩
           have n8_ : Aside0 ((w69.setCell ⟨go38, (a1 : Int).toNat, none⟩ (.int .i64 (wrap64 (2 * (rd l0_1 a1))))).heap[gb282]? = some (.cells #[.slice (some ⟨go35, 0, none⟩) t276.length co55, .slice Ao61 t279.length co61] 24 (0, 0))) := ⟨by (with_reducible repeat (first | refine ze ?_ _ | refine zg ?_ | refine zd ?_ _)); refine zK ?_ (by have h_ := Kd.R_ne HO274.out BK282.out (by decide); intro e_; exact h_ (by rw [e_]; rfl)) _; (with_reducible repeat (first | refine ze ?_ _ | refine zg ?_ | refine zd ?_ _)); exact BK282.out⟩
           have n9_ : Aside0 (Below w.heap.size w (w69.setCell ⟨go38, (a1 : Int).toNat, none⟩ (.int .i64 (wrap64 (2 * (rd l0_1 a1)))))) := ⟨by repeat (first | (with_reducible first | exact HB.out | apply zc | apply za | apply zb | refine zf ?_ GB38.out | refine zf ?_ GE264.out | refine zf ?_ GE265.out | refine zf ?_ GE266.out | refine zf ?_ GE275.out | refine zf ?_ GE282.out) | exact HB.out)⟩
           (try clear HO271)
           (try clear HO274)
           (try clear HO278)
           (try clear HO281)
           (try clear BK264)
           (try clear BK265)
           (try clear BK266)
           (try clear BK275)
           (try clear BK282)
           (try clear HB)
           generalize (w69.setCell ⟨go38, (a1 : Int).toNat, none⟩ (.int .i64 (wrap64 (2 * (rd l0_1 a1))))) = w71 at n0_ n1_ n2_ n3_ n4_ n5_ n6_ n7_ n8_ n9_ ⊢
           have HO271 := n0_
           have HO274 := n1_
           have HO278 := n2_
           have HO281 := n3_
           have BK264 := n4_
           have BK265 := n5_
           have BK266 := n6_
           have BK275 := n7_
           have BK282 := n8_
           have HB := n9_
           clear n0_ n1_ n2_ n3_ n4_ n5_ n6_ n7_ n8_ n9_
           try go_wp2
           have n0_ := am_ (Kd.zA HO271.out)
           have n1_ := am_ (Kd.zA HO274.out)
           have n2_ := am_ (Kd.zA HO278.out)
           have n3_ := am_ (Kd.zA HO281.out)
           have n4_ := am_ (zg BK264.out)
           have n5_ := am_ (zg BK265.out)
           have n6_ := am_ (zg BK266.out)
           have n7_ := am_ (zg BK275.out)
           have n8_ := am_ (zg BK282.out)
           have n9_ := am_ (zb HB.out)
           clear HO271
           clear HO274
           clear HO278
           clear HO281
           clear BK264
           clear BK265
           clear BK266
           clear BK275
           clear BK282
           clear HB
           have HO271 := n0_
           have HO274 := n1_
           have HO278 := n2_
           have HO281 := n3_
           have BK264 := n4_
           have BK265 := n5_
           have BK266 := n6_
           have BK275 := n7_
           have BK282 := n8_
           have HB := n9_
           clear n0_ n1_ n2_ n3_ n4_ n5_ n6_ n7_ n8_ n9_
           have p289 : 0 ≤ (a1 : Int) := of_decide_eq_true (by first | (with_reducible assumption) | assumption)
           have q289 : a1 < (l0_1.length : Int) := of_decide_eq_true (by first | (with_reducible assumption) | assumption)
           obtain ⟨ad289, e289, hx289_0⟩ := Kd.z3 HR0_1.out a1 p289 q289
           have hw289_0 := hx289_0
           obtain rfl : ad287 = ad289 := (by injection e289)
           replace hx289_0 := (HB.out.cell (World.block_lt_of_cell? w _ hx289_0)).trans hx289_0
           replace p289 := eq_true p289
           replace q289 := eq_true q289
           have p40 : 0 ≤ (a1 : Int) := of_decide_eq_true (by first | (with_reducible assumption) | assumption)
           have q40 : (a1 : Int) < ((t279.length : Int) : Int) := of_decide_eq_true (by first | (with_reducible assumption) | assumption)
           obtain ⟨go40, co40, eo40, gb40, gl40, cl40, HG40⟩ := Kd.R_form HO281.out (by omega)
           (first | cases eo40 | (injection eo40 with ea_ en_ ec_; (first | subst ea_ | (injection ea_ with ea_; subst ea_)); subst ec_; clear en_))
           have GB40 := am_ gb40
           have GG40 := am_ HG40
           clear gb40 gl40 HG40
           obtain ⟨hx40_0, hf40_0⟩ := Kd.zaQ 0 HO281.out (a1 : Int) p40 q40
           replace p40 := eq_true p40
           replace q40 := eq_true q40
           have HP73 := Kd.R_putn HO281.out (a1 : Int) (wrap64 ((wrap64 (2 * (rd l0_1 a1))) + 1))
           rw [← Ny290.out] at HP73
           have HQ73 := am_ HP73
           clear HP73
           refine zaY (n := 12) (S := fun w' => w'.cell? ⟨gb282, 0, none⟩ = some (.slice (some ⟨go35, 0, none⟩) t276.length co55) ∧ w'.cell? ⟨gb282, 1, none⟩ = some (.slice (some ⟨go40, 0, none⟩) t279.length co61) ∧ w'.cell? ⟨gb264, 0, none⟩ = some (.slice A0_0 l0_0.length c0_0) ∧ w'.cell? ⟨gb264, 1, none⟩ = some (.slice (some ad287) l0_1.length c0_1) ∧ w'.cell? (ad287.add (a1).toNat) = some (.int .i64 (rd l0_1 a1))) (ds := [11]) (bl_ 12 0) (by kernel_rfl) rfl rfl ⟨(zj BK282.out 0).trans rfl, (zj BK282.out 1).trans rfl, (zj BK264.out 0).trans rfl, (zj BK264.out 1).trans rfl, ((HB.out.cell (World.block_lt_of_cell? w _ hw289_0)).trans hw289_0)⟩ (fun hHeld => ?_); refine zav zB.tab10 zB.bits10 (fun HT_ HW_ => ?_)
           generalize w71.drew = w72 at HO271 HO274 HO278 HO281 BK264 BK265 BK266 BK275 BK282 HB GG40 HQ73 hf40_0 hx289_0 hx40_0 hHeld ⊢
           refine zz (i := 0) (N := some 64) (v := ?_) (a' := ?_) (bl_ 12 1) rfl rfl (zn HT_.out (by kernel_rfl)) (fun _ _ _ h => h) (Or.inl ⟨by rfl, ?_⟩) ?_ ?_
           rotate_left
           ·intro w'
            go_simp
            with_reducible rfl
           rotate_left
           ·simp only [Act.put, sI_, s0_, s1_, zl, zm]
            rfl
           refine zz (i := 2) (N := some 66) (v := ?_) (a' := ?_) (bl_ 12 5) rfl rfl (zn HT_.out (by kernel_rfl)) (fun _ _ _ h => h) (Or.inl ⟨by rfl, ?_⟩) ?_ ?_
           rotate_left
           ·intro w'
            go_simp
            with_reducible rfl
           rotate_left
           ·simp only [Act.put, sI_, s0_, s1_, zl, zm]
            rfl
           refine zz (i := 3) (N := some 67) (v := ?_) (a' := ?_) (bl_ 12 13) rfl rfl (zn HT_.out (by kernel_rfl)) (fun _ _ _ h => h) (Or.inl ⟨by rfl, ?_⟩) ?_ ?_
           rotate_left
           ·intro w'
            go_simp
            with_reducible rfl
           rotate_left
           ·simp only [Act.put, sI_, s0_, s1_, zl, zm]
            rfl
           refine zz (i := 5) (N := some 69) (v := ?_) (a' := ?_) (bl_ 12 45) rfl rfl (zn HT_.out (by kernel_rfl)) (fun _ _ _ h => h) (Or.inl ⟨by rfl, ?_⟩) ?_ ?_
           rotate_left
           ·intro w'
            go_simp
            with_reducible rfl
           rotate_left
           ·simp only [Act.put, sI_, s0_, s1_, zl, zm]
            rfl
           refine zau (i := 1) (N := some 65) (v := ?_) (a' := ?_) (bl_ 12 47) rfl rfl (zR HT_.out HW_.out (by kernel_rfl)) (fun _ _ _ h => h) (Or.inl ⟨by rfl, ?_⟩) hHeld ?_ ?_
           rotate_left
           ·rintro w' ⟨s0, s1, s2, s3, s4⟩
            go_simp
            with_reducible rfl
           rotate_left
           ·simp only [Act.put, sI_, s0_, s1_, zl, zm]
            rfl
           refine zau (i := 4) (N := some 68) (v := ?_) (a' := ?_) (bl_ 12 63) rfl rfl (zR HT_.out HW_.out (by kernel_rfl)) (fun _ _ _ h => h) (Or.inl ⟨by rfl, ?_⟩) hHeld ?_ ?_
           rotate_left
           ·rintro w' ⟨s0, s1, s2, s3, s4⟩
            go_simp
            with_reducible rfl
           rotate_left
           ·simp only [Act.put, sI_, s0_, s1_, zl, zm]
            rfl
           refine zz (i := 6) (N := some 70) (v := ?_) (a' := ?_) (bl_ 12 127) rfl rfl (zn HT_.out (by kernel_rfl)) (fun _ _ _ h => h) (Or.inl ⟨by rfl, ?_⟩) ?_ ?_
           rotate_left
           ·intro w'
            go_simp
            with_reducible rfl
           rotate_left
           ·simp only [Act.put, sI_, s0_, s1_, zl, zm]
            rfl
           refine zau (i := 7) (N := some 71) (v := ?_) (a' := ?_) (bl_ 12 255) rfl rfl (zR HT_.out HW_.out (by kernel_rfl)) (fun _ _ _ h => h) (Or.inl ⟨by rfl, ?_⟩) hHeld ?_ ?_
           rotate_left
           ·rintro w' ⟨s0, s1, s2, s3, s4⟩
            go_simp
            with_reducible rfl
           rotate_left
           ·simp only [Act.put, sI_, s0_, s1_, zl, zm]
            rfl
           refine zz (i := 8) (N := some 72) (v := ?_) (a' := ?_) (bl_ 12 511) rfl rfl (zn HT_.out (by kernel_rfl)) (fun _ _ _ h => h) (Or.inl ⟨by rfl, ?_⟩) ?_ ?_
           rotate_left
           ·intro w'
            go_simp
            with_reducible rfl
           rotate_left
           ·simp only [Act.put, sI_, s0_, s1_, zl, zm]
            rfl
           refine zz (i := 9) (N := some 73) (v := ?_) (a' := ?_) (bl_ 12 1023) rfl rfl (zn HT_.out (by kernel_rfl)) (fun _ _ _ h => h) (Or.inl ⟨by rfl, ?_⟩) ?_ ?_
           rotate_left
           ·intro w'
            go_simp
            with_reducible rfl
           rotate_left
           ·simp only [Act.put, sI_, s0_, s1_, zl, zm]
            rfl
           refine zz (i := 10) (N := some 74) (v := ?_) (a' := ?_) (bl_ 12 2047) rfl rfl (zn HT_.out (by kernel_rfl)) (fun _ _ _ h => h) (Or.inl ⟨by rfl, ?_⟩) ?_ ?_
           rotate_left
           ·intro w'
            go_simp
            with_reducible rfl
           rotate_left
           ·simp only [Act.put, sI_, s0_, s1_, zl, zm]
            rfl
           refine last_ (i := 11) (N := none) (bl_ 12 4095) rfl rfl (zae HT_.out (by kernel_rfl)) (by decide) (fun K hK => ?_)
           refine skip_ (w1 := ?_) (by rfl) rfl ?_ ?_
           rotate_left
           ·go_simp
            rfl
           refine hK.out _ _ ?_
           clear hK K
           refine done_ (zaL HT_.out (by kernel_rfl)) ?_
           have n0_ : Aside0 (Kd.R (Kd.int .i64) 3 (w72.setCell ⟨go40, (a1 : Int).toNat, none⟩ (.int .i64 (wrap64 ((wrap64 (2 * (rd l0_1 a1))) + 1)))) w.heap.size (fun k_ => some k_ ≠ (.slice (some ⟨go38, 0, none⟩) t272.length co51 : Value).ownBlock ∧ some k_ ≠ (.slice (some ⟨go35, 0, none⟩) t276.length co55 : Value).ownBlock ∧ some k_ ≠ (.slice (some ⟨go40, 0, none⟩) t279.length co61 : Value).ownBlock) (.slice (some ⟨go33, 0, none⟩) t269.length co46) y284) := ⟨by (with_reducible repeat (first | apply Kd.zw | apply Kd.zu | apply Kd.zA)); exact Kd.zN (Kd.zX (p := ⟨go40, (a1 : Int).toNat, none⟩) (Kd.zN HO271.out (fun k_ hk => (⟨hk, fun e_ => hk.2.2 (by rw [e_]; rfl)⟩ : _ ∧ k_ ≠ go40))) (fun _ hk => hk.2) (.int .i64 (wrap64 ((wrap64 (2 * (rd l0_1 a1))) + 1)))) (fun _ hk => ⟨hk.1.1, ⟨hk.1.2.1, hk.1.2.2⟩⟩)⟩
           have n1_ : Aside0 (Kd.R (Kd.int .i64) 3 (w72.setCell ⟨go40, (a1 : Int).toNat, none⟩ (.int .i64 (wrap64 ((wrap64 (2 * (rd l0_1 a1))) + 1)))) w.heap.size (fun k_ => some k_ ≠ (.slice (some ⟨go33, 0, none⟩) t269.length co46 : Value).ownBlock ∧ some k_ ≠ (.slice (some ⟨go35, 0, none⟩) t276.length co55 : Value).ownBlock ∧ some k_ ≠ (.slice (some ⟨go40, 0, none⟩) t279.length co61 : Value).ownBlock) (.slice (some ⟨go38, 0, none⟩) t272.length co51) y288) := ⟨by (with_reducible repeat (first | apply Kd.zw | apply Kd.zu | apply Kd.zA)); exact Kd.zN (Kd.zX (p := ⟨go40, (a1 : Int).toNat, none⟩) (Kd.zN HO274.out (fun k_ hk => (⟨hk, fun e_ => hk.2.2 (by rw [e_]; rfl)⟩ : _ ∧ k_ ≠ go40))) (fun _ hk => hk.2) (.int .i64 (wrap64 ((wrap64 (2 * (rd l0_1 a1))) + 1)))) (fun _ hk => ⟨hk.1.1, ⟨hk.1.2.1, hk.1.2.2⟩⟩)⟩
           have n2_ : Aside0 (Kd.R (Kd.int .i64) 3 (w72.setCell ⟨go40, (a1 : Int).toNat, none⟩ (.int .i64 (wrap64 ((wrap64 (2 * (rd l0_1 a1))) + 1)))) w.heap.size (fun k_ => some k_ ≠ (.slice (some ⟨go33, 0, none⟩) t269.length co46 : Value).ownBlock ∧ some k_ ≠ (.slice (some ⟨go38, 0, none⟩) t272.length co51 : Value).ownBlock ∧ some k_ ≠ (.slice (some ⟨go40, 0, none⟩) t279.length co61 : Value).ownBlock) (.slice (some ⟨go35, 0, none⟩) t276.length co55) y286) := ⟨by (with_reducible repeat (first | apply Kd.zw | apply Kd.zu | apply Kd.zA)); exact Kd.zN (Kd.zX (p := ⟨go40, (a1 : Int).toNat, none⟩) (Kd.zN HO278.out (fun k_ hk => (⟨hk, fun e_ => hk.2.2 (by rw [e_]; rfl)⟩ : _ ∧ k_ ≠ go40))) (fun _ hk => hk.2) (.int .i64 (wrap64 ((wrap64 (2 * (rd l0_1 a1))) + 1)))) (fun _ hk => ⟨hk.1.1, ⟨hk.1.2.1, hk.1.2.2⟩⟩)⟩
           have n3_ : Aside0 (Kd.R (Kd.int .i64) 3 (w72.setCell ⟨go40, (a1 : Int).toNat, none⟩ (.int .i64 (wrap64 ((wrap64 (2 * (rd l0_1 a1))) + 1)))) w.heap.size (fun k_ => some k_ ≠ (.slice (some ⟨go33, 0, none⟩) t269.length co46 : Value).ownBlock ∧ some k_ ≠ (.slice (some ⟨go38, 0, none⟩) t272.length co51 : Value).ownBlock ∧ some k_ ≠ (.slice (some ⟨go35, 0, none⟩) t276.length co55 : Value).ownBlock) (.slice (some ⟨go40, 0, none⟩) t279.length co61) y290) := ⟨by (with_reducible repeat (first | apply Kd.zw | apply Kd.zu | apply Kd.zA)); exact HQ73.out⟩
           have n4_ : Aside0 ((w72.setCell ⟨go40, (a1 : Int).toNat, none⟩ (.int .i64 (wrap64 ((wrap64 (2 * (rd l0_1 a1))) + 1)))).heap[gb264]? = some (.cells #[.slice A0_0 l0_0.length c0_0, .slice (some ad287) l0_1.length c0_1] 24 (0, 0))) := ⟨by (with_reducible repeat (first | refine ze ?_ _ | refine zg ?_ | refine zd ?_ _)); refine zK ?_ (by have h_ := Kd.R_ne HO281.out BK264.out (by decide); intro e_; exact h_ (by rw [e_]; rfl)) _; (with_reducible repeat (first | refine ze ?_ _ | refine zg ?_ | refine zd ?_ _)); exact BK264.out⟩
           have n5_ : Aside0 ((w72.setCell ⟨go40, (a1 : Int).toNat, none⟩ (.int .i64 (wrap64 ((wrap64 (2 * (rd l0_1 a1))) + 1)))).heap[gb265]? = some (.cells #[.slice none 0 0, .slice none 0 0] 24 (0, 0))) := ⟨by (with_reducible repeat (first | refine ze ?_ _ | refine zg ?_ | refine zd ?_ _)); refine zK ?_ (by have h_ := Kd.R_ne HO281.out BK265.out (by decide); intro e_; exact h_ (by rw [e_]; rfl)) _; (with_reducible repeat (first | refine ze ?_ _ | refine zg ?_ | refine zd ?_ _)); exact BK265.out⟩
           have n6_ : Aside0 ((w72.setCell ⟨go40, (a1 : Int).toNat, none⟩ (.int .i64 (wrap64 ((wrap64 (2 * (rd l0_1 a1))) + 1)))).heap[gb266]? = some (.cells #[.slice none 0 0, .slice none 0 0] 24 (0, 0))) := ⟨by (with_reducible repeat (first | refine ze ?_ _ | refine zg ?_ | refine zd ?_ _)); refine zK ?_ (by have h_ := Kd.R_ne HO281.out BK266.out (by decide); intro e_; exact h_ (by rw [e_]; rfl)) _; (with_reducible repeat (first | refine ze ?_ _ | refine zg ?_ | refine zd ?_ _)); exact BK266.out⟩
           have n7_ : Aside0 ((w72.setCell ⟨go40, (a1 : Int).toNat, none⟩ (.int .i64 (wrap64 ((wrap64 (2 * (rd l0_1 a1))) + 1)))).heap[gb275]? = some (.cells #[.slice (some ⟨go33, 0, none⟩) t269.length co46, .slice (some ⟨go38, 0, none⟩) t272.length co51] 24 (0, 0))) := ⟨by (with_reducible repeat (first | refine ze ?_ _ | refine zg ?_ | refine zd ?_ _)); refine zK ?_ (by have h_ := Kd.R_ne HO281.out BK275.out (by decide); intro e_; exact h_ (by rw [e_]; rfl)) _; (with_reducible repeat (first | refine ze ?_ _ | refine zg ?_ | refine zd ?_ _)); exact BK275.out⟩
           have n8_ : Aside0 ((w72.setCell ⟨go40, (a1 : Int).toNat, none⟩ (.int .i64 (wrap64 ((wrap64 (2 * (rd l0_1 a1))) + 1)))).heap[gb282]? = some (.cells #[.slice (some ⟨go35, 0, none⟩) t276.length co55, .slice (some ⟨go40, 0, none⟩) t279.length co61] 24 (0, 0))) := ⟨by (with_reducible repeat (first | refine ze ?_ _ | refine zg ?_ | refine zd ?_ _)); refine zK ?_ (by have h_ := Kd.R_ne HO281.out BK282.out (by decide); intro e_; exact h_ (by rw [e_]; rfl)) _; (with_reducible repeat (first | refine ze ?_ _ | refine zg ?_ | refine zd ?_ _)); exact BK282.out⟩
           have n9_ : Aside0 (Below w.heap.size w (w72.setCell ⟨go40, (a1 : Int).toNat, none⟩ (.int .i64 (wrap64 ((wrap64 (2 * (rd l0_1 a1))) + 1))))) := ⟨by repeat (first | (with_reducible first | exact HB.out | apply zc | apply za | apply zb | refine zf ?_ GB40.out | refine zf ?_ GE264.out | refine zf ?_ GE265.out | refine zf ?_ GE266.out | refine zf ?_ GE275.out | refine zf ?_ GE282.out) | exact HB.out)⟩
           (try clear HO271)
           (try clear HO274)
           (try clear HO278)
           (try clear HO281)
           (try clear BK264)
           (try clear BK265)
           (try clear BK266)
           (try clear BK275)
           (try clear BK282)
           (try clear HB)
           generalize (w72.setCell ⟨go40, (a1 : Int).toNat, none⟩ (.int .i64 (wrap64 ((wrap64 (2 * (rd l0_1 a1))) + 1)))) = w74 at n0_ n1_ n2_ n3_ n4_ n5_ n6_ n7_ n8_ n9_ ⊢
           have HO271 := n0_
           have HO274 := n1_
           have HO278 := n2_
           have HO281 := n3_
           have BK264 := n4_
           have BK265 := n5_
           have BK266 := n6_
           have BK275 := n7_
           have BK282 := n8_
           have HB := n9_
           clear n0_ n1_ n2_ n3_ n4_ n5_ n6_ n7_ n8_ n9_
           try go_wp2
           have n0_ := am_ (Kd.zA HO271.out)
           have n1_ := am_ (Kd.zA HO274.out)
           have n2_ := am_ (Kd.zA HO278.out)
           have n3_ := am_ (Kd.zA HO281.out)
           have n4_ := am_ (zg BK264.out)
           have n5_ := am_ (zg BK265.out)
           have n6_ := am_ (zg BK266.out)
           have n7_ := am_ (zg BK275.out)
           have n8_ := am_ (zg BK282.out)
           have n9_ := am_ (zb HB.out)
           clear HO271
           clear HO274
           clear HO278
           clear HO281
           clear BK264
           clear BK265
           clear BK266
           clear BK275
           clear BK282
           clear HB
           have HO271 := n0_
           have HO274 := n1_
           have HO278 := n2_
           have HO281 := n3_
           have BK264 := n4_
           have BK265 := n5_
           have BK266 := n6_
           have BK275 := n7_
           have BK282 := n8_
           have HB := n9_
           clear n0_ n1_ n2_ n3_ n4_ n5_ n6_ n7_ n8_ n9_
           refine zaY (n := 5) (S := fun w' => w'.cell? ⟨gb275, 0, none⟩ = some (.slice (some ⟨go33, 0, none⟩) t269.length co46) ∧ w'.cell? ⟨gb275, 1, none⟩ = some (.slice (some ⟨go38, 0, none⟩) t272.length co51) ∧ w'.cell? ⟨gb282, 0, none⟩ = some (.slice (some ⟨go35, 0, none⟩) t276.length co55) ∧ w'.cell? ⟨gb282, 1, none⟩ = some (.slice (some ⟨go40, 0, none⟩) t279.length co61)) (ds := []) (bl_ 5 0) (by kernel_rfl) rfl rfl ⟨(zj BK275.out 0).trans rfl, (zj BK275.out 1).trans rfl, (zj BK282.out 0).trans rfl, (zj BK282.out 1).trans rfl⟩ (fun hHeld => ?_)
           generalize w74.drew = w75 at HO271 HO274 HO278 HO281 BK264 BK265 BK266 BK275 BK282 HB hHeld ⊢
           refine zau (i := 0) (N := some 75) (v := ?_) (a' := ?_) (bl_ 5 1) rfl rfl (by kernel_rfl) (fun _ _ _ h => h) (Or.inl ⟨by rfl, ?_⟩) hHeld ?_ ?_
           rotate_left
           ·rintro w' ⟨s0, s1, s2, s3⟩
            go_simp
            with_reducible rfl
           rotate_left
           ·simp only [Act.put, sI_, s0_, s1_, zl, zm]
            rfl
           refine zau (i := 1) (N := some 76) (v := ?_) (a' := ?_) (bl_ 5 3) rfl rfl (by kernel_rfl) (fun _ _ _ h => h) (Or.inl ⟨by rfl, ?_⟩) hHeld ?_ ?_
           rotate_left
           ·rintro w' ⟨s0, s1, s2, s3⟩
            go_simp
            with_reducible rfl
           rotate_left
           ·simp only [Act.put, sI_, s0_, s1_, zl, zm]
            rfl
           refine one_ (i := 2) (N := none) (bl_ 5 7) rfl rfl (by kernel_rfl) (by decide) (fun K hK => ?_)
           have hs76 : w75.cell? ⟨gb265, 0, none⟩ = some (.slice none 0 0) := (zj BK265.out 0).trans rfl
           have hfs76 := zi BK265.out 0
           have hns76_0 := NB264_265.out
           have hns76_2 := NB266_265.out
           have hns76_3 := NB275_265.out
           have hns76_4 := NB282_265.out
           have hms76_0 := NB265_264.out
           have hms76_2 := NB265_266.out
           have hms76_3 := NB265_275.out
           have hms76_4 := NB265_282.out
           have hs77 : w75.cell? ⟨gb265, 1, none⟩ = some (.slice none 0 0) := (zj BK265.out 1).trans rfl
           have hfs77 := zi BK265.out 1
           have hns77_0 := NB264_265.out
           have hns77_2 := NB266_265.out
           have hns77_3 := NB275_265.out
           have hns77_4 := NB282_265.out
           have hms77_0 := NB265_264.out
           have hms77_2 := NB265_266.out
           have hms77_3 := NB265_275.out
           have hms77_4 := NB265_282.out
           refine skip_ (w1 := ?_) (by rfl) rfl ?_ ?_
           rotate_left
           ·go_simp
            rfl
           refine hK.out _ _ ⟨((cell_far (p := ⟨gb265, _, none⟩) NB275_265.out _).trans (((cell_far (p := ⟨gb265, _, none⟩) NB275_265.out _).trans (hHeld.1)))), ((cell_far (p := ⟨gb265, _, none⟩) NB275_265.out _).trans (((cell_far (p := ⟨gb265, _, none⟩) NB275_265.out _).trans (hHeld.2.1)))), ((cell_far (p := ⟨gb265, _, none⟩) NB282_265.out _).trans (((cell_far (p := ⟨gb265, _, none⟩) NB282_265.out _).trans (hHeld.2.2.1)))), ((cell_far (p := ⟨gb265, _, none⟩) NB282_265.out _).trans (((cell_far (p := ⟨gb265, _, none⟩) NB282_265.out _).trans (hHeld.2.2.2))))⟩ (fun hHeld => ?_)
           clear hK K
           refine one_ (i := 3) (N := none) (bl_ 5 15) rfl rfl (by kernel_rfl) (by decide) (fun K hK => ?_)
           have hs78 : w75.cell? ⟨gb266, 0, none⟩ = some (.slice none 0 0) := (zj BK266.out 0).trans rfl
           have hfs78 := zi BK266.out 0
           have hns78_0 := NB264_266.out
           have hns78_1 := NB265_266.out
           have hns78_3 := NB275_266.out
           have hns78_4 := NB282_266.out
           have hms78_0 := NB266_264.out
           have hms78_1 := NB266_265.out
           have hms78_3 := NB266_275.out
           have hms78_4 := NB266_282.out
           have hs79 : w75.cell? ⟨gb266, 1, none⟩ = some (.slice none 0 0) := (zj BK266.out 1).trans rfl
           have hfs79 := zi BK266.out 1
           have hns79_0 := NB264_266.out
           have hns79_1 := NB265_266.out
           have hns79_3 := NB275_266.out
           have hns79_4 := NB282_266.out
           have hms79_0 := NB266_264.out
           have hms79_1 := NB266_265.out
           have hms79_3 := NB266_275.out
           have hms79_4 := NB266_282.out
           refine skip_ (w1 := ?_) (by rfl) rfl ?_ ?_
           rotate_left
           ·go_simp
            rfl
           refine hK.out _ _ ⟨((cell_far (p := ⟨gb266, _, none⟩) NB275_266.out _).trans (((cell_far (p := ⟨gb266, _, none⟩) NB275_266.out _).trans (hHeld.1)))), ((cell_far (p := ⟨gb266, _, none⟩) NB275_266.out _).trans (((cell_far (p := ⟨gb266, _, none⟩) NB275_266.out _).trans (hHeld.2.1)))), ((cell_far (p := ⟨gb266, _, none⟩) NB282_266.out _).trans (((cell_far (p := ⟨gb266, _, none⟩) NB282_266.out _).trans (hHeld.2.2.1)))), ((cell_far (p := ⟨gb266, _, none⟩) NB282_266.out _).trans (((cell_far (p := ⟨gb266, _, none⟩) NB282_266.out _).trans (hHeld.2.2.2))))⟩ (fun hHeld => ?_)
           clear hK K
           refine zz (i := 4) (N := some 6) (v := ?_) (a' := ?_) (bl_ 5 31) rfl rfl (by kernel_rfl) (fun _ _ _ h => h) (Or.inl ⟨by rfl, ?_⟩) ?_ ?_
           rotate_left
           ·intro w'
            go_simp
            with_reducible rfl
           rotate_left
           ·simp only [Act.put, sI_, s0_, s1_, zl, zm]
            rfl
           refine done_ (by kernel_rfl) ?_
           try go_wp2
           refine bodyPost_ret (za2 (rs := [.cell 4 24, .cell 5 24, .tmp 6]) rfl (by simp) (.cell gb265 24 #[.slice (some ⟨go33, 0, none⟩) t269.length co46, .slice (some ⟨go38, 0, none⟩) t272.length co51] (0, 0) _ rfl (by (with_reducible repeat (first | refine ze ?_ _ | refine zg ?_ | refine zd ?_ _)); refine zK ?_ NB265_266.out _; (with_reducible repeat (first | refine ze ?_ _ | refine zg ?_ | refine zd ?_ _)); refine zK ?_ NB265_266.out _; (with_reducible repeat (first | refine ze ?_ _ | refine zg ?_ | refine zd ?_ _)); refine zQ (cs := #[.slice (some ⟨go33, 0, none⟩) t269.length co46, .slice none 0 0]) ?_ 1 _ rfl; (with_reducible repeat (first | refine ze ?_ _ | refine zg ?_ | refine zd ?_ _)); refine zQ (cs := #[.slice none 0 0, .slice none 0 0]) ?_ 0 _ rfl; (with_reducible repeat (first | refine ze ?_ _ | refine zg ?_ | refine zd ?_ _)); exact BK265.out) Try.underlying24 rfl (by kernel_rfl) (.cell gb266 24 #[.slice (some ⟨go35, 0, none⟩) t276.length co55, .slice (some ⟨go40, 0, none⟩) t279.length co61] (0, 0) _ rfl (by (with_reducible repeat (first | refine ze ?_ _ | refine zg ?_ | refine zd ?_ _)); refine zQ (cs := #[.slice (some ⟨go35, 0, none⟩) t276.length co55, .slice none 0 0]) ?_ 1 _ rfl; (with_reducible repeat (first | refine ze ?_ _ | refine zg ?_ | refine zd ?_ _)); refine zQ (cs := #[.slice none 0 0, .slice none 0 0]) ?_ 0 _ rfl; (with_reducible repeat (first | refine ze ?_ _ | refine zg ?_ | refine zd ?_ _)); refine zK ?_ NB266_265.out _; (with_reducible repeat (first | refine ze ?_ _ | refine zg ?_ | refine zd ?_ _)); refine zK ?_ NB266_265.out _; (with_reducible repeat (first | refine ze ?_ _ | refine zg ?_ | refine zd ?_ _)); exact BK266.out) Try.underlying24 rfl (by kernel_rfl) (.tmp .nil)))) rfl ?_
           exact ⟨_, _, _, _, by first | rfl | (simp [zq, zp] <;> rfl) | (simp [*, zq, zp] <;> rfl), by (with_reducible repeat (first | apply Kd.zw | apply Kd.zu | apply Kd.zA)); exact Kd.zN (Kd.zX (p := ⟨gb266, 1, none⟩) (Kd.zX (p := ⟨gb266, 0, none⟩) (Kd.zX (p := ⟨gb265, 1, none⟩) (Kd.zX (p := ⟨gb265, 0, none⟩) (Kd.z5 (Kd.z5 HO271.out BK265.out (by decide)) BK266.out (by decide)) (fun _ hk => hk.1.2) (.slice (some ⟨go33, 0, none⟩) t269.length co46)) (fun _ hk => hk.1.2) (.slice (some ⟨go38, 0, none⟩) t272.length co51)) (fun _ hk => hk.2) (.slice (some ⟨go35, 0, none⟩) t276.length co55)) (fun _ hk => hk.2) (.slice (some ⟨go40, 0, none⟩) t279.length co61)) (fun _ hk => ⟨hk.1.1.1, ⟨hk.1.1.2.1, hk.1.1.2.2⟩⟩), by (with_reducible repeat (first | apply Kd.zw | apply Kd.zu | apply Kd.zA)); exact Kd.zN (Kd.zX (p := ⟨gb266, 1, none⟩) (Kd.zX (p := ⟨gb266, 0, none⟩) (Kd.zX (p := ⟨gb265, 1, none⟩) (Kd.zX (p := ⟨gb265, 0, none⟩) (Kd.z5 (Kd.z5 HO274.out BK265.out (by decide)) BK266.out (by decide)) (fun _ hk => hk.1.2) (.slice (some ⟨go33, 0, none⟩) t269.length co46)) (fun _ hk => hk.1.2) (.slice (some ⟨go38, 0, none⟩) t272.length co51)) (fun _ hk => hk.2) (.slice (some ⟨go35, 0, none⟩) t276.length co55)) (fun _ hk => hk.2) (.slice (some ⟨go40, 0, none⟩) t279.length co61)) (fun _ hk => ⟨hk.1.1.1, ⟨hk.1.1.2.1, hk.1.1.2.2⟩⟩), by (with_reducible repeat (first | apply Kd.zw | apply Kd.zu | apply Kd.zA)); exact Kd.zN (Kd.zX (p := ⟨gb266, 1, none⟩) (Kd.zX (p := ⟨gb266, 0, none⟩) (Kd.zX (p := ⟨gb265, 1, none⟩) (Kd.zX (p := ⟨gb265, 0, none⟩) (Kd.z5 (Kd.z5 HO278.out BK265.out (by decide)) BK266.out (by decide)) (fun _ hk => hk.1.2) (.slice (some ⟨go33, 0, none⟩) t269.length co46)) (fun _ hk => hk.1.2) (.slice (some ⟨go38, 0, none⟩) t272.length co51)) (fun _ hk => hk.2) (.slice (some ⟨go35, 0, none⟩) t276.length co55)) (fun _ hk => hk.2) (.slice (some ⟨go40, 0, none⟩) t279.length co61)) (fun _ hk => ⟨hk.1.1.1, ⟨hk.1.1.2.1, hk.1.1.2.2⟩⟩), by (with_reducible repeat (first | apply Kd.zw | apply Kd.zu | apply Kd.zA)); exact Kd.zN (Kd.zX (p := ⟨gb266, 1, none⟩) (Kd.zX (p := ⟨gb266, 0, none⟩) (Kd.zX (p := ⟨gb265, 1, none⟩) (Kd.zX (p := ⟨gb265, 0, none⟩) (Kd.z5 (Kd.z5 HO281.out BK265.out (by decide)) BK266.out (by decide)) (fun _ hk => hk.1.2) (.slice (some ⟨go33, 0, none⟩) t269.length co46)) (fun _ hk => hk.1.2) (.slice (some ⟨go38, 0, none⟩) t272.length co51)) (fun _ hk => hk.2) (.slice (some ⟨go35, 0, none⟩) t276.length co55)) (fun _ hk => hk.2) (.slice (some ⟨go40, 0, none⟩) t279.length co61)) (fun _ hk => ⟨hk.1.1.1, ⟨hk.1.1.2.1, hk.1.1.2.2⟩⟩), by repeat (first | (with_reducible first | exact HB.out | apply zc | apply za | apply zb | refine zf ?_ GE264.out | refine zf ?_ GE265.out | refine zf ?_ GE266.out | refine zf ?_ GE275.out | refine zf ?_ GE282.out) | exact HB.out)⟩
          ·rw [if_neg c39] at H
           exact absurd H (by simp)
         ·rw [if_neg c37] at H
          exact absurd H (by simp)
        ·rw [if_neg c36] at H
         exact absurd H (by simp)
       ·rw [if_neg c34] at H
        exact absurd H (by simp)
      ·rw [if_neg c32] at H
       exact absurd H (by simp)
     ·rw [if_neg c31] at H
      exact absurd H (by simp)
 ·rw [if_neg c4] at H
  have c4b0 : (t267 == 0) = false := beq_eq_false_iff_ne.mpr c4
  have c4b1 : (t267 != 0) = true := bne_iff_ne.mpr c4
  simp only [Option.some.injEq, Prod.mk.injEq] at H
  obtain ⟨rfl, rfl, rfl, rfl, rfl⟩ := H
  go_enter Try.func16, Try.ntmps16
  go_wp2_with (first | ((with_reducible refine zr (N := 2) rfl ?_); (try (refine z6 (by rfl) ?_; dsimp only)); refine zt ?hg (N := 2) ?hd (cs := #[.slice A0_0 l0_0.length c0_0, .slice A0_1 l0_1.length c0_1]) (t := 24) ?hr ?_; (case hd => rfl); (case hg => rfl); (case hr => first | (go_simp; done) | (go_simp; rfl)); intro gb264 hg w80 hbox hb; have n0_ := am_ (zh (by repeat (first | (with_reducible first | exact HB.out | apply zc | apply za | apply zb) | exact HB.out)) hb); have n1_ := am_ (hbox); have n2_ := am_ ((by rw [hg]; exact (zk (by repeat (first | (with_reducible first | exact HB.out | apply zc | apply za | apply zb) | exact HB.out))) : w.heap.size ≤ gb264)); have n3_ := am_ ((by rw [hg]; exact (zk (by repeat (first | (with_reducible first | exact HB.out | apply zc | apply za | apply zb) | exact HB.out))) : w.heap.size ≤ gb264)); clear HB; have HB := n0_; have BK264 := n1_; have GW264 := n2_; have GE264 := n3_; clear n0_ n1_ n2_ n3_; clear hb hbox hg) | ((with_reducible refine zr (N := 4) rfl ?_); (try (refine z6 (by rfl) ?_; dsimp only)); refine zt ?hg (N := 4) ?hd (cs := #[.slice none 0 0, .slice none 0 0]) (t := 24) ?hr ?_; (case hd => rfl); (case hg => rfl); (case hr => first | (go_simp; done) | (go_simp; rfl)); intro gb265 hg w81 hbox hb; have n0_ := am_ (zo (g := gb264) (o := .cells #[.slice A0_0 l0_0.length c0_0, .slice A0_1 l0_1.length c0_1] 24 (0, 0)) (by (with_reducible repeat (first | refine ze ?_ _ | refine zg ?_ | refine zd ?_ _)); exact BK264.out) hb); have n1_ := am_ (zh (by repeat (first | (with_reducible first | exact HB.out | apply zc | apply za | apply zb | refine zf ?_ GE264.out) | exact HB.out)) hb); have n2_ := am_ (hbox); have n3_ := am_ ((by rw [hg]; exact (zk (by repeat (first | (with_reducible first | exact HB.out | apply zc | apply za | apply zb | refine zf ?_ GE264.out) | exact HB.out))) : w.heap.size ≤ gb265)); have n4_ := am_ ((by rw [hg]; exact (zk (by repeat (first | (with_reducible first | exact HB.out | apply zc | apply za | apply zb | refine zf ?_ GE264.out) | exact HB.out))) : w.heap.size ≤ gb265)); have n5_ := am_ ((by rw [hg]; exact Nat.ne_of_lt (zL (g := gb264) (o := .cells #[.slice A0_0 l0_0.length c0_0, .slice A0_1 l0_1.length c0_1] 24 (0, 0)) (by (with_reducible repeat (first | refine ze ?_ _ | refine zg ?_ | refine zd ?_ _)); exact BK264.out)) : gb264 ≠ gb265)); have n6_ := am_ ((by rw [hg]; exact Nat.ne_of_gt (zL (g := gb264) (o := .cells #[.slice A0_0 l0_0.length c0_0, .slice A0_1 l0_1.length c0_1] 24 (0, 0)) (by (with_reducible repeat (first | refine ze ?_ _ | refine zg ?_ | refine zd ?_ _)); exact BK264.out)) : gb265 ≠ gb264)); clear BK264; clear HB; have BK264 := n0_; have HB := n1_; have BK265 := n2_; have GW265 := n3_; have GE265 := n4_; have NB264_265 := n5_; have NB265_264 := n6_; clear n0_ n1_ n2_ n3_ n4_ n5_ n6_; clear hb hbox hg) | ((with_reducible refine zr (N := 5) rfl ?_); (try (refine z6 (by rfl) ?_; dsimp only)); refine zt ?hg (N := 5) ?hd (cs := #[.slice none 0 0, .slice none 0 0]) (t := 24) ?hr ?_; (case hd => rfl); (case hg => rfl); (case hr => first | (go_simp; done) | (go_simp; rfl)); intro gb266 hg w82 hbox hb; have n0_ := am_ (zo (g := gb264) (o := .cells #[.slice A0_0 l0_0.length c0_0, .slice A0_1 l0_1.length c0_1] 24 (0, 0)) (by (with_reducible repeat (first | refine ze ?_ _ | refine zg ?_ | refine zd ?_ _)); exact BK264.out) hb); have n1_ := am_ (zo (g := gb265) (o := .cells #[.slice none 0 0, .slice none 0 0] 24 (0, 0)) (by (with_reducible repeat (first | refine ze ?_ _ | refine zg ?_ | refine zd ?_ _)); exact BK265.out) hb); have n2_ := am_ (zh (by repeat (first | (with_reducible first | exact HB.out | apply zc | apply za | apply zb | refine zf ?_ GE264.out | refine zf ?_ GE265.out) | exact HB.out)) hb); have n3_ := am_ (hbox); have n4_ := am_ ((by rw [hg]; exact (zk (by repeat (first | (with_reducible first | exact HB.out | apply zc | apply za | apply zb | refine zf ?_ GE264.out | refine zf ?_ GE265.out) | exact HB.out))) : w.heap.size ≤ gb266)); have n5_ := am_ ((by rw [hg]; exact (zk (by repeat (first | (with_reducible first | exact HB.out | apply zc | apply za | apply zb | refine zf ?_ GE264.out | refine zf ?_ GE265.out) | exact HB.out))) : w.heap.size ≤ gb266)); have n6_ := am_ ((by rw [hg]; exact Nat.ne_of_lt (zL (g := gb264) (o := .cells #[.slice A0_0 l0_0.length c0_0, .slice A0_1 l0_1.length c0_1] 24 (0, 0)) (by (with_reducible repeat (first | refine ze ?_ _ | refine zg ?_ | refine zd ?_ _)); exact BK264.out)) : gb264 ≠ gb266)); have n7_ := am_ ((by rw [hg]; exact Nat.ne_of_gt (zL (g := gb264) (o := .cells #[.slice A0_0 l0_0.length c0_0, .slice A0_1 l0_1.length c0_1] 24 (0, 0)) (by (with_reducible repeat (first | refine ze ?_ _ | refine zg ?_ | refine zd ?_ _)); exact BK264.out)) : gb266 ≠ gb264)); have n8_ := am_ ((by rw [hg]; exact Nat.ne_of_lt (zL (g := gb265) (o := .cells #[.slice none 0 0, .slice none 0 0] 24 (0, 0)) (by (with_reducible repeat (first | refine ze ?_ _ | refine zg ?_ | refine zd ?_ _)); exact BK265.out)) : gb265 ≠ gb266)); have n9_ := am_ ((by rw [hg]; exact Nat.ne_of_gt (zL (g := gb265) (o := .cells #[.slice none 0 0, .slice none 0 0] 24 (0, 0)) (by (with_reducible repeat (first | refine ze ?_ _ | refine zg ?_ | refine zd ?_ _)); exact BK265.out)) : gb266 ≠ gb265)); clear BK264; clear BK265; clear HB; have BK264 := n0_; have BK265 := n1_; have HB := n2_; have BK266 := n3_; have GW266 := n4_; have GE266 := n5_; have NB264_266 := n6_; have NB266_264 := n7_; have NB265_266 := n8_; have NB266_265 := n9_; clear n0_ n1_ n2_ n3_ n4_ n5_ n6_ n7_ n8_ n9_; clear hb hbox hg; have hnb83 := NB264_265.out; have hnc83 := NB265_264.out; have hnb84 := NB264_266.out; have hnc84 := NB266_264.out; have hcz85_0 : w82.cell? ⟨gb264, 0, none⟩ = some (.slice A0_0 l0_0.length c0_0) := (zj BK264.out 0).trans rfl; have hcz85_1 : w82.cell? ⟨gb264, 1, none⟩ = some (.slice A0_1 l0_1.length c0_1) := (zj BK264.out 1).trans rfl; have hfz85_0 := zi BK264.out 0; have hfz85_1 := zi BK264.out 1) | ((with_reducible refine zV (f := 18) rfl ?_); refine zaF (some 13) rfl rfl Try.func18 (by kernel_rfl) rfl #[.agg #[.slice A0_0 l0_0.length c0_0, .slice A0_1 l0_1.length c0_1], .int .i64 (l0_0.length : Int)] rfl (by (try simp only [List.map_toArray, List.map_cons, List.map_nil]); first | done | rfl | (simp only [List.length_drop, List.length_take]; rfl)) ?_; (with_reducible refine (zy.calls k _ _ l0_0 _ _ l0_1 (l0_0.length : Int) t267 _ ?side1 ?side2 ?side3 ?side4 A3.out).mono ?_); (case side1 => repeat (first | exact (Kd.zU HR0_0.out HB.out) | (with_reducible refine Kd.zaa ?_ _) | (with_reducible refine Kd.zab ?_ _) | (with_reducible refine Kd.zam ?_))); (case side2 => exact HC0_0.out); (case side3 => repeat (first | exact (Kd.zU HR0_1.out HB.out) | (with_reducible refine Kd.zaa ?_ _) | (with_reducible refine Kd.zab ?_ _) | (with_reducible refine Kd.zam ?_))); (case side4 => exact HC0_1.out); rintro e w86 ⟨rfl, hb⟩; refine ⟨_, rfl, ?_⟩; have n0_ := am_ (zo (g := gb264) (o := .cells #[.slice A0_0 l0_0.length c0_0, .slice A0_1 l0_1.length c0_1] 24 (0, 0)) (by (with_reducible repeat (first | refine ze ?_ _ | refine zg ?_ | refine zd ?_ _)); exact BK264.out) hb); have n1_ := am_ (zo (g := gb265) (o := .cells #[.slice none 0 0, .slice none 0 0] 24 (0, 0)) (by (with_reducible repeat (first | refine ze ?_ _ | refine zg ?_ | refine zd ?_ _)); exact BK265.out) hb); have n2_ := am_ (zo (g := gb266) (o := .cells #[.slice none 0 0, .slice none 0 0] 24 (0, 0)) (by (with_reducible repeat (first | refine ze ?_ _ | refine zg ?_ | refine zd ?_ _)); exact BK266.out) hb); have n3_ := am_ (zh (by repeat (first | (with_reducible first | exact HB.out | apply zc | apply za | apply zb | refine zf ?_ GE264.out | refine zf ?_ GE265.out | refine zf ?_ GE266.out) | exact HB.out)) hb); clear BK264; clear BK265; clear BK266; clear HB; have BK264 := n0_; have BK265 := n1_; have BK266 := n2_; have HB := n3_; clear n0_ n1_ n2_ n3_; (try clear hb); (try clear hb2); (try clear hk); (try clear hi); have hnb87 := NB265_266.out; have hnc87 := NB266_265.out; have hcz88_0 : w86.cell? ⟨gb265, 0, none⟩ = some (.slice none 0 0) := (zj BK265.out 0).trans rfl; have hcz88_1 : w86.cell? ⟨gb265, 1, none⟩ = some (.slice none 0 0) := (zj BK265.out 1).trans rfl; have hfz88_0 := zi BK265.out 0; have hfz88_1 := zi BK265.out 1; have hcz89_0 : w86.cell? ⟨gb266, 0, none⟩ = some (.slice none 0 0) := (zj BK266.out 0).trans rfl; have hcz89_1 : w86.cell? ⟨gb266, 1, none⟩ = some (.slice none 0 0) := (zj BK266.out 1).trans rfl; have hfz89_0 := zi BK266.out 0; have hfz89_1 := zi BK266.out 1))
  refine bodyPost_ret (za2 (rs := [.cell 4 24, .cell 5 24, .tmp 6]) rfl (by simp) (.cell gb265 24 #[.slice none 0 0, .slice none 0 0] (0, 0) _ rfl (by (with_reducible repeat (first | refine ze ?_ _ | refine zg ?_ | refine zd ?_ _)); refine zK ?_ NB265_266.out _; (with_reducible repeat (first | refine ze ?_ _ | refine zg ?_ | refine zd ?_ _)); refine zK ?_ NB265_266.out _; (with_reducible repeat (first | refine ze ?_ _ | refine zg ?_ | refine zd ?_ _)); refine zQ (cs := #[.slice none 0 0, .slice none 0 0]) ?_ 1 _ rfl; (with_reducible repeat (first | refine ze ?_ _ | refine zg ?_ | refine zd ?_ _)); refine zQ (cs := #[.slice none 0 0, .slice none 0 0]) ?_ 0 _ rfl; (with_reducible repeat (first | refine ze ?_ _ | refine zg ?_ | refine zd ?_ _)); exact BK265.out) Try.underlying24 rfl (by kernel_rfl) (.cell gb266 24 #[.slice none 0 0, .slice none 0 0] (0, 0) _ rfl (by (with_reducible repeat (first | refine ze ?_ _ | refine zg ?_ | refine zd ?_ _)); refine zQ (cs := #[.slice none 0 0, .slice none 0 0]) ?_ 1 _ rfl; (with_reducible repeat (first | refine ze ?_ _ | refine zg ?_ | refine zd ?_ _)); refine zQ (cs := #[.slice none 0 0, .slice none 0 0]) ?_ 0 _ rfl; (with_reducible repeat (first | refine ze ?_ _ | refine zg ?_ | refine zd ?_ _)); refine zK ?_ NB266_265.out _; (with_reducible repeat (first | refine ze ?_ _ | refine zg ?_ | refine zd ?_ _)); refine zK ?_ NB266_265.out _; (with_reducible repeat (first | refine ze ?_ _ | refine zg ?_ | refine zd ?_ _)); exact BK266.out) Try.underlying24 rfl (by kernel_rfl) (.tmp .nil)))) rfl ?_
  exact ⟨_, _, _, _, by first | rfl | (simp [zq, zp] <;> rfl) | (simp [*, zq, zp] <;> rfl), by first | exact Kd.zaK _ _ _ _ _ | exact Kd.zaP _ _ _ _ _ | exact Kd.zaT _ _ _ _ _ | exact Kd.zaO _ _ _ _ _ | exact Kd.zaS _ _ _ _ _, by first | exact Kd.zaK _ _ _ _ _ | exact Kd.zaP _ _ _ _ _ | exact Kd.zaT _ _ _ _ _ | exact Kd.zaO _ _ _ _ _ | exact Kd.zaS _ _ _ _ _, by first | exact Kd.zaK _ _ _ _ _ | exact Kd.zaP _ _ _ _ _ | exact Kd.zaT _ _ _ _ _ | exact Kd.zaO _ _ _ _ _ | exact Kd.zaS _ _ _ _ _, by first | exact Kd.zaK _ _ _ _ _ | exact Kd.zaP _ _ _ _ _ | exact Kd.zaT _ _ _ _ _ | exact Kd.zaO _ _ _ _ _ | exact Kd.zaS _ _ _ _ _, by repeat (first | (with_reducible first | exact HB.out | apply zc | apply za | apply zb | refine zf ?_ GE264.out | refine zf ?_ GE265.out | refine zf ?_ GE266.out) | exact HB.out)⟩
end Go.Proofs.Ytlidbaejhmamjaa.PB

namespace Go.Proofs.Ytlidbaejhmamjaa.PB
open Go.RowKit Go.Proofs.YtlidbaejhmamjaaW.PrintWords Go.Proofs.YtlidbaejhmamjaaW.PrintLast Go.Proofs.YtlidbaejhmamjaaW.PrintMore
attribute [local go_sem] zao zar zaB zaC zaf zag zap zas   -- for this text's walks alone
set_option linter.unusedVariables false
set_option linter.unusedSimpArgs false
def zac.l0 : Nat → Int → Int → List Int → List Int → Option (Int × Int)
 | 0, _, _, _, _ => none
 | k + 1, x4, x5, x292000, x292001 => if x5 < (x292000.length : Int) then (if 0 ≤ x5 then (zac.l0 k (wrap64 (x4 + (rd x292000 x5))) (wrap64 (x5 + 1)) x292000 x292001) else (none)) else (some (x4, 0))
def zac.f (k : Nat) (l0_0 : List Int) (l0_1 : List Int) : Option (Int × Int) := (zy.f k l0_0 l0_1 (l0_0.length : Int)).bind fun t292 => (if t292 = 0 then (zac.l0 k 0 0 l0_0 l0_1) else (some (0, 180)))
set_option maxHeartbeats 8000000 in
set_option maxRecDepth 100000 in
theorem zac.calls (k : Nat) (A0_0 : Option Addr) (c0_0 : Nat) (l0_0 : List Int) (A0_1 : Option Addr) (c0_1 : Nat) (l0_1 : List Int) (r1 : Int) (r2 : Int) (w : World) (hr0_0 : Kd.C (Kd.int .i64) w A0_0 l0_0.length l0_0) (hc0_0 : l0_0.length ≤ c0_0) (hr0_1 : Kd.C (Kd.int .i64) w A0_1 l0_1.length l0_1) (hc0_1 : l0_1.length ≤ c0_1) (h : zac.f k l0_0 l0_1 = some (r1, r2)) :
  Calls Try.prog 20 #[.agg #[.slice A0_0 l0_0.length c0_0, .slice A0_1 l0_1.length c0_1]] w fun e w' => e = .returned (.tuple #[.int .i64 r1, .int .i64 r2]) ∧ Below w.heap.size w w' := by
 have hu24 := Try.underlying24
 have HR0_0 := am_ hr0_0
 have HC0_0 := am_ hc0_0
 clear hr0_0 hc0_0
 have HR0_1 := am_ hr0_1
 have HC0_1 := am_ hc0_1
 clear hr0_1 hc0_1
 have HB := am_ (Below.refl w.heap.size w)
 have H : ((zy.f k l0_0 l0_1 (l0_0.length : Int)).bind fun t292 => (if t292 = 0 then (zac.l0 k 0 0 l0_0 l0_1) else (some (0, 180)))) = some (r1, r2) := h
 clear h
 replace H := Option.bind_eq_some_iff.mp H
 obtain ⟨t292, A20, H⟩ := H
 replace H : (if t292 = 0 then (zac.l0 k 0 0 l0_0 l0_1) else (some (0, 180))) = some (r1, r2) := H
 have A2 := am_ A20
 clear A20
 by_cases c3 : t292 = 0
 ·rw [if_pos c3] at H
  have c3b0 : (t292 == 0) = true := beq_iff_eq.mpr c3
  have c3b1 : (t292 != 0) = false := bne_eq_false_iff_eq.mpr c3
  clear c3
  have H' := am_ H
  clear H
  go_enter Try.func20, Try.ntmps20
  go_wp2_with (first | ((with_reducible refine zr (N := 1) rfl ?_); refine zt ?hg (N := 1) ?hd (cs := #[.slice A0_0 l0_0.length c0_0, .slice A0_1 l0_1.length c0_1]) (t := 24) ?hr ?_; (case hd => rfl); (case hg => rfl); (case hr => first | (go_simp; done) | (go_simp; rfl)); intro gb291 hg w4 hbox hb; have n0_ := am_ (zh (by repeat (first | (with_reducible first | exact HB.out | apply zc | apply za | apply zb) | exact HB.out)) hb); have n1_ := am_ (hbox); have n2_ := am_ ((by rw [hg]; exact (zk (by repeat (first | (with_reducible first | exact HB.out | apply zc | apply za | apply zb) | exact HB.out))) : w.heap.size ≤ gb291)); have n3_ := am_ ((by rw [hg]; exact (zk (by repeat (first | (with_reducible first | exact HB.out | apply zc | apply za | apply zb) | exact HB.out))) : w.heap.size ≤ gb291)); clear HB; have HB := n0_; have BK291 := n1_; have GW291 := n2_; have GE291 := n3_; clear n0_ n1_ n2_ n3_; clear hb hbox hg; have hcz5_0 : w4.cell? ⟨gb291, 0, none⟩ = some (.slice A0_0 l0_0.length c0_0) := (zj BK291.out 0).trans rfl; have hcz5_1 : w4.cell? ⟨gb291, 1, none⟩ = some (.slice A0_1 l0_1.length c0_1) := (zj BK291.out 1).trans rfl; have hfz5_0 := zi BK291.out 0; have hfz5_1 := zi BK291.out 1) | ((with_reducible refine zV (f := 18) rfl ?_); refine zaF (some 10) rfl rfl Try.func18 (by kernel_rfl) rfl #[.agg #[.slice A0_0 l0_0.length c0_0, .slice A0_1 l0_1.length c0_1], .int .i64 (l0_0.length : Int)] rfl (by (try simp only [List.map_toArray, List.map_cons, List.map_nil]); first | done | rfl | (simp only [List.length_drop, List.length_take]; rfl)) ?_; (with_reducible refine (zy.calls k _ _ l0_0 _ _ l0_1 (l0_0.length : Int) t292 _ ?side1 ?side2 ?side3 ?side4 A2.out).mono ?_); (case side1 => repeat (first | exact (Kd.zU HR0_0.out HB.out) | (with_reducible refine Kd.zaa ?_ _) | (with_reducible refine Kd.zab ?_ _) | (with_reducible refine Kd.zam ?_))); (case side2 => exact HC0_0.out); (case side3 => repeat (first | exact (Kd.zU HR0_1.out HB.out) | (with_reducible refine Kd.zaa ?_ _) | (with_reducible refine Kd.zab ?_ _) | (with_reducible refine Kd.zam ?_))); (case side4 => exact HC0_1.out); rintro e w6 ⟨rfl, hb⟩; refine ⟨_, rfl, ?_⟩; have n0_ := am_ (zo (g := gb291) (o := .cells #[.slice A0_0 l0_0.length c0_0, .slice A0_1 l0_1.length c0_1] 24 (0, 0)) (by (with_reducible repeat (first | refine ze ?_ _ | refine zg ?_ | refine zd ?_ _)); exact BK291.out) hb); have n1_ := am_ (zh (by repeat (first | (with_reducible first | exact HB.out | apply zc | apply za | apply zb | refine zf ?_ GE291.out) | exact HB.out)) hb); clear BK291; clear HB; have BK291 := n0_; have HB := n1_; clear n0_ n1_; (try clear hb); (try clear hb2); (try clear hk); (try clear hi)))
  go_loopg [4, 5] k (fun kq v4 v5 w' => ∃ (x4_1 : Int) (x5_1 : Int), v4 = .int .i64 x4_1 ∧ v5 = .int .i64 x5_1 ∧ Aside0 (zac.l0 kq x4_1 x5_1 l0_0 l0_1 = some (r1, r2)) ∧ Aside0 (kq ≤ k) ∧ Aside0 (w'.heap[gb291]? = some (.cells #[(.slice A0_0 l0_0.length c0_0), (.slice A0_1 l0_1.length c0_1)] 24 (0, 0))) ∧ Aside0 (Below w.heap.size w w'))
  case atStart => exact ⟨(0), (0), (by first | rfl | (simp; done) | (simp [*]; done)), (by first | rfl | (simp; done) | (simp [*]; done)), H', ⟨Nat.le_refl _⟩, ⟨by (with_reducible repeat (first | refine ze ?_ _ | refine zg ?_ | refine zd ?_ _)); exact BK291.out⟩, ⟨by repeat (first | (with_reducible first | exact HB.out | apply zc | apply za | apply zb | refine zf ?_ GE291.out) | exact HB.out)⟩⟩
  case round =>
   clear H'
   try clear c1
   try clear c2
   try clear p2
   try clear c3
   try clear c3b0
   try clear c3b1
   try clear hcz5_0
   try clear hcz5_1
   try clear hfz5_0
   try clear hfz5_1
   obtain ⟨x4_1, x5_1, rfl, rfl, HA, HK1, BK291, HB⟩ := hrel
   cases gk with
   | zero => exact absurd HA.out (by simp [zac.l0])
   | succ k1 =>
    have H := HA.out
    clear HA
    simp only [zac.l0] at H
    by_cases c7 : x5_1 < (l0_0.length : Int)
    ·rw [if_pos c7] at H
     have c7b0 : decide (x5_1 < (l0_0.length : Int)) = true := decide_eq_true c7
     clear c7
     by_cases c8 : 0 ≤ x5_1
     ·rw [if_pos c8] at H
      have c8b0 : decide (0 ≤ x5_1) = true := decide_eq_true c8
      clear c8
      have H' := am_ H
      clear H
      have hcz9_0 : wr.cell? ⟨gb291, 0, none⟩ = some (.slice A0_0 l0_0.length c0_0) := (zj BK291.out 0).trans rfl
      have hcz9_1 : wr.cell? ⟨gb291, 1, none⟩ = some (.slice A0_1 l0_1.length c0_1) := (zj BK291.out 1).trans rfl
      have hfz9_0 := zi BK291.out 0
      have hfz9_1 := zi BK291.out 1
      have p293 : 0 ≤ (x5_1 : Int) := of_decide_eq_true (by first | (with_reducible assumption) | assumption)
      have q293 : x5_1 < (l0_0.length : Int) := of_decide_eq_true (by first | (with_reducible assumption) | assumption)
      obtain ⟨ad293, e293, hx293_0⟩ := Kd.z3 HR0_0.out x5_1 p293 q293
      cases e293
      replace hx293_0 := (HB.out.cell (World.block_lt_of_cell? w _ hx293_0)).trans hx293_0
      replace p293 := eq_true p293
      replace q293 := eq_true q293
      go_wp2
      go_roundg k1
      case measure => have := HK1.out; omega
      case rel => exact ⟨(wrap64 (x4_1 + (rd l0_0 x5_1))), (wrap64 (x5_1 + 1)), (by first | rfl | (simp; done) | (simp [*]; done)), (by first | rfl | (simp; done) | (simp [*]; done)), H', ⟨by have := HK1.out; omega⟩, ⟨by (with_reducible repeat (first | refine ze ?_ _ | refine zg ?_ | refine zd ?_ _)); exact BK291.out⟩, ⟨by repeat (first | (with_reducible first | exact HB.out | apply zc | apply za | apply zb | refine zf ?_ GE291.out) | exact HB.out)⟩⟩
     ·rw [if_neg c8] at H
      exact absurd H (by simp)
    ·rw [if_neg c7] at H
     have c7b0 : decide (x5_1 < (l0_0.length : Int)) = false := decide_eq_false c7
     clear c7
     simp only [Option.some.injEq, Prod.mk.injEq] at H
     obtain ⟨rfl, rfl⟩ := H
     have hcz10_0 : wr.cell? ⟨gb291, 0, none⟩ = some (.slice A0_0 l0_0.length c0_0) := (zj BK291.out 0).trans rfl
     have hcz10_1 : wr.cell? ⟨gb291, 1, none⟩ = some (.slice A0_1 l0_1.length c0_1) := (zj BK291.out 1).trans rfl
     have hfz10_0 := zi BK291.out 0
     have hfz10_1 := zi BK291.out 1
     go_wp2
     go_ret2
     exact ⟨by first | rfl | (simp [zq, zp] <;> rfl) | (simp [*, zq, zp] <;> rfl), by repeat (first | (with_reducible first | exact HB.out | apply zc | apply za | apply zb | refine zf ?_ GE291.out) | exact HB.out)⟩
 ·rw [if_neg c3] at H
  have c3b0 : (t292 == 0) = false := beq_eq_false_iff_ne.mpr c3
  have c3b1 : (t292 != 0) = true := bne_iff_ne.mpr c3
  simp only [Option.some.injEq, Prod.mk.injEq] at H
  obtain ⟨rfl, rfl⟩ := H
  go_enter Try.func20, Try.ntmps20
  go_wp2_with (first | ((with_reducible refine zr (N := 1) rfl ?_); refine zt ?hg (N := 1) ?hd (cs := #[.slice A0_0 l0_0.length c0_0, .slice A0_1 l0_1.length c0_1]) (t := 24) ?hr ?_; (case hd => rfl); (case hg => rfl); (case hr => first | (go_simp; done) | (go_simp; rfl)); intro gb291 hg w11 hbox hb; have n0_ := am_ (zh (by repeat (first | (with_reducible first | exact HB.out | apply zc | apply za | apply zb) | exact HB.out)) hb); have n1_ := am_ (hbox); have n2_ := am_ ((by rw [hg]; exact (zk (by repeat (first | (with_reducible first | exact HB.out | apply zc | apply za | apply zb) | exact HB.out))) : w.heap.size ≤ gb291)); have n3_ := am_ ((by rw [hg]; exact (zk (by repeat (first | (with_reducible first | exact HB.out | apply zc | apply za | apply zb) | exact HB.out))) : w.heap.size ≤ gb291)); clear HB; have HB := n0_; have BK291 := n1_; have GW291 := n2_; have GE291 := n3_; clear n0_ n1_ n2_ n3_; clear hb hbox hg; have hcz12_0 : w11.cell? ⟨gb291, 0, none⟩ = some (.slice A0_0 l0_0.length c0_0) := (zj BK291.out 0).trans rfl; have hcz12_1 : w11.cell? ⟨gb291, 1, none⟩ = some (.slice A0_1 l0_1.length c0_1) := (zj BK291.out 1).trans rfl; have hfz12_0 := zi BK291.out 0; have hfz12_1 := zi BK291.out 1) | ((with_reducible refine zV (f := 18) rfl ?_); refine zaF (some 10) rfl rfl Try.func18 (by kernel_rfl) rfl #[.agg #[.slice A0_0 l0_0.length c0_0, .slice A0_1 l0_1.length c0_1], .int .i64 (l0_0.length : Int)] rfl (by (try simp only [List.map_toArray, List.map_cons, List.map_nil]); first | done | rfl | (simp only [List.length_drop, List.length_take]; rfl)) ?_; (with_reducible refine (zy.calls k _ _ l0_0 _ _ l0_1 (l0_0.length : Int) t292 _ ?side1 ?side2 ?side3 ?side4 A2.out).mono ?_); (case side1 => repeat (first | exact (Kd.zU HR0_0.out HB.out) | (with_reducible refine Kd.zaa ?_ _) | (with_reducible refine Kd.zab ?_ _) | (with_reducible refine Kd.zam ?_))); (case side2 => exact HC0_0.out); (case side3 => repeat (first | exact (Kd.zU HR0_1.out HB.out) | (with_reducible refine Kd.zaa ?_ _) | (with_reducible refine Kd.zab ?_ _) | (with_reducible refine Kd.zam ?_))); (case side4 => exact HC0_1.out); rintro e w13 ⟨rfl, hb⟩; refine ⟨_, rfl, ?_⟩; have n0_ := am_ (zo (g := gb291) (o := .cells #[.slice A0_0 l0_0.length c0_0, .slice A0_1 l0_1.length c0_1] 24 (0, 0)) (by (with_reducible repeat (first | refine ze ?_ _ | refine zg ?_ | refine zd ?_ _)); exact BK291.out) hb); have n1_ := am_ (zh (by repeat (first | (with_reducible first | exact HB.out | apply zc | apply za | apply zb | refine zf ?_ GE291.out) | exact HB.out)) hb); clear BK291; clear HB; have BK291 := n0_; have HB := n1_; clear n0_ n1_; (try clear hb); (try clear hb2); (try clear hk); (try clear hi)))
  go_ret2
  exact ⟨by first | rfl | (simp [zq, zp] <;> rfl) | (simp [*, zq, zp] <;> rfl), by repeat (first | (with_reducible first | exact HB.out | apply zc | apply za | apply zb | refine zf ?_ GE291.out) | exact HB.out)⟩
end Go.Proofs.Ytlidbaejhmamjaa.PB

namespace Go.Proofs.Ytlidbaejhmamjaa.LA
open Go.RowKit Go.Proofs.YtlidbaejhmamjaaW.PrintWords Go.Proofs.YtlidbaejhmamjaaW.PrintLast Go.Proofs.YtlidbaejhmamjaaW.PrintMore Go.Proofs.Ytlidbaejhmamjaa.PB
set_option linter.unusedVariables false
set_option linter.unusedSimpArgs false
theorem refHalve_ev (lv at_ : List Int) (s : Int) : EvS (fun k => zB.f k lv at_ s) (hL lv at_ s, hA lv at_ s, hL lv at_ s, hB lv at_ s, hE lv at_ s) := by
 unfold zB.f
 refine EvS.bind (refCheck_ev lv at_ _) ?_
 rw [chk_self]
 by_cases hr : Reg lv at_
 ·simp only [if_pos hr, if_true]
  have bad : ¬ HOk lv at_ s → EvS (fun k => zB.j0 k s true lv at_) (hL lv at_ s, hA lv at_ s, hL lv at_ s, hB lv at_ s, hE lv at_ s) := fun h => by
   unfold hL hA hB hE
   simp only [if_neg h, if_pos hr]
   exact EvS.done fun k => by simp only [zB.j0]; rfl
  by_cases h0 : s < 0
  ·simp only [if_pos h0]; exact bad (fun h => by have := h.2.1; omega)
  ·by_cases h1 : s ≥ (lv.length : Int)
   ·simp only [if_neg h0, if_pos h1]; exact bad (fun h => by have := h.2.2.1; omega)
   ·obtain ⟨i, rfl⟩ : ∃ i : Nat, s = i := ⟨s.toNat, by omega⟩
    have hi : i < lv.length := by omega
    simp only [if_neg h0, if_neg h1, if_pos (show (0 : Int) ≤ (i : Int) by omega), if_pos (show (i : Int) < (lv.length : Int) by omega)]
    by_cases h8 : rd lv (i : Int) = 8
    ·rw [show (rd lv (i : Int) == 8) = true by rw [h8]; rfl]
     exact bad (fun h => h.2.2.2 h8)
    ·rw [show (rd lv (i : Int) == 8) = false from beq_eq_false_iff_ne.mpr h8]
     have hok : HOk lv at_ (i : Int) := ⟨hr, by omega, by omega, h8⟩
     have hf := hr.2.2 i hi
     have ha := fit_at hf
     have hl0 := hf.1
     have hl1 := hf.2.1
     have hia : i < at_.length := by have := hr.2.1; omega
     have hcopy : zan.f lv at_ = some (lv, at_) := by
      unfold zan.f
      have h1 := hr.1
      have h2 := hr.2.1
      rw [if_pos (by simp; omega), if_pos (by simp; omega)]
      rfl
     refine EvS.done fun k => ?_
     simp only [zB.j0, Bool.false_eq_true, if_false, hcopy, Option.bind_some, if_pos (show (0 : Int) ≤ (i : Int) by omega), if_pos (show (i : Int) < (lv.length : Int) by omega), if_pos (show (i : Int) < (at_.length : Int) by omega), Int.toNat_natCast, w64 (rd lv (i : Int) + 1) (by omega) (by omega), w64 (2 * rd at_ (i : Int)) (by omega) (by omega), w64 (2 * rd at_ (i : Int) + 1) (by omega) (by omega)]
     unfold hL hA hB hE
     simp only [if_pos hok, Int.toNat_natCast]
 ·have hn : ¬ HOk lv at_ s := fun h => hr h.1
  simp only [if_neg hr, if_neg (show ¬ ((180 : Int) = 0) by decide)]
  unfold hL hA hB hE
  simp only [if_neg hn, if_neg hr]
  exact EvS.pure _
theorem refWay_ev (lv at_ : List Int) : EvS (fun k => zac.f k lv at_) (wayN lv at_, wayE lv at_) := by
 unfold zac.f
 refine EvS.bind (refCheck_ev lv at_ _) ?_
 rw [chk_self]
 by_cases hr : Reg lv at_
 ·simp only [if_pos hr, if_true, wayN, wayE]
  have key : ∀ m i : Nat, m + i = lv.length → EvS (fun k => zac.l0 k (lv.take i).sum (i : Int) lv at_) (lv.sum, 0) := by
   intro m
   induction m with
   | zero =>
    intro i hi
    rw [List.take_of_length_le (by omega)]
    exact EvS.done fun k => by simp only [zac.l0]; rw [if_neg (by omega)]
   | succ m ih =>
    intro i hi
    refine EvS.succ (fun k => ?_) (ih (i + 1) (by omega))
    have b := sum_bound lv at_ hr (i + 1) (by omega)
    have hl := hr.1
    rw [sum_take lv i (by omega)] at b ⊢
    simp only [zac.l0]
    rw [if_pos (by omega), if_pos (by omega), wnext i (by omega), w64 _ (by omega) (by omega)]
  simpa using key lv.length 0 (by omega)
 ·simp only [if_neg hr, if_neg (show ¬ ((180 : Int) = 0) by decide), wayN, wayE]
  exact EvS.pure _
end Go.Proofs.Ytlidbaejhmamjaa.LA
