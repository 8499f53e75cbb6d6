/- Part 4 of the proof of SplitLent: what the functions below it compute, each shown by a walk or by plain reasoning; no condition of its own. -/
import Derived.Test.YtlidbaejhmamjaaSL3
import Derived.Test.YtlidbaejhmamjaaSL1
import Derived.Deep.SlicePairs
import Derived.Lib.SmallJoins
import Derived.ChangeSlices
import Derived.ProofKit
namespace Go.Proofs.Ytlidbaejhmamjaa.LW
open Go.RowKit Go.Proofs.YtlidbaejhmamjaaW.PrintWords Go.Proofs.YtlidbaejhmamjaaW.PrintLast Go.Proofs.YtlidbaejhmamjaaW.PrintMore Go.Proofs.Ytlidbaejhmamjaa.PB Go.Proofs.Ytlidbaejhmamjaa.LA Go.Proofs.Ytlidbaejhmamjaa.AC
set_option linter.unusedVariables false
set_option linter.unusedSimpArgs false
theorem drawn0_below {w w' : World} (h : zar w w') : Below w.heap.size w w' := by
 obtain ⟨n, rfl⟩ := h
 exact below_drewN (Below.refl _ _) n
set_option maxRecDepth 100000 in
set_option maxHeartbeats 4000000 in
theorem awake_calls (w : World) : Calls Try.prog 14 #[] w fun e w' => e = .returned (.bool true) ∧ Below w.heap.size w w' := by
 obtain ⟨p0, p1, a0, a1, b0, b1, l, y1, y2, y3, y4, y5, h1, h2, h3, h4, h5, h6, h7, h8, h9, e1, e2, e3, e4, e5⟩ := awake_vals
 have F1 := am_ h1
 have F2 := am_ h2
 have F3 := am_ h3
 have F4 := am_ h4
 have F5 := am_ h5
 have F6 := am_ h6
 have F7 := am_ h7
 have F8 := am_ h8
 have F9 := am_ h9
 have E1 := am_ e1
 have E2 := am_ e2
 have E3 := am_ e3
 have E4 := am_ e4
 have E5 := am_ e5
 have HI3 := am_ (show I64 y3 by rw [e3]; intro x hx; simp at hx; omega)
 have HI4 := am_ (show I64 y4 by rw [e4]; intro x hx; simp at hx; omega)
 clear h1 h2 h3 h4 h5 h6 h7 h8 h9 e1 e2 e3 e4 e5
 have hu24 := Try.underlying24
 have HB := am_ (Below.refl w.heap.size w)
 go_enter Try.func14, Try.ntmps14
 go_wp2_with fail
 refine (zaz.calls 40 2 p0 p1 0 w F1.out).mono ?_
 rintro e w1 ⟨v0, v1, rfl, h0, h1, hb⟩
 obtain ⟨A_p0, c_p0, rfl, r_p0⟩ := Rd.of_R h0
 obtain ⟨A_p1, c_p1, rfl, r_p1⟩ := Rd.of_R h1
 replace HB := am_ (zj HB.out hb)
 have R_p0 := am_ r_p0
 have R_p1 := am_ r_p1
 clear hb r_p0 h0 r_p1 h1
 go_wp2_with (first
  | ((with_reducible refine zp (N := 1) rfl ?_); refine zw rfl (N := 1) rfl (cs := #[.slice none 0 0, .slice none 0 0]) (t := 24) ?hr ?_; (case hr => first | (go_simp; done) | (go_simp; rfl)); intro g_p hg_ w2 hw_ hb_; have L_p := am_ (show w.heap.size ≤ g_p by have := HB.out.size; omega); replace R_p0 := am_ (R_p0.out.step hb_); replace R_p1 := am_ (R_p1.out.step hb_); replace HB := am_ (zj HB.out hb_); have K_p := am_ (show Bx w2 g_p none 0 0 none 0 0 from hw_); clear hg_ hw_ hb_)
  | ((with_reducible refine zK (t := 24) (p := 1) rfl ?_); refine zC rfl 24 rfl rfl g_p #[.slice A_p0 p0.length c_p0, .slice A_p1 p1.length c_p1] rfl rfl 24 _ K_p.out (info24.trans rfl) rfl (zaa _ _ _ _ _ _) ?_; intro w3 hw_ hg_; replace R_p0 := am_ (R_p0.out.put K_p.out hg_); replace R_p1 := am_ (R_p1.out.put K_p.out hg_); replace HB := am_ (HB.out.grown hg_ HB.out.size (fun k_ hk_ => by cases hk_; exact L_p.out)); replace K_p := am_ (show Bx w3 g_p A_p0 p0.length c_p0 A_p1 p1.length c_p1 from hw_); clear hw_ hg_; have c_p_0 := K_p.out.c0; have c_p_1 := K_p.out.c1)
  | fail)
 refine (zJ.calls 40 A_p0 c_p0 p0 A_p1 c_p1 p1 1 a0 a1 b0 b1 0 w3 R_p0.out.row R_p0.out.cap R_p1.out.row R_p1.out.cap F2.out).mono ?_
 rintro e w4 ⟨v0, v1, v2, v3, rfl, h0, h1, h2, h3, hb⟩
 clear c_p_0 c_p_1
 obtain ⟨A_a0, c_a0, rfl, r_a0⟩ := Rd.of_R h0
 obtain ⟨A_a1, c_a1, rfl, r_a1⟩ := Rd.of_R h1
 obtain ⟨A_b0, c_b0, rfl, r_b0⟩ := Rd.of_R h2
 obtain ⟨A_b1, c_b1, rfl, r_b1⟩ := Rd.of_R h3
 replace R_p0 := am_ (R_p0.out.step hb); replace R_p1 := am_ (R_p1.out.step hb); replace K_p := am_ (K_p.out.step hb); replace HB := am_ (zj HB.out hb)
 have R_a0 := am_ r_a0
 have R_a1 := am_ r_a1
 have R_b0 := am_ r_b0
 have R_b1 := am_ r_b1
 clear hb r_a0 h0 r_a1 h1 r_b0 h2 r_b1 h3
 go_wp2_with (first
  | ((with_reducible refine zp (N := 3) rfl ?_); refine zw rfl (N := 3) rfl (cs := #[.slice none 0 0, .slice none 0 0]) (t := 24) ?hr ?_; (case hr => first | (go_simp; done) | (go_simp; rfl)); intro g_a hg_ w5 hw_ hb_; have N_a_p := am_ (show g_p ≠ g_a by have := K_p.out.lt; omega); have L_a := am_ (show w.heap.size ≤ g_a by have := HB.out.size; omega); replace R_p0 := am_ (R_p0.out.step hb_); replace R_p1 := am_ (R_p1.out.step hb_); replace R_a0 := am_ (R_a0.out.step hb_); replace R_a1 := am_ (R_a1.out.step hb_); replace R_b0 := am_ (R_b0.out.step hb_); replace R_b1 := am_ (R_b1.out.step hb_); replace K_p := am_ (K_p.out.step hb_); replace HB := am_ (zj HB.out hb_); have K_a := am_ (show Bx w5 g_a none 0 0 none 0 0 from hw_); clear hg_ hw_ hb_)
  | ((with_reducible refine zp (N := 4) rfl ?_); refine zw rfl (N := 4) rfl (cs := #[.slice none 0 0, .slice none 0 0]) (t := 24) ?hr ?_; (case hr => first | (go_simp; done) | (go_simp; rfl)); intro g_b hg_ w6 hw_ hb_; have N_b_p := am_ (show g_p ≠ g_b by have := K_p.out.lt; omega); have N_b_a := am_ (show g_a ≠ g_b by have := K_a.out.lt; omega); have L_b := am_ (show w.heap.size ≤ g_b by have := HB.out.size; omega); replace R_p0 := am_ (R_p0.out.step hb_); replace R_p1 := am_ (R_p1.out.step hb_); replace R_a0 := am_ (R_a0.out.step hb_); replace R_a1 := am_ (R_a1.out.step hb_); replace R_b0 := am_ (R_b0.out.step hb_); replace R_b1 := am_ (R_b1.out.step hb_); replace K_p := am_ (K_p.out.step hb_); replace K_a := am_ (K_a.out.step hb_); replace HB := am_ (zj HB.out hb_); have K_b := am_ (show Bx w6 g_b none 0 0 none 0 0 from hw_); clear hg_ hw_ hb_)
  | ((with_reducible refine zK (t := 24) (p := 3) rfl ?_); refine zC rfl 24 rfl rfl g_a #[.slice A_a0 a0.length c_a0, .slice A_a1 a1.length c_a1] rfl rfl 24 _ K_a.out (info24.trans rfl) rfl (zaa _ _ _ _ _ _) ?_; intro w7 hw_ hg_; replace R_p0 := am_ (R_p0.out.put K_a.out hg_); replace R_p1 := am_ (R_p1.out.put K_a.out hg_); replace R_a0 := am_ (R_a0.out.put K_a.out hg_); replace R_a1 := am_ (R_a1.out.put K_a.out hg_); replace R_b0 := am_ (R_b0.out.put K_a.out hg_); replace R_b1 := am_ (R_b1.out.put K_a.out hg_); replace K_p := am_ (K_p.out.put hg_ N_a_p.out); replace K_b := am_ (K_b.out.put hg_ N_b_a.out.symm); replace HB := am_ (HB.out.grown hg_ HB.out.size (fun k_ hk_ => by cases hk_; exact L_a.out)); replace K_a := am_ (show Bx w7 g_a A_a0 a0.length c_a0 A_a1 a1.length c_a1 from hw_); clear hw_ hg_; have c_a_0 := K_a.out.c0; have c_a_1 := K_a.out.c1)
  | ((with_reducible refine zK (t := 24) (p := 4) rfl ?_); refine zC rfl 24 rfl rfl g_b #[.slice A_b0 b0.length c_b0, .slice A_b1 b1.length c_b1] rfl rfl 24 _ K_b.out (info24.trans rfl) rfl (zaa _ _ _ _ _ _) ?_; intro w8 hw_ hg_; replace R_p0 := am_ (R_p0.out.put K_b.out hg_); replace R_p1 := am_ (R_p1.out.put K_b.out hg_); replace R_a0 := am_ (R_a0.out.put K_b.out hg_); replace R_a1 := am_ (R_a1.out.put K_b.out hg_); replace R_b0 := am_ (R_b0.out.put K_b.out hg_); replace R_b1 := am_ (R_b1.out.put K_b.out hg_); replace K_p := am_ (K_p.out.put hg_ N_b_p.out); replace K_a := am_ (K_a.out.put hg_ N_b_a.out); replace HB := am_ (HB.out.grown hg_ HB.out.size (fun k_ hk_ => by cases hk_; exact L_b.out)); replace K_b := am_ (show Bx w8 g_b A_b0 b0.length c_b0 A_b1 b1.length c_b1 from hw_); clear hw_ hg_; have c_b_0 := K_b.out.c0; have c_b_1 := K_b.out.c1)
  | fail)
 refine (zao.calls 40 A_b0 c_b0 b0 A_b1 c_b1 b1 1 0 w8 R_b0.out.row R_b0.out.cap R_b1.out.row R_b1.out.cap F3.out).mono ?_
 rintro e w9 ⟨rfl, hb⟩
 clear c_a_0 c_a_1 c_b_0 c_b_1
 replace R_p0 := am_ (R_p0.out.step hb); replace R_p1 := am_ (R_p1.out.step hb); replace R_a0 := am_ (R_a0.out.step hb); replace R_a1 := am_ (R_a1.out.step hb); replace R_b0 := am_ (R_b0.out.step hb); replace R_b1 := am_ (R_b1.out.step hb); replace K_p := am_ (K_p.out.step hb); replace K_a := am_ (K_a.out.step hb); replace K_b := am_ (K_b.out.step hb); replace HB := am_ (zj HB.out hb)
 clear hb
 have c_b_0 := K_b.out.c0
 have c_b_1 := K_b.out.c1
 go_wp2_with (first
  | ((with_reducible refine zp (N := 27) rfl ?_); (try (refine zY (by rfl) ?_; dsimp only)); refine Kd.R_lit (Kd.int .i64) _ 3 ?hg (N := 27) ?hd (xs := ([1, (-1)] : List Int)) (inner := [.int .i64 1, .int .i64 (-1)]) (ok := fun _ => True) (okp := fun _ => True) ?hr ?hp (fun _ hk => hk) trivial (Below.refl _ _) (Nat.le_refl _) (by simp) ?_; (case hd => rfl); (case hg => rfl); (case hr => first | (go_simp; done) | (go_simp; rfl)); (case hp => exact (zak.one (show Kd.M (Kd.int .i64) _ _ _ 1 [.int .i64 1] from rfl) (zak.one (show Kd.M (Kd.int .i64) _ _ _ (-1) [.int .i64 (-1)] from rfl) (zak.none _ _)))); intro v_ w10 ho_ hb_ hg_ hnew_; clear hg_ hnew_; rw [← E1.out] at ho_; obtain ⟨A_y1, c_y1, rfl, hr_⟩ := Rd.of_R ho_; replace R_p0 := am_ (R_p0.out.step hb_); replace R_p1 := am_ (R_p1.out.step hb_); replace R_a0 := am_ (R_a0.out.step hb_); replace R_a1 := am_ (R_a1.out.step hb_); replace R_b0 := am_ (R_b0.out.step hb_); replace R_b1 := am_ (R_b1.out.step hb_); replace K_p := am_ (K_p.out.step hb_); replace K_a := am_ (K_a.out.step hb_); replace K_b := am_ (K_b.out.step hb_); replace HB := am_ (zj HB.out hb_); have R_y1 := am_ hr_; clear ho_ hb_ hr_)
  | fail)
 refine (zD.calls 40 A_b0 c_b0 b0 A_b1 c_b1 b1 A_y1 c_y1 y1 1 l 0 w10 R_b0.out.row R_b0.out.cap R_b1.out.row R_b1.out.cap R_y1.out.row R_y1.out.cap F4.out).mono ?_
 rintro e w11 ⟨v0, rfl, h0, hb⟩
 clear c_b_0 c_b_1
 obtain ⟨A_l, c_l, rfl, r_l⟩ := Rd.of_R h0
 replace R_p0 := am_ (R_p0.out.step hb); replace R_p1 := am_ (R_p1.out.step hb); replace R_a0 := am_ (R_a0.out.step hb); replace R_a1 := am_ (R_a1.out.step hb); replace R_b0 := am_ (R_b0.out.step hb); replace R_b1 := am_ (R_b1.out.step hb); replace R_y1 := am_ (R_y1.out.step hb); replace K_p := am_ (K_p.out.step hb); replace K_a := am_ (K_a.out.step hb); replace K_b := am_ (K_b.out.step hb); replace HB := am_ (zj HB.out hb)
 have R_l := am_ r_l
 clear hb r_l h0
 go_wp2_with (first
  | ((with_reducible refine zp (N := 51) rfl ?_); (try (refine zY (by rfl) ?_; dsimp only)); refine Kd.R_lit (Kd.int .i64) _ 3 ?hg (N := 51) ?hd (xs := ([2, 0] : List Int)) (inner := [.int .i64 2, .int .i64 0]) (ok := fun _ => True) (okp := fun _ => True) ?hr ?hp (fun _ hk => hk) trivial (Below.refl _ _) (Nat.le_refl _) (by simp) ?_; (case hd => rfl); (case hg => rfl); (case hr => first | (go_simp; done) | (go_simp; rfl)); (case hp => exact (zak.one (show Kd.M (Kd.int .i64) _ _ _ 2 [.int .i64 2] from rfl) (zak.one (show Kd.M (Kd.int .i64) _ _ _ 0 [.int .i64 0] from rfl) (zak.none _ _)))); intro v_ w12 ho_ hb_ hg_ hnew_; clear hg_ hnew_; rw [← E2.out] at ho_; obtain ⟨A_y2, c_y2, rfl, hr_⟩ := Rd.of_R ho_; replace R_p0 := am_ (R_p0.out.step hb_); replace R_p1 := am_ (R_p1.out.step hb_); replace R_a0 := am_ (R_a0.out.step hb_); replace R_a1 := am_ (R_a1.out.step hb_); replace R_b0 := am_ (R_b0.out.step hb_); replace R_b1 := am_ (R_b1.out.step hb_); replace R_y1 := am_ (R_y1.out.step hb_); replace R_l := am_ (R_l.out.step hb_); replace K_p := am_ (K_p.out.step hb_); replace K_a := am_ (K_a.out.step hb_); replace K_b := am_ (K_b.out.step hb_); replace HB := am_ (zj HB.out hb_); have R_y2 := am_ hr_; clear ho_ hb_ hr_)
  | fail)
 refine (zn.calls 40 A_l c_l l A_y2 c_y2 y2 true w12 R_l.out.row R_l.out.cap R_y2.out.row R_y2.out.cap F5.out).mono ?_
 rintro e w13 ⟨rfl, hd⟩
 have hb := drawn0_below hd
 clear hd
 replace R_p0 := am_ (R_p0.out.step hb); replace R_p1 := am_ (R_p1.out.step hb); replace R_a0 := am_ (R_a0.out.step hb); replace R_a1 := am_ (R_a1.out.step hb); replace R_b0 := am_ (R_b0.out.step hb); replace R_b1 := am_ (R_b1.out.step hb); replace R_y1 := am_ (R_y1.out.step hb); replace R_l := am_ (R_l.out.step hb); replace R_y2 := am_ (R_y2.out.step hb); replace K_p := am_ (K_p.out.step hb); replace K_a := am_ (K_a.out.step hb); replace K_b := am_ (K_b.out.step hb); replace HB := am_ (zj HB.out hb)
 clear hb
 have c_p_0 := K_p.out.c0
 have c_a_0 := K_a.out.c0
 have c_b_0 := K_b.out.c0
 have c_p_1 := K_p.out.c1
 have c_a_1 := K_a.out.c1
 have c_b_1 := K_b.out.c1
 go_wp2_with fail
 refine (zt.calls 40 A_p0 c_p0 p0 A_p1 c_p1 p1 2 0 w13 R_p0.out.row R_p0.out.cap R_p1.out.row R_p1.out.cap F6.out).mono ?_
 rintro e w14 ⟨rfl, hb⟩
 clear c_p_0 c_p_1 c_a_0 c_a_1 c_b_0 c_b_1
 replace R_p0 := am_ (R_p0.out.step hb); replace R_p1 := am_ (R_p1.out.step hb); replace R_a0 := am_ (R_a0.out.step hb); replace R_a1 := am_ (R_a1.out.step hb); replace R_b0 := am_ (R_b0.out.step hb); replace R_b1 := am_ (R_b1.out.step hb); replace R_y1 := am_ (R_y1.out.step hb); replace R_l := am_ (R_l.out.step hb); replace R_y2 := am_ (R_y2.out.step hb); replace K_p := am_ (K_p.out.step hb); replace K_a := am_ (K_a.out.step hb); replace K_b := am_ (K_b.out.step hb); replace HB := am_ (zj HB.out hb)
 clear hb
 have c_p_0 := K_p.out.c0
 have c_a_0 := K_a.out.c0
 have c_b_0 := K_b.out.c0
 have c_p_1 := K_p.out.c1
 have c_a_1 := K_a.out.c1
 have c_b_1 := K_b.out.c1
 go_wp2_with (first
  | ((with_reducible refine zp (N := 60) rfl ?_); (try (refine zY (by rfl) ?_; dsimp only)); refine Kd.R_lit (Kd.int .i64) _ 3 ?hg (N := 60) ?hd (xs := ([0, (-1)] : List Int)) (inner := [.int .i64 0, .int .i64 (-1)]) (ok := fun _ => True) (okp := fun _ => True) ?hr ?hp (fun _ hk => hk) trivial (Below.refl _ _) (Nat.le_refl _) (by simp) ?_; (case hd => rfl); (case hg => rfl); (case hr => first | (go_simp; done) | (go_simp; rfl)); (case hp => exact (zak.one (show Kd.M (Kd.int .i64) _ _ _ 0 [.int .i64 0] from rfl) (zak.one (show Kd.M (Kd.int .i64) _ _ _ (-1) [.int .i64 (-1)] from rfl) (zak.none _ _)))); intro v_ w15 ho_ hb_ hg_ hnew_; clear hg_ hnew_; rw [← E3.out] at ho_; obtain ⟨A_y3, c_y3, rfl, hr_⟩ := Rd.of_R ho_; replace R_p0 := am_ (R_p0.out.step hb_); replace R_p1 := am_ (R_p1.out.step hb_); replace R_a0 := am_ (R_a0.out.step hb_); replace R_a1 := am_ (R_a1.out.step hb_); replace R_b0 := am_ (R_b0.out.step hb_); replace R_b1 := am_ (R_b1.out.step hb_); replace R_y1 := am_ (R_y1.out.step hb_); replace R_l := am_ (R_l.out.step hb_); replace R_y2 := am_ (R_y2.out.step hb_); replace K_p := am_ (K_p.out.step hb_); replace K_a := am_ (K_a.out.step hb_); replace K_b := am_ (K_b.out.step hb_); replace HB := am_ (zj HB.out hb_); have R_y3 := am_ hr_; clear ho_ hb_ hr_)
  | fail)
 refine (within_calls A_a0 c_a0 a0 A_a1 c_a1 a1 A_y3 c_y3 y3 0 w15 R_a0.out.row R_a0.out.cap R_a1.out.row R_a1.out.cap R_y3.out.row R_y3.out.cap HI3.out).mono ?_
 rw [F7.out]
 rintro e w16 ⟨rfl, hb⟩
 clear c_p_0 c_p_1 c_a_0 c_a_1 c_b_0 c_b_1
 replace R_p0 := am_ (R_p0.out.step hb); replace R_p1 := am_ (R_p1.out.step hb); replace R_a0 := am_ (R_a0.out.step hb); replace R_a1 := am_ (R_a1.out.step hb); replace R_b0 := am_ (R_b0.out.step hb); replace R_b1 := am_ (R_b1.out.step hb); replace R_y1 := am_ (R_y1.out.step hb); replace R_l := am_ (R_l.out.step hb); replace R_y2 := am_ (R_y2.out.step hb); replace R_y3 := am_ (R_y3.out.step hb); replace K_p := am_ (K_p.out.step hb); replace K_a := am_ (K_a.out.step hb); replace K_b := am_ (K_b.out.step hb); replace HB := am_ (zj HB.out hb)
 clear hb
 have c_p_0 := K_p.out.c0
 have c_a_0 := K_a.out.c0
 have c_b_0 := K_b.out.c0
 have c_p_1 := K_p.out.c1
 have c_a_1 := K_a.out.c1
 have c_b_1 := K_b.out.c1
 go_wp2_with (first
  | ((with_reducible refine zp (N := 65) rfl ?_); (try (refine zY (by rfl) ?_; dsimp only)); refine Kd.R_lit (Kd.int .i64) _ 3 ?hg (N := 65) ?hd (xs := ([0, (-1)] : List Int)) (inner := [.int .i64 0, .int .i64 (-1)]) (ok := fun _ => True) (okp := fun _ => True) ?hr ?hp (fun _ hk => hk) trivial (Below.refl _ _) (Nat.le_refl _) (by simp) ?_; (case hd => rfl); (case hg => rfl); (case hr => first | (go_simp; done) | (go_simp; rfl)); (case hp => exact (zak.one (show Kd.M (Kd.int .i64) _ _ _ 0 [.int .i64 0] from rfl) (zak.one (show Kd.M (Kd.int .i64) _ _ _ (-1) [.int .i64 (-1)] from rfl) (zak.none _ _)))); intro v_ w17 ho_ hb_ hg_ hnew_; clear hg_ hnew_; rw [← E4.out] at ho_; obtain ⟨A_y4, c_y4, rfl, hr_⟩ := Rd.of_R ho_; replace R_p0 := am_ (R_p0.out.step hb_); replace R_p1 := am_ (R_p1.out.step hb_); replace R_a0 := am_ (R_a0.out.step hb_); replace R_a1 := am_ (R_a1.out.step hb_); replace R_b0 := am_ (R_b0.out.step hb_); replace R_b1 := am_ (R_b1.out.step hb_); replace R_y1 := am_ (R_y1.out.step hb_); replace R_l := am_ (R_l.out.step hb_); replace R_y2 := am_ (R_y2.out.step hb_); replace R_y3 := am_ (R_y3.out.step hb_); replace K_p := am_ (K_p.out.step hb_); replace K_a := am_ (K_a.out.step hb_); replace K_b := am_ (K_b.out.step hb_); replace HB := am_ (zj HB.out hb_); have R_y4 := am_ hr_; clear ho_ hb_ hr_)
  | fail)
 refine (within_calls A_b0 c_b0 b0 A_b1 c_b1 b1 A_y4 c_y4 y4 0 w17 R_b0.out.row R_b0.out.cap R_b1.out.row R_b1.out.cap R_y4.out.row R_y4.out.cap HI4.out).mono ?_
 rw [F8.out]
 rintro e w18 ⟨rfl, hb⟩
 clear c_p_0 c_p_1 c_a_0 c_a_1 c_b_0 c_b_1
 replace R_p0 := am_ (R_p0.out.step hb); replace R_p1 := am_ (R_p1.out.step hb); replace R_a0 := am_ (R_a0.out.step hb); replace R_a1 := am_ (R_a1.out.step hb); replace R_b0 := am_ (R_b0.out.step hb); replace R_b1 := am_ (R_b1.out.step hb); replace R_y1 := am_ (R_y1.out.step hb); replace R_l := am_ (R_l.out.step hb); replace R_y2 := am_ (R_y2.out.step hb); replace R_y3 := am_ (R_y3.out.step hb); replace R_y4 := am_ (R_y4.out.step hb); replace K_p := am_ (K_p.out.step hb); replace K_a := am_ (K_a.out.step hb); replace K_b := am_ (K_b.out.step hb); replace HB := am_ (zj HB.out hb)
 clear hb
 have c_p_0 := K_p.out.c0
 have c_a_0 := K_a.out.c0
 have c_b_0 := K_b.out.c0
 have c_p_1 := K_p.out.c1
 have c_a_1 := K_a.out.c1
 have c_b_1 := K_b.out.c1
 go_wp2_with (first
  | ((with_reducible refine zp (N := 72) rfl ?_); (try (refine zY (by rfl) ?_; dsimp only)); refine Kd.R_lit (Kd.int .i64) _ 3 ?hg (N := 72) ?hd (xs := ([0, 1] : List Int)) (inner := [.int .i64 0, .int .i64 1]) (ok := fun _ => True) (okp := fun _ => True) ?hr ?hp (fun _ hk => hk) trivial (Below.refl _ _) (Nat.le_refl _) (by simp) ?_; (case hd => rfl); (case hg => rfl); (case hr => first | (go_simp; done) | (go_simp; rfl)); (case hp => exact (zak.one (show Kd.M (Kd.int .i64) _ _ _ 0 [.int .i64 0] from rfl) (zak.one (show Kd.M (Kd.int .i64) _ _ _ 1 [.int .i64 1] from rfl) (zak.none _ _)))); intro v_ w19 ho_ hb_ hg_ hnew_; clear hg_ hnew_; rw [← E5.out] at ho_; obtain ⟨A_y5, c_y5, rfl, hr_⟩ := Rd.of_R ho_; replace R_p0 := am_ (R_p0.out.step hb_); replace R_p1 := am_ (R_p1.out.step hb_); replace R_a0 := am_ (R_a0.out.step hb_); replace R_a1 := am_ (R_a1.out.step hb_); replace R_b0 := am_ (R_b0.out.step hb_); replace R_b1 := am_ (R_b1.out.step hb_); replace R_y1 := am_ (R_y1.out.step hb_); replace R_l := am_ (R_l.out.step hb_); replace R_y2 := am_ (R_y2.out.step hb_); replace R_y3 := am_ (R_y3.out.step hb_); replace R_y4 := am_ (R_y4.out.step hb_); replace K_p := am_ (K_p.out.step hb_); replace K_a := am_ (K_a.out.step hb_); replace K_b := am_ (K_b.out.step hb_); replace HB := am_ (zj HB.out hb_); have R_y5 := am_ hr_; clear ho_ hb_ hr_)
  | fail)
 refine (zn.calls 40 A_b1 c_b1 b1 A_y5 c_y5 y5 true w19 R_b1.out.row R_b1.out.cap R_y5.out.row R_y5.out.cap F9.out).mono ?_
 rintro e w20 ⟨rfl, hd⟩
 have hb := drawn0_below hd
 clear hd
 replace HB := am_ (zj HB.out hb)
 clear hb
 clear c_p_0 c_p_1 c_a_0 c_a_1 c_b_0 c_b_1
 go_wp2_with fail
 go_ret
 exact ⟨by first | done | rfl, HB.out⟩
end Go.Proofs.Ytlidbaejhmamjaa.LW

namespace Go.Proofs.Ytlidbaejhmamjaa.PB
open Go.RowKit Go.Proofs.YtlidbaejhmamjaaW.PrintWords Go.Proofs.YtlidbaejhmamjaaW.PrintLast Go.Proofs.YtlidbaejhmamjaaW.PrintMore
attribute [local go_sem] zX zU z7 z8 zO zP zW zT   -- for this text's walks alone
set_option linter.unusedVariables false
set_option linter.unusedSimpArgs false
end Go.Proofs.Ytlidbaejhmamjaa.PB

namespace Go.Proofs.Ytlidbaejhmamjaa.PB
open Go.RowKit Go.Proofs.YtlidbaejhmamjaaW.PrintWords Go.Proofs.YtlidbaejhmamjaaW.PrintLast Go.Proofs.YtlidbaejhmamjaaW.PrintMore
attribute [local go_sem] zX zU z7 z8 zO zP zW zT   -- for this text's walks alone
set_option linter.unusedVariables false
set_option linter.unusedSimpArgs false
end Go.Proofs.Ytlidbaejhmamjaa.PB

namespace Go.Proofs.Ytlidbaejhmamjaa.PB
open Go.RowKit Go.Proofs.YtlidbaejhmamjaaW.PrintWords Go.Proofs.YtlidbaejhmamjaaW.PrintLast Go.Proofs.YtlidbaejhmamjaaW.PrintMore
attribute [local go_sem] zX zU z7 z8 zO zP zW zT   -- for this text's walks alone
set_option linter.unusedVariables false
set_option linter.unusedSimpArgs false
end Go.Proofs.Ytlidbaejhmamjaa.PB

namespace Go.Proofs.Ytlidbaejhmamjaa.PB
open Go.RowKit Go.Proofs.YtlidbaejhmamjaaW.PrintWords Go.Proofs.YtlidbaejhmamjaaW.PrintLast Go.Proofs.YtlidbaejhmamjaaW.PrintMore
attribute [local go_sem] zX zU z7 z8 zO zP zW zT   -- for this text's walks alone
set_option linter.unusedVariables false
set_option linter.unusedSimpArgs false
end Go.Proofs.Ytlidbaejhmamjaa.PB

namespace Go.Proofs.Ytlidbaejhmamjaa.PB
open Go.RowKit Go.Proofs.YtlidbaejhmamjaaW.PrintWords Go.Proofs.YtlidbaejhmamjaaW.PrintLast Go.Proofs.YtlidbaejhmamjaaW.PrintMore
attribute [local go_sem] zX zU z7 z8 zO zP zW zT   -- for this text's walks alone
set_option linter.unusedVariables false
set_option linter.unusedSimpArgs false
end Go.Proofs.Ytlidbaejhmamjaa.PB

namespace Go.Proofs.Ytlidbaejhmamjaa.PB
open Go.RowKit Go.Proofs.YtlidbaejhmamjaaW.PrintWords Go.Proofs.YtlidbaejhmamjaaW.PrintLast Go.Proofs.YtlidbaejhmamjaaW.PrintMore
attribute [local go_sem] zX zU z7 z8 zO zP zW zT   -- for this text's walks alone
set_option linter.unusedVariables false
set_option linter.unusedSimpArgs false
end Go.Proofs.Ytlidbaejhmamjaa.PB

namespace Go.Proofs.Ytlidbaejhmamjaa.NW
open Go.RowKit Go.Proofs.YtlidbaejhmamjaaW.PrintWords Go.Proofs.YtlidbaejhmamjaaW.PrintLast Go.Proofs.YtlidbaejhmamjaaW.PrintMore Go.Proofs.Ytlidbaejhmamjaa.PB Go.Proofs.Ytlidbaejhmamjaa.LA Go.Proofs.Ytlidbaejhmamjaa.AC
set_option linter.unusedVariables false
set_option linter.unusedSimpArgs false
def U32 (l : List Int) : Prop := ∀ x, x ∈ l → 0 ≤ x ∧ x < 4294967296
def B (i : Nat) : Int := 2 ^ (32 * i)
theorem U32.snoc {l : List Int} (h : U32 l) {x : Int} (h0 : 0 ≤ x) (h1 : x < 4294967296) : U32 (l ++ [x]) := by
 intro y hy
 simp at hy
 rcases hy with hy | rfl
 ·exact h y hy
 ·exact ⟨h0, h1⟩
theorem U32.take {l : List Int} (h : U32 l) (i : Nat) : U32 (l.take i) := fun x hx => h x (List.mem_of_mem_take hx)
/-- Its last word is not 0. -/
def Tr (l : List Int) : Prop := ∀ i : Nat, i + 1 = l.length → rd l (i : Nat) ≠ 0
end Go.Proofs.Ytlidbaejhmamjaa.NW




namespace Go.Proofs.Ytlidbaejhmamjaa.PB
open Go.RowKit Go.Proofs.YtlidbaejhmamjaaW.PrintWords Go.Proofs.YtlidbaejhmamjaaW.PrintLast Go.Proofs.YtlidbaejhmamjaaW.PrintMore
attribute [local go_sem] zX zU z7 z8 zO zP zW zT   -- for this text's walks alone
set_option linter.unusedVariables false
set_option linter.unusedSimpArgs false
end Go.Proofs.Ytlidbaejhmamjaa.PB

namespace Go.Proofs.Ytlidbaejhmamjaa.NW
open Go.RowKit Go.Proofs.YtlidbaejhmamjaaW.PrintWords Go.Proofs.YtlidbaejhmamjaaW.PrintLast Go.Proofs.YtlidbaejhmamjaaW.PrintMore Go.Proofs.Ytlidbaejhmamjaa.PB Go.Proofs.Ytlidbaejhmamjaa.LA Go.Proofs.Ytlidbaejhmamjaa.AC Go.Proofs.Ytlidbaejhmamjaa.LW
set_option linter.unusedVariables false
set_option linter.unusedSimpArgs false
/-- A row of words that is read. -/
structure Ru (w : World) (A : Option Addr) (c : Nat) (xs : List Int) (N : Nat) : Prop where
 row : Kd.C (Kd.int .u32) w A xs.length xs
 cap : xs.length ≤ c
 u : U32 xs
 t : Tr xs
 n : xs.length ≤ N
theorem Ru.step {w w' : World} {A : Option Addr} {c : Nat} {xs : List Int} {N : Nat} (h : Ru w A c xs N) (hb : Below w.heap.size w w') : Ru w' A c xs N := ⟨Kd.zM h.row hb, h.cap, h.u, h.t, h.n⟩
/-- A number's box. -/
def B3 (w : World) (g : Nat) (nb : Bool) (A : Option Addr) (n c : Nat) (e : Int) : Prop := w.heap[g]? = some (.cells #[.bool nb, .slice A n c, .int .i64 e] 101 (0, 0))
theorem B3.step {w w' : World} {g : Nat} {nb : Bool} {A : Option Addr} {n c : Nat} {e : Int} (h : B3 w g nb A n c e) (hb : Below w.heap.size w w') : B3 w' g nb A n c e := zm h hb
theorem B3.put {w w' : World} {g g' : Nat} {nb : Bool} {A : Option Addr} {n c : Nat} {e : Int} (h : B3 w g nb A n c e) (hg : w.grownBy w' (some g')) (hne : g ≠ g') : B3 w' g nb A n c e := zai hg h (fun e => hne (Option.some.inj e))
theorem B3.lt {w : World} {g : Nat} {nb : Bool} {A : Option Addr} {n c : Nat} {e : Int} (h : B3 w g nb A n c e) : g < w.heap.size := zE h
theorem B3.c0 {w : World} {g : Nat} {nb : Bool} {A : Option Addr} {n c : Nat} {e : Int} (h : B3 w g nb A n c e) : w.cell? ⟨g, 0, none⟩ = some (.bool nb) := (zi h 0).trans rfl
theorem B3.c1 {w : World} {g : Nat} {nb : Bool} {A : Option Addr} {n c : Nat} {e : Int} (h : B3 w g nb A n c e) : w.cell? ⟨g, 1, none⟩ = some (.slice A n c) := (zi h 1).trans rfl
theorem B3.c2 {w : World} {g : Nat} {nb : Bool} {A : Option Addr} {n c : Nat} {e : Int} (h : B3 w g nb A n c e) : w.cell? ⟨g, 2, none⟩ = some (.int .i64 e) := (zi h 2).trans rfl
theorem B3.f {w : World} {g : Nat} {nb : Bool} {A : Option Addr} {n c : Nat} {e : Int} (h : B3 w g nb A n c e) (i : Nat) : w.frozen? ⟨g, i, none⟩ = false := zh h i
theorem Ru.put {w w' : World} {A : Option Addr} {c : Nat} {xs : List Int} {N : Nat} (h : Ru w A c xs N) {g : Nat} {nb : Bool} {A1 : Option Addr} {n c1 : Nat} {e : Int} (hk : B3 w g nb A1 n c1 e) (hg : w.grownBy w' (some g)) : Ru w' A c xs N := by
 refine ⟨⟨h.row.1, h.row.2.1, fun hn => ?_⟩, h.cap, h.u, h.t, h.n⟩
 obtain ⟨ad, e, hc⟩ := h.row.2.2 hn
 refine ⟨ad, e, fun j p hj => ?_⟩
 obtain ⟨cs, hs, hr, hcell⟩ := hc j p hj
 refine ⟨cs, hs, hr, fun i u hu => ?_⟩
 have hold := hcell i u hu
 have hu2 : u = .int .u32 p := by
  have hr2 : cs = [Value.int .u32 p] := hr
  subst hr2
  cases i with
  | zero => exact (Option.some.inj hu).symm
  | succ i => cases hu
 by_cases hb : (ad.add (j * (Kd.int .u32).sz + i)).block = g
 ·exfalso
  unfold World.cell? at hold
  rw [hb, hk, hu2] at hold
  simp only at hold
  split at hold
  ·cases hold
  ·generalize (ad.add (j * (Kd.int .u32).sz + i)).off = o at hold
   match o with
   | 0 => simp at hold
   | 1 => simp at hold
   | 2 => simp at hold
   | o + 3 => simp at hold
 ·rw [World.cell?_of_block (w := w) (hg.block _ (by
   unfold World.cell? at hold
   split at hold
   ·rename_i h1; exact zE h1
   ·cases hold) (fun e => hb (Option.some.inj e)))]
  exact hold
theorem grown_setCell (w : World) (b i : Nat) (v : Value) : w.grownBy (w.setCell ⟨b, i, none⟩ v) (some b) :=
 ⟨rfl, rfl, rfl, by simp [World.setCell], fun k _ hk => Below.heap_setCell _ _ _ _ (fun e => hk (by simp [e]))⟩
theorem Ru.of_R {w : World} {base : Nat} {ok : Nat → Prop} {v : Value} {xs : List Int} {N : Nat} (h : Kd.R (Kd.int .u32) 134 w base ok v xs) (hu : U32 xs) (ht : Tr xs) (hn : xs.length ≤ N) : ∃ A c, v = .slice A xs.length c ∧ Ru w A c xs N := by
 obtain ⟨A, c, rfl⟩ := Kd.z4 h
 have := Kd.zQ h
 exact ⟨A, c, rfl, this.2.2, this.2.1, hu, ht, hn⟩
theorem Ru.nil (w : World) (M : Nat) : Ru w none 0 [] M := ⟨Kd.C_nil _ w, Nat.le_refl 0, fun x hx => by simp at hx, fun i hi => by simp at hi, Nat.zero_le _⟩
end Go.Proofs.Ytlidbaejhmamjaa.NW

namespace Go.Proofs.Ytlidbaejhmamjaa.NW
open Go.RowKit Go.Proofs.YtlidbaejhmamjaaW.PrintWords Go.Proofs.YtlidbaejhmamjaaW.PrintLast Go.Proofs.YtlidbaejhmamjaaW.PrintMore Go.Proofs.Ytlidbaejhmamjaa.PB Go.Proofs.Ytlidbaejhmamjaa.LA Go.Proofs.Ytlidbaejhmamjaa.AC Go.Proofs.Ytlidbaejhmamjaa.LW
set_option linter.unusedVariables false
set_option linter.unusedSimpArgs false
def level.T6 : Bool × List (List Nat × List Nat) := (true, [([], []), ([0], [0]), ([], []), ([2], [2]), ([], []), ([4], [4]), ([3, 5], [3, 5]), ([1, 6], [1, 6]), ([], []), ([8], [8]), ([], []), ([10], [10]), ([7, 7, 0, 1, 2, 3, 4, 5, 6, 7], [7]), ([9, 12, 0, 1, 2, 3, 4, 5, 6, 7, 8, 9, 12], [9]), ([11, 13, 0, 1, 2, 3, 4, 5, 6, 7, 8, 9, 10, 11, 12, 13], [11])])
def level.B6 : List Nat := [0, 1, 0, 4, 0, 16, 60, 127, 0, 256, 0, 1024, 255, 5119, 16383]
def level.T7 : Bool × List (List Nat × List Nat) := (true, [([], []), ([0], [0]), ([], []), ([2], [2]), ([], []), ([4], [4]), ([], []), ([6], [6]), ([5, 7], [5, 7]), ([3, 8], [3, 8]), ([], []), ([10], [10]), ([1, 9, 0, 1], [1]), ([9, 12, 0, 1, 2, 3, 4, 5, 6, 7, 8, 9, 12], [9]), ([11, 13, 0, 1, 2, 3, 4, 5, 6, 7, 8, 9, 10, 11, 12, 13], [11])])
def level.B7 : List Nat := [0, 1, 0, 4, 0, 16, 0, 64, 240, 508, 0, 1024, 1023, 5119, 16383]
theorem level.tab7 : rtab .any (opsOf Try.f96 7) = level.T7 := by kernel_rfl
theorem level.bits7 : zaw level.T7.2 level.B7 = true := by kernel_rfl
end Go.Proofs.Ytlidbaejhmamjaa.NW


namespace Go.Proofs.Ytlidbaejhmamjaa.NW
open Go.RowKit Go.Proofs.YtlidbaejhmamjaaW.PrintWords Go.Proofs.YtlidbaejhmamjaaW.PrintLast Go.Proofs.YtlidbaejhmamjaaW.PrintMore Go.Proofs.Ytlidbaejhmamjaa.PB Go.Proofs.Ytlidbaejhmamjaa.LA Go.Proofs.Ytlidbaejhmamjaa.AC Go.Proofs.Ytlidbaejhmamjaa.LW
set_option linter.unusedVariables false
set_option linter.unusedSimpArgs false
def rminus.T1 : Bool × List (List Nat × List Nat) := (true, [([], []), ([], []), ([1], [1]), ([0, 2, 2], [0, 2]), ([3, 3, 0, 1, 2, 3], [3])])
def rminus.B1 : List Nat := [0, 0, 2, 7, 15]
theorem rminus.tab1 : rtab .any (opsOf Try.f71 1) = rminus.T1 := by kernel_rfl
theorem rminus.bits1 : zaw rminus.T1.2 rminus.B1 = true := by kernel_rfl
end Go.Proofs.Ytlidbaejhmamjaa.NW

namespace Go.Proofs.Ytlidbaejhmamjaa.PB
open Go.RowKit Go.Proofs.YtlidbaejhmamjaaW.PrintWords Go.Proofs.YtlidbaejhmamjaaW.PrintLast Go.Proofs.YtlidbaejhmamjaaW.PrintMore
attribute [local go_sem] zX zU z7 z8 zO zP zW zT   -- for this text's walks alone
set_option linter.unusedVariables false
set_option linter.unusedSimpArgs false
end Go.Proofs.Ytlidbaejhmamjaa.PB

namespace Go.Proofs.Ytlidbaejhmamjaa.PB
open Go.RowKit Go.Proofs.YtlidbaejhmamjaaW.PrintWords Go.Proofs.YtlidbaejhmamjaaW.PrintLast Go.Proofs.YtlidbaejhmamjaaW.PrintMore
attribute [local go_sem] zX zU z7 z8 zO zP zW zT   -- for this text's walks alone
set_option linter.unusedVariables false
set_option linter.unusedSimpArgs false
end Go.Proofs.Ytlidbaejhmamjaa.PB

namespace Go.Proofs.Ytlidbaejhmamjaa.PB
open Go.RowKit Go.Proofs.YtlidbaejhmamjaaW.PrintWords Go.Proofs.YtlidbaejhmamjaaW.PrintLast Go.Proofs.YtlidbaejhmamjaaW.PrintMore
attribute [local go_sem] zX zU z7 z8 zO zP zW zT   -- for this text's walks alone
set_option linter.unusedVariables false
set_option linter.unusedSimpArgs false
def zaj.f (k : Nat) (l0_0 : List Int) (l0_1 : List Int) (l1_0 : List Int) (l1_1 : List Int) : Option (Bool) := (zn.f k l0_0 l1_0).bind fun t137 => (if t137 = true then ((zn.f k l0_1 l1_1).bind fun t138 => (some t138)) else (some false))
set_option maxHeartbeats 8000000 in
set_option maxRecDepth 100000 in
theorem zaj.calls (k : Nat) (A0_0 : Option Addr) (c0_0 : Nat) (l0_0 : List Int) (A0_1 : Option Addr) (c0_1 : Nat) (l0_1 : List Int) (A1_0 : Option Addr) (c1_0 : Nat) (l1_0 : List Int) (A1_1 : Option Addr) (c1_1 : Nat) (l1_1 : List Int) (r : Bool) (w : World) (hr0_0 : Kd.C (Kd.int .i64) w A0_0 l0_0.length l0_0) (hc0_0 : l0_0.length ≤ c0_0) (hr0_1 : Kd.C (Kd.int .i64) w A0_1 l0_1.length l0_1) (hc0_1 : l0_1.length ≤ c0_1) (hr1_0 : Kd.C (Kd.int .i64) w A1_0 l1_0.length l1_0) (hc1_0 : l1_0.length ≤ c1_0) (hr1_1 : Kd.C (Kd.int .i64) w A1_1 l1_1.length l1_1) (hc1_1 : l1_1.length ≤ c1_1) (h : zaj.f k l0_0 l0_1 l1_0 l1_1 = some r) :
  Calls Try.prog 13 #[.agg #[.slice A0_0 l0_0.length c0_0, .slice A0_1 l0_1.length c0_1], .agg #[.slice A1_0 l1_0.length c1_0, .slice A1_1 l1_1.length c1_1]] w fun e w' => e = .returned (.bool r) ∧ Below w.heap.size w w' := by
 have hu24 := Try.underlying24
 have HR0_0 := am_ hr0_0
 have HC0_0 := am_ hc0_0
 clear hr0_0 hc0_0
 have HR0_1 := am_ hr0_1
 have HC0_1 := am_ hc0_1
 clear hr0_1 hc0_1
 have HR1_0 := am_ hr1_0
 have HC1_0 := am_ hc1_0
 clear hr1_0 hc1_0
 have HR1_1 := am_ hr1_1
 have HC1_1 := am_ hc1_1
 clear hr1_1 hc1_1
 have HB := am_ (Below.refl w.heap.size w)
 have H : ((zn.f k l0_0 l1_0).bind fun t137 => (if t137 = true then ((zn.f k l0_1 l1_1).bind fun t138 => (some t138)) else (some false))) = some r := h
 clear h
 replace H := Option.bind_eq_some_iff.mp H
 obtain ⟨t137, A30, H⟩ := H
 replace H : (if t137 = true then ((zn.f k l0_1 l1_1).bind fun t138 => (some t138)) else (some false)) = some r := H
 have A3 := am_ A30
 clear A30
 by_cases c4 : t137 = true
 ·subst c4
  have H1 : ((zn.f k l0_1 l1_1).bind fun t138 => (some t138)) = some r := by rw [if_pos rfl] at H; exact H
  clear H
  have H := H1
  clear H1
  replace H := Option.bind_eq_some_iff.mp H
  obtain ⟨t138, A50, H⟩ := H
  replace H : (some t138) = some r := H
  have A5 := am_ A50
  clear A50
  obtain rfl := Option.some.inj H
  go_enter Try.func13, Try.ntmps13
  go_wp2_with (first | ((with_reducible refine zp (N := 2) rfl ?_); refine zw ?hg (N := 2) ?hd (cs := #[.slice A0_0 l0_0.length c0_0, .slice A0_1 l0_1.length c0_1]) (t := 24) ?hr ?_; (case hd => rfl); (case hg => rfl); (case hr => first | (go_simp; done) | (go_simp; rfl)); intro gb135 hg w6 hbox hb; have n0_ := am_ (zj (by repeat (first | (with_reducible first | exact HB.out | apply zb | apply za | apply zc) | exact HB.out)) hb); have n1_ := am_ (hbox); have n2_ := am_ ((by rw [hg]; exact (zk (by repeat (first | (with_reducible first | exact HB.out | apply zb | apply za | apply zc) | exact HB.out))) : w.heap.size ≤ gb135)); have n3_ := am_ ((by rw [hg]; exact (zk (by repeat (first | (with_reducible first | exact HB.out | apply zb | apply za | apply zc) | exact HB.out))) : w.heap.size ≤ gb135)); clear HB; have HB := n0_; have BK135 := n1_; have GW135 := n2_; have GE135 := n3_; clear n0_ n1_ n2_ n3_; clear hb hbox hg) | ((with_reducible refine zp (N := 3) rfl ?_); refine zw ?hg (N := 3) ?hd (cs := #[.slice A1_0 l1_0.length c1_0, .slice A1_1 l1_1.length c1_1]) (t := 24) ?hr ?_; (case hd => rfl); (case hg => rfl); (case hr => first | (go_simp; done) | (go_simp; rfl)); intro gb136 hg w7 hbox hb; have n0_ := am_ (zm (g := gb135) (o := .cells #[.slice A0_0 l0_0.length c0_0, .slice A0_1 l0_1.length c0_1] 24 (0, 0)) (by (with_reducible repeat (first | refine ze ?_ _ | refine zg ?_ | refine zd ?_ _)); exact BK135.out) hb); have n1_ := am_ (zj (by repeat (first | (with_reducible first | exact HB.out | apply zb | apply za | apply zc | refine zf ?_ GE135.out) | exact HB.out)) hb); have n2_ := am_ (hbox); have n3_ := am_ ((by rw [hg]; exact (zk (by repeat (first | (with_reducible first | exact HB.out | apply zb | apply za | apply zc | refine zf ?_ GE135.out) | exact HB.out))) : w.heap.size ≤ gb136)); have n4_ := am_ ((by rw [hg]; exact (zk (by repeat (first | (with_reducible first | exact HB.out | apply zb | apply za | apply zc | refine zf ?_ GE135.out) | exact HB.out))) : w.heap.size ≤ gb136)); have n5_ := am_ ((by rw [hg]; exact Nat.ne_of_lt (zE (g := gb135) (o := .cells #[.slice A0_0 l0_0.length c0_0, .slice A0_1 l0_1.length c0_1] 24 (0, 0)) (by (with_reducible repeat (first | refine ze ?_ _ | refine zg ?_ | refine zd ?_ _)); exact BK135.out)) : gb135 ≠ gb136)); have n6_ := am_ ((by rw [hg]; exact Nat.ne_of_gt (zE (g := gb135) (o := .cells #[.slice A0_0 l0_0.length c0_0, .slice A0_1 l0_1.length c0_1] 24 (0, 0)) (by (with_reducible repeat (first | refine ze ?_ _ | refine zg ?_ | refine zd ?_ _)); exact BK135.out)) : gb136 ≠ gb135)); clear BK135; clear HB; have BK135 := n0_; have HB := n1_; have BK136 := n2_; have GW136 := n3_; have GE136 := n4_; have NB135_136 := n5_; have NB136_135 := n6_; clear n0_ n1_ n2_ n3_ n4_ n5_ n6_; clear hb hbox hg; have hnb8 := NB135_136.out; have hnc8 := NB136_135.out; have hcz9_0 : w7.cell? ⟨gb135, 0, none⟩ = some (.slice A0_0 l0_0.length c0_0) := (zi BK135.out 0).trans rfl; have hcz9_1 : w7.cell? ⟨gb135, 1, none⟩ = some (.slice A0_1 l0_1.length c0_1) := (zi BK135.out 1).trans rfl; have hfz9_0 := zh BK135.out 0; have hfz9_1 := zh BK135.out 1; have hcz10_0 : w7.cell? ⟨gb136, 0, none⟩ = some (.slice A1_0 l1_0.length c1_0) := (zi BK136.out 0).trans rfl; have hcz10_1 : w7.cell? ⟨gb136, 1, none⟩ = some (.slice A1_1 l1_1.length c1_1) := (zi BK136.out 1).trans rfl; have hfz10_0 := zh BK136.out 0; have hfz10_1 := zh BK136.out 1) | ((with_reducible refine zR (f := 23) rfl ?_); refine goesL_ (some 9) rfl rfl Try.func23 (by kernel_rfl) rfl #[.slice A0_0 l0_0.length c0_0, .slice A1_0 l1_0.length c1_0] rfl (by (try simp only [List.map_toArray, List.map_cons, List.map_nil]); first | done | rfl | (simp only [List.length_drop, List.length_take]; rfl)) ?_; (with_reducible refine (zn.calls k _ _ l0_0 _ _ l1_0 true _ ?side1 ?side2 ?side3 ?side4 A3.out).mono ?_); (case side1 => repeat (first | exact (Kd.zM HR0_0.out HB.out) | (with_reducible refine Kd.z3 ?_ _) | (with_reducible refine Kd.z2 ?_ _) | (with_reducible refine Kd.zae ?_))); (case side2 => exact HC0_0.out); (case side3 => repeat (first | exact (Kd.zM HR1_0.out HB.out) | (with_reducible refine Kd.z3 ?_ _) | (with_reducible refine Kd.z2 ?_ _) | (with_reducible refine Kd.zae ?_))); (case side4 => exact HC1_0.out); rintro e w' ⟨rfl, ⟨nd, rfl⟩⟩; refine ⟨_, rfl, ?_⟩) | (go_at_call 23; (with_reducible refine (zn.calls k _ _ l0_1 _ _ l1_1 t138 _ ?side1 ?side2 ?side3 ?side4 A5.out).mono ?_); (case side1 => repeat (first | exact (Kd.zM HR0_1.out (by repeat (first | (with_reducible first | exact HB.out | apply zb | apply za | apply zc | refine zf ?_ GE135.out | refine zf ?_ GE136.out) | exact HB.out))) | (with_reducible refine Kd.z3 ?_ _) | (with_reducible refine Kd.z2 ?_ _) | (with_reducible refine Kd.zae ?_))); (case side2 => exact HC0_1.out); (case side3 => repeat (first | exact (Kd.zM HR1_1.out (by repeat (first | (with_reducible first | exact HB.out | apply zb | apply za | apply zc | refine zf ?_ GE135.out | refine zf ?_ GE136.out) | exact HB.out))) | (with_reducible refine Kd.z3 ?_ _) | (with_reducible refine Kd.z2 ?_ _) | (with_reducible refine Kd.zae ?_))); (case side4 => exact HC1_1.out); rintro e w' ⟨rfl, ⟨nd, rfl⟩⟩))
  go_ret
  exact ⟨by first | rfl | (simp [zz, zA] <;> rfl) | (simp [*, zz, zA] <;> rfl), by repeat (first | (with_reducible first | exact HB.out | apply zb | apply za | apply zc | refine zf ?_ GE135.out | refine zf ?_ GE136.out) | exact HB.out)⟩
 ·replace c4 := Bool.eq_false_iff.mpr c4
  subst c4
  have H1 : (some false) = some r := by rw [if_neg (show ¬ (false = true) by decide)] at H; exact H
  clear H
  have H := H1
  clear H1
  obtain rfl := Option.some.inj H
  go_enter Try.func13, Try.ntmps13
  go_wp2_with (first | ((with_reducible refine zp (N := 2) rfl ?_); refine zw ?hg (N := 2) ?hd (cs := #[.slice A0_0 l0_0.length c0_0, .slice A0_1 l0_1.length c0_1]) (t := 24) ?hr ?_; (case hd => rfl); (case hg => rfl); (case hr => first | (go_simp; done) | (go_simp; rfl)); intro gb135 hg w11 hbox hb; have n0_ := am_ (zj (by repeat (first | (with_reducible first | exact HB.out | apply zb | apply za | apply zc) | exact HB.out)) hb); have n1_ := am_ (hbox); have n2_ := am_ ((by rw [hg]; exact (zk (by repeat (first | (with_reducible first | exact HB.out | apply zb | apply za | apply zc) | exact HB.out))) : w.heap.size ≤ gb135)); have n3_ := am_ ((by rw [hg]; exact (zk (by repeat (first | (with_reducible first | exact HB.out | apply zb | apply za | apply zc) | exact HB.out))) : w.heap.size ≤ gb135)); clear HB; have HB := n0_; have BK135 := n1_; have GW135 := n2_; have GE135 := n3_; clear n0_ n1_ n2_ n3_; clear hb hbox hg) | ((with_reducible refine zp (N := 3) rfl ?_); refine zw ?hg (N := 3) ?hd (cs := #[.slice A1_0 l1_0.length c1_0, .slice A1_1 l1_1.length c1_1]) (t := 24) ?hr ?_; (case hd => rfl); (case hg => rfl); (case hr => first | (go_simp; done) | (go_simp; rfl)); intro gb136 hg w12 hbox hb; have n0_ := am_ (zm (g := gb135) (o := .cells #[.slice A0_0 l0_0.length c0_0, .slice A0_1 l0_1.length c0_1] 24 (0, 0)) (by (with_reducible repeat (first | refine ze ?_ _ | refine zg ?_ | refine zd ?_ _)); exact BK135.out) hb); have n1_ := am_ (zj (by repeat (first | (with_reducible first | exact HB.out | apply zb | apply za | apply zc | refine zf ?_ GE135.out) | exact HB.out)) hb); have n2_ := am_ (hbox); have n3_ := am_ ((by rw [hg]; exact (zk (by repeat (first | (with_reducible first | exact HB.out | apply zb | apply za | apply zc | refine zf ?_ GE135.out) | exact HB.out))) : w.heap.size ≤ gb136)); have n4_ := am_ ((by rw [hg]; exact (zk (by repeat (first | (with_reducible first | exact HB.out | apply zb | apply za | apply zc | refine zf ?_ GE135.out) | exact HB.out))) : w.heap.size ≤ gb136)); have n5_ := am_ ((by rw [hg]; exact Nat.ne_of_lt (zE (g := gb135) (o := .cells #[.slice A0_0 l0_0.length c0_0, .slice A0_1 l0_1.length c0_1] 24 (0, 0)) (by (with_reducible repeat (first | refine ze ?_ _ | refine zg ?_ | refine zd ?_ _)); exact BK135.out)) : gb135 ≠ gb136)); have n6_ := am_ ((by rw [hg]; exact Nat.ne_of_gt (zE (g := gb135) (o := .cells #[.slice A0_0 l0_0.length c0_0, .slice A0_1 l0_1.length c0_1] 24 (0, 0)) (by (with_reducible repeat (first | refine ze ?_ _ | refine zg ?_ | refine zd ?_ _)); exact BK135.out)) : gb136 ≠ gb135)); clear BK135; clear HB; have BK135 := n0_; have HB := n1_; have BK136 := n2_; have GW136 := n3_; have GE136 := n4_; have NB135_136 := n5_; have NB136_135 := n6_; clear n0_ n1_ n2_ n3_ n4_ n5_ n6_; clear hb hbox hg; have hnb13 := NB135_136.out; have hnc13 := NB136_135.out; have hcz14_0 : w12.cell? ⟨gb135, 0, none⟩ = some (.slice A0_0 l0_0.length c0_0) := (zi BK135.out 0).trans rfl; have hcz14_1 : w12.cell? ⟨gb135, 1, none⟩ = some (.slice A0_1 l0_1.length c0_1) := (zi BK135.out 1).trans rfl; have hfz14_0 := zh BK135.out 0; have hfz14_1 := zh BK135.out 1; have hcz15_0 : w12.cell? ⟨gb136, 0, none⟩ = some (.slice A1_0 l1_0.length c1_0) := (zi BK136.out 0).trans rfl; have hcz15_1 : w12.cell? ⟨gb136, 1, none⟩ = some (.slice A1_1 l1_1.length c1_1) := (zi BK136.out 1).trans rfl; have hfz15_0 := zh BK136.out 0; have hfz15_1 := zh BK136.out 1) | ((with_reducible refine zR (f := 23) rfl ?_); refine goesL_ (some 9) rfl rfl Try.func23 (by kernel_rfl) rfl #[.slice A0_0 l0_0.length c0_0, .slice A1_0 l1_0.length c1_0] rfl (by (try simp only [List.map_toArray, List.map_cons, List.map_nil]); first | done | rfl | (simp only [List.length_drop, List.length_take]; rfl)) ?_; (with_reducible refine (zn.calls k _ _ l0_0 _ _ l1_0 false _ ?side1 ?side2 ?side3 ?side4 A3.out).mono ?_); (case side1 => repeat (first | exact (Kd.zM HR0_0.out HB.out) | (with_reducible refine Kd.z3 ?_ _) | (with_reducible refine Kd.z2 ?_ _) | (with_reducible refine Kd.zae ?_))); (case side2 => exact HC0_0.out); (case side3 => repeat (first | exact (Kd.zM HR1_0.out HB.out) | (with_reducible refine Kd.z3 ?_ _) | (with_reducible refine Kd.z2 ?_ _) | (with_reducible refine Kd.zae ?_))); (case side4 => exact HC1_0.out); rintro e w' ⟨rfl, ⟨nd, rfl⟩⟩; refine ⟨_, rfl, ?_⟩))
  go_ret
  exact ⟨by first | rfl | (simp [zz, zA] <;> rfl) | (simp [*, zz, zA] <;> rfl), by repeat (first | (with_reducible first | exact HB.out | apply zb | apply za | apply zc | refine zf ?_ GE135.out | refine zf ?_ GE136.out) | exact HB.out)⟩
end Go.Proofs.Ytlidbaejhmamjaa.PB

namespace Go.Proofs.Ytlidbaejhmamjaa.PB
open Go.RowKit Go.Proofs.YtlidbaejhmamjaaW.PrintWords Go.Proofs.YtlidbaejhmamjaaW.PrintLast Go.Proofs.YtlidbaejhmamjaaW.PrintMore
attribute [local go_sem] zX zU z7 z8 zO zP zW zT   -- for this text's walks alone
set_option linter.unusedVariables false
set_option linter.unusedSimpArgs false
end Go.Proofs.Ytlidbaejhmamjaa.PB

namespace Go.Proofs.Ytlidbaejhmamjaa.PB
open Go.RowKit Go.Proofs.YtlidbaejhmamjaaW.PrintWords Go.Proofs.YtlidbaejhmamjaaW.PrintLast Go.Proofs.YtlidbaejhmamjaaW.PrintMore
attribute [local go_sem] zX zU z7 z8 zO zP zW zT   -- for this text's walks alone
set_option linter.unusedVariables false
set_option linter.unusedSimpArgs false
def ambitref18_Copy.f (l0_0 : List Int) (l0_1 : List Int) : Option (List Int × List Int) := if ([] : List Int).length + l0_0.length < 17592186044416 then (if ([] : List Int).length + l0_1.length < 17592186044416 then (some ((([] : List Int) ++ l0_0), (([] : List Int) ++ l0_1))) else (none)) else (none)
set_option maxHeartbeats 8000000 in
set_option maxRecDepth 100000 in
theorem ambitref18_Copy.calls (A0_0 : Option Addr) (c0_0 : Nat) (l0_0 : List Int) (A0_1 : Option Addr) (c0_1 : Nat) (l0_1 : List Int) (r1 : List Int) (r2 : List Int) (w : World) (hr0_0 : Kd.C (Kd.int .i64) w A0_0 l0_0.length l0_0) (hc0_0 : l0_0.length ≤ c0_0) (hr0_1 : Kd.C (Kd.int .i64) w A0_1 l0_1.length l0_1) (hc0_1 : l0_1.length ≤ c0_1) (h : ambitref18_Copy.f l0_0 l0_1 = some (r1, r2)) :
  Calls Try.prog 26 #[.agg #[.slice A0_0 l0_0.length c0_0, .slice A0_1 l0_1.length c0_1]] w fun e w' => ∃ v0_ v1_ : Value, e = .returned (.agg #[v0_, v1_]) ∧ Kd.R (Kd.int .i64) 3 w' w.heap.size (fun k_ => some k_ ≠ (v1_ : Value).ownBlock) v0_ r1 ∧ Kd.R (Kd.int .i64) 3 w' w.heap.size (fun k_ => some k_ ≠ (v0_ : Value).ownBlock) v1_ r2 ∧ Below w.heap.size w w' := by
 have hu24 := Try.underlying24
 have HR0_0 := am_ hr0_0
 have HC0_0 := am_ hc0_0
 clear hr0_0 hc0_0
 have HR0_1 := am_ hr0_1
 have HC0_1 := am_ hc0_1
 clear hr0_1 hc0_1
 have HB := am_ (Below.refl w.heap.size w)
 have H : (if ([] : List Int).length + l0_0.length < 17592186044416 then (if ([] : List Int).length + l0_1.length < 17592186044416 then (some ((([] : List Int) ++ l0_0), (([] : List Int) ++ l0_1))) else (none)) else (none)) = some (r1, r2) := h
 clear h
 by_cases c2 : ([] : List Int).length + l0_0.length < 17592186044416
 ·rw [if_pos c2] at H
  have LMc2 := am_ c2
  clear c2
  obtain ⟨y258, hy258⟩ : ∃ y_ : List Int, y_ = (([] : List Int) ++ l0_0) := ⟨_, rfl⟩
  replace H : (if ([] : List Int).length + l0_1.length < 17592186044416 then (some (y258, (([] : List Int) ++ l0_1))) else (none)) = some (r1, r2) := by first | (rw [hy258]; with_reducible exact H) | (have H2_ := (Option.bind_some _ _).symm.trans H; rw [hy258]; with_reducible exact H2_) | (have H2_ := (Option.bind_some _ _).symm.trans H; with_reducible exact H2_) | with_reducible exact H | (rw [hy258]; exact H) | exact H
  have Ny258 := am_ hy258
  clear hy258
  by_cases c3 : ([] : List Int).length + l0_1.length < 17592186044416
  ·rw [if_pos c3] at H
   have LMc3 := am_ c3
   clear c3
   obtain ⟨y261, hy261⟩ : ∃ y_ : List Int, y_ = (([] : List Int) ++ l0_1) := ⟨_, rfl⟩
   replace H : (some (y258, y261)) = some (r1, r2) := by first | (rw [hy261]; with_reducible exact H) | (have H2_ := (Option.bind_some _ _).symm.trans H; rw [hy261]; with_reducible exact H2_) | (have H2_ := (Option.bind_some _ _).symm.trans H; with_reducible exact H2_) | with_reducible exact H | (rw [hy261]; exact H) | exact H
   have Ny261 := am_ hy261
   clear hy261
   simp only [Option.some.injEq, Prod.mk.injEq] at H
   obtain ⟨rfl, rfl⟩ := H
   go_enter Try.func26, Try.ntmps26
   go_wp2_with (first | ((with_reducible refine zp (N := 1) rfl ?_); refine zw ?hg (N := 1) ?hd (cs := #[.slice A0_0 l0_0.length c0_0, .slice A0_1 l0_1.length c0_1]) (t := 24) ?hr ?_; (case hd => rfl); (case hg => rfl); (case hr => first | (go_simp; done) | (go_simp; rfl)); intro gb255 hg w4 hbox hb; have n0_ := am_ (zj (by repeat (first | (with_reducible first | exact HB.out | apply zb | apply za | apply zc) | exact HB.out)) hb); have n1_ := am_ (hbox); have n2_ := am_ ((by rw [hg]; exact (zk (by repeat (first | (with_reducible first | exact HB.out | apply zb | apply za | apply zc) | exact HB.out))) : w.heap.size ≤ gb255)); have n3_ := am_ ((by rw [hg]; exact (zk (by repeat (first | (with_reducible first | exact HB.out | apply zb | apply za | apply zc) | exact HB.out))) : w.heap.size ≤ gb255)); clear HB; have HB := n0_; have BK255 := n1_; have GW255 := n2_; have GE255 := n3_; clear n0_ n1_ n2_ n3_; clear hb hbox hg) | ((with_reducible refine zp (N := 2) rfl ?_); refine zw ?hg (N := 2) ?hd (cs := #[.slice none 0 0, .slice none 0 0]) (t := 24) ?hr ?_; (case hd => rfl); (case hg => rfl); (case hr => first | (go_simp; done) | (go_simp; rfl)); intro gb256 hg w5 hbox hb; have n0_ := am_ (zm (g := gb255) (o := .cells #[.slice A0_0 l0_0.length c0_0, .slice A0_1 l0_1.length c0_1] 24 (0, 0)) (by (with_reducible repeat (first | refine ze ?_ _ | refine zg ?_ | refine zd ?_ _)); exact BK255.out) hb); have n1_ := am_ (zj (by repeat (first | (with_reducible first | exact HB.out | apply zb | apply za | apply zc | refine zf ?_ GE255.out) | exact HB.out)) hb); have n2_ := am_ (hbox); have n3_ := am_ ((by rw [hg]; exact (zk (by repeat (first | (with_reducible first | exact HB.out | apply zb | apply za | apply zc | refine zf ?_ GE255.out) | exact HB.out))) : w.heap.size ≤ gb256)); have n4_ := am_ ((by rw [hg]; exact (zk (by repeat (first | (with_reducible first | exact HB.out | apply zb | apply za | apply zc | refine zf ?_ GE255.out) | exact HB.out))) : w.heap.size ≤ gb256)); have n5_ := am_ ((by rw [hg]; exact Nat.ne_of_lt (zE (g := gb255) (o := .cells #[.slice A0_0 l0_0.length c0_0, .slice A0_1 l0_1.length c0_1] 24 (0, 0)) (by (with_reducible repeat (first | refine ze ?_ _ | refine zg ?_ | refine zd ?_ _)); exact BK255.out)) : gb255 ≠ gb256)); have n6_ := am_ ((by rw [hg]; exact Nat.ne_of_gt (zE (g := gb255) (o := .cells #[.slice A0_0 l0_0.length c0_0, .slice A0_1 l0_1.length c0_1] 24 (0, 0)) (by (with_reducible repeat (first | refine ze ?_ _ | refine zg ?_ | refine zd ?_ _)); exact BK255.out)) : gb256 ≠ gb255)); clear BK255; clear HB; have BK255 := n0_; have HB := n1_; have BK256 := n2_; have GW256 := n3_; have GE256 := n4_; have NB255_256 := n5_; have NB256_255 := n6_; clear n0_ n1_ n2_ n3_ n4_ n5_ n6_; clear hb hbox hg) | ((with_reducible refine zp (N := 3) rfl ?_); refine zw ?hg (N := 3) ?hd (cs := #[.slice none 0 0, .slice none 0 0]) (t := 24) ?hr ?_; (case hd => rfl); (case hg => rfl); (case hr => first | (go_simp; done) | (go_simp; rfl)); intro gb257 hg w6 hbox hb; have n0_ := am_ (zm (g := gb255) (o := .cells #[.slice A0_0 l0_0.length c0_0, .slice A0_1 l0_1.length c0_1] 24 (0, 0)) (by (with_reducible repeat (first | refine ze ?_ _ | refine zg ?_ | refine zd ?_ _)); exact BK255.out) hb); have n1_ := am_ (zm (g := gb256) (o := .cells #[.slice none 0 0, .slice none 0 0] 24 (0, 0)) (by (with_reducible repeat (first | refine ze ?_ _ | refine zg ?_ | refine zd ?_ _)); exact BK256.out) hb); have n2_ := am_ (zj (by repeat (first | (with_reducible first | exact HB.out | apply zb | apply za | apply zc | refine zf ?_ GE255.out | refine zf ?_ GE256.out) | exact HB.out)) hb); have n3_ := am_ (hbox); have n4_ := am_ ((by rw [hg]; exact (zk (by repeat (first | (with_reducible first | exact HB.out | apply zb | apply za | apply zc | refine zf ?_ GE255.out | refine zf ?_ GE256.out) | exact HB.out))) : w.heap.size ≤ gb257)); have n5_ := am_ ((by rw [hg]; exact (zk (by repeat (first | (with_reducible first | exact HB.out | apply zb | apply za | apply zc | refine zf ?_ GE255.out | refine zf ?_ GE256.out) | exact HB.out))) : w.heap.size ≤ gb257)); have n6_ := am_ ((by rw [hg]; exact Nat.ne_of_lt (zE (g := gb255) (o := .cells #[.slice A0_0 l0_0.length c0_0, .slice A0_1 l0_1.length c0_1] 24 (0, 0)) (by (with_reducible repeat (first | refine ze ?_ _ | refine zg ?_ | refine zd ?_ _)); exact BK255.out)) : gb255 ≠ gb257)); have n7_ := am_ ((by rw [hg]; exact Nat.ne_of_gt (zE (g := gb255) (o := .cells #[.slice A0_0 l0_0.length c0_0, .slice A0_1 l0_1.length c0_1] 24 (0, 0)) (by (with_reducible repeat (first | refine ze ?_ _ | refine zg ?_ | refine zd ?_ _)); exact BK255.out)) : gb257 ≠ gb255)); have n8_ := am_ ((by rw [hg]; exact Nat.ne_of_lt (zE (g := gb256) (o := .cells #[.slice none 0 0, .slice none 0 0] 24 (0, 0)) (by (with_reducible repeat (first | refine ze ?_ _ | refine zg ?_ | refine zd ?_ _)); exact BK256.out)) : gb256 ≠ gb257)); have n9_ := am_ ((by rw [hg]; exact Nat.ne_of_gt (zE (g := gb256) (o := .cells #[.slice none 0 0, .slice none 0 0] 24 (0, 0)) (by (with_reducible repeat (first | refine ze ?_ _ | refine zg ?_ | refine zd ?_ _)); exact BK256.out)) : gb257 ≠ gb256)); clear BK255; clear BK256; clear HB; have BK255 := n0_; have BK256 := n1_; have HB := n2_; have BK257 := n3_; have GW257 := n4_; have GE257 := n5_; have NB255_257 := n6_; have NB257_255 := n7_; have NB256_257 := n8_; have NB257_256 := n9_; clear n0_ n1_ n2_ n3_ n4_ n5_ n6_ n7_ n8_ n9_; clear hb hbox hg; have hnb7 := NB257_255.out; have hnc7 := NB255_257.out; have hnb8 := NB257_256.out; have hnc8 := NB256_257.out; have hcz9_0 : w6.cell? ⟨gb257, 0, none⟩ = some (.slice none 0 0) := (zi BK257.out 0).trans rfl; have hcz9_1 : w6.cell? ⟨gb257, 1, none⟩ = some (.slice none 0 0) := (zi BK257.out 1).trans rfl; have hfz9_0 := zh BK257.out 0; have hfz9_1 := zh BK257.out 1; have hnb10 := NB255_256.out; have hnc10 := NB256_255.out; have hcz11_0 : w6.cell? ⟨gb255, 0, none⟩ = some (.slice A0_0 l0_0.length c0_0) := (zi BK255.out 0).trans rfl; have hcz11_1 : w6.cell? ⟨gb255, 1, none⟩ = some (.slice A0_1 l0_1.length c0_1) := (zi BK255.out 1).trans rfl; have hfz11_0 := zh BK255.out 0; have hfz11_1 := zh BK255.out 1) | ((with_reducible refine gate_builtin (b := .append) (xs := #[.tmp 5, .tmp 7]) rfl ?_); at_builtin; refine Kd.R_append_rows (Kd.int .i64) (w0 := w) w.heap.size rfl (.tmp 5) (.tmp 7) 22 3 (.int .i64 0) 8 rfl Try.underlying22 info3 rfl (by decide) (by omega) (.slice none 0 0) ([] : List Int) l0_0 _ _ _ (fun _ => True) (fun _ => False) rfl rfl ?aO ?aR (fun _ _ h => h) (fun _ h => h.elim) ?aF ?aB ?aS ?aL ?_; (case aR => repeat (first | exact (Kd.zM HR0_0.out HB.out) | (with_reducible refine Kd.z3 ?_ _) | (with_reducible refine Kd.z2 ?_ _) | (with_reducible refine Kd.zae ?_))); (case aB => exact (by repeat (first | (with_reducible first | exact HB.out | apply zb | apply za | apply zc | refine zf ?_ GE255.out | refine zf ?_ GE256.out | refine zf ?_ GE257.out) | exact HB.out))); (case aF => exact (fun _ _ => trivial)); (case aO => exact ((Kd.R_nil _ _ _ _ (fun _ => True)))); (case aS => exact (zk (by repeat (first | (with_reducible first | exact HB.out | apply zb | apply za | apply zc | refine zf ?_ GE255.out | refine zf ?_ GE256.out | refine zf ?_ GE257.out) | exact HB.out)))); (case aL => have := LMc2.out; omega); intro v259 w12 ho hb hg hat; rw [← Ny258.out] at ho; have n0_ := am_ (zac (g := gb255) (o := .cells #[.slice A0_0 l0_0.length c0_0, .slice A0_1 l0_1.length c0_1] 24 (0, 0)) (by (with_reducible repeat (first | refine ze ?_ _ | refine zg ?_ | refine zd ?_ _)); exact BK255.out) hg (by simp [Value.ownBlock])); have n1_ := am_ (zac (g := gb256) (o := .cells #[.slice none 0 0, .slice none 0 0] 24 (0, 0)) (by (with_reducible repeat (first | refine ze ?_ _ | refine zg ?_ | refine zd ?_ _)); exact BK256.out) hg (by simp [Value.ownBlock])); have n2_ := am_ (zac (g := gb257) (o := .cells #[.slice none 0 0, .slice none 0 0] 24 (0, 0)) (by (with_reducible repeat (first | refine ze ?_ _ | refine zg ?_ | refine zd ?_ _)); exact BK257.out) hg (by simp [Value.ownBlock])); have n3_ := am_ (hb); have n4_ := am_ (ho); clear BK255; clear BK256; clear BK257; clear HB; have BK255 := n0_; have BK256 := n1_; have BK257 := n2_; have HB := n3_; have HO260 := n4_; clear n0_ n1_ n2_ n3_ n4_; clear ho hb hg hat; obtain ⟨Ao13, co13, eo13⟩ := Kd.z4 HO260.out; subst eo13; have hcz14_0 : w12.cell? ⟨gb257, 0, none⟩ = some (.slice none 0 0) := (zi BK257.out 0).trans rfl; have hcz14_1 : w12.cell? ⟨gb257, 1, none⟩ = some (.slice none 0 0) := (zi BK257.out 1).trans rfl; have hfz14_0 := zh BK257.out 0; have hfz14_1 := zh BK257.out 1; have hcz15_0 : w12.cell? ⟨gb255, 0, none⟩ = some (.slice A0_0 l0_0.length c0_0) := (zi BK255.out 0).trans rfl; have hcz15_1 : w12.cell? ⟨gb255, 1, none⟩ = some (.slice A0_1 l0_1.length c0_1) := (zi BK255.out 1).trans rfl; have hfz15_0 := zh BK255.out 0; have hfz15_1 := zh BK255.out 1) | ((with_reducible refine gate_builtin (b := .append) (xs := #[.tmp 11, .tmp 13]) rfl ?_); at_builtin; refine Kd.R_append_rows (Kd.int .i64) (w0 := w) w.heap.size rfl (.tmp 11) (.tmp 13) 22 3 (.int .i64 0) 8 rfl Try.underlying22 info3 rfl (by decide) (by omega) (.slice none 0 0) ([] : List Int) l0_1 _ _ _ (fun k_ => some k_ ≠ (.slice Ao13 y258.length co13 : Value).ownBlock) (fun _ => False) rfl rfl ?aO ?aR (fun _ _ h => h) (fun _ h => h.elim) ?aF ?aB ?aS ?aL ?_; (case aR => exact Kd.zM HR0_1.out (by repeat (first | (with_reducible first | exact HB.out | apply zb | apply za | apply zc | refine zf ?_ GE255.out | refine zf ?_ GE256.out | refine zf ?_ GE257.out) | exact HB.out))); (case aB => exact (by repeat (first | (with_reducible first | exact HB.out | apply zb | apply za | apply zc | refine zf ?_ GE255.out | refine zf ?_ GE256.out | refine zf ?_ GE257.out) | exact HB.out))); (case aF => exact (fun k_ hk => Kd.fresh' (Kd.R_lt (by (with_reducible repeat (first | apply Kd.zq | apply Kd.zr | apply Kd.zy)); exact (Kd.zL (Kd.zS (p := ⟨gb257, 0, none⟩) (Kd.zZ HO260.out BK257.out (by decide)) (fun _ hk => hk.2) (.slice Ao13 y258.length co13)) (fun _ h_ => h_.1)))) k_ hk)); (case aO => exact ((Kd.R_nil _ _ _ _ (fun k_ => some k_ ≠ (.slice Ao13 y258.length co13 : Value).ownBlock)))); (case aS => exact (zk (by repeat (first | (with_reducible first | exact HB.out | apply zb | apply za | apply zc | refine zf ?_ GE255.out | refine zf ?_ GE256.out | refine zf ?_ GE257.out) | exact HB.out)))); (case aL => have := LMc3.out; omega); intro v262 w16 ho hb hg hat; rw [← Ny261.out] at ho; have n0_ := am_ (zac (g := gb255) (o := .cells #[.slice A0_0 l0_0.length c0_0, .slice A0_1 l0_1.length c0_1] 24 (0, 0)) (by (with_reducible repeat (first | refine ze ?_ _ | refine zg ?_ | refine zd ?_ _)); refine zI ?_ NB255_257.out _; (with_reducible repeat (first | refine ze ?_ _ | refine zg ?_ | refine zd ?_ _)); exact BK255.out) hg (by simp [Value.ownBlock])); have n1_ := am_ (zac (g := gb256) (o := .cells #[.slice none 0 0, .slice none 0 0] 24 (0, 0)) (by (with_reducible repeat (first | refine ze ?_ _ | refine zg ?_ | refine zd ?_ _)); refine zI ?_ NB256_257.out _; (with_reducible repeat (first | refine ze ?_ _ | refine zg ?_ | refine zd ?_ _)); exact BK256.out) hg (by simp [Value.ownBlock])); have n2_ := am_ (zac (g := gb257) (o := .cells #[.slice Ao13 y258.length co13, .slice none 0 0] 24 (0, 0)) (by (with_reducible repeat (first | refine ze ?_ _ | refine zg ?_ | refine zd ?_ _)); refine zN (cs := #[.slice none 0 0, .slice none 0 0]) ?_ 0 _ rfl; (with_reducible repeat (first | refine ze ?_ _ | refine zg ?_ | refine zd ?_ _)); exact BK257.out) hg (by simp [Value.ownBlock])); have n3_ := am_ (Kd.R_after (Kd.R_apart_nil (by (with_reducible repeat (first | apply Kd.zq | apply Kd.zr | apply Kd.zy)); exact (Kd.zL (Kd.zS (p := ⟨gb257, 0, none⟩) (Kd.zZ HO260.out BK257.out (by decide)) (fun _ hk => hk.2) (.slice Ao13 y258.length co13)) (fun _ h_ => h_.1)))) hg hat); have n4_ := am_ (hb); have n5_ := am_ (ho); clear BK255; clear BK256; clear BK257; clear HO260; clear HB; have BK255 := n0_; have BK256 := n1_; have BK257 := n2_; have HO260 := n3_; have HB := n4_; have HO263 := n5_; clear n0_ n1_ n2_ n3_ n4_ n5_; clear ho hb hg hat; obtain ⟨Ao17, co17, eo17⟩ := Kd.z4 HO263.out; subst eo17; have hcz18_0 : w16.cell? ⟨gb257, 0, none⟩ = some (.slice Ao13 y258.length co13) := (zi BK257.out 0).trans rfl; have hcz18_1 : w16.cell? ⟨gb257, 1, none⟩ = some (.slice none 0 0) := (zi BK257.out 1).trans rfl; have hfz18_0 := zh BK257.out 0; have hfz18_1 := zh BK257.out 1; have hcz19_0 : w16.cell? ⟨gb256, 0, none⟩ = some (.slice none 0 0) := (zi BK256.out 0).trans rfl; have hcz19_1 : w16.cell? ⟨gb256, 1, none⟩ = some (.slice none 0 0) := (zi BK256.out 1).trans rfl; have hfz19_0 := zh BK256.out 0; have hfz19_1 := zh BK256.out 1))
   refine bodyPost_ret (results_cell_row rfl _ _ gb256 24 #[.slice Ao13 y258.length co13, .slice Ao17 y261.length co17] (0, 0) _ rfl (by (with_reducible repeat (first | refine ze ?_ _ | refine zg ?_ | refine zd ?_ _)); refine zN (cs := #[.slice Ao13 y258.length co13, .slice none 0 0]) ?_ 1 _ rfl; (with_reducible repeat (first | refine ze ?_ _ | refine zg ?_ | refine zd ?_ _)); refine zN (cs := #[.slice none 0 0, .slice none 0 0]) ?_ 0 _ rfl; (with_reducible repeat (first | refine ze ?_ _ | refine zg ?_ | refine zd ?_ _)); refine zI ?_ NB256_257.out _; (with_reducible repeat (first | refine ze ?_ _ | refine zg ?_ | refine zd ?_ _)); exact BK256.out) Try.underlying24 rfl (by kernel_rfl)) rfl ?_
   exact ⟨_, _, by first | rfl | (simp [zz, zA] <;> rfl) | (simp [*, zz, zA] <;> rfl), by (with_reducible repeat (first | apply Kd.zq | apply Kd.zr | apply Kd.zy)); exact Kd.zL (Kd.zS (p := ⟨gb256, 1, none⟩) (Kd.zS (p := ⟨gb256, 0, none⟩) (Kd.zS (p := ⟨gb257, 1, none⟩) (Kd.zZ (Kd.zZ HO260.out BK257.out (by decide)) BK256.out (by decide)) (fun _ hk => hk.1.2) (.slice Ao17 y261.length co17)) (fun _ hk => hk.2) (.slice Ao13 y258.length co13)) (fun _ hk => hk.2) (.slice Ao17 y261.length co17)) (fun _ hk => hk.1.1.2), by (with_reducible repeat (first | apply Kd.zq | apply Kd.zr | apply Kd.zy)); exact Kd.zL (Kd.zS (p := ⟨gb256, 1, none⟩) (Kd.zS (p := ⟨gb256, 0, none⟩) (Kd.zS (p := ⟨gb257, 1, none⟩) (Kd.zZ (Kd.zZ HO263.out BK257.out (by decide)) BK256.out (by decide)) (fun _ hk => hk.1.2) (.slice Ao17 y261.length co17)) (fun _ hk => hk.2) (.slice Ao13 y258.length co13)) (fun _ hk => hk.2) (.slice Ao17 y261.length co17)) (fun _ hk => hk.1.1), by repeat (first | (with_reducible first | exact HB.out | apply zb | apply za | apply zc | refine zf ?_ GE255.out | refine zf ?_ GE256.out | refine zf ?_ GE257.out) | exact HB.out)⟩
  ·rw [if_neg c3] at H
   exact absurd H (by simp)
 ·rw [if_neg c2] at H
  exact absurd H (by simp)
end Go.Proofs.Ytlidbaejhmamjaa.PB

namespace Go.Proofs.Ytlidbaejhmamjaa.LA
open Go.RowKit Go.Proofs.YtlidbaejhmamjaaW.PrintWords Go.Proofs.YtlidbaejhmamjaaW.PrintLast Go.Proofs.YtlidbaejhmamjaaW.PrintMore Go.Proofs.Ytlidbaejhmamjaa.PB
set_option linter.unusedVariables false
set_option linter.unusedSimpArgs false
theorem same_ev (l0 l1 : List Int) (hn : l0.length ≤ 100000) : EvS (fun k => zn.f k l0 l1) (decide (l0 = l1)) := by
 unfold zn.f
 by_cases hl : (l0.length : Int) = (l1.length : Int)
 ·simp only [if_pos hl]
  have key : ∀ m i : Nat, m + i = l0.length → EvS (fun k => zn.l0 k l0 l1 (i : Int)) (decide (l0.drop i = l1.drop i)) := by
   intro m
   induction m with
   | zero =>
    intro i hi
    rw [List.drop_eq_nil_of_le (by omega), List.drop_eq_nil_of_le (by omega)]
    exact EvS.done fun k => by simp only [zn.l0]; rw [if_neg (by omega)]; rfl
   | succ m ih =>
    intro i hi
    have h0 : i < l0.length := by omega
    have h1 : i < l1.length := by omega
    have r0 : rd l0 (i : Int) = l0[i] := by simp [rd, h0]
    have r1 : rd l1 (i : Int) = l1[i] := by simp [rd, h1]
    rw [List.drop_eq_getElem_cons h0, List.drop_eq_getElem_cons h1]
    by_cases he : l0[i] = l1[i]
    ·have := ih (i + 1) (by omega)
     refine EvS.succ (fun k => ?_) (show EvS (fun k => zn.l0 k l0 l1 ((i + 1 : Nat) : Int)) (decide (l0[i] :: l0.drop (i + 1) = l1[i] :: l1.drop (i + 1))) from by
      rw [show decide (l0[i] :: l0.drop (i + 1) = l1[i] :: l1.drop (i + 1)) = decide (l0.drop (i + 1) = l1.drop (i + 1)) from decide_eq_decide.mpr ⟨fun h => (List.cons.inj h).2, fun h => by rw [he, h]⟩]
      exact this)
     simp only [zn.l0]
     rw [if_pos (by omega), if_pos (by omega), if_pos (by omega), if_pos (by rw [r0, r1, he]), wnext i (by omega)]
    ·rw [decide_eq_false (fun h => he (List.cons.inj h).1)]
     refine EvS.done fun k => ?_
     simp only [zn.l0]
     rw [if_pos (by omega), if_pos (by omega), if_pos (by omega), if_neg (by rw [r0, r1]; exact he)]
  simpa using key l0.length 0 (by omega)
 ·simp only [if_neg hl]
  rw [decide_eq_false (fun e => hl (by rw [e]))]
  exact EvS.pure false
theorem Same_ev (a b c d : List Int) (ha : a.length ≤ 100000) (hb : b.length ≤ 100000) : EvS (fun k => zaj.f k a b c d) (decide (a = c) && decide (b = d)) := by
 unfold zaj.f
 refine EvS.bind (same_ev a c ha) ?_
 by_cases h : a = c
 ·rw [decide_eq_true h]
  simp only [if_true, Bool.true_and]
  exact EvS.bind (same_ev b d hb) (EvS.pure _)
 ·rw [decide_eq_false h]
  exact EvS.pure _
end Go.Proofs.Ytlidbaejhmamjaa.LA

namespace Go.Proofs.Ytlidbaejhmamjaa.NW
open Go.RowKit Go.Proofs.YtlidbaejhmamjaaW.PrintWords Go.Proofs.YtlidbaejhmamjaaW.PrintLast Go.Proofs.YtlidbaejhmamjaaW.PrintMore Go.Proofs.Ytlidbaejhmamjaa.PB Go.Proofs.Ytlidbaejhmamjaa.LA Go.Proofs.Ytlidbaejhmamjaa.AC Go.Proofs.Ytlidbaejhmamjaa.LW
set_option linter.unusedVariables false
set_option linter.unusedSimpArgs false
def zaA.T6 : Bool × List (List Nat × List Nat) := (true, [([], []), ([], []), ([0, 1], [0, 1]), ([2], [2]), ([3], [3]), ([], []), ([5], [5]), ([], []), ([6, 7], [6, 7]), ([8], [8]), ([], []), ([9, 10], [9, 10]), ([4, 11, 4], [4, 11]), ([], []), ([13, 12, 12, 0, 1, 2, 3, 4, 5, 6, 7, 8, 9, 10, 11, 12, 13], [12, 13])])
def zaA.B6 : List Nat := [0, 0, 3, 7, 15, 0, 32, 0, 224, 480, 0, 2016, 4095, 0, 16383]
def zaA.T7 : Bool × List (List Nat × List Nat) := (true, [([], []), ([0], [0]), ([], []), ([1, 2], [1, 2]), ([3], [3]), ([4], [4]), ([], []), ([6], [6]), ([], []), ([7, 8], [7, 8]), ([9], [9]), ([10], [10]), ([5, 11], [5, 11]), ([12], [12]), ([], []), ([14, 13, 13, 0, 1, 2, 3, 4, 5, 6, 7, 8, 9, 10, 11, 12, 13, 14], [13, 14])])
def zaA.B7 : List Nat := [0, 1, 0, 7, 15, 31, 0, 64, 0, 448, 960, 1984, 4095, 8191, 0, 32767]
theorem zaA.tab7 : rtab .any (opsOf Try.f25 7) = zaA.T7 := by kernel_rfl
theorem zaA.bits7 : zaw zaA.T7.2 zaA.B7 = true := by kernel_rfl
def zaA.T8 : Bool × List (List Nat × List Nat) := (true, [([], []), ([0], [0]), ([], []), ([1, 2], [1, 2]), ([3], [3]), ([4], [4]), ([5], [5]), ([], []), ([7], [7]), ([], []), ([8, 9], [8, 9]), ([10], [10]), ([11], [11]), ([6, 12], [6, 12]), ([13], [13]), ([], []), ([15, 14, 14, 0, 1, 2, 3, 4, 5, 6, 7, 8, 9, 10, 11, 12, 13, 14, 15], [14, 15])])
def zaA.B8 : List Nat := [0, 1, 0, 7, 15, 31, 63, 0, 128, 0, 896, 1920, 3968, 8191, 16383, 0, 65535]
theorem zaA.tab8 : rtab .any (opsOf Try.f25 8) = zaA.T8 := by kernel_rfl
theorem zaA.bits8 : zaw zaA.T8.2 zaA.B8 = true := by kernel_rfl
end Go.Proofs.Ytlidbaejhmamjaa.NW

namespace Go.Proofs.Ytlidbaejhmamjaa.LA
open Go.RowKit Go.Proofs.YtlidbaejhmamjaaW.PrintWords Go.Proofs.YtlidbaejhmamjaaW.PrintLast Go.Proofs.YtlidbaejhmamjaaW.PrintMore Go.Proofs.Ytlidbaejhmamjaa.PB
set_option linter.unusedVariables false
set_option linter.unusedSimpArgs false
theorem rd_nat (xs : List Int) (i : Nat) (h : i < xs.length) : rd xs (i : Int) = xs[i] := by simp [rd, h]
theorem rd_set_same (xs : List Int) (i : Nat) (v : Int) (h : i < xs.length) : rd (xs.set i v) (i : Int) = v := by simp [rd, h]
theorem rd_set_other (xs : List Int) (i j : Nat) (v : Int) (h : i ≠ j) : rd (xs.set i v) (j : Int) = rd xs (j : Int) := by simp [rd, List.getD_eq_getElem?_getD, List.getElem?_set_ne h]
theorem pz_set : ∀ (lv at_ : List Int) (i : Nat) (a b : Int), (pz lv at_).set i ⟨a, b⟩ = pz (lv.set i a) (at_.set i b)
 | [], _, i, a, b => by simp [pz]
 | _ :: _, [], i, a, b => by simp [pz]
 | x :: lv, y :: at_, 0, a, b => by simp [pz]
 | x :: lv, y :: at_, i + 1, a, b => by
  have := pz_set lv at_ i a b
  simp [pz] at this ⊢
  exact this
theorem pz_f0 : ∀ (lv at_ : List Int), at_.length = lv.length → (pz lv at_).map (·.f0) = lv
 | [], [], _ => rfl
 | x :: lv, y :: at_, h => by
  have := pz_f0 lv at_ (by simpa using h)
  simp [pz] at this ⊢
  exact this
theorem pz_f1 : ∀ (lv at_ : List Int), at_.length = lv.length → (pz lv at_).map (·.f1) = at_
 | [], [], _ => rfl
 | x :: lv, y :: at_, h => by
  have := pz_f1 lv at_ (by simpa using h)
  simp [pz] at this ⊢
  exact this
def HOk (lv at_ : List Int) (s : Int) : Prop := Reg lv at_ ∧ 0 ≤ s ∧ s < lv.length ∧ rd lv s ≠ 8
instance (lv at_ : List Int) (s : Int) : Decidable (HOk lv at_ s) := by unfold HOk; infer_instance
def hE (lv at_ : List Int) (s : Int) : Int := if HOk lv at_ s then 0 else if Reg lv at_ then 1 else 180
def hL (lv at_ : List Int) (s : Int) : List Int := if HOk lv at_ s then lv.set s.toNat (rd lv s + 1) else []
def hA (lv at_ : List Int) (s : Int) : List Int := if HOk lv at_ s then at_.set s.toNat (2 * rd at_ s) else []
def hB (lv at_ : List Int) (s : Int) : List Int := if HOk lv at_ s then at_.set s.toNat (2 * rd at_ s + 1) else []
theorem fit_at {l a : Int} (h : Fit l a) : 0 ≤ a ∧ a < 256 := by
 obtain ⟨h0, h1, h2, h3⟩ := h
 have h4 : (2 : Int) ^ l.toNat ≤ 2 ^ 8 := by
  have := Nat.pow_le_pow_right (n := 2) (by decide) (show l.toNat ≤ 8 by omega)
  exact_mod_cast this
 have e : (2 : Int) ^ 8 = 256 := by decide
 omega
theorem chk_self (lv at_ : List Int) : chkE lv at_ lv.length = if Reg lv at_ then 0 else 180 := by
 unfold chkE
 exact ite_cong ⟨fun h => h.2, fun h => ⟨rfl, h⟩⟩ _ _
theorem Halve_ev (lv at_ : List Int) (s : Int) : EvS (fun k => zJ.f k lv at_ s) (hL lv at_ s, hA lv at_ s, hL lv at_ s, hB lv at_ s, hE lv at_ s) := by
 unfold zJ.f
 refine EvS.bind (Check_ev lv at_ _) ?_
 rw [chk_self]
 by_cases hr : Reg lv at_
 ·simp only [if_pos hr, if_true]
  refine EvS.bind (parts_ev lv at_ hr.2.1 hr.1) ?_
  have bad : ¬ HOk lv at_ s → EvS (fun k => zJ.j0 k s (pz lv at_) true) (hL lv at_ s, hA lv at_ s, hL lv at_ s, hB lv at_ s, hE lv at_ s) := fun h => by
   unfold hL hA hB hE
   simp only [if_neg h, if_pos hr]
   exact EvS.done fun k => by simp only [zJ.j0]; rfl
  by_cases h0 : s < 0
  ·simp only [if_pos h0]; exact bad (fun h => by have := h.2.1; omega)
  ·by_cases h1 : s ≥ (lv.length : Int)
   ·simp only [if_neg h0, if_pos h1]; exact bad (fun h => by have := h.2.2.1; omega)
   ·obtain ⟨i, rfl⟩ : ∃ i : Nat, s = i := ⟨s.toNat, by omega⟩
    have hi : i < lv.length := by omega
    have hp := pz_rd lv at_ i hi (by have := hr.2.1; omega)
    have hl := pz_length lv at_ hr.2.1
    simp only [if_neg h0, if_neg h1, if_pos (show (0 : Int) ≤ (i : Int) by omega), if_pos (show (i : Int) < ((pz lv at_).length : Int) by omega), hp]
    by_cases h8 : rd lv (i : Int) = 8
    ·rw [show (rd lv (i : Int) == 8) = true by rw [h8]; rfl]
     exact bad (fun h => h.2.2.2 h8)
    ·rw [show (rd lv (i : Int) == 8) = false from beq_eq_false_iff_ne.mpr h8]
     have hok : HOk lv at_ (i : Int) := ⟨hr, by omega, by omega, h8⟩
     have hf := hr.2.2 i hi
     have ha := fit_at hf
     have hl0 := hf.1
     have hl1 := hf.2.1
     have hia : i < at_.length := by have := hr.2.1; omega
     refine EvS.succ (fun k => by simp only [zJ.j0]; rfl) ?_
     simp only [Bool.false_eq_true, if_false, if_pos (show (0 : Int) ≤ (i : Int) by omega), if_pos (show (i : Int) < ((pz lv at_).length : Int) by omega), hp, Option.bind_some, Int.toNat_natCast, w64 (rd lv (i : Int) + 1) (by omega) (by omega), w64 (2 * rd at_ (i : Int)) (by omega) (by omega), pz_set]
     refine EvS.bind (region_ev _ (by rw [pz_length _ _ (by simp [hr.2.1])]; simp; exact hr.1)) ?_
     have hp2 := pz_rd (lv.set i (rd lv (i : Int) + 1)) (at_.set i (2 * rd at_ (i : Int))) i (by simp [hi]) (by simp [hia])
     rw [rd_set_same _ _ _ hi, rd_set_same _ _ _ hia] at hp2
     simp only [hp2, w64 (2 * rd at_ (i : Int) + 1) (by omega) (by omega), List.set_set, pz_f0 (lv.set i (rd lv (i : Int) + 1)) (at_.set i (2 * rd at_ (i : Int))) (by simp [hr.2.1]), pz_f1 (lv.set i (rd lv (i : Int) + 1)) (at_.set i (2 * rd at_ (i : Int))) (by simp [hr.2.1])]
     refine EvS.bind (region_ev _ (by rw [pz_length _ _ (by simp [hr.2.1])]; simp; exact hr.1)) ?_
     have hp3 := pz_rd (lv.set i (rd lv (i : Int) + 1)) (at_.set i (2 * rd at_ (i : Int) + 1)) i (by simp [hi]) (by simp [hia])
     rw [rd_set_same _ _ _ hi, rd_set_same _ _ _ hia] at hp3
     have hne : (rd lv (i : Int) + 1 == rd lv (i : Int)) = false := beq_eq_false_iff_ne.mpr (by omega)
     simp only [hp3, hne, Bool.false_and, Bool.false_eq_true, if_false, pz_f0 (lv.set i (rd lv (i : Int) + 1)) (at_.set i (2 * rd at_ (i : Int) + 1)) (by simp [hr.2.1]), pz_f1 (lv.set i (rd lv (i : Int) + 1)) (at_.set i (2 * rd at_ (i : Int) + 1)) (by simp [hr.2.1])]
     unfold hL hA hB hE
     simp only [if_pos hok, Int.toNat_natCast]
     exact EvS.pure _
 ·have hn : ¬ HOk lv at_ s := fun h => hr h.1
  simp only [if_neg hr, if_neg (show ¬ ((180 : Int) = 0) by decide)]
  unfold hL hA hB hE
  simp only [if_neg hn, if_neg hr]
  exact EvS.pure _
end Go.Proofs.Ytlidbaejhmamjaa.LA

namespace Go.Proofs.Ytlidbaejhmamjaa.PB
open Go.RowKit Go.Proofs.YtlidbaejhmamjaaW.PrintWords Go.Proofs.YtlidbaejhmamjaaW.PrintLast Go.Proofs.YtlidbaejhmamjaaW.PrintMore
attribute [local go_sem] zX zU z7 z8 zO zP zW zT   -- for this text's walks alone
set_option linter.unusedVariables false
set_option linter.unusedSimpArgs false
end Go.Proofs.Ytlidbaejhmamjaa.PB

namespace Go.Proofs.Ytlidbaejhmamjaa.PB
open Go.RowKit Go.Proofs.YtlidbaejhmamjaaW.PrintWords Go.Proofs.YtlidbaejhmamjaaW.PrintLast Go.Proofs.YtlidbaejhmamjaaW.PrintMore
attribute [local go_sem] zX zU z7 z8 zO zP zW zT   -- for this text's walks alone
set_option linter.unusedVariables false
set_option linter.unusedSimpArgs false
end Go.Proofs.Ytlidbaejhmamjaa.PB


namespace Go.Proofs.Ytlidbaejhmamjaa.LA
open Go.RowKit Go.Proofs.YtlidbaejhmamjaaW.PrintWords Go.Proofs.YtlidbaejhmamjaaW.PrintLast Go.Proofs.YtlidbaejhmamjaaW.PrintMore Go.Proofs.Ytlidbaejhmamjaa.PB
set_option linter.unusedVariables false
set_option linter.unusedSimpArgs false
def EOk (lv at_ sg : List Int) (d : Int) : Prop := Reg lv at_ ∧ sg.length = lv.length ∧ (∀ i, i < sg.length → -1 ≤ rd sg (i : Nat) ∧ rd sg (i : Nat) ≤ 1) ∧ 0 ≤ d ∧ d ≤ 8 ∧ ∀ i, i < lv.length → rd lv (i : Nat) ≤ d
instance (lv at_ sg : List Int) (d : Int) : Decidable (EOk lv at_ sg d) := by unfold EOk; infer_instance
end Go.Proofs.Ytlidbaejhmamjaa.LA

namespace Go.Proofs.Ytlidbaejhmamjaa.PB
open Go.RowKit Go.Proofs.YtlidbaejhmamjaaW.PrintWords Go.Proofs.YtlidbaejhmamjaaW.PrintLast Go.Proofs.YtlidbaejhmamjaaW.PrintMore
attribute [local go_sem] zX zU z7 z8 zO zP zW zT   -- for this text's walks alone
set_option linter.unusedVariables false
set_option linter.unusedSimpArgs false
end Go.Proofs.Ytlidbaejhmamjaa.PB


namespace Go.Proofs.Ytlidbaejhmamjaa.PB
open Go.RowKit Go.Proofs.YtlidbaejhmamjaaW.PrintWords Go.Proofs.YtlidbaejhmamjaaW.PrintLast Go.Proofs.YtlidbaejhmamjaaW.PrintMore
set_option linter.unusedVariables false
instance (es : List Int) : Decidable (AC.I64 es) := by unfold AC.I64; infer_instance
end Go.Proofs.Ytlidbaejhmamjaa.PB

namespace Go.Proofs.Ytlidbaejhmamjaa.LA
open Go.RowKit Go.Proofs.YtlidbaejhmamjaaW.PrintWords Go.Proofs.YtlidbaejhmamjaaW.PrintLast Go.Proofs.YtlidbaejhmamjaaW.PrintMore Go.Proofs.Ytlidbaejhmamjaa.PB
set_option linter.unusedVariables false
set_option linter.unusedSimpArgs false
theorem rd_set (xs : List Int) (i j : Nat) (v : Int) (h : i < xs.length) : rd (xs.set i v) (j : Int) = if i = j then v else rd xs (j : Int) := by
 by_cases hij : i = j
 ·subst hij; rw [if_pos rfl, rd_set_same _ _ _ h]
 ·rw [if_neg hij, rd_set_other _ _ _ _ hij]
theorem fit_half {l a : Int} (h : Fit l a) (h8 : l ≠ 8) (b : Int) (hb : b = 0 ∨ b = 1) : Fit (l + 1) (2 * a + b) := by
 obtain ⟨h0, h1, h2, h3⟩ := h
 refine ⟨by omega, by omega, by omega, ?_⟩
 rw [show (l + 1).toNat = l.toNat + 1 by omega, Int.pow_succ]
 omega
theorem reg_set {lv at_ : List Int} {s : Int} (h : HOk lv at_ s) (b : Int) (hb : b = 0 ∨ b = 1) : Reg (lv.set s.toNat (rd lv s + 1)) (at_.set s.toNat (2 * rd at_ s + b)) := by
 obtain ⟨hr, h0, h1, h8⟩ := h
 obtain ⟨i, rfl⟩ : ∃ i : Nat, s = i := ⟨s.toNat, by omega⟩
 rw [Int.toNat_natCast]
 refine ⟨by simp; exact hr.1, by simp; exact hr.2.1, fun j hj => ?_⟩
 simp only [List.length_set] at hj
 rw [rd_set _ _ _ _ (by omega), rd_set _ _ _ _ (by have := hr.2.1; omega)]
 by_cases hij : i = j
 ·rw [if_pos hij, if_pos hij]
  exact fit_half (hr.2.2 i (by omega)) h8 b hb
 ·rw [if_neg hij, if_neg hij]
  exact hr.2.2 j hj
theorem halve_ok {lv at_ : List Int} {s : Int} (h : HOk lv at_ s) : hE lv at_ s = 0 ∧ Reg (hL lv at_ s) (hA lv at_ s) ∧ Reg (hL lv at_ s) (hB lv at_ s) ∧ (hL lv at_ s).length = lv.length := by
 unfold hE hL hA hB
 simp only [if_pos h]
 have h0 := reg_set h 0 (.inl rfl)
 rw [Int.add_zero] at h0
 exact ⟨trivial, h0, reg_set h 1 (.inr rfl), by simp⟩
theorem halve_bad {lv at_ : List Int} {s : Int} (h : ¬ HOk lv at_ s) : hE lv at_ s ≠ 0 := by
 unfold hE
 rw [if_neg h]
 split <;> decide
end Go.Proofs.Ytlidbaejhmamjaa.LA

namespace Go.Proofs.Ytlidbaejhmamjaa.LW
open Go.RowKit Go.Proofs.YtlidbaejhmamjaaW.PrintWords Go.Proofs.YtlidbaejhmamjaaW.PrintLast Go.Proofs.YtlidbaejhmamjaaW.PrintMore Go.Proofs.Ytlidbaejhmamjaa.PB Go.Proofs.Ytlidbaejhmamjaa.LA Go.Proofs.Ytlidbaejhmamjaa.AC
set_option linter.unusedVariables false
set_option linter.unusedSimpArgs false
theorem hL_len (lv at_ : List Int) (s : Int) : (hL lv at_ s).length ≤ 100000 := by
 unfold hL
 split
 ·rename_i h; have := h.1.1; rw [List.length_set]; omega
 ·simp
theorem hA_len (lv at_ : List Int) (s : Int) : (hA lv at_ s).length ≤ 100000 := by
 unfold hA
 split
 ·rename_i h; have := h.1.1; have := h.1.2.1; rw [List.length_set]; omega
 ·simp
theorem hB_len (lv at_ : List Int) (s : Int) : (hB lv at_ s).length ≤ 100000 := by
 unfold hB
 split
 ·rename_i h; have := h.1.1; have := h.1.2.1; rw [List.length_set]; omega
 ·simp
theorem same_true (a b : List Int) (ha : a.length ≤ 100000) (hb : b.length ≤ 100000) : EvS (fun k => zaj.f k a b a b) true := by
 have := Same_ev a b a b ha hb
 rwa [decide_eq_true rfl, decide_eq_true rfl, Bool.true_and] at this
theorem same_c {A0 A1 B0 B1 : Option Addr} {c0 c1 d0 d1 : Nat} {a b : List Int} (w : World) (r0 : Rd w A0 c0 a) (r1 : Rd w A1 c1 b) (q0 : Rd w B0 d0 a) (q1 : Rd w B1 d1 b) (ha : a.length ≤ 100000) (hb : b.length ≤ 100000) :
  Calls Try.prog 13 #[.agg #[.slice A0 a.length c0, .slice A1 b.length c1], .agg #[.slice B0 a.length d0, .slice B1 b.length d1]] w fun e w' => e = .returned (.bool true) ∧ Below w.heap.size w w' := by
 obtain ⟨f, h⟩ := (same_true a b ha hb).get
 exact zaj.calls f A0 c0 a A1 c1 b B0 d0 a B1 d1 b true w r0.row r0.cap r1.row r1.cap q0.row q0.cap q1.row q1.cap h
end Go.Proofs.Ytlidbaejhmamjaa.LW

namespace Go.Proofs.Ytlidbaejhmamjaa.SL
open Go.RowKit Go.Proofs.YtlidbaejhmamjaaW.PrintWords Go.Proofs.YtlidbaejhmamjaaW.PrintLast Go.Proofs.YtlidbaejhmamjaaW.PrintMore Go.Proofs.Ytlidbaejhmamjaa.PB Go.Proofs.Ytlidbaejhmamjaa.LA Go.Proofs.Ytlidbaejhmamjaa.AC Go.Proofs.Ytlidbaejhmamjaa.LW
set_option linter.unusedVariables false
set_option linter.unusedSimpArgs false
/-- A list's header. -/
structure H where
 A : Option Addr
 n : Nat
 c : Nat
def hv (h : H) : Value := .slice h.A h.n h.c
def ints (xs : List Int) : List Value := xs.map (Value.int .i64)
theorem ints_length (xs : List Int) : (ints xs).length = xs.length := List.length_map _
theorem ints_append (xs ys : List Int) : ints (xs ++ ys) = ints xs ++ ints ys := List.map_append
theorem ints_get {xs : List Int} {j : Nat} (h : j < xs.length) : (ints xs)[j]? = some (.int .i64 (rd xs (j : Int))) := by
 unfold ints
 rw [List.getElem?_map, List.getElem?_eq_getElem h, rd_nat xs j h]
 rfl
theorem ints_set (xs : List Int) (j : Nat) (y : Int) : (ints xs).set j (.int .i64 y) = ints (xs.set j y) := by
 unfold ints
 rw [List.map_set]
section
variable {P : Program} {w : World} {base : Nat} {t ty e : TypeId} {i : TypeInfo} {z : Value} {size bytes : Nat}
/-- What an append of some cells leaves: the same row, or a new one, and then the old rows as they were. -/
theorem app_run (ht : P.underlying t = some (.slice e)) (hi : P.info? e = some i) (hz : i.zero = some z) (hsize : i.size = size) (hby : i.bytes = bytes) (hzs : z.cells.size = size) (hsz : 0 < size)
  {v : Value} {n : Nat} {xs : List Value} (hown : w.ownsRow base e size v n xs) {a : Addr} {m c : Nat} {news : List Value} (hl : news.length = m * size) (hm : 0 < m)
  (hnews : ∀ j u, news[j]? = some u → w.cell? (a.add j) = some u) (h1 : ∀ u ∈ news, u.oneCell' = true) (h63 : n + m ≤ maxLen) (hbytes : (n + m) * bytes ≤ 140737488355328) (hbase : base ≤ w.heap.size) :
  ∃ v' w', (Builtin.append_ #[t, t] ty #[v, .slice (some a) m c]).run P w = .ok v' w' ∧ w'.ownsRow base e size v' (n + m) (xs ++ news) ∧
   ((v'.ownBlock = v.ownBlock ∧ v.ownBlock ≠ none ∧ w.grownBy w' v.ownBlock) ∨ (w.grownBy w' none ∧ ∃ b, v'.ownBlock = some b ∧ w.heap.size ≤ b)) := by
 obtain ⟨v', w', hr, ho, hg, hnil, hat⟩ := run_append_own_at (P := P) w base t ty e i z size bytes ht hi hz hsize hby hzs hsz v n xs hown a m c news hl hnews h1 h63 hbytes hbase
 refine ⟨v', w', hr, ho, ?_⟩
 obtain ⟨g', cap', he, hb', _⟩ := ho.form (by omega)
 rcases hown.2 with ⟨hv, hn0⟩ | ⟨g, cap, cur, hv, hbg, hgc, hnc, hcm, hcs, htake⟩
 ·refine .inr ⟨by rw [hv] at hg; exact hg, ?_⟩
  rcases hat with hat | hat
  ·rw [he, hv] at hat
   cases hat
  ·exact ⟨_, hat, Nat.le_refl _⟩
 ·by_cases hroom : n + m ≤ cap
  ·have hfit : n * size + news.length ≤ cur.size := by rw [hl, hcs, ← Nat.add_mul]; exact Nat.mul_le_mul_right _ hroom
   subst hsize
   have hr2 := run_append_room_cells (P := P) (w := w) t ty e i ht hi g 0 n cap a m c news hl hnews h1 hroom
    (fun j hj => by rw [cell_of_row w g _ cur e (0, 0) hgc]; simp; omega) (fun j _ => zh hgc _)
   rw [hv] at hr
   have he2 := hr.symm.trans hr2
   injection he2 with e1 e2
   refine .inl ⟨by rw [e1, hv]; rfl, by rw [hv]; exact Option.some_ne_none _, hg⟩
  ·obtain ⟨v2, w2, hr2, ho2, hg2⟩ := run_append_arg_grows (P := P) (w := w) t ty e i z size bytes ht hi hz hsize hby hzs hsz ⟨g, 0, none⟩ n cap xs hown.1 (hown.cells (g := g) (by rw [hv]; rfl)) a m c news hl hnews (by omega) h63 hbytes
   rw [hv] at hr
   have he2 := hr.symm.trans hr2
   injection he2 with e1 e2
   subst e1 e2
   obtain ⟨g2, cap2, he3, hb2, _⟩ := ho2.form (by omega)
   exact .inr ⟨hg2, g2, by rw [he3]; rfl, hb2⟩
theorem app_event {ops : Array Oper} {rest : List Oper} {o : Oper} {a : Act} {Q : Exit → Act → World → Prop} (hgd : o.guard = none) (s x : Operand)
  (ho : o.op = .call { callee := .builtin .append, args := #[s, x], argTypes := #[t, t] })
  (ht : P.underlying t = some (.slice e)) (hi : (P.info? e).map (fun i => (i.zero, i.size, i.bytes)) = some (some z, size, bytes)) (hzs : z.cells.size = size) (hsz : 0 < size)
  {v : Value} {n : Nat} {xs : List Value} (hs : a.eval s = v) (hown : w.ownsRow base e size v n xs) {ad : Addr} {m c : Nat} {news : List Value} (hx : a.eval x = .slice (some ad) m c) (hl : news.length = m * size) (hm : 0 < m)
  (hnews : ∀ j u, news[j]? = some u → w.cell? (ad.add j) = some u) (h1 : ∀ u ∈ news, u.oneCell' = true) (h63 : n + m ≤ maxLen) (hbytes : (n + m) * bytes ≤ 140737488355328) (hbase : base ≤ w.heap.size)
  (h : ∀ v' w', w'.ownsRow base e size v' (n + m) (xs ++ news) → ((v'.ownBlock = v.ownBlock ∧ v.ownBlock ≠ none ∧ w.grownBy w' v.ownBlock) ∨ (w.grownBy w' none ∧ ∃ b, v'.ownBlock = some b ∧ w.heap.size ≤ b)) → wpList P ops Q rest (a.put o.dst v') w') :
  wpList P ops Q (o :: rest) a w := by
 obtain ⟨i0, hi0, hzz⟩ := Option.map_eq_some_iff.1 hi
 simp only [Prod.mk.injEq] at hzz
 obtain ⟨hz0, hz1, hz2⟩ := hzz
 refine wpList_plain hgd fun K hK => ?_
 obtain ⟨v', w', hr, h2, h3⟩ := app_run (P := P) (ty := o.type) ht hi0 hz0 hz1 hz2 hzs hsz hown (c := c) hl hm hnews h1 h63 hbytes hbase
 unfold Oper.wp execOp
 simp only [ho, resolve, invoke, builtin, Sem.run_bind, Sem.run_pure, Result.andThen_ok, List.map_toArray, List.map_cons, List.map_nil, hs, hx, hr]
 exact hK _ _ (h v' w' h2 h3)
theorem app_step {ops : Array Oper} {o : Oper} {a : Act} {Q : Exit → Act → World → Prop} {Kc : Act → World → Prop} (hw : Region.wanted o (yielded ops a.tmps) = true) (s x : Operand)
  (ho : o.op = .call { callee := .builtin .append, args := #[s, x], argTypes := #[t, t] })
  (ht : P.underlying t = some (.slice e)) (hi : (P.info? e).map (fun i => (i.zero, i.size, i.bytes)) = some (some z, size, bytes)) (hzs : z.cells.size = size) (hsz : 0 < size)
  {v : Value} {n : Nat} {xs : List Value} (hs : a.eval s = v) (hown : w.ownsRow base e size v n xs) {ad : Addr} {m c : Nat} {news : List Value} (hx : a.eval x = .slice (some ad) m c) (hl : news.length = m * size) (hm : 0 < m)
  (hnews : ∀ j u, news[j]? = some u → w.cell? (ad.add j) = some u) (h1 : ∀ u ∈ news, u.oneCell' = true) (h63 : n + m ≤ maxLen) (hbytes : (n + m) * bytes ≤ 140737488355328) (hbase : base ≤ w.heap.size)
  (h : ∀ v' w', w'.ownsRow base e size v' (n + m) (xs ++ news) → ((v'.ownBlock = v.ownBlock ∧ v.ownBlock ≠ none ∧ w.grownBy w' v.ownBlock) ∨ (w.grownBy w' none ∧ ∃ b, v'.ownBlock = some b ∧ w.heap.size ≤ b)) → Kc (a.put o.dst v') w') :
  if Region.wanted o (yielded ops a.tmps) = true then Oper.wp P o a w Kc Q else Kc (a.put o.dst undef) w := by
 obtain ⟨i0, hi0, hzz⟩ := Option.map_eq_some_iff.1 hi
 simp only [Prod.mk.injEq] at hzz
 obtain ⟨hz0, hz1, hz2⟩ := hzz
 rw [if_pos hw]
 obtain ⟨v', w', hr, h2, h3⟩ := app_run (P := P) (ty := o.type) ht hi0 hz0 hz1 hz2 hzs hsz hown (c := c) hl hm hnews h1 h63 hbytes hbase
 unfold Oper.wp execOp
 simp only [ho, resolve, invoke, builtin, Sem.run_bind, Sem.run_pure, Result.andThen_ok, List.map_toArray, List.map_cons, List.map_nil, hs, hx, hr]
 exact h v' w' h2 h3
end
theorem add_zero_at (g j : Nat) : (⟨g, 0, none⟩ : Addr).add j = ⟨g, j, none⟩ := by unfold Addr.add; split <;> simp_all
theorem own_cell {w : World} {base n : Nat} {e : TypeId} {v : Value} {xs : List Value} (h : w.ownsRow base e 1 v n xs) {ad : Addr} {c : Nat} (hvv : v = .slice (some ad) n c) :
  ∀ j u, xs[j]? = some u → w.cell? (ad.add j) = some u ∧ w.frozen? (ad.add j) = false := by
 intro j u hu
 rcases h.2 with ⟨hn, _⟩ | ⟨g, cap, cur, hv2, hbg, hgc, hnc, hcm, hcs, htake⟩
 ·rw [hvv] at hn; cases hn
 ·rw [hvv] at hv2
  injection hv2 with e1 e2 e3
  injection e1 with e1
  subst e1
  refine ⟨h.cells (g := g) (by rw [hvv]; rfl) j u hu, ?_⟩
  rw [add_zero_at]
  exact zh hgc _
theorem own_some {w : World} {base n : Nat} {e : TypeId} {v : Value} {xs : List Value} {A : Option Addr} {m c : Nat} (h : w.ownsRow base e 1 v n xs) (hvv : v = .slice A m c) : n = m ∧ (0 < n → ∃ ad : Addr, A = some ad ∧ v.ownBlock = some ad.block) := by
 rcases h.2 with ⟨hn, h0⟩ | ⟨g, cap, cur, hv2, hbg, hgc, hnc, hcm, hcs, htake⟩
 ·rw [hvv] at hn
  injection hn with e1 e2 e3
  exact ⟨by omega, by omega⟩
 ·have hv3 := hv2
  rw [hvv] at hv3
  injection hv3 with e1 e2 e3
  exact ⟨e2.symm, fun _ => ⟨⟨g, 0, none⟩, e1, by rw [hv2]; rfl⟩⟩
theorem own_set {w : World} {base n : Nat} {e : TypeId} {v : Value} {xs : List Value} (h : w.ownsRow base e 1 v n xs) {ad : Addr} {c : Nat} (hvv : v = .slice (some ad) n c) (j : Nat) (hj : j < n) (u : Value) :
  (w.setCell (ad.add j) u).ownsRow base e 1 v n (xs.set j u) ∧ w.grownBy (w.setCell (ad.add j) u) v.ownBlock := by
 rcases h.2 with ⟨hn, _⟩ | ⟨g, cap, cur, hv2, hbg, hgc, hnc, hcm, hcs, htake⟩
 ·rw [hvv] at hn; cases hn
 ·have hv3 := hv2
  rw [hvv] at hv3
  injection hv3 with e1 e2 e3
  injection e1 with e1
  subst e1
  rw [add_zero_at]
  refine ⟨⟨by rw [List.length_set]; exact h.1, .inr ⟨g, cap, cur.setIfInBounds j u, hv2, hbg, blk_set hgc j u, hnc, hcm, by simpa using hcs, ?_⟩⟩, ?_⟩
  ·rw [Array.toList_setIfInBounds, List.take_set, htake]
  ·rw [hv2]
   exact NW.grown_setCell w g j u
theorem Own.kept {w w' : World} {row : Option Nat} {base n size : Nat} {e : TypeId} {v : Value} {xs : List Value} (h : w.ownsRow base e size v n xs) (hg : w.grownBy w' row) (hne : ∀ k, v.ownBlock = some k → row ≠ some k) : w'.ownsRow base e size v n xs :=
 h.kept hg (by
  rcases hb : v.ownBlock with _ | k
  ·exact .inl rfl
  ·exact .inr (fun e => hne k hb e.symm))
/-- Rows of two types are two. -/
theorem own_apart {w : World} {b1 b2 n1 n2 s1 s2 : Nat} {e1 e2 : TypeId} {v1 v2 : Value} {xs1 xs2 : List Value} (h1 : w.ownsRow b1 e1 s1 v1 n1 xs1) (h2 : w.ownsRow b2 e2 s2 v2 n2 xs2) (hne : e1 ≠ e2) : ∀ k, v1.ownBlock = some k → v2.ownBlock ≠ some k := by
 intro k hk1 hk2
 rcases h1.2 with ⟨hn, _⟩ | ⟨g, cap, cur, hv2, _, hgc, _⟩
 ·rw [hn] at hk1; cases hk1
 ·rcases h2.2 with ⟨hn', _⟩ | ⟨g', cap', cur', hv2', _, hgc', _⟩
  ·rw [hn'] at hk2; cases hk2
  ·rw [hv2] at hk1
   rw [hv2'] at hk2
   obtain rfl : g = k := Option.some.inj hk1
   obtain rfl : g' = g := Option.some.inj hk2
   rw [hgc] at hgc'
   have := Option.some.inj hgc'
   injection this with a1 a2 a3
   exact hne a2
/-- Rows of their own, one for each header. -/
def Fam (w : World) (base : Nat) (hs : List H) (X : Nat → List Int) : Prop := ∀ k h, hs[k]? = some h → w.ownsRow base 3 1 (hv h) h.n (ints (X k))
def Dist (hs : List H) : Prop := ∀ (i j : Nat) (hi hj : H), hs[i]? = some hi → hs[j]? = some hj → i ≠ j → ∀ g, (hv hi).ownBlock = some g → (hv hj).ownBlock ≠ some g
theorem Fam.grown {w w' : World} {base : Nat} {hs : List H} {X : Nat → List Int} (h : Fam w base hs X) {row : Option Nat} (hg : w.grownBy w' row) (hne : ∀ (k : Nat) (h : H), hs[k]? = some h → ∀ g : Nat, (hv h).ownBlock = some g → row ≠ some g) : Fam w' base hs X :=
 fun k hd hk => Own.kept (h k hd hk) hg (hne k hd hk)
theorem Fam.same {w w' : World} {base : Nat} {hs : List H} {X : Nat → List Int} (h : Fam w base hs X) (hg : w.grownBy w' none) : Fam w' base hs X := h.grown hg (fun _ _ _ _ _ e => by cases e)
theorem Fam.set {w : World} {base : Nat} {hs : List H} {X : Nat → List Int} (h : Fam w base hs X) (hd : Dist hs) {i : Nat} {hi : H} (hk : hs[i]? = some hi) {ad : Addr} (ha : hi.A = some ad) (j : Nat) (hj : j < hi.n) (y : Int) :
  Fam (w.setCell (ad.add j) (.int .i64 y)) base hs (fun k => if k = i then (X i).set j y else X k) := by
 have hvv : hv hi = .slice (some ad) hi.n hi.c := by unfold hv; rw [ha]
 obtain ⟨s1, s2⟩ := own_set (h i hi hk) hvv j hj (.int .i64 y)
 intro k h2 hk2
 by_cases e : k = i
 ·subst e
  rw [hk] at hk2
  obtain rfl := Option.some.inj hk2
  simp only [if_true]
  rw [← ints_set]
  exact s1
 ·simp only [if_neg e]
  exact Own.kept (h k h2 hk2) s2 (fun g hg hg2 => hd k i h2 hi hk2 hk e g hg hg2)
theorem Fam.len {w : World} {base : Nat} {hs : List H} {X : Nat → List Int} (h : Fam w base hs X) {k : Nat} {hd : H} (hk : hs[k]? = some hd) : (X k).length = hd.n := by
 have := (h k hd hk).1
 rw [ints_length] at this
 omega
/-- The marks. -/
def mks (i m : Nat) : List Int := (List.range m).map (fun t : Nat => 1000 * (i : Int) + t)
def ngs (i m : Nat) : List Int := (List.range m).map (fun t : Nat => -(1000 * (i : Int) + t + 1))
theorem zay (i m : Nat) : (mks i m).length = m := by simp [mks]
theorem ngs_length (i m : Nat) : (ngs i m).length = m := by simp [ngs]
theorem mks_succ (i m : Nat) : mks i (m + 1) = mks i m ++ [1000 * (i : Int) + m] := by simp [mks, List.range_succ]
theorem ngs_succ (i m : Nat) : ngs i (m + 1) = ngs i m ++ [-(1000 * (i : Int) + m + 1)] := by simp [ngs, List.range_succ]
theorem mks_rd (i m j : Nat) (h : j < m) : rd (mks i m) (j : Int) = 1000 * (i : Int) + j := by
 rw [rd_nat _ j (by rw [zay]; exact h)]
 simp [mks]
theorem ngs_rd (i n m j : Nat) (h : j < m) : rd (mks i n ++ ngs i m) ((n + j : Nat) : Int) = -(1000 * (i : Int) + j + 1) := by
 rw [rd_nat _ (n + j) (by rw [List.length_append, zay, ngs_length]; omega), List.getElem_append_right (by rw [zay]; omega)]
 simp [ngs, zay]
theorem set_take (xs : List Int) (j : Nat) (y : Int) (h : j < xs.length) : (xs.set j y).take (j + 1) = xs.take j ++ [y] := by
 rw [List.take_add_one, List.getElem?_set_self h, List.take_set]
 rw [List.set_eq_of_length_le (by rw [List.length_take]; omega)]
 rfl
/-- A row that is read: its cells. -/
def Sees (w : World) (h : H) (xs : List Int) : Prop := h.n = xs.length ∧ (0 < h.n → ∃ ad : Addr, h.A = some ad ∧ (∃ cells, w.heap[ad.block]? = some (.cells cells 3 (0, 0))) ∧ ∀ j, j < xs.length → w.cell? (ad.add j) = some (.int .i64 (rd xs (j : Int))))
theorem add_block (ad : Addr) (j : Nat) : (ad.add j).block = ad.block := by unfold Addr.add; split <;> rfl
theorem own_heap {w : World} {base n size k : Nat} {e : TypeId} {v : Value} {xs : List Value} (h : w.ownsRow base e size v n xs) (hk : v.ownBlock = some k) : ∃ cells, w.heap[k]? = some (.cells cells e (0, 0)) := by
 rcases h.2 with ⟨hn, _⟩ | ⟨g, cap, cur, hv2, hbg, hgc, _⟩
 ·rw [hn] at hk; cases hk
 ·rw [hv2] at hk
  obtain rfl : g = k := Option.some.inj hk
  exact ⟨cur, hgc⟩
theorem sees_own {w : World} {base : Nat} {h : H} {xs : List Int} (ho : w.ownsRow base 3 1 (hv h) h.n (ints xs)) : Sees w h xs := by
 have hl := ho.1
 rw [ints_length] at hl
 refine ⟨by omega, fun hn => ?_⟩
 obtain ⟨_, hs⟩ := own_some ho rfl
 obtain ⟨ad, ha, hb⟩ := hs hn
 exact ⟨ad, ha, own_heap ho hb, fun j hj => (own_cell ho (ad := ad) (c := h.c) (by unfold hv; rw [ha]) j _ (ints_get hj)).1⟩
/-- The first of a row's numbers, by another header of the same row. -/
theorem sees_front {w w0 : World} {base n0 : Nat} {h : H} {v : Value} {n : Nat} {xs ys : List Int} {zs : List Value} (ho : w.ownsRow base 3 1 v n (ints (xs ++ ys))) (hb : v.ownBlock = (hv h).ownBlock) (hn : h.n = xs.length) (hz : w0.ownsRow base 3 1 (hv h) n0 zs) : Sees w h xs := by
 refine ⟨hn, fun h0 => ?_⟩
 rcases hz.2 with ⟨e, e0⟩ | ⟨g, cap, cur, e, _⟩
 ·unfold hv at e
  injection e with e1 e2 e3
  omega
 ·have e1 : v.ownBlock = some g := by rw [hb, e]; rfl
  unfold hv at e
  injection e with a1 a2 a3
  refine ⟨⟨g, 0, none⟩, a1, own_heap ho e1, fun j hj => ?_⟩
  refine ho.cells e1 j _ ?_
  rw [ints_append, List.getElem?_append_left (by rw [ints_length]; exact hj)]
  exact ints_get hj
theorem Sees.grown {w w' : World} {h : H} {xs : List Int} (hs : Sees w h xs) {row : Option Nat} (hg : w.grownBy w' row) (hne : ∀ ad : Addr, h.A = some ad → row ≠ some ad.block) : Sees w' h xs := by
 refine ⟨hs.1, fun hn => ?_⟩
 obtain ⟨ad, ha, ⟨cells, hb⟩, hc⟩ := hs.2 hn
 refine ⟨ad, ha, ⟨cells, (hg.block _ (zE hb) (fun e => hne ad ha e.symm)).trans hb⟩, fun j hj => hg.cell (hc j hj) ?_⟩
 rw [add_block]
 exact fun e => hne ad ha e.symm
theorem Sees.same {w w' : World} {h : H} {xs : List Int} (hs : Sees w h xs) (hg : w.grownBy w' none) : Sees w' h xs := hs.grown hg (fun _ _ e => by cases e)
/-- .. while a row of another type grows. -/
theorem Sees.other {w w' : World} {h : H} {xs : List Int} (hs : Sees w h xs) {base n size : Nat} {e : TypeId} {v : Value} {zs : List Value} (ho : w.ownsRow base e size v n zs) (he : e ≠ 3) (hg : w.grownBy w' v.ownBlock) : Sees w' h xs := by
 refine ⟨hs.1, fun hn => ?_⟩
 obtain ⟨ad, ha, ⟨cells, hb⟩, hc⟩ := hs.2 hn
 have hne : v.ownBlock ≠ some ad.block := fun e2 => by
  obtain ⟨cs, hcs⟩ := own_heap ho e2
  rw [hb] at hcs
  have := Option.some.inj hcs
  injection this with a1 a2 a3
  exact he a2.symm
 refine ⟨ad, ha, ⟨cells, (hg.block _ (zE hb) (fun e => hne e.symm)).trans hb⟩, fun j hj => hg.cell (hc j hj) ?_⟩
 rw [add_block]
 exact fun e => hne e.symm
theorem Sees.below {w w' : World} {h : H} {xs : List Int} (hs : Sees w h xs) (hb : Below w.heap.size w w') : Sees w' h xs := by
 refine ⟨hs.1, fun hn => ?_⟩
 obtain ⟨ad, ha, ⟨cells, hk⟩, hc⟩ := hs.2 hn
 exact ⟨ad, ha, ⟨cells, zm hk hb⟩, fun j hj => zaf hb (hc j hj)⟩
theorem hv_block {h : H} {ad : Addr} (ha : h.A = some ad) : (hv h).ownBlock = some ad.block := by unfold hv; rw [ha]; rfl
/-- One more number behind a list: what is known of the list it began as. -/
def Alt (ws w : World) (hd : H) (xs : List Int) (v : Value) : Prop := v.ownBlock = (hv hd).ownBlock ∨ (Sees w hd xs ∧ ∃ b, v.ownBlock = some b ∧ ws.heap.size ≤ b)
theorem alt_step {ws w w' w1 : World} {base n : Nat} {hd : H} {xs ys : List Int} {zs : List Value} {v v1 : Value} (hws : ws.ownsRow base 3 1 (hv hd) hd.n zs) (hn : hd.n = xs.length) (hg : ws.grownBy w (hv hd).ownBlock)
  (ho : w.ownsRow base 3 1 v n (ints (xs ++ ys))) (ha : Alt ws w hd xs v) (h0 : w.grownBy w' none)
  (h1 : (v1.ownBlock = v.ownBlock ∧ v.ownBlock ≠ none ∧ w'.grownBy w1 v.ownBlock) ∨ (w'.grownBy w1 none ∧ ∃ b, v1.ownBlock = some b ∧ w'.heap.size ≤ b)) :
  Alt ws w1 hd xs v1 ∧ ws.grownBy w1 (hv hd).ownBlock := by
 have lt : ∀ ad : Addr, hd.A = some ad → ad.block < ws.heap.size := fun ad e => (hws.lt ad.block (hv_block e)).2
 rcases h1 with ⟨e1, e2, g1⟩ | ⟨g1, b, e1, hb⟩
 ·have g2 : w.grownBy w1 v.ownBlock := World.grownBy.trans ⟨h0.os, h0.tape, h0.output, h0.size, fun k hk _ => h0.block k hk (fun e => by cases e)⟩ g1
  rcases ha with ha | ⟨hs, b, hb, hbs⟩
  ·exact ⟨.inl (e1.trans ha), World.grownBy.trans hg (ha ▸ g2)⟩
  ·refine ⟨.inr ⟨hs.grown g2 (fun ad ea e => by rw [hb] at e; have := Option.some.inj e; have := lt ad ea; omega), b, e1.trans hb, hbs⟩, ?_⟩
   refine ⟨g2.os.trans hg.os, g2.tape.trans hg.tape, g2.output.trans hg.output, Nat.le_trans hg.size g2.size, fun k hk hne => ?_⟩
   rw [← hg.block k hk hne]
   exact g2.block k (Nat.lt_of_lt_of_le hk hg.size) (fun e => by rw [hb] at e; have := Option.some.inj e; omega)
 ·have g2 : w.grownBy w1 none := World.grownBy.trans h0 g1
  have hbb : ws.heap.size ≤ b := Nat.le_trans (Nat.le_trans hg.size h0.size) hb
  refine ⟨.inr ⟨?_, b, e1, hbb⟩, ⟨g2.os.trans hg.os, g2.tape.trans hg.tape, g2.output.trans hg.output, Nat.le_trans hg.size g2.size, fun k hk hne => ?_⟩⟩
  ·rcases ha with ha | ⟨hs, _⟩
   ·exact (sees_front ho ha hn hws).same g2
   ·exact hs.same g2
  ·rw [← hg.block k hk hne]
   exact g2.block k (Nat.lt_of_lt_of_le hk hg.size) (fun e => by cases e)
/-- What is known when i lists have been lengthened. -/
structure P3 (w : World) (base : Nat) (hs ls : List H) (i : Nat) : Prop where
 rest : ∀ (k : Nat) (h : H), hs[k]? = some h → i ≤ k → w.ownsRow base 3 1 (hv h) h.n (ints (mks k h.n))
 done : ∀ (k : Nat) (h lh : H), hs[k]? = some h → ls[k]? = some lh → Sees w h (mks k h.n) ∧ Sees w lh (mks k h.n ++ ngs k 20) ∧ ∀ (k' : Nat) (h' : H), hs[k']? = some h' → k < k' → ∀ ad : Addr, lh.A = some ad → (hv h').ownBlock ≠ some ad.block
theorem P3.same {w w' : World} {base i : Nat} {hs ls : List H} (h : P3 w base hs ls i) (hg : w.grownBy w' none) : P3 w' base hs ls i :=
 ⟨fun k hd hk hi => Own.kept (h.rest k hd hk hi) hg (fun _ _ e => by cases e), fun k hd lh hk hl => ⟨(h.done k hd lh hk hl).1.same hg, (h.done k hd lh hk hl).2.1.same hg, (h.done k hd lh hk hl).2.2⟩⟩
theorem P3.other {w w' : World} {base i : Nat} {hs ls : List H} (h : P3 w base hs ls i) {b2 n size : Nat} {e : TypeId} {v : Value} {zs : List Value} (ho : w.ownsRow b2 e size v n zs) (he : e ≠ 3) (hg : w.grownBy w' v.ownBlock) : P3 w' base hs ls i :=
 ⟨fun k hd hk hi => Own.kept (h.rest k hd hk hi) hg (fun g hg2 => own_apart (h.rest k hd hk hi) ho (fun e2 => he e2.symm) g hg2), fun k hd lh hk hl => ⟨(h.done k hd lh hk hl).1.other ho he hg, (h.done k hd lh hk hl).2.1.other ho he hg, (h.done k hd lh hk hl).2.2⟩⟩
/-- One more list is done. -/
theorem P3.next {ws w : World} {base i : Nat} {hs ls : List H} (h : P3 ws base hs ls i) (hd : Dist hs) {hi bh : H} (hk : hs[i]? = some hi) (hl : ls.length = i) (hg : ws.grownBy w (hv hi).ownBlock)
  (ho : w.ownsRow base 3 1 (hv bh) bh.n (ints (mks i hi.n ++ ngs i 20))) (ha : Alt ws w hi (mks i hi.n) (hv bh)) : P3 w base hs (ls ++ [bh]) (i + 1) := by
 have hws := h.rest i hi hk (Nat.le_refl i)
 constructor
 ·intro k h2 hk2 hik
  exact Own.kept (h.rest k h2 hk2 (by omega)) hg (fun g hg2 e => hd i k hi h2 hk hk2 (by omega) g e hg2)
 ·intro k h2 lh hk2 hl2
  by_cases e : k = i
  ·subst e
   rw [hk] at hk2
   obtain rfl := Option.some.inj hk2
   rw [List.getElem?_append_right (by omega), hl, Nat.sub_self] at hl2
   obtain rfl : bh = lh := by simpa using hl2
   refine ⟨?_, sees_own ho, fun k' h' hk' hlt ad ea => ?_⟩
   ·rcases ha with ha | ⟨hs2, _⟩
    ·exact sees_front ho ha (by rw [zay]) hws
    ·exact hs2
   ·have e2 := hv_block ea
    rcases ha with ha | ⟨_, b, hb, hbs⟩
    ·rw [ha] at e2
     exact hd k k' hi h' hk hk' (by omega) ad.block e2
    ·rw [hb] at e2
     intro e3
     have := ((h.rest k' h' hk' (by omega)).lt ad.block e3).2
     have := Option.some.inj e2
     omega
  ·have hlt : k < ls.length := by
    have := (List.getElem?_eq_some_iff.1 hl2).1
    rw [List.length_append] at this
    simp at this
    omega
   rw [List.getElem?_append_left hlt] at hl2
   obtain ⟨d1, d2, d3⟩ := h.done k h2 lh hk2 hl2
   refine ⟨d1.grown hg (fun ad ea e2 => ?_), d2.grown hg (fun ad ea e2 => ?_), d3⟩
   ·exact hd i k hi h2 hk hk2 (fun e3 => e e3.symm) ad.block e2 (hv_block ea)
   ·exact d3 i hi hk (by omega) ad ea e2
theorem hdr_at {w : World} {base n c : Nat} {A : Option Addr} {hs : List H} (h : w.ownsRow base 22 1 (.slice A n c) n (hs.map hv)) {i : Nat} {hd : H} (e : hs[i]? = some hd) : ∃ al : Addr, A = some al ∧ w.cell? (al.add i) = some (hv hd) := by
 have hl := h.1
 rw [List.length_map] at hl
 have hlt := (List.getElem?_eq_some_iff.1 e).1
 obtain ⟨_, hs2⟩ := own_some h rfl
 obtain ⟨al, ea, _⟩ := hs2 (by omega)
 exact ⟨al, ea, (own_cell h (ad := al) (c := c) (by rw [ea]) i _ (by rw [List.getElem?_map, e]; rfl)).1⟩
end Go.Proofs.Ytlidbaejhmamjaa.SL

namespace Go.Proofs.Ytlidbaejhmamjaa.SL
open Go.RowKit Go.Proofs.YtlidbaejhmamjaaW.PrintWords Go.Proofs.YtlidbaejhmamjaaW.PrintLast Go.Proofs.YtlidbaejhmamjaaW.PrintMore Go.Proofs.Ytlidbaejhmamjaa.PB Go.Proofs.Ytlidbaejhmamjaa.LA Go.Proofs.Ytlidbaejhmamjaa.AC Go.Proofs.Ytlidbaejhmamjaa.LW
set_option linter.unusedVariables false
set_option linter.unusedSimpArgs false
theorem info22 : (Try.prog.info? 22).map (fun i => (i.zero, i.size, i.bytes)) = some (some (.slice none 0 0), 1, 24) := by kernel_rfl
theorem grow_any {w w' : World} {v v' : Value} (h : (v'.ownBlock = v.ownBlock ∧ v.ownBlock ≠ none ∧ w.grownBy w' v.ownBlock) ∨ (w.grownBy w' none ∧ ∃ b, v'.ownBlock = some b ∧ w.heap.size ≤ b)) : w.grownBy w' v.ownBlock := by
 rcases h with h | h
 ·exact h.2.2
 ·exact ⟨h.1.os, h.1.tape, h.1.output, h.1.size, fun k hk _ => h.1.block k hk (fun e => by cases e)⟩
theorem own_form {w : World} {base n size : Nat} {e : TypeId} {v : Value} {xs : List Value} (h : w.ownsRow base e size v n xs) : ∃ A c, v = .slice A n c := by
 rcases h.2 with ⟨hn, h0⟩ | ⟨g, cap, cur, hv2, _⟩
 ·exact ⟨none, 0, by rw [hn, h0]⟩
 ·exact ⟨_, _, hv2⟩
theorem take_two (hs : List H) (x : Nat) {h1 h2 : H} (e1 : hs[2 * x]? = some h1) (e2 : hs[2 * x + 1]? = some h2) : (hs.take (2 * x)).map hv ++ [hv h1, hv h2] = (hs.take (2 * x + 2)).map hv := by
 rw [show 2 * x + 2 = 2 * x + 1 + 1 from rfl, List.take_add_one, e2, List.take_add_one, e1]
 simp
theorem le_max_ (k : Nat) (h : k ≤ 1000000) : k ≤ maxLen := Nat.le_trans h (by decide)
theorem le_by8 (k : Nat) (h : k ≤ 1000000) : k * 8 ≤ 140737488355328 := by omega
theorem le_by24 (k : Nat) (h : k ≤ 1000000) : k * 24 ≤ 140737488355328 := by omega
theorem next_apart {w w0 w' : World} {base n s1 : Nat} {e1 : TypeId} {v v1 u : Value} {xs : List Value} (hl : w.ownsRow base e1 s1 u n xs) (hn : ∀ k, v.ownBlock = some k → u.ownBlock ≠ some k) (h0 : w.heap.size ≤ w0.heap.size)
  (h : (v1.ownBlock = v.ownBlock ∧ v.ownBlock ≠ none ∧ w0.grownBy w' v.ownBlock) ∨ (w0.grownBy w' none ∧ ∃ b, v1.ownBlock = some b ∧ w0.heap.size ≤ b)) : ∀ k, v1.ownBlock = some k → u.ownBlock ≠ some k := by
 intro k hk hk2
 rcases h with ⟨e, _⟩ | ⟨_, b, e, hb⟩
 ·exact hn k (e ▸ hk) hk2
 ·have := (hl.lt k hk2).2
  rw [e] at hk
  have := Option.some.inj hk
  omega
theorem pair_at {w : World} {base n c : Nat} {A : Option Addr} {hs : List H} {v : Value} (h : w.ownsRow base 24 2 v n (hs.map hv)) (hvv : v = .slice A n c) (x : Nat) {h1 h2 : H} (e1 : hs[2 * x]? = some h1) (e2 : hs[2 * x + 1]? = some h2) :
  ∃ ad : Addr, A = some ad ∧ w.cell? (ad.add (x * 2)) = some (hv h1) ∧ w.cell? ⟨(ad.add (x * 2)).block, (ad.add (x * 2)).off + 1, none⟩ = some (hv h2) := by
 have hl := h.1
 rw [List.length_map] at hl
 have hb : 2 * x + 1 < hs.length := (List.getElem?_eq_some_iff.1 e2).1
 rcases h.2 with ⟨hn, h0⟩ | ⟨g, cap, cur, hv2, hbg, hgc, _⟩
 ·omega
 ·have hv3 := hv2
  rw [hvv] at hv3
  injection hv3 with a1 a2 a3
  refine ⟨⟨g, 0, none⟩, a1, ?_, ?_⟩
  ·exact h.cells (g := g) (by rw [hv2]; rfl) (x * 2) _ (by rw [List.getElem?_map, Nat.mul_comm, e1]; rfl)
  ·rw [← add_field _ _ 1 (by decide)]
   exact h.cells (g := g) (by rw [hv2]; rfl) (x * 2 + 1) _ (by rw [List.getElem?_map, Nat.mul_comm, e2]; rfl)
def settled.T5 : Bool × List (List Nat × List Nat) := (true, [([], []), ([], []), ([], []), ([1, 2], [1, 2]), ([3], [3]), ([4], [4]), ([], []), ([], []), ([6, 7], [6, 7]), ([8], [8]), ([9], [9]), ([5, 10], [5, 10]), ([0, 11], [0, 11]), ([12, 12, 0, 1, 2, 3, 4, 5, 6, 7, 8, 9, 10, 11, 12], [0, 12])])
def settled.B5 : List Nat := [0, 0, 0, 6, 14, 30, 0, 0, 192, 448, 960, 2046, 4095, 8191]
theorem settled.tab5 : rtab .any (opsOf Try.f27 5) = settled.T5 := by kernel_rfl
theorem settled.bits5 : zaw settled.T5.2 settled.B5 = true := by kernel_rfl
set_option maxRecDepth 100000 in
set_option maxHeartbeats 8000000 in
theorem settled_calls (AK : Option Addr) (n ck base : Nat) (hs : List H) (X0 : Nat → List Int) (w : World) (hk : w.ownsRow base 24 2 (.slice AK n ck) n (hs.map hv)) (hf : Fam w base hs X0) (hd : Dist hs) (hn : hs.length = 2 * n ∧ n ≤ 1000) (hl : ∀ (k : Nat) (h : H), hs[k]? = some h → h.n ≤ 1000) (hb : base ≤ w.heap.size) :
  Calls Try.prog 27 #[.slice AK n ck] w fun e w' => e = .returned (.bool true) ∧ Below base w w' := by
 have hu24 := Try.underlying24
 have hu22 := Try.underlying22
 have hu57 := Try.underlying57
 have hu105 := Try.underlying105
 have KO := am_ hk
 have F0 := am_ hf
 have HD := am_ hd
 have HN := am_ hn
 have HL := am_ hl
 have HBB := am_ hb
 clear hk hf hd hl
 go_enter Try.func27, Try.ntmps27
 go_wp2_with fail
 go_loopg [3, 4] n (fun m v3 v4 wr => ∃ (x : Nat) (vl : Value) (A : Option Addr) (cl : Nat), v3 = .slice A (2 * x) cl ∧ v4 = .int .i64 (x : Int) ∧ Aside0 (x + m = n) ∧ Aside0 (wr.ownsRow base 22 1 (.slice A (2 * x) cl) (2 * x) ((hs.take (2 * x)).map hv)) ∧ Aside0 (wr.ownsRow base 24 2 (.slice AK n ck) n (hs.map hv)) ∧ Aside0 (Fam wr base hs X0) ∧ Aside0 (Below base w wr) ∧ Aside0 (base ≤ wr.heap.size))
 case atStart => exact ⟨0, .slice none 0 0, none, 0, rfl, rfl, ⟨by omega⟩, ⟨by simp; exact World.ownsRow_nil _ _ _ _⟩, KO, F0, ⟨Below.refl _ _⟩, HBB⟩
 case round =>
  clear KO F0
  obtain ⟨x, vl, A, cl, rfl, rfl, hm, OL, KO, F0, HB, HBB⟩ := hrel
  by_cases hx : x < n
  ·have hxb : decide ((x : Int) < (n : Int)) = true := decide_eq_true (by omega)
   have HX := am_ hx
   obtain ⟨⟨LA, ln, lc⟩, h1⟩ : ∃ h, hs[2 * x]? = some h := ⟨_, List.getElem?_eq_getElem (by have := HN.out; omega)⟩
   obtain ⟨⟨TA, tn, tc⟩, h2⟩ : ∃ h, hs[2 * x + 1]? = some h := ⟨_, List.getElem?_eq_getElem (by have := HN.out; omega)⟩
   obtain ⟨ak, eak, hc0, hc1⟩ := pair_at KO.out rfl x h1 h2
   cases eak
   have h63 := eq_true hx
   have h64 := eq_true (show (x : Int) < (n : Int) by omega)
   have h65 := eq_true (show (0 : Int) ≤ (x : Int) by omega)
   have H1 := am_ h1
   have H2 := am_ h2
   clear hx h1 h2
   go_wp2_with fail
   replace hc0 : wr.cell? (ak.add (x * 2)) = some (.slice LA ln lc) := hc0
   replace hc1 : wr.cell? ⟨(ak.add (x * 2)).block, (ak.add (x * 2)).off + 1, none⟩ = some (.slice TA tn tc) := hc1
   have gd : wr.grownBy wr.drew none := ⟨rfl, rfl, rfl, Nat.le_refl _, fun _ _ _ => rfl⟩
   replace HB := am_ (HB.out.grown gd HBB.out (fun k hk => by cases hk)); replace HBB := am_ (Nat.le_trans HBB.out (gd).size); replace OL := am_ (Own.kept OL.out gd (fun _ _ e => by cases e)); replace KO := am_ (Own.kept KO.out gd (fun _ _ e => by cases e)); replace F0 := am_ (F0.out.same gd)
   refine start_ (n := 14) (S := fun w' => w'.cell? (ak.add (x * 2)) = some (.slice LA ln lc) ∧ w'.cell? ⟨(ak.add (x * 2)).block, (ak.add (x * 2)).off + 1, none⟩ = some (.slice TA tn tc)) (ds := [11, 12]) (bl_ 14 0) (by kernel_rfl) rfl rfl ⟨hc0, hc1⟩ (fun hHeld => ?_); refine with_tabW settled.tab5 settled.bits5 (fun HT_ HW_ => ?_)
   clear hc0 hc1 gd; generalize wr.drew = w5 at OL KO F0 HB HBB hHeld ⊢
   refine zG (i := 0) (N := some 20) (v := ?_) (a' := ?_) (bl_ 14 1) rfl rfl (zu HT_.out (by kernel_rfl)) (fun _ _ _ h => h) (Or.inl ⟨by rfl, ?_⟩) ?_ ?_; rotate_left; (focus (intro w'; go_simp; first | done | with_reducible rfl)); rotate_left; (focus (simp only [Act.put, sI_, s0_, s1_, zv, zx]; first | done | rfl))
   refine zG (i := 1) (N := some 21) (v := ?_) (a' := ?_) (bl_ 14 3) rfl rfl (zu HT_.out (by kernel_rfl)) (fun _ _ _ h => h) (Or.inl ⟨by rfl, ?_⟩) ?_ ?_; rotate_left; (focus (intro w'; go_simp; first | done | with_reducible rfl)); rotate_left; (focus (simp only [Act.put, sI_, s0_, s1_, zv, zx]; first | done | rfl))
   refine zG (i := 2) (N := some 22) (v := ?_) (a' := ?_) (bl_ 14 7) rfl rfl (zu HT_.out (by kernel_rfl)) (fun _ _ _ h => h) (Or.inl ⟨by rfl, ?_⟩) ?_ ?_; rotate_left; (focus (intro w'; go_simp; first | done | with_reducible rfl)); rotate_left; (focus (simp only [Act.put, sI_, s0_, s1_, zv, zx]; first | done | rfl))
   refine zG (i := 3) (N := some 23) (v := ?_) (a' := ?_) (bl_ 14 15) rfl rfl (zu HT_.out (by kernel_rfl)) (fun _ _ _ h => h) (Or.inl ⟨by rfl, ?_⟩) ?_ ?_; rotate_left; (focus (intro w'; go_simp; first | done | with_reducible rfl)); rotate_left; (focus (simp only [Act.put, sI_, s0_, s1_, zv, zx]; first | done | rfl))
   refine zG (i := 4) (N := some 24) (v := ?_) (a' := ?_) (bl_ 14 31) rfl rfl (zu HT_.out (by kernel_rfl)) (fun _ _ _ h => h) (Or.inl ⟨by rfl, ?_⟩) ?_ ?_; rotate_left; (focus (intro w'; go_simp; first | done | with_reducible rfl)); rotate_left; (focus (simp only [Act.put, sI_, s0_, s1_, zv, zx]; first | done | rfl))
   refine zG (i := 6) (N := some 26) (v := ?_) (a' := ?_) (bl_ 14 95) rfl rfl (zu HT_.out (by kernel_rfl)) (fun _ _ _ h => h) (Or.inl ⟨by rfl, ?_⟩) ?_ ?_; rotate_left; (focus (intro w'; go_simp; first | done | with_reducible rfl)); rotate_left; (focus (simp only [Act.put, sI_, s0_, s1_, zv, zx]; first | done | rfl))
   refine zG (i := 7) (N := some 27) (v := ?_) (a' := ?_) (bl_ 14 223) rfl rfl (zu HT_.out (by kernel_rfl)) (fun _ _ _ h => h) (Or.inl ⟨by rfl, ?_⟩) ?_ ?_; rotate_left; (focus (intro w'; go_simp; first | done | with_reducible rfl)); rotate_left; (focus (simp only [Act.put, sI_, s0_, s1_, zv, zx]; first | done | rfl))
   refine zG (i := 8) (N := some 28) (v := ?_) (a' := ?_) (bl_ 14 479) rfl rfl (zu HT_.out (by kernel_rfl)) (fun _ _ _ h => h) (Or.inl ⟨by rfl, ?_⟩) ?_ ?_; rotate_left; (focus (intro w'; go_simp; first | done | with_reducible rfl)); rotate_left; (focus (simp only [Act.put, sI_, s0_, s1_, zv, zx]; first | done | rfl))
   refine zG (i := 9) (N := some 29) (v := ?_) (a' := ?_) (bl_ 14 991) rfl rfl (zu HT_.out (by kernel_rfl)) (fun _ _ _ h => h) (Or.inl ⟨by rfl, ?_⟩) ?_ ?_; rotate_left; (focus (intro w'; go_simp; first | done | with_reducible rfl)); rotate_left; (focus (simp only [Act.put, sI_, s0_, s1_, zv, zx]; first | done | rfl))
   refine take_ (i := 5) (N := some 25) (v := ?_) (a' := ?_) (bl_ 14 1023) rfl rfl (zag HT_.out HW_.out (by kernel_rfl)) (fun _ _ _ h => h) (Or.inl ⟨by rfl, ?_⟩) hHeld ?_ ?_; rotate_left; (focus (rintro w' ⟨s0, s1⟩; go_simp; first | done | with_reducible rfl)); rotate_left; (focus (simp only [Act.put, sI_, s0_, s1_, zv, zx]; first | done | rfl))
   refine take_ (i := 10) (N := some 30) (v := ?_) (a' := ?_) (bl_ 14 2047) rfl rfl (zag HT_.out HW_.out (by kernel_rfl)) (fun _ _ _ h => h) (Or.inl ⟨by rfl, ?_⟩) hHeld ?_ ?_; rotate_left; (focus (rintro w' ⟨s0, s1⟩; go_simp; first | done | with_reducible rfl)); rotate_left; (focus (simp only [Act.put, sI_, s0_, s1_, zv, zx]; first | done | rfl))
   refine last_ (i := 11) (N := some 31) (bl_ 14 4095) rfl rfl (one_of HT_.out (by kernel_rfl)) (by decide) (fun K hK => ?_)
   refine value_ (w1 := w5.alloc (.cells #[.slice LA ln lc, .slice TA tn tc] 22)) (v := .slice (some ⟨w5.heap.size, 0, none⟩) 2 2) (by rfl) rfl (by go_simp; first | done | rfl) ?_
   refine hK.out _ _ ?_; clear hK K
   refine zat (a' := ?_) ?_ ?_; rotate_left; (focus (show Act.put _ (some 31) _ = _; simp only [Act.put, sI_, s0_, s1_, zv, zx]; first | done | rfl))
   refine last_ (i := 12) (N := some 32) (bl_ 14 8191) rfl rfl (one_of HT_.out (by kernel_rfl)) (by decide) (fun K hK => ?_)
   refine app_step (base := base) (t := 105) (e := 22) (by rfl) _ _ rfl Try.underlying105 info22 rfl (by decide) rfl (OL.out.alloc _) rfl rfl (by decide) (World.news_of_block (cs := #[.slice LA ln lc, .slice TA tn tc]) (heap_alloc_new _ _)) (by simp [Value.oneCell']) (by have := HX.out; have := HN.out; exact le_max_ _ (by omega)) (by have := HX.out; have := HN.out; omega) (Nat.le_trans HBB.out (by simp)) ?_
   intro v1 w1 ho alt
   refine hK.out _ _ ?_; clear hK K
   refine zat (a' := ?_) ?_ ?_; rotate_left; (focus (show Act.put _ (some 32) _ = _; simp only [Act.put, sI_, s0_, s1_, zv, zx]; first | done | rfl))
   refine zG (i := 13) (N := some 3) (v := ?_) (a' := ?_) (bl_ 14 16383) rfl rfl (zu HT_.out (by kernel_rfl)) (fun _ _ _ h => h) (Or.inl ⟨by rfl, ?_⟩) ?_ ?_; rotate_left; (focus (intro w'; go_simp; first | done | with_reducible rfl)); rotate_left; (focus (simp only [Act.put, sI_, s0_, s1_, zv, zx]; first | done | rfl))
   refine done_ (done_of HT_.out (by kernel_rfl)) ?_
   have g1 := grow_any alt
   have g2 := (World.grownBy.trans (World.grownBy_alloc w5 (.cells #[.slice LA ln lc, .slice TA tn tc] 22) _) g1)
   replace HB := am_ (HB.out.grown g2 HBB.out (zah OL.out))
   replace F0 := am_ (F0.out.grown g2 (fun k h hk g hg => own_apart (F0.out k h hk) OL.out (by decide) g hg))
   replace KO := am_ (Own.kept KO.out g2 (own_apart KO.out OL.out (by decide)))
   replace HBB := am_ (Nat.le_trans HBB.out g2.size)
   obtain ⟨A2, c2, rfl⟩ := own_form ho
   have OL2 := am_ ho
   clear g1 g2 alt ho OL
   have hw : wrap64 ((x : Int) + 1) = ((x + 1 : Nat) : Int) := wnext x (by have := HX.out; have := HN.out; omega)
   go_wp2_with fail
   go_roundg (gk - 1)
   case measure => have := hm.out; have := HX.out; omega
   case rel => exact ⟨x + 1, .slice none 0 0, A2, c2, by rw [show 2 * (x + 1) = 2 * x + 2 by omega], by first | rfl | rw [hw], ⟨by have := hm.out; have := HX.out; omega⟩, ⟨by rw [show 2 * (x + 1) = 2 * x + 2 by omega, ← take_two hs x H1.out H2.out]; exact OL2.out⟩, KO, F0, HB, HBB⟩
  ·have hxb : decide ((x : Int) < (n : Int)) = false := decide_eq_false (by omega)
   obtain rfl : x = n := by have := hm.out; omega
   have OL2 := am_ (show wr.ownsRow base 22 1 (.slice A (2 * x) cl) (2 * x) (hs.map hv) by have h := OL.out; rw [List.take_of_length_le (show hs.length ≤ 2 * x by have := HN.out; omega)] at h; exact h)
   clear hx hm OL hxb
   go_wp2_with fail
   obtain ⟨M, hM⟩ : ∃ M, M = 2 * x := ⟨_, rfl⟩
   have HM := am_ (show hs.length = M ∧ M ≤ 2000 by have := HN.out; omega)
   replace OL2 := am_ (show wr.ownsRow base 22 1 (.slice A M cl) M (hs.map hv) by rw [hM]; exact OL2.out)
   rw [← hM]
   clear hM
   have F1 := am_ (show ∃ X, Fam wr base hs X from ⟨X0, F0.out⟩)
   clear F0 KO
   go_loopg [5] M (fun m v5 w2 => ∃ (i : Nat) (X : Nat → List Int), v5 = .int .i64 (i : Int) ∧ Aside0 (i + m = M) ∧ Aside0 (Fam w2 base hs X) ∧ Aside0 (∀ (k : Nat) (h : H), hs[k]? = some h → k < i → X k = mks k h.n) ∧ Aside0 (w2.ownsRow base 22 1 (.slice A M cl) M (hs.map hv)) ∧ Aside0 (Below base w w2) ∧ Aside0 (base ≤ w2.heap.size))
   case atStart => obtain ⟨X1, hX1⟩ := F1.out; exact ⟨0, X1, rfl, ⟨by omega⟩, ⟨hX1⟩, ⟨fun k h hk hi => absurd hi (Nat.not_lt_zero k)⟩, OL2, HB, HBB⟩
   case round =>
    clear OL2 HB HBB F1
    obtain ⟨i, X, rfl, hm, FX, MK, OL, HB, HBB⟩ := hrel
    by_cases hx : i < M
    ·have hxb : decide ((i : Int) < (M : Int)) = true := decide_eq_true (by omega)
     have HX := am_ hx
     obtain ⟨g1, hg1⟩ : ∃ g : Nat, i + 1 + g = M := ⟨M - (i + 1), by omega⟩
     have HG := am_ (show g1 < gk ∧ i + 1 + g1 = M by have := hm.out; omega)
     obtain ⟨⟨hA, hn1, hc⟩, hk⟩ : ∃ h, hs[i]? = some h := ⟨_, List.getElem?_eq_getElem (by have := HM.out; omega)⟩
     have HK := am_ hk
     have HN1 := am_ (show hn1 ≤ 1000 from HL.out i _ hk)
     obtain ⟨al, eal, _⟩ := hdr_at OL.out hk
     cases eal
     clear hx hk hg1 hm
     have i0 := eq_true HX.out; have i1 := eq_true (show (i : Int) < (M : Int) by have := HX.out; omega); have i2 := eq_true (show (0 : Int) ≤ (i : Int) by omega)
     go_wp2_with fail
     go_loopg [6] hn1 (fun m v6 w3 => ∃ (y : Nat) (X2 : Nat → List Int), v6 = .int .i64 (y : Int) ∧ Aside0 (y + m = hn1) ∧ Aside0 (Fam w3 base hs X2) ∧ Aside0 (∀ (k : Nat) (h : H), hs[k]? = some h → k < i → X2 k = mks k h.n) ∧ Aside0 ((X2 i).take y = mks i y) ∧ Aside0 (w3.ownsRow base 22 1 (.slice (some al) M cl) M (hs.map hv)) ∧ Aside0 (Below base w w3) ∧ Aside0 (base ≤ w3.heap.size))
     case atStart => exact ⟨0, X, rfl, ⟨by omega⟩, FX, MK, ⟨rfl⟩, OL, HB, HBB⟩
     case round =>
      clear FX MK OL HB HBB
      obtain ⟨y, X2, rfl, hm2, FX, MK, TK, OL, HB, HBB⟩ := hrel
      obtain ⟨al', eal, hc0⟩ := hdr_at OL.out HK.out
      cases eal
      replace hc0 : wr.cell? (al.add i) = some (.slice hA hn1 hc) := hc0
      by_cases hy : y < hn1
      ·have hyb : decide ((y : Int) < (hn1 : Int)) = true := decide_eq_true (by omega)
       have HY := am_ hy
       obtain ⟨_, hsm⟩ := own_some (FX.out i _ HK.out) rfl
       obtain ⟨ad, ead, _⟩ := hsm (show 0 < hn1 by omega)
       cases ead
       have hlen := FX.out.len HK.out
       obtain ⟨hco, hfo⟩ := own_cell (FX.out i _ HK.out) (ad := ad) (c := hc) rfl y _ (ints_get (show y < (X2 i).length by rw [hlen]; exact hy))
       have j0 := eq_true hy
       have j1 := eq_true (show (y : Int) < (hn1 : Int) by omega)
       have j2 := eq_true (show (0 : Int) ≤ (y : Int) by omega)
       have hw1 : wrap64 (1000 * (i : Int)) = 1000 * (i : Int) := w64 _ (by omega) (by have := HX.out; have := HM.out; omega)
       have hw2 : wrap64 (1000 * (i : Int) + (y : Int)) = 1000 * (i : Int) + (y : Int) := w64 _ (by omega) (by have := HX.out; have := HM.out; have := HN1.out; omega)
       have hw3 : wrap64 ((y : Int) + 1) = ((y + 1 : Nat) : Int) := wnext y (Nat.lt_trans (show y < 1001 by have := HN1.out; clear hw1 hw2; omega) (by decide))
       have HW2 := am_ hw2
       have HW3 := am_ hw3
       clear hy hlen hsm
       go_wp2_with fail
       clear hw1 hw2 hw3
       obtain ⟨_, gs⟩ := own_set (FX.out i _ HK.out) (ad := ad) (c := hc) rfl y HY.out (.int .i64 (1000 * (i : Int) + (y : Int)))
       go_roundg (gk - 1)
       case measure => have := hm2.out; have := HY.out; omega
       case rel => exact ⟨y + 1, fun k => if k = i then (X2 i).set y (1000 * (i : Int) + (y : Int)) else X2 k, rfl, ⟨by have := hm2.out; have := HY.out; omega⟩, ⟨Fam.set FX.out HD.out HK.out rfl y HY.out _⟩, ⟨fun k h hk hi => by simp only [if_neg (show k ≠ i by omega)]; exact MK.out k h hk hi⟩, ⟨by simp only [if_true]; rw [set_take _ _ _ (by rw [FX.out.len HK.out]; exact HY.out), TK.out, mks_succ]⟩, ⟨Own.kept OL.out gs (own_apart OL.out (FX.out i _ HK.out) (by decide))⟩, ⟨HB.out.grown gs HBB.out (zah (FX.out i _ HK.out))⟩, ⟨Nat.le_trans HBB.out gs.size⟩⟩
      ·have hyb : decide ((y : Int) < (hn1 : Int)) = false := decide_eq_false (by omega)
       have hyc : (y < hn1) = False := eq_false hy
       have hyd : ((y : Int) < (hn1 : Int)) = False := eq_false (by omega)
       have HY := am_ (show y = hn1 by have := hm2.out; omega)
       clear hy
       go_wp2_with fail
       go_roundg g1
       case measure => exact HG.out.1
       case rel => exact ⟨i + 1, X2, by first | rfl | (rw [w64 _ (by omega) (by have := HX.out; have := HM.out; omega)]; rfl), ⟨by have := HG.out.2; omega⟩, FX, ⟨fun k h hk hi => by
        by_cases e : k = i
        ·subst e
         have e2 := HK.out
         rw [hk] at e2
         obtain rfl := Option.some.inj e2
         have e3 := TK.out
         rw [List.take_of_length_le (by rw [FX.out.len hk]; have := HY.out; show hn1 ≤ y; omega), HY.out] at e3
         exact e3
        ·exact MK.out k h hk (by omega)⟩, OL, HB, HBB⟩
    ·have hxb : decide ((i : Int) < (M : Int)) = false := decide_eq_false (by omega)
     have hxc : (i < M) = False := eq_false hx
     have hxd : ((i : Int) < (M : Int)) = False := eq_false (by omega)
     have hi : i = M := by have := hm.out; omega
     have PP := am_ (show P3 wr base hs [] 0 from ⟨fun k h hk _ => by rw [← MK.out k h hk (by have := (List.getElem?_eq_some_iff.1 hk).1; have := HM.out; omega)]; exact FX.out k h hk, fun k h lh hk hl => by simp at hl⟩)
     clear hx hm hi FX MK
     go_wp2_with fail
     go_loopg [7, 8] M (fun m v7 v8 w2 => ∃ (i : Nat) (ls : List H) (AL : Option Addr) (cL : Nat), v7 = .slice AL i cL ∧ v8 = .int .i64 (i : Int) ∧ Aside0 (i + m = M) ∧ Aside0 (ls.length = i) ∧ Aside0 (w2.ownsRow base 22 1 (.slice AL i cL) i (ls.map hv)) ∧ Aside0 (∀ k, (Value.slice AL i cL).ownBlock = some k → (Value.slice A M cl).ownBlock ≠ some k) ∧ Aside0 (P3 w2 base hs ls i) ∧ Aside0 (w2.ownsRow base 22 1 (.slice A M cl) M (hs.map hv)) ∧ Aside0 (Below base w w2) ∧ Aside0 (base ≤ w2.heap.size))
     case atStart => exact ⟨0, [], none, 0, rfl, rfl, ⟨by omega⟩, ⟨rfl⟩, ⟨World.ownsRow_nil _ _ _ _⟩, ⟨fun k hk => by cases hk⟩, PP, OL, HB, HBB⟩
     case round =>
      clear PP OL HB HBB
      obtain ⟨i, ls, AL, cL, rfl, rfl, hm, LL, OG, NB, PP, OL, HB, HBB⟩ := hrel
      by_cases hx : i < M
      ·have hxb : decide ((i : Int) < (M : Int)) = true := decide_eq_true (by omega)
       have HX := am_ hx
       obtain ⟨g1, hg1⟩ : ∃ g : Nat, i + 1 + g = M := ⟨M - (i + 1), by omega⟩
       have HG := am_ (show g1 < gk ∧ i + 1 + g1 = M by have := hm.out; omega)
       obtain ⟨⟨hA, hn1, hc⟩, hk⟩ : ∃ h, hs[i]? = some h := ⟨_, List.getElem?_eq_getElem (by have := HM.out; omega)⟩
       have HK := am_ hk
       have HN1 := am_ (show hn1 ≤ 1000 from HL.out i _ hk)
       obtain ⟨al, eal, hc0⟩ := hdr_at OL.out hk
       cases eal
       replace hc0 : wr.cell? (al.add i) = some (.slice hA hn1 hc) := hc0
       clear hx hk hg1 hm
       have i0 := eq_true HX.out
       have i1 := eq_true (show (i : Int) < (M : Int) by have := HX.out; omega)
       have i2 := eq_true (show (0 : Int) ≤ (i : Int) by omega)
       have HWI := am_ (show wrap64 (1000 * (i : Int)) = 1000 * (i : Int) from w64 _ (by omega) (by have := HX.out; have := HM.out; omega))
       obtain ⟨ws, hws⟩ : ∃ W, W = wr := ⟨_, rfl⟩
       have PW := am_ (show P3 ws base hs ls i by rw [hws]; exact PP.out)
       have OLW := am_ (show ws.ownsRow base 22 1 (.slice (some al) M cl) M (hs.map hv) by rw [hws]; exact OL.out)
       have OGW := am_ (show ws.ownsRow base 22 1 (.slice AL i cL) i (ls.map hv) by rw [hws]; exact OG.out)
       have R0 := am_ (PW.out.rest i _ HK.out (Nat.le_refl i))
       have GS := am_ (show ws.grownBy wr (hv ⟨hA, hn1, hc⟩).ownBlock by rw [hws]; exact ⟨rfl, rfl, rfl, Nat.le_refl _, fun _ _ _ => rfl⟩)
       have RB := am_ (show wr.ownsRow base 3 1 (.slice hA (hn1 + 0) hc) (hn1 + 0) (ints (mks i hn1 ++ ngs i 0)) by rw [← hws]; have h := R0.out; rw [show ngs i 0 = [] from rfl, List.append_nil]; exact h)
       clear hws PP OG OL
       go_wp2_with fail
       go_loopg [9, 10] 20 (fun m v9 v10 w3 => ∃ (y : Nat) (bA : Option Addr) (bc : Nat), v9 = .slice bA (hn1 + y) bc ∧ v10 = .int .i64 (y : Int) ∧ Aside0 (y + m = 20) ∧ Aside0 (w3.ownsRow base 3 1 (.slice bA (hn1 + y) bc) (hn1 + y) (ints (mks i hn1 ++ ngs i y))) ∧ Aside0 (Alt ws w3 ⟨hA, hn1, hc⟩ (mks i hn1) (.slice bA (hn1 + y) bc)) ∧ Aside0 (ws.grownBy w3 (hv ⟨hA, hn1, hc⟩).ownBlock) ∧ Aside0 (Below base w w3) ∧ Aside0 (base ≤ w3.heap.size))
       case atStart => exact ⟨0, hA, hc, rfl, rfl, ⟨by omega⟩, RB, ⟨.inl rfl⟩, GS, HB, HBB⟩
       case round =>
        clear RB GS HB HBB hc0
        obtain ⟨y, bA, bc, rfl, rfl, hm2, RB, AT, GS, HB, HBB⟩ := hrel
        by_cases hy : y < 20
        ·have hyb : decide ((y : Int) < 20) = true := decide_eq_true (by omega)
         have HY := am_ hy
         have HLE := am_ (show hn1 + y + 1 ≤ 1000000 by have := HN1.out; omega)
         have hw1 := HWI.out
         have hw2 : wrap64 (1000 * (i : Int) + (y : Int)) = 1000 * (i : Int) + (y : Int) := w64 _ (by omega) (by have := HX.out; have := HM.out; omega)
         have hw3 : wrap64 ((y : Int) + 1) = ((y + 1 : Nat) : Int) := wnext y (by omega)
         have hw4 : wrap64 (1000 * (i : Int) + (y : Int) + 1) = 1000 * (i : Int) + (y : Int) + 1 := w64 _ (by omega) (by have := HX.out; have := HM.out; omega)
         have hw5 : wrap64 (-(1000 * (i : Int) + (y : Int) + 1)) = -(1000 * (i : Int) + (y : Int) + 1) := w64 _ (by have := HX.out; have := HM.out; omega) (by omega)
         clear hy
         go_wp2_with (first
           | ((with_reducible refine zp (N := 80) rfl ?_); refine app_event (w := wr.alloc (.cells #[.int .i64 (-(1000 * (i : Int) + (y : Int) + 1))] 3)) (base := base) (t := 22) (e := 3) (v := .slice bA (hn1 + y) bc) (news := [.int .i64 (-(1000 * (i : Int) + (y : Int) + 1))]) rfl _ _ rfl Try.underlying22 info3 rfl (by decide) rfl (RB.out.alloc _) rfl rfl (by decide) (World.news_of_block (cs := #[.int .i64 (-(1000 * (i : Int) + (y : Int) + 1))]) (heap_alloc_new _ _)) (by simp [Value.oneCell']) (le_max_ _ HLE.out) (le_by8 _ HLE.out) (Nat.le_trans HBB.out (by simp)) ?_; intro v1 w1 ho alt; have GA := World.grownBy.trans (World.grownBy_alloc wr (.cells #[.int .i64 (-(1000 * (i : Int) + (y : Int) + 1))] 3) _) (grow_any alt); obtain ⟨aw, ag⟩ := alt_step R0.out (zay i hn1).symm GS.out RB.out AT.out (World.grownBy_alloc wr (.cells #[.int .i64 (-(1000 * (i : Int) + (y : Int) + 1))] 3) none) alt; obtain ⟨bA2, bc2, rfl⟩ := own_form ho; have RB2 := am_ (show w1.ownsRow base 3 1 (.slice bA2 (hn1 + (y + 1)) bc2) (hn1 + (y + 1)) (ints (mks i hn1 ++ ngs i (y + 1))) by rw [ngs_succ, ← List.append_assoc, ints_append]; exact ho); have AT2 := am_ aw; have GS2 := am_ ag; have HB2 := am_ (HB.out.grown GA HBB.out (zah RB.out)); have HBB2 := am_ (Nat.le_trans HBB.out GA.size); clear GA aw ag alt ho RB AT GS HB HBB)
           | fail)
         clear hw1 hw2 hw3 hw4 hw5
         go_roundg (gk - 1)
         case measure => have := hm2.out; have := HY.out; omega
         case rel => exact ⟨y + 1, bA2, bc2, rfl, by first | rfl | (rw [w64 _ (by omega) (by have := HY.out; omega)]; rfl), ⟨by have := hm2.out; have := HY.out; omega⟩, RB2, AT2, GS2, HB2, HBB2⟩
        ·have hyb : decide ((y : Int) < 20) = false := decide_eq_false (by omega)
         obtain rfl : y = 20 := by have := hm2.out; omega
         clear hy hm2
         have OL := am_ (Own.kept OLW.out GS.out (own_apart OLW.out R0.out (by decide)))
         have OG := am_ (Own.kept OGW.out GS.out (own_apart OGW.out R0.out (by decide)))
         have PP := am_ (P3.next PW.out HD.out HK.out LL.out GS.out (bh := ⟨bA, hn1 + 20, bc⟩) RB.out AT.out)
         clear OLW OGW PW GS RB AT R0
         have HLE := am_ (show i + 1 ≤ 1000000 by have := HX.out; have := HM.out; omega)
         obtain ⟨bn, hbn⟩ : ∃ b, b = hn1 + 20 := ⟨_, rfl⟩
         rw [← hbn] at PP
         rw [← hbn]
         have HBN := am_ hbn
         clear hbn
         go_wp2_with (first
           | ((with_reducible refine zp (N := 84) rfl ?_); refine app_event (w := wr.alloc (.cells #[.slice bA bn bc] 22)) (base := base) (t := 105) (e := 22) (v := .slice AL i cL) (news := [.slice bA bn bc]) rfl _ _ rfl Try.underlying105 info22 rfl (by decide) rfl (OG.out.alloc _) rfl rfl (by decide) (World.news_of_block (cs := #[.slice bA bn bc]) (heap_alloc_new _ _)) (by simp [Value.oneCell']) (le_max_ _ HLE.out) (le_by24 _ HLE.out) (Nat.le_trans HBB.out (by simp)) ?_; intro v1 w1 ho alt; have GA := World.grownBy.trans (World.grownBy_alloc wr (.cells #[.slice bA bn bc] 22) _) (grow_any alt); have NB2 := am_ (show ∀ k, v1.ownBlock = some k → (Value.slice (some al) M cl).ownBlock ≠ some k from next_apart OL.out NB.out (by simp) alt); obtain ⟨AL2, cL2, rfl⟩ := own_form ho; have OG2 := am_ (show w1.ownsRow base 22 1 (.slice AL2 (i + 1) cL2) (i + 1) ((ls ++ [(⟨bA, bn, bc⟩ : H)]).map hv) by rw [List.map_append]; exact ho); have PP2 := am_ (PP.out.other OG.out (by decide) GA); have OL2 := am_ (Own.kept OL.out GA (fun k hk e => NB.out k e hk)); have HB2 := am_ (HB.out.grown GA HBB.out (zah OG.out)); have HBB2 := am_ (Nat.le_trans HBB.out GA.size); clear GA alt ho OG OL PP HB HBB NB)
           | fail)
         go_roundg g1
         case measure => exact HG.out.1
         case rel => exact ⟨i + 1, ls ++ [⟨bA, bn, bc⟩], AL2, cL2, rfl, by first | rfl | (rw [w64 _ (by omega) (by have := HX.out; have := HM.out; omega)]; rfl), ⟨by have := HG.out.2; omega⟩, ⟨by rw [List.length_append, LL.out]; rfl⟩, OG2, NB2, PP2, OL2, HB2, HBB2⟩
      ·have hxb : decide ((i : Int) < (M : Int)) = false := decide_eq_false (by omega)
       obtain rfl : i = M := by have := hm.out; omega
       clear hx hm hxb NB
       go_wp2_with fail
       obtain ⟨ws, hws⟩ : ∃ W, W = wr := ⟨_, rfl⟩
       have PW := am_ (show P3 ws base hs ls i by rw [hws]; exact PP.out)
       have OLW := am_ (show ws.ownsRow base 22 1 (.slice A i cl) i (hs.map hv) by rw [hws]; exact OL.out)
       have OGW := am_ (show ws.ownsRow base 22 1 (.slice AL i cL) i (ls.map hv) by rw [hws]; exact OG.out)
       have HBW := am_ (And.intro (show Below base w ws by rw [hws]; exact HB.out) (show base ≤ ws.heap.size by rw [hws]; exact HBB.out))
       have BW := am_ (show Below ws.heap.size ws wr by rw [hws]; exact Below.refl _ _)
       clear PP OL OG HB HBB hws
       go_loopg [11] i (fun m v11 w2 => ∃ k : Nat, v11 = .int .i64 (k : Int) ∧ Aside0 (k + m = i) ∧ Aside0 (Below ws.heap.size ws w2))
       case atStart => exact ⟨0, rfl, ⟨by omega⟩, BW⟩
       case round =>
        clear BW
        obtain ⟨k, rfl, hm, BW⟩ := hrel
        by_cases hx : k < i
        ·have hxb : decide ((k : Int) < (i : Int)) = true := decide_eq_true (by omega)
         have HX := am_ hx
         obtain ⟨g1, hg1⟩ : ∃ g : Nat, k + 1 + g = i := ⟨i - (k + 1), by omega⟩
         have HG := am_ (show g1 < gk ∧ k + 1 + g1 = i by have := hm.out; omega)
         obtain ⟨⟨hA, hn1, hc⟩, hk⟩ : ∃ h, hs[k]? = some h := ⟨_, List.getElem?_eq_getElem (by have := HM.out; omega)⟩
         obtain ⟨⟨bA, bn, bc⟩, hkl⟩ : ∃ h, ls[k]? = some h := ⟨_, List.getElem?_eq_getElem (by have := LL.out; omega)⟩
         have HN1 := am_ (show hn1 ≤ 1000 from HL.out k _ hk)
         obtain ⟨al, eal, hc0⟩ := hdr_at OLW.out hk
         obtain ⟨aL, eaL, hc1⟩ := hdr_at OGW.out hkl
         obtain ⟨s1, s2, _⟩ := PW.out.done k _ _ hk hkl
         cases eal
         cases eaL
         have HC := am_ (show ∀ W : World, Below ws.heap.size ws W → W.cell? (al.add k) = some (.slice hA hn1 hc) ∧ W.cell? (aL.add k) = some (.slice bA bn bc) from fun W hW => ⟨zaf hW hc0, zaf hW hc1⟩)
         have SH := am_ s1
         have SL := am_ s2
         have HBN := am_ (show bn = hn1 + 20 by have h := s2.1; rw [List.length_append, zay, ngs_length] at h; exact h)
         clear hx hk hkl hg1 hm hc0 hc1 s1 s2
         have i0 := eq_true HX.out
         have i1 := eq_true (show (k : Int) < (i : Int) by have := HX.out; omega)
         have i2 := eq_true (show (0 : Int) ≤ (k : Int) by omega)
         have HWI := am_ (show wrap64 (1000 * (k : Int)) = 1000 * (k : Int) from w64 _ (by omega) (by have := HX.out; have := HM.out; omega))
         go_wp2_with fail
         go_loopg [12] hn1 (fun m v12 w3 => ∃ y : Nat, v12 = .int .i64 (y : Int) ∧ Aside0 (y + m = hn1) ∧ Aside0 (Below ws.heap.size ws w3))
         case atStart => exact ⟨0, rfl, ⟨by omega⟩, BW⟩
         case round =>
          clear BW
          obtain ⟨y, rfl, hm2, BW⟩ := hrel
          have hc0 := (HC.out _ BW.out).1
          by_cases hy : y < hn1
          ·have hyb : decide ((y : Int) < (hn1 : Int)) = true := decide_eq_true (by omega)
           have HY := am_ hy
           obtain ⟨ad, ead, _, hcell⟩ := SH.out.2 (show 0 < hn1 by omega)
           cases ead
           have hco := zaf BW.out (hcell y (by rw [zay]; exact hy))
           rw [mks_rd k hn1 y hy] at hco
           have j0 := eq_true hy
           have j1 := eq_true (show (y : Int) < (hn1 : Int) by omega)
           have j2 := eq_true (show (0 : Int) ≤ (y : Int) by omega)
           have HW2 := am_ (show wrap64 (1000 * (k : Int) + (y : Int)) = 1000 * (k : Int) + (y : Int) from w64 _ (by omega) (by have := HX.out; have := HM.out; have := HN1.out; omega))
           have hw1 := HWI.out
           have hw2 := HW2.out
           clear hy hcell
           go_wp2_with fail
           clear hw1 hw2
           go_roundg (gk - 1)
           case measure => have := hm2.out; have := HY.out; omega
           case rel => exact ⟨y + 1, by first | rfl | (rw [w64 _ (by omega) (by have := HY.out; have := HN1.out; omega)]; rfl), ⟨by have := hm2.out; have := HY.out; omega⟩, BW⟩
          ·have hyb : decide ((y : Int) < (hn1 : Int)) = false := decide_eq_false (by omega)
           have hyc : (y < hn1) = False := eq_false hy
           have hyd : ((y : Int) < (hn1 : Int)) = False := eq_false (by omega)
           clear hy hm2
           go_wp2_with fail
           go_loopg [13] 20 (fun m v13 w3 => ∃ z : Nat, v13 = .int .i64 (z : Int) ∧ Aside0 (z + m = 20) ∧ Aside0 (Below ws.heap.size ws w3))
           case atStart => exact ⟨0, rfl, ⟨by omega⟩, BW⟩
           case round =>
            clear BW hc0
            obtain ⟨z, rfl, hm3, BW⟩ := hrel
            obtain ⟨hc0, hc1⟩ := HC.out _ BW.out
            by_cases hz : z < 20
            ·have hzb : decide ((z : Int) < 20) = true := decide_eq_true (by omega)
             have HZ := am_ hz
             obtain ⟨bd, ebd, _, hcell⟩ := SL.out.2 (show 0 < bn by have := HBN.out; omega)
             cases ebd
             obtain ⟨q, hq⟩ : ∃ q, q = hn1 + z := ⟨_, rfl⟩
             have hco := zaf BW.out (hcell (hn1 + z) (by rw [List.length_append, zay, ngs_length]; omega))
             rw [ngs_rd k hn1 20 z hz, ← hq] at hco
             have q0 := am_ (show q < bn by have := HBN.out; omega)
             have HW6 := am_ (show wrap64 ((hn1 : Int) + (z : Int)) = (q : Int) by rw [w64 _ (by omega) (by have := HN1.out; omega), hq]; omega)
             have q1 := am_ (show (q : Int) < (bn : Int) by have := q0.out; omega)
             have HW2 := am_ (show wrap64 (1000 * (k : Int) + (z : Int)) = 1000 * (k : Int) + (z : Int) from w64 _ (by omega) (by have := HX.out; have := HM.out; omega))
             have HW4 := am_ (show wrap64 (1000 * (k : Int) + (z : Int) + 1) = 1000 * (k : Int) + (z : Int) + 1 from w64 _ (by omega) (by have := HX.out; have := HM.out; omega))
             have HW5 := am_ (show wrap64 (-(1000 * (k : Int) + (z : Int) + 1)) = -(1000 * (k : Int) + (z : Int) + 1) from w64 _ (by have := HX.out; have := HM.out; omega) (by omega))
             replace q0 := eq_true q0.out
             replace q1 := eq_true q1.out
             have q2 := eq_true (Int.natCast_nonneg q)
             have hw1 := HWI.out
             have hw2 := HW2.out
             have hw4 := HW4.out
             have hw5 := HW5.out
             have hw6 := HW6.out
             clear hz hcell hq
             go_wp2_with fail
             repeat (go_quiet (fail); try go_wp2_with fail)
             clear hw1 hw2 hw4 hw5 hw6
             go_roundg (gk - 1)
             case measure => have := hm3.out; have := HZ.out; omega
             case rel => exact ⟨z + 1, by first | rfl | (rw [w64 _ (by omega) (by have := HZ.out; omega)]; rfl), ⟨by have := hm3.out; have := HZ.out; omega⟩, ⟨below_drewN BW.out _⟩⟩
            ·have hzb : decide ((z : Int) < 20) = false := decide_eq_false (by omega)
             have hzc : (z < 20) = False := eq_false hz
             have hzd : ((z : Int) < 20) = False := eq_false (by omega)
             clear hz hm3
             go_wp2_with fail
             go_roundg g1
             case measure => exact HG.out.1
             case rel => exact ⟨k + 1, by first | rfl | (rw [w64 _ (by omega) (by have := HX.out; have := HM.out; omega)]; rfl), ⟨by have := HG.out.2; omega⟩, BW⟩
        ·have hxb : decide ((k : Int) < (i : Int)) = false := decide_eq_false (by omega)
         have hxc : (k < i) = False := eq_false hx
         have hxd : ((k : Int) < (i : Int)) = False := eq_false (by omega)
         clear hx hm
         go_wp2_with fail
         go_ret
         exact ⟨by first | done | rfl, below_then HBW.out.1 HBW.out.2 BW.out⟩
end Go.Proofs.Ytlidbaejhmamjaa.SL

namespace Go.Proofs.Ytlidbaejhmamjaa.SL
open Go.RowKit Go.Proofs.YtlidbaejhmamjaaW.PrintWords Go.Proofs.YtlidbaejhmamjaaW.PrintLast Go.Proofs.YtlidbaejhmamjaaW.PrintMore Go.Proofs.Ytlidbaejhmamjaa.PB Go.Proofs.Ytlidbaejhmamjaa.LA Go.Proofs.Ytlidbaejhmamjaa.AC Go.Proofs.Ytlidbaejhmamjaa.LW
set_option linter.unusedVariables false
set_option linter.unusedSimpArgs false
theorem Own.below {w w' : World} {base n size : Nat} {e : TypeId} {v : Value} {xs : List Value} (h : w.ownsRow base e size v n xs) (hb : Below w.heap.size w w') : w'.ownsRow base e size v n xs :=
 own_move h (fun k hk => hb.block k (h.lt k hk).2)
theorem Own.lower {w : World} {base base' n size : Nat} {e : TypeId} {v : Value} {xs : List Value} (h : w.ownsRow base e size v n xs) (hb : base' ≤ base) : w.ownsRow base' e size v n xs := by
 refine ⟨h.1, ?_⟩
 rcases h.2 with hn | ⟨g, cap, cur, hv, hbg, rest⟩
 ·exact .inl hn
 ·exact .inr ⟨g, cap, cur, hv, Nat.le_trans hb hbg, rest⟩
/-- A list in memory of its own. -/
def Ow (w : World) (B : Nat) (A : Option Addr) (c : Nat) (xs : List Int) : Prop := w.ownsRow B 3 1 (.slice A xs.length c) xs.length (ints xs)
section
variable {w w' : World} {B : Nat} {A : Option Addr} {c : Nat} {xs : List Int}
theorem Ow.step (h : Ow w B A c xs) (hb : Below w.heap.size w w') : Ow w' B A c xs := Own.below h hb
theorem Ow.put (h : Ow w B A c xs) {g : Nat} {A0 A1 : Option Addr} {n0 c0 n1 c1 : Nat} (hk : Bx w g A0 n0 c0 A1 n1 c1) (hg : w.grownBy w' (some g)) : Ow w' B A c xs :=
 Own.kept h hg (fun k hk2 e => by
  obtain rfl := Option.some.inj e
  obtain ⟨cs, hcs⟩ := own_heap h hk2
  rw [hk] at hcs
  have := Option.some.inj hcs
  injection this with a1 a2 a3
  cases a2)
theorem Ow.other (h : Ow w B A c xs) {b2 n size : Nat} {e : TypeId} {v : Value} {zs : List Value} (ho : w.ownsRow b2 e size v n zs) (he : (3 : Nat) ≠ e) (hg : w.grownBy w' v.ownBlock) : Ow w' B A c xs := Own.kept h hg (own_apart h ho he)
theorem Ow.lower (h : Ow w B A c xs) {B' : Nat} (hb : B' ≤ B) : Ow w B' A c xs := Own.lower h hb
theorem Ow.rd (h : Ow w B A c xs) : Rd w A c xs := by
 have hr : (Kd.int .i64).R 3 w B (fun _ => True) (.slice A xs.length c) xs := Kd.R_of_own h (fun _ _ => trivial)
 have := Kd.zQ hr
 exact ⟨this.2.2, this.2.1⟩
theorem Ow.of_R {ok : Nat → Prop} {v : Value} (h : Kd.R (Kd.int .i64) 3 w B ok v xs) : ∃ A c, v = .slice A xs.length c ∧ Ow w B A c xs := by
 obtain ⟨A, c, rfl⟩ := Kd.z4 h
 exact ⟨A, c, rfl, Kd.own_of_R h⟩
end
/-- No two rows are one. -/
def Apart (p q : H) : Prop := ∀ g, (hv p).ownBlock = some g → (hv q).ownBlock ≠ some g
theorem Apart.symm {p q : H} (h : Apart p q) : Apart q p := fun g hq hp => h g hp hq
def DistL (hs : List H) : Prop := hs.Pairwise Apart
theorem dist_of {hs : List H} (h : DistL hs) : Dist hs := by
 intro i j hi hj ei ej hne
 obtain ⟨li, ei⟩ := List.getElem?_eq_some_iff.1 ei
 obtain ⟨lj, ej⟩ := List.getElem?_eq_some_iff.1 ej
 have hp := List.pairwise_iff_getElem.1 h
 rcases Nat.lt_or_gt_of_ne hne with hlt | hlt
 ·have := hp i j li lj hlt
  rw [ei, ej] at this
  exact this
 ·have := hp j i lj li hlt
  rw [ei, ej] at this
  exact this.symm
theorem DistL.perm {hs ks : List H} (h : DistL hs) (p : hs.Perm ks) : DistL ks := (p.pairwise_iff (fun {a b} hab => Apart.symm hab)).1 h
theorem DistL.app {hs ks : List H} {N : Nat} (h : DistL hs) (k : DistL ks) (lt : ∀ p, p ∈ hs → ∀ g, (hv p).ownBlock = some g → g < N) (ge : ∀ p, p ∈ ks → ∀ g, (hv p).ownBlock = some g → N ≤ g) : DistL (hs ++ ks) :=
 List.pairwise_append.2 ⟨h, k, fun p hp q hq g hg hg2 => by have := lt p hp g hg; have := ge q hq g hg2; omega⟩
/-- Lists, each in memory of its own. -/
def FamM (w : World) (B : Nat) (hs : List H) : Prop := ∀ p, p ∈ hs → p.n ≤ 1000 ∧ ∃ xs, w.ownsRow B 3 1 (hv p) p.n (ints xs)
section
variable {w w' : World} {B : Nat} {hs ks : List H}
theorem FamM.step (h : FamM w B hs) (hb : Below w.heap.size w w') : FamM w' B hs := fun p hp => ⟨(h p hp).1, (h p hp).2.elim fun xs hx => ⟨xs, Own.below hx hb⟩⟩
theorem FamM.put (h : FamM w B hs) {g : Nat} {A0 A1 : Option Addr} {n0 c0 n1 c1 : Nat} (hk : Bx w g A0 n0 c0 A1 n1 c1) (hg : w.grownBy w' (some g)) : FamM w' B hs := fun p hp => ⟨(h p hp).1, (h p hp).2.elim fun xs hx => ⟨xs, Own.kept hx hg (fun k hk2 e => by
  obtain rfl := Option.some.inj e
  obtain ⟨cs, hcs⟩ := own_heap hx hk2
  rw [hk] at hcs
  have := Option.some.inj hcs
  injection this with a1 a2 a3
  cases a2)⟩⟩
theorem FamM.other (h : FamM w B hs) {b2 n size : Nat} {e : TypeId} {v : Value} {zs : List Value} (ho : w.ownsRow b2 e size v n zs) (he : (3 : Nat) ≠ e) (hg : w.grownBy w' v.ownBlock) : FamM w' B hs := fun p hp => ⟨(h p hp).1, (h p hp).2.elim fun xs hx => ⟨xs, Own.kept hx hg (own_apart hx ho he)⟩⟩
theorem FamM.lt (h : FamM w B hs) : ∀ p, p ∈ hs → ∀ g, (hv p).ownBlock = some g → g < w.heap.size := fun p hp g hg => (h p hp).2.elim fun xs hx => (hx.lt g hg).2
theorem FamM.app (h : FamM w B hs) (k : FamM w B ks) : FamM w B (hs ++ ks) := fun p hp => (List.mem_append.1 hp).elim (h p) (k p)
theorem FamM.one {A : Option Addr} {c : Nat} {xs : List Int} (h : Ow w B A c xs) (hn : xs.length ≤ 1000) : FamM w B [⟨A, xs.length, c⟩] := fun p hp => by
 obtain rfl := List.mem_singleton.1 hp
 exact ⟨hn, xs, h⟩
theorem FamM.fam (h : FamM w B hs) : ∃ X, Fam w B hs X := by
 refine ⟨fun k => if hk : k < hs.length then (h hs[k] (List.getElem_mem hk)).2.choose else [], fun k p hp => ?_⟩
 obtain ⟨lk, ek⟩ := List.getElem?_eq_some_iff.1 hp
 simp only [dif_pos lk]
 subst ek
 exact (h hs[k] (List.getElem_mem lk)).2.choose_spec
end
theorem Ow.lt {w : World} {B : Nat} {A : Option Addr} {c : Nat} {xs : List Int} (h : Ow w B A c xs) : ∀ g, (hv ⟨A, xs.length, c⟩).ownBlock = some g → B ≤ g ∧ g < w.heap.size := fun g hg => World.ownsRow.lt h g hg
theorem info24b : (Try.prog.info? 24).map (fun i => (i.zero, i.size, i.bytes)) = some (some (.agg #[.slice none 0 0, .slice none 0 0]), 2, 48) := by kernel_rfl
theorem and15 (z : Int) : bits .and .i64 z 15 = z % 16 := by
 show IntKind.i64.wrap ((BitVec.ofInt 64 z &&& BitVec.ofInt 64 15).toNat : Int) = _
 have h2 : (BitVec.ofInt 64 15).toNat = 2 ^ 4 - 1 := by decide
 rw [BitVec.toNat_and, BitVec.toNat_ofInt, h2, Nat.and_two_pow_sub_one_eq_mod, IntKind.wrap_i64]
 have e : ((2 ^ 64 : Nat) : Int) = 18446744073709551616 := by decide
 rw [e]
 have e2 : (2 ^ 4 : Nat) = 16 := by decide
 rw [e2]
 have h3 := Int.emod_nonneg z (show (18446744073709551616 : Int) ≠ 0 by decide)
 omega
theorem whole_o (k : Int) (w : World) :
  Calls Try.prog 11 #[.int .i64 k] w fun e w' => ∃ B0 d0 B1 d1, e = .returned (.tuple #[.agg #[.slice B0 (wholeL k).length d0, .slice B1 (wholeL k).length d1], .int .i64 (wholeE k)]) ∧ Ow w' w.heap.size B0 d0 (wholeL k) ∧ Ow w' w.heap.size B1 d1 (wholeL k) ∧ DistL [⟨B0, (wholeL k).length, d0⟩, ⟨B1, (wholeL k).length, d1⟩] ∧ Below w.heap.size w w' := by
 obtain ⟨f, h⟩ := (Whole_ev k).get
 refine (zaz.calls f k _ _ _ w h).mono ?_
 rintro e w' ⟨v0, v1, rfl, h0, h1, hb⟩
 obtain ⟨B0, d0, rfl, q0⟩ := Ow.of_R h0
 obtain ⟨B1, d1, rfl, q1⟩ := Ow.of_R h1
 refine ⟨B0, d0, B1, d1, rfl, q0, q1, ?_, hb⟩
 simp only [DistL, List.pairwise_cons, List.mem_singleton, forall_eq]
 exact ⟨fun g hg hg2 => h0.1 g hg hg2.symm, (fun _ h => by simp at h), List.Pairwise.nil⟩
theorem copy_o {A0 A1 : Option Addr} {c0 c1 : Nat} {lv at_ : List Int} (w : World) (r0 : Rd w A0 c0 lv) (r1 : Rd w A1 c1 at_) (h0 : lv.length ≤ 1000) (h1 : at_.length ≤ 1000) :
  Calls Try.prog 26 #[.agg #[.slice A0 lv.length c0, .slice A1 at_.length c1]] w fun e w' => ∃ B0 d0 B1 d1, e = .returned (.agg #[.slice B0 lv.length d0, .slice B1 at_.length d1]) ∧ Ow w' w.heap.size B0 d0 lv ∧ Ow w' w.heap.size B1 d1 at_ ∧ DistL [⟨B0, lv.length, d0⟩, ⟨B1, at_.length, d1⟩] ∧ Below w.heap.size w w' := by
 refine (ambitref18_Copy.calls A0 c0 lv A1 c1 at_ lv at_ w r0.row r0.cap r1.row r1.cap (by unfold ambitref18_Copy.f; rw [if_pos (by simp; omega), if_pos (by simp; omega)]; rfl)).mono ?_
 rintro e w' ⟨v0, v1, rfl, h0, h1, hb⟩
 obtain ⟨B0, d0, rfl, q0⟩ := Ow.of_R h0
 obtain ⟨B1, d1, rfl, q1⟩ := Ow.of_R h1
 refine ⟨B0, d0, B1, d1, rfl, q0, q1, ?_, hb⟩
 simp only [DistL, List.pairwise_cons, List.mem_singleton, forall_eq]
 exact ⟨fun g hg hg2 => h0.1 g hg hg2.symm, (fun _ h => by simp at h), List.Pairwise.nil⟩
theorem halve_o {A0 A1 : Option Addr} {c0 c1 : Nat} {lv at_ : List Int} (s : Int) (w : World) (r0 : Rd w A0 c0 lv) (r1 : Rd w A1 c1 at_) :
  Calls Try.prog 15 #[.agg #[.slice A0 lv.length c0, .slice A1 at_.length c1], .int .i64 s] w fun e w' => ∃ B0 d0 B1 d1 B2 d2 B3 d3, e = .returned (.tuple #[.agg #[.slice B0 (hL lv at_ s).length d0, .slice B1 (hA lv at_ s).length d1], .agg #[.slice B2 (hL lv at_ s).length d2, .slice B3 (hB lv at_ s).length d3], .int .i64 (hE lv at_ s)]) ∧
   Ow w' w.heap.size B0 d0 (hL lv at_ s) ∧ Ow w' w.heap.size B1 d1 (hA lv at_ s) ∧ Ow w' w.heap.size B2 d2 (hL lv at_ s) ∧ Ow w' w.heap.size B3 d3 (hB lv at_ s) ∧
   DistL [⟨B0, (hL lv at_ s).length, d0⟩, ⟨B1, (hA lv at_ s).length, d1⟩, ⟨B2, (hL lv at_ s).length, d2⟩, ⟨B3, (hB lv at_ s).length, d3⟩] ∧ Below w.heap.size w w' := by
 obtain ⟨k, h⟩ := (Halve_ev lv at_ s).get
 refine (zJ.calls k A0 c0 lv A1 c1 at_ s _ _ _ _ _ w r0.row r0.cap r1.row r1.cap h).mono ?_
 rintro e w' ⟨v0, v1, v2, v3, rfl, h0, h1, h2, h3, hb⟩
 obtain ⟨B0, d0, rfl, q0⟩ := Ow.of_R h0
 obtain ⟨B1, d1, rfl, q1⟩ := Ow.of_R h1
 obtain ⟨B2, d2, rfl, q2⟩ := Ow.of_R h2
 obtain ⟨B3, d3, rfl, q3⟩ := Ow.of_R h3
 refine ⟨B0, d0, B1, d1, B2, d2, B3, d3, rfl, q0, q1, q2, q3, ?_, hb⟩
 simp only [DistL, List.pairwise_cons, List.mem_cons, List.not_mem_nil, or_false, forall_eq_or_imp, forall_eq]
 refine ⟨⟨fun g hg hg2 => (h0.1 g hg).1 hg2.symm, fun g hg hg2 => (h0.1 g hg).2.1 hg2.symm, fun g hg hg2 => (h0.1 g hg).2.2 hg2.symm⟩, ⟨fun g hg hg2 => (h1.1 g hg).2.1 hg2.symm, fun g hg hg2 => (h1.1 g hg).2.2 hg2.symm⟩, fun g hg hg2 => (h2.1 g hg).2.2 hg2.symm, (fun _ h => h.elim), List.Pairwise.nil⟩
theorem FamM.perm {w : World} {B : Nat} {hs ks : List H} (h : FamM w B hs) (p : hs.Perm ks) : FamM w B ks := fun q hq => h q (p.mem_iff.2 hq)
theorem FamM.four {w : World} {B : Nat} {A0 A1 A2 A3 : Option Addr} {c0 c1 c2 c3 : Nat} {x0 x1 x2 x3 : List Int} (h0 : Ow w B A0 c0 x0) (h1 : Ow w B A1 c1 x1) (h2 : Ow w B A2 c2 x2) (h3 : Ow w B A3 c3 x3) (l0 : x0.length ≤ 256) (l1 : x1.length ≤ 256) (l2 : x2.length ≤ 256) (l3 : x3.length ≤ 256) :
  FamM w B [⟨A0, x0.length, c0⟩, ⟨A1, x1.length, c1⟩, ⟨A2, x2.length, c2⟩, ⟨A3, x3.length, c3⟩] := by
 intro p hp
 simp only [List.mem_cons, List.not_mem_nil, or_false] at hp
 rcases hp with rfl | rfl | rfl | rfl
 ·exact ⟨Nat.le_trans l0 (by decide), x0, h0⟩
 ·exact ⟨Nat.le_trans l1 (by decide), x1, h1⟩
 ·exact ⟨Nat.le_trans l2 (by decide), x2, h2⟩
 ·exact ⟨Nat.le_trans l3 (by decide), x3, h3⟩
theorem FamM.two {w : World} {B : Nat} {A0 A1 : Option Addr} {c0 c1 : Nat} {x0 x1 : List Int} (h0 : Ow w B A0 c0 x0) (h1 : Ow w B A1 c1 x1) (l0 : x0.length ≤ 256) (l1 : x1.length ≤ 256) : FamM w B [⟨A0, x0.length, c0⟩, ⟨A1, x1.length, c1⟩] := by
 intro p hp
 simp only [List.mem_cons, List.not_mem_nil, or_false] at hp
 rcases hp with rfl | rfl
 ·exact ⟨Nat.le_trans l0 (by decide), x0, h0⟩
 ·exact ⟨Nat.le_trans l1 (by decide), x1, h1⟩
theorem ge4 {w : World} {B : Nat} {A0 A1 A2 A3 : Option Addr} {c0 c1 c2 c3 : Nat} {x0 x1 x2 x3 : List Int} (h0 : Ow w B A0 c0 x0) (h1 : Ow w B A1 c1 x1) (h2 : Ow w B A2 c2 x2) (h3 : Ow w B A3 c3 x3) :
  ∀ p : H, p ∈ [(⟨A0, x0.length, c0⟩ : H), ⟨A1, x1.length, c1⟩, ⟨A2, x2.length, c2⟩, ⟨A3, x3.length, c3⟩] → ∀ g, (hv p).ownBlock = some g → B ≤ g := by
 intro p hp
 simp only [List.mem_cons, List.not_mem_nil, or_false] at hp
 rcases hp with rfl | rfl | rfl | rfl
 ·exact fun g hg => (h0.lt g hg).1
 ·exact fun g hg => (h1.lt g hg).1
 ·exact fun g hg => (h2.lt g hg).1
 ·exact fun g hg => (h3.lt g hg).1
theorem ge2 {w : World} {B : Nat} {A0 A1 : Option Addr} {c0 c1 : Nat} {x0 x1 : List Int} (h0 : Ow w B A0 c0 x0) (h1 : Ow w B A1 c1 x1) :
  ∀ p : H, p ∈ [(⟨A0, x0.length, c0⟩ : H), ⟨A1, x1.length, c1⟩] → ∀ g, (hv p).ownBlock = some g → B ≤ g := by
 intro p hp
 simp only [List.mem_cons, List.not_mem_nil, or_false] at hp
 rcases hp with rfl | rfl
 ·exact fun g hg => (h0.lt g hg).1
 ·exact fun g hg => (h1.lt g hg).1
theorem Bx.grown {w w' : World} {row : Option Nat} {g : Nat} {A0 A1 : Option Addr} {n0 c0 n1 c1 : Nat} (h : Bx w g A0 n0 c0 A1 n1 c1) (hg : w.grownBy w' row) (hne : some g ≠ row) : Bx w' g A0 n0 c0 A1 n1 c1 := zai hg h hne
theorem perm_mid (hs ks ms : List H) : (hs ++ ks ++ ms).Perm (hs ++ (ms ++ ks)) := by
 rw [List.append_assoc]
 exact List.Perm.append_left hs List.perm_append_comm
end Go.Proofs.Ytlidbaejhmamjaa.SL

namespace Go.Proofs.Ytlidbaejhmamjaa.SL
open Go.RowKit Go.Proofs.YtlidbaejhmamjaaW.PrintWords Go.Proofs.YtlidbaejhmamjaaW.PrintLast Go.Proofs.YtlidbaejhmamjaaW.PrintMore Go.Proofs.Ytlidbaejhmamjaa.PB Go.Proofs.Ytlidbaejhmamjaa.LA Go.Proofs.Ytlidbaejhmamjaa.AC Go.Proofs.Ytlidbaejhmamjaa.LW
set_option linter.unusedVariables false
set_option linter.unusedSimpArgs false
set_option maxRecDepth 100000 in
set_option maxHeartbeats 8000000 in
theorem lent_calls (a : Int) (A1' : Option Addr) (c1' : Nat) (l1 : List S52) (w : World) (hr1 : Kd.C k52 w A1' l1.length l1) (hc1 : l1.length ≤ c1') :
  Calls Try.prog 8 #[.int .i64 a, .slice A1' l1.length c1'] w fun e w' => e = .returned (.bool true) ∧ Below w.heap.size w w' := by
 have hu24 := Try.underlying24
 have hu52 := Try.underlying52
 have hu57 := Try.underlying57
 have HB := am_ (Below.refl w.heap.size w)
 have HT := am_ hr1
 clear hr1
 obtain ⟨m, hm⟩ : ∃ m, m = a % 16 := ⟨_, rfl⟩
 have hba := and15 a
 rw [← hm] at hba
 have hm0 : 0 ≤ m ∧ m ≤ 15 := by omega
 have hwe : wholeE m = 0 := by unfold wholeE; rw [if_pos (by omega)]
 have hwl : (wholeL m).length ≤ 256 := by unfold wholeL; split <;> simp <;> omega
 obtain ⟨pl, hpl⟩ : ∃ x, wholeL m = x := ⟨_, rfl⟩
 rw [hpl] at hwl
 have C1 := whole_o m
 simp only [hwe, hpl] at C1
 have D1 := am_ C1
 have HPL := am_ hwl
 clear C1 hwe hpl hm0 hm hwl
 go_enter Try.func8, Try.ntmps8
 go_wp2_with fail
 try rw [hba]
 refine (D1.out w).mono ?_
 rintro e_ w1 ⟨A_p0, c_p0, A_p1, c_p1, rfl, h0, h1, hd_, hb⟩
 have GE_p := am_ (ge2 h0 h1)
 have DS_p := am_ hd_
 clear hd_
 replace h0 := h0.lower HB.out.size
 replace h1 := h1.lower HB.out.size
 replace HB := am_ (zj HB.out hb)
 have R_p0 := am_ h0
 have R_p1 := am_ h1
 clear hb h0 h1
 go_wp2_with (first
  | ((with_reducible refine zp (N := 5) rfl ?_); refine zw rfl (N := 5) rfl (cs := #[.slice none 0 0, .slice none 0 0]) (t := 24) ?hr ?_; (case hr => first | (go_simp; done) | (go_simp; rfl)); intro g_r hg_ w2 hw_ hb_; have L_r := am_ (show w.heap.size ≤ g_r by have := HB.out.size; omega); replace R_p0 := am_ (R_p0.out.step hb_); replace R_p1 := am_ (R_p1.out.step hb_); replace HB := am_ (zj HB.out hb_); have K_r := am_ (show Bx w2 g_r none 0 0 none 0 0 from hw_); clear hg_ hw_ hb_)
  | ((with_reducible refine zK (t := 24) (p := 5) rfl ?_); refine zC rfl 24 rfl rfl g_r #[.slice A_p0 pl.length c_p0, .slice A_p1 pl.length c_p1] rfl rfl 24 _ K_r.out (info24.trans rfl) rfl (zaa _ _ _ _ _ _) ?_; intro w3 hw_ hg_; replace R_p0 := am_ (R_p0.out.put K_r.out hg_); replace R_p1 := am_ (R_p1.out.put K_r.out hg_); replace HB := am_ (HB.out.grown hg_ HB.out.size (fun k_ hk_ => by cases hk_; exact L_r.out)); replace K_r := am_ (show Bx w3 g_r A_p0 pl.length c_p0 A_p1 pl.length c_p1 from hw_); clear hw_ hg_; have c_r_0 := K_r.out.c0; have c_r_1 := K_r.out.c1)
  | fail)
 refine (copy_o w3 R_p0.out.rd R_p1.out.rd (by have := HPL.out; omega) (by have := HPL.out; omega)).mono ?_
 rintro e_ w4 ⟨A_q0, c_q0, A_q1, c_q1, rfl, h0, h1, hd_, hb⟩
 have GE_q := am_ (ge2 h0 h1)
 have DS_q := am_ hd_
 clear hd_
 replace h0 := h0.lower HB.out.size
 replace h1 := h1.lower HB.out.size
 replace R_p0 := am_ (R_p0.out.step hb); replace R_p1 := am_ (R_p1.out.step hb); replace K_r := am_ (K_r.out.step hb); replace HB := am_ (zj HB.out hb)
 have R_q0 := am_ h0
 have R_q1 := am_ h1
 clear hb h0 h1
 clear c_r_0 c_r_1
 go_wp2_with (first
  | ((with_reducible refine zp (N := 7) rfl ?_); refine zw rfl (N := 7) rfl (cs := #[.slice none 0 0, .slice none 0 0]) (t := 24) ?hr ?_; (case hr => first | (go_simp; done) | (go_simp; rfl)); intro g_w hg_ w5 hw_ hb_; have N_w_r := am_ (show g_r ≠ g_w by have := K_r.out.lt; omega); have L_w := am_ (show w.heap.size ≤ g_w by have := HB.out.size; omega); replace R_p0 := am_ (R_p0.out.step hb_); replace R_p1 := am_ (R_p1.out.step hb_); replace R_q0 := am_ (R_q0.out.step hb_); replace R_q1 := am_ (R_q1.out.step hb_); replace K_r := am_ (K_r.out.step hb_); replace HB := am_ (zj HB.out hb_); have K_w := am_ (show Bx w5 g_w none 0 0 none 0 0 from hw_); clear hg_ hw_ hb_)
  | ((with_reducible refine zK (t := 24) (p := 7) rfl ?_); refine zC rfl 24 rfl rfl g_w #[.slice A_q0 pl.length c_q0, .slice A_q1 pl.length c_q1] rfl rfl 24 _ K_w.out (info24.trans rfl) rfl (zaa _ _ _ _ _ _) ?_; intro w6 hw_ hg_; replace R_p0 := am_ (R_p0.out.put K_w.out hg_); replace R_p1 := am_ (R_p1.out.put K_w.out hg_); replace R_q0 := am_ (R_q0.out.put K_w.out hg_); replace R_q1 := am_ (R_q1.out.put K_w.out hg_); replace K_r := am_ (K_r.out.put hg_ N_w_r.out); replace HB := am_ (HB.out.grown hg_ HB.out.size (fun k_ hk_ => by cases hk_; exact L_w.out)); replace K_w := am_ (show Bx w6 g_w A_q0 pl.length c_q0 A_q1 pl.length c_q1 from hw_); clear hw_ hg_; have c_w_0 := K_w.out.c0; have c_w_1 := K_w.out.c1)
  | fail)
 clear c_w_0 c_w_1
 obtain ⟨NL, hNL⟩ : ∃ n, n = w6.heap.size := ⟨_, rfl⟩
 have HNL := am_ (show NL ≤ w6.heap.size by omega)
 have GRW := am_ (show g_r < NL ∧ g_w < NL ∧ w.heap.size ≤ NL by have := K_r.out.lt; have := K_w.out.lt; have := HB.out.size; omega)
 clear hNL
 go_loopg [8, 9] l1.length (fun m v8 v9 wr => ∃ (x n ck : Nat) (hs : List H) (lv at_ : List Int) (AK A0 A1 B0 B1 : Option Addr) (c0 c1 d0 d1 : Nat), v8 = .slice AK n ck ∧ v9 = .int .i64 (x : Int) ∧ Aside0 (x + m = l1.length) ∧ Aside0 (x ≤ 12 ∧ hs.length = 2 * n ∧ n ≤ 5 * x) ∧ Aside0 (lv.length ≤ 256 ∧ at_.length ≤ 256) ∧ Aside0 (Bx wr g_r A0 lv.length c0 A1 at_.length c1) ∧ Aside0 (Bx wr g_w B0 lv.length d0 B1 at_.length d1) ∧ Aside0 (Ow wr w.heap.size A0 c0 lv) ∧ Aside0 (Ow wr w.heap.size A1 c1 at_) ∧ Aside0 (Ow wr w.heap.size B0 d0 lv) ∧ Aside0 (Ow wr w.heap.size B1 d1 at_) ∧ Aside0 (FamM wr w.heap.size (hs ++ ([⟨A0, lv.length, c0⟩, ⟨A1, at_.length, c1⟩] : List H))) ∧ Aside0 (DistL (hs ++ ([⟨A0, lv.length, c0⟩, ⟨A1, at_.length, c1⟩] : List H))) ∧ Aside0 (wr.ownsRow NL 24 2 (.slice AK n ck) n (hs.map hv)) ∧ Aside0 (NL ≤ wr.heap.size) ∧ Aside0 (Below w.heap.size w wr))
 case atStart => exact ⟨0, 0, 0, [], pl, pl, none, A_p0, A_p1, A_q0, A_q1, c_p0, c_p1, c_q0, c_q1, rfl, rfl, ⟨by omega⟩, ⟨by decide⟩, ⟨⟨HPL.out, HPL.out⟩⟩, K_r, K_w, R_p0, R_p1, R_q0, R_q1, ⟨FamM.two R_p0.out R_p1.out HPL.out HPL.out⟩, DS_p, ⟨World.ownsRow_nil _ _ _ _⟩, HNL, HB⟩
 case round =>
  clear K_r K_w R_p0 R_p1 R_q0 R_q1 HB HNL GE_p DS_p GE_q DS_q
  obtain ⟨x, n, ck, hs, lv, at_, AK, A0, A1, B0, B1, c0, c1, d0, d1, rfl, rfl, hm, HN, HLN, K_r, K_w, R_0, R_1, S_0, S_1, FM, DL, KR, HNL, HB⟩ := hrel
  by_cases hx : x < l1.length
  ·have hxb : decide ((x : Int) < (l1.length : Int)) = true := decide_eq_true (by omega)
   by_cases hx4 : x < 12
   ·have hx4b : decide ((x : Int) < 12) = true := decide_eq_true (by omega)
    have HX := am_ (And.intro hx hx4)
    have hj0 := eq_true hx
    have hj1 := eq_true (show (x : Int) < (l1.length : Int) by omega)
    have hj2 := eq_true (show (0 : Int) ≤ (x : Int) by omega)
    obtain ⟨at0, e44, hy0, hy1⟩ := at_T52 (Kd.zM HT.out HB.out) (x : Int) (by omega) (by omega)
    have HYU := am_ (show ∀ W : World, Below w.heap.size w W → W.cell? ⟨(at0.add (x * 2)).block, (at0.add (x * 2)).off + 1, none⟩ = some (.bool (rd_T52 l1 (x : Int)).f1) from fun W hW => by
     obtain ⟨at1, e', hy0', hy1'⟩ := at_T52 (Kd.zM HT.out hW) (x : Int) (by omega) (by omega)
     rw [e44] at e'
     cases e'
     rw [Int.toNat_natCast] at hy1'
     exact hy1')
    cases e44
    rw [Int.toNat_natCast] at hy0 hy1
    clear hx hx4 hy1
    generalize (rd_T52 l1 (x : Int)).f0 = s at *
    generalize (rd_T52 l1 (x : Int)).f1 = up at *
    obtain ⟨E, hE_⟩ : ∃ E, hE lv at_ s = E := ⟨_, rfl⟩
    obtain ⟨hl, e1⟩ : ∃ x, hL lv at_ s = x := ⟨_, rfl⟩
    obtain ⟨ha, e2⟩ : ∃ x, hA lv at_ s = x := ⟨_, rfl⟩
    obtain ⟨hbb, e3⟩ : ∃ x, hB lv at_ s = x := ⟨_, rfl⟩
    have N0 := hL_len lv at_ s
    have N1 := hA_len lv at_ s
    have N2 := hB_len lv at_ s
    rw [e1] at N0
    rw [e2] at N1
    rw [e3] at N2
    have C1 := fun w r0 r1 => @halve_o A0 A1 c0 c1 lv at_ s w r0 r1
    simp only [hE_, e1, e2, e3] at C1
    have HRG := am_ (show E = 0 → hl.length ≤ 256 ∧ ha.length ≤ 256 ∧ hbb.length ≤ 256 from fun h => by
     have hok : HOk lv at_ s := Classical.byContradiction fun hn => halve_bad hn (hE_.trans h)
     obtain ⟨_, o1, o2, _⟩ := halve_ok hok
     rw [e1, e2] at o1
     rw [e1, e3] at o2
     exact ⟨o1.1, by rw [o1.2.1]; exact o1.1, by rw [o2.2.1]; exact o2.1⟩)
    have D3 := am_ C1
    have M0 := am_ N0
    have M1 := am_ N1
    have M2 := am_ N2
    clear C1 N0 N1 N2 e1 e2 e3 hE_
    have c_r_0 := K_r.out.c0
    have c_r_1 := K_r.out.c1
    go_wp2_with fail
    have LT_1 := am_ FM.out.lt
    refine (D3.out wr R_0.out.rd R_1.out.rd).mono ?_
    rintro e_ w101 ⟨A_h0, c_h0, A_ha, c_ha, A_h1, c_h1, A_hb_, c_hb_, rfl, h0, h1, h2, h3, hd_, hb⟩
    have GE_1 := am_ (ge4 h0 h1 h2 h3)
    have DS_1 := am_ hd_
    clear hd_
    replace h0 := h0.lower HB.out.size
    replace h1 := h1.lower HB.out.size
    replace h2 := h2.lower HB.out.size
    replace h3 := h3.lower HB.out.size
    replace R_0 := am_ (R_0.out.step hb); replace R_1 := am_ (R_1.out.step hb); replace S_0 := am_ (S_0.out.step hb); replace S_1 := am_ (S_1.out.step hb); replace FM := am_ (FM.out.step hb); replace K_r := am_ (K_r.out.step hb); replace K_w := am_ (K_w.out.step hb); replace HB := am_ (zj HB.out hb); replace KR := am_ (Own.below KR.out hb); replace HNL := am_ (Nat.le_trans HNL.out (hb).size)
    have R_h0 := am_ h0
    have R_ha := am_ h1
    have R_h1 := am_ h2
    have R_hb_ := am_ h3
    clear hb h0 h1 h2 h3
    go_wp2_with (first
  | ((with_reducible refine zp (N := 11) rfl ?_); refine zw rfl (N := 11) rfl (cs := #[.slice none 0 0, .slice none 0 0]) (t := 24) ?hr ?_; (case hr => first | (go_simp; done) | (go_simp; rfl)); intro g_a hg_ w102 hw_ hb_; have NK_a := am_ (show ∀ k, (Value.slice AK n ck).ownBlock = some k → k ≠ g_a from fun k hk e => by have := (World.ownsRow.lt KR.out k hk).2; omega); have N_a_r := am_ (show g_r ≠ g_a by have := K_r.out.lt; omega); have N_a_w := am_ (show g_w ≠ g_a by have := K_w.out.lt; omega); have L_a := am_ (show w.heap.size ≤ g_a by have := HB.out.size; omega); replace R_0 := am_ (R_0.out.step hb_); replace R_1 := am_ (R_1.out.step hb_); replace S_0 := am_ (S_0.out.step hb_); replace S_1 := am_ (S_1.out.step hb_); replace R_h0 := am_ (R_h0.out.step hb_); replace R_ha := am_ (R_ha.out.step hb_); replace R_h1 := am_ (R_h1.out.step hb_); replace R_hb_ := am_ (R_hb_.out.step hb_); replace FM := am_ (FM.out.step hb_); replace K_r := am_ (K_r.out.step hb_); replace K_w := am_ (K_w.out.step hb_); replace HB := am_ (zj HB.out hb_); replace KR := am_ (Own.below KR.out hb_); replace HNL := am_ (Nat.le_trans HNL.out (hb_).size); have K_a := am_ (show Bx w102 g_a none 0 0 none 0 0 from hw_); clear hg_ hw_ hb_)
  | ((with_reducible refine zp (N := 12) rfl ?_); refine zw rfl (N := 12) rfl (cs := #[.slice none 0 0, .slice none 0 0]) (t := 24) ?hr ?_; (case hr => first | (go_simp; done) | (go_simp; rfl)); intro g_b hg_ w103 hw_ hb_; have NK_b := am_ (show ∀ k, (Value.slice AK n ck).ownBlock = some k → k ≠ g_b from fun k hk e => by have := (World.ownsRow.lt KR.out k hk).2; omega); have N_b_r := am_ (show g_r ≠ g_b by have := K_r.out.lt; omega); have N_b_w := am_ (show g_w ≠ g_b by have := K_w.out.lt; omega); have N_b_a := am_ (show g_a ≠ g_b by have := K_a.out.lt; omega); have L_b := am_ (show w.heap.size ≤ g_b by have := HB.out.size; omega); replace R_0 := am_ (R_0.out.step hb_); replace R_1 := am_ (R_1.out.step hb_); replace S_0 := am_ (S_0.out.step hb_); replace S_1 := am_ (S_1.out.step hb_); replace R_h0 := am_ (R_h0.out.step hb_); replace R_ha := am_ (R_ha.out.step hb_); replace R_h1 := am_ (R_h1.out.step hb_); replace R_hb_ := am_ (R_hb_.out.step hb_); replace FM := am_ (FM.out.step hb_); replace K_r := am_ (K_r.out.step hb_); replace K_w := am_ (K_w.out.step hb_); replace K_a := am_ (K_a.out.step hb_); replace HB := am_ (zj HB.out hb_); replace KR := am_ (Own.below KR.out hb_); replace HNL := am_ (Nat.le_trans HNL.out (hb_).size); have K_b := am_ (show Bx w103 g_b none 0 0 none 0 0 from hw_); clear hg_ hw_ hb_)
  | ((with_reducible refine zK (t := 24) (p := 11) rfl ?_); refine zC rfl 24 rfl rfl g_a #[.slice A_h0 hl.length c_h0, .slice A_ha ha.length c_ha] rfl rfl 24 _ K_a.out (info24.trans rfl) rfl (zaa _ _ _ _ _ _) ?_; intro w104 hw_ hg_; replace R_0 := am_ (R_0.out.put K_a.out hg_); replace R_1 := am_ (R_1.out.put K_a.out hg_); replace S_0 := am_ (S_0.out.put K_a.out hg_); replace S_1 := am_ (S_1.out.put K_a.out hg_); replace R_h0 := am_ (R_h0.out.put K_a.out hg_); replace R_ha := am_ (R_ha.out.put K_a.out hg_); replace R_h1 := am_ (R_h1.out.put K_a.out hg_); replace R_hb_ := am_ (R_hb_.out.put K_a.out hg_); replace FM := am_ (FM.out.put K_a.out hg_); replace K_r := am_ (K_r.out.put hg_ N_a_r.out); replace K_w := am_ (K_w.out.put hg_ N_a_w.out); replace K_b := am_ (K_b.out.put hg_ N_b_a.out.symm); replace KR := am_ (Own.kept KR.out hg_ (fun k_ hk_ e_ => NK_a.out k_ hk_ (Option.some.inj e_).symm)); replace HNL := am_ (Nat.le_trans HNL.out hg_.size); replace HB := am_ (HB.out.grown hg_ HB.out.size (fun k_ hk_ => by cases hk_; exact L_a.out)); replace K_a := am_ (show Bx w104 g_a A_h0 hl.length c_h0 A_ha ha.length c_ha from hw_); clear hw_ hg_; have c_a_0 := K_a.out.c0; have c_a_1 := K_a.out.c1)
  | ((with_reducible refine zK (t := 24) (p := 12) rfl ?_); refine zC rfl 24 rfl rfl g_b #[.slice A_h1 hl.length c_h1, .slice A_hb_ hbb.length c_hb_] rfl rfl 24 _ K_b.out (info24.trans rfl) rfl (zaa _ _ _ _ _ _) ?_; intro w105 hw_ hg_; replace R_0 := am_ (R_0.out.put K_b.out hg_); replace R_1 := am_ (R_1.out.put K_b.out hg_); replace S_0 := am_ (S_0.out.put K_b.out hg_); replace S_1 := am_ (S_1.out.put K_b.out hg_); replace R_h0 := am_ (R_h0.out.put K_b.out hg_); replace R_ha := am_ (R_ha.out.put K_b.out hg_); replace R_h1 := am_ (R_h1.out.put K_b.out hg_); replace R_hb_ := am_ (R_hb_.out.put K_b.out hg_); replace FM := am_ (FM.out.put K_b.out hg_); replace K_r := am_ (K_r.out.put hg_ N_b_r.out); replace K_w := am_ (K_w.out.put hg_ N_b_w.out); replace K_a := am_ (K_a.out.put hg_ N_b_a.out); replace KR := am_ (Own.kept KR.out hg_ (fun k_ hk_ e_ => NK_b.out k_ hk_ (Option.some.inj e_).symm)); replace HNL := am_ (Nat.le_trans HNL.out hg_.size); replace HB := am_ (HB.out.grown hg_ HB.out.size (fun k_ hk_ => by cases hk_; exact L_b.out)); replace K_b := am_ (show Bx w105 g_b A_h1 hl.length c_h1 A_hb_ hbb.length c_hb_ from hw_); clear hw_ hg_; have c_b_0 := K_b.out.c0; have c_b_1 := K_b.out.c1; have c_r_0 := K_r.out.c0; have c_r_1 := K_r.out.c1)
  | fail)
    have FN := am_ (show E = 0 → FamM w105 w.heap.size (hs ++ ([⟨A0, lv.length, c0⟩, ⟨A1, at_.length, c1⟩] : List H) ++ ([⟨A_h0, hl.length, c_h0⟩, ⟨A_ha, ha.length, c_ha⟩, ⟨A_h1, hl.length, c_h1⟩, ⟨A_hb_, hbb.length, c_hb_⟩] : List H)) from fun h => FM.out.app (FamM.four R_h0.out R_ha.out R_h1.out R_hb_.out (HRG.out h).1 (HRG.out h).2.1 (HRG.out h).1 (HRG.out h).2.2))
    have LT_2 := am_ (fun h => (FN.out h).lt)
    clear FN
    refine (D3.out w105 R_0.out.rd R_1.out.rd).mono ?_
    rintro e_ w106 ⟨A_g0, c_g0, A_ga, c_ga, A_g1, c_g1, A_gb_, c_gb_, rfl, h0, h1, h2, h3, hd_, hb⟩
    have GE_2 := am_ (ge4 h0 h1 h2 h3)
    have DS_2 := am_ hd_
    clear hd_
    replace h0 := h0.lower HB.out.size
    replace h1 := h1.lower HB.out.size
    replace h2 := h2.lower HB.out.size
    replace h3 := h3.lower HB.out.size
    replace R_0 := am_ (R_0.out.step hb); replace R_1 := am_ (R_1.out.step hb); replace S_0 := am_ (S_0.out.step hb); replace S_1 := am_ (S_1.out.step hb); replace R_h0 := am_ (R_h0.out.step hb); replace R_ha := am_ (R_ha.out.step hb); replace R_h1 := am_ (R_h1.out.step hb); replace R_hb_ := am_ (R_hb_.out.step hb); replace FM := am_ (FM.out.step hb); replace K_r := am_ (K_r.out.step hb); replace K_w := am_ (K_w.out.step hb); replace K_a := am_ (K_a.out.step hb); replace K_b := am_ (K_b.out.step hb); replace HB := am_ (zj HB.out hb); replace KR := am_ (Own.below KR.out hb); replace HNL := am_ (Nat.le_trans HNL.out (hb).size)
    have R_g0 := am_ h0
    have R_ga := am_ h1
    have R_g1 := am_ h2
    have R_gb_ := am_ h3
    clear hb h0 h1 h2 h3
    go_wp2_with (first
  | ((with_reducible refine zp (N := 14) rfl ?_); refine zw rfl (N := 14) rfl (cs := #[.slice none 0 0, .slice none 0 0]) (t := 24) ?hr ?_; (case hr => first | (go_simp; done) | (go_simp; rfl)); intro g_c hg_ w107 hw_ hb_; have NK_c := am_ (show ∀ k, (Value.slice AK n ck).ownBlock = some k → k ≠ g_c from fun k hk e => by have := (World.ownsRow.lt KR.out k hk).2; omega); have N_c_r := am_ (show g_r ≠ g_c by have := K_r.out.lt; omega); have N_c_w := am_ (show g_w ≠ g_c by have := K_w.out.lt; omega); have N_c_a := am_ (show g_a ≠ g_c by have := K_a.out.lt; omega); have N_c_b := am_ (show g_b ≠ g_c by have := K_b.out.lt; omega); have L_c := am_ (show w.heap.size ≤ g_c by have := HB.out.size; omega); replace R_0 := am_ (R_0.out.step hb_); replace R_1 := am_ (R_1.out.step hb_); replace S_0 := am_ (S_0.out.step hb_); replace S_1 := am_ (S_1.out.step hb_); replace R_h0 := am_ (R_h0.out.step hb_); replace R_ha := am_ (R_ha.out.step hb_); replace R_h1 := am_ (R_h1.out.step hb_); replace R_hb_ := am_ (R_hb_.out.step hb_); replace R_g0 := am_ (R_g0.out.step hb_); replace R_ga := am_ (R_ga.out.step hb_); replace R_g1 := am_ (R_g1.out.step hb_); replace R_gb_ := am_ (R_gb_.out.step hb_); replace FM := am_ (FM.out.step hb_); replace K_r := am_ (K_r.out.step hb_); replace K_w := am_ (K_w.out.step hb_); replace K_a := am_ (K_a.out.step hb_); replace K_b := am_ (K_b.out.step hb_); replace HB := am_ (zj HB.out hb_); replace KR := am_ (Own.below KR.out hb_); replace HNL := am_ (Nat.le_trans HNL.out (hb_).size); have K_c := am_ (show Bx w107 g_c none 0 0 none 0 0 from hw_); clear hg_ hw_ hb_)
  | ((with_reducible refine zp (N := 15) rfl ?_); refine zw rfl (N := 15) rfl (cs := #[.slice none 0 0, .slice none 0 0]) (t := 24) ?hr ?_; (case hr => first | (go_simp; done) | (go_simp; rfl)); intro g_d hg_ w108 hw_ hb_; have NK_d := am_ (show ∀ k, (Value.slice AK n ck).ownBlock = some k → k ≠ g_d from fun k hk e => by have := (World.ownsRow.lt KR.out k hk).2; omega); have N_d_r := am_ (show g_r ≠ g_d by have := K_r.out.lt; omega); have N_d_w := am_ (show g_w ≠ g_d by have := K_w.out.lt; omega); have N_d_a := am_ (show g_a ≠ g_d by have := K_a.out.lt; omega); have N_d_b := am_ (show g_b ≠ g_d by have := K_b.out.lt; omega); have N_d_c := am_ (show g_c ≠ g_d by have := K_c.out.lt; omega); have L_d := am_ (show w.heap.size ≤ g_d by have := HB.out.size; omega); replace R_0 := am_ (R_0.out.step hb_); replace R_1 := am_ (R_1.out.step hb_); replace S_0 := am_ (S_0.out.step hb_); replace S_1 := am_ (S_1.out.step hb_); replace R_h0 := am_ (R_h0.out.step hb_); replace R_ha := am_ (R_ha.out.step hb_); replace R_h1 := am_ (R_h1.out.step hb_); replace R_hb_ := am_ (R_hb_.out.step hb_); replace R_g0 := am_ (R_g0.out.step hb_); replace R_ga := am_ (R_ga.out.step hb_); replace R_g1 := am_ (R_g1.out.step hb_); replace R_gb_ := am_ (R_gb_.out.step hb_); replace FM := am_ (FM.out.step hb_); replace K_r := am_ (K_r.out.step hb_); replace K_w := am_ (K_w.out.step hb_); replace K_a := am_ (K_a.out.step hb_); replace K_b := am_ (K_b.out.step hb_); replace K_c := am_ (K_c.out.step hb_); replace HB := am_ (zj HB.out hb_); replace KR := am_ (Own.below KR.out hb_); replace HNL := am_ (Nat.le_trans HNL.out (hb_).size); have K_d := am_ (show Bx w108 g_d none 0 0 none 0 0 from hw_); clear hg_ hw_ hb_)
  | ((with_reducible refine zK (t := 24) (p := 14) rfl ?_); refine zC rfl 24 rfl rfl g_c #[.slice A_g0 hl.length c_g0, .slice A_ga ha.length c_ga] rfl rfl 24 _ K_c.out (info24.trans rfl) rfl (zaa _ _ _ _ _ _) ?_; intro w109 hw_ hg_; replace R_0 := am_ (R_0.out.put K_c.out hg_); replace R_1 := am_ (R_1.out.put K_c.out hg_); replace S_0 := am_ (S_0.out.put K_c.out hg_); replace S_1 := am_ (S_1.out.put K_c.out hg_); replace R_h0 := am_ (R_h0.out.put K_c.out hg_); replace R_ha := am_ (R_ha.out.put K_c.out hg_); replace R_h1 := am_ (R_h1.out.put K_c.out hg_); replace R_hb_ := am_ (R_hb_.out.put K_c.out hg_); replace R_g0 := am_ (R_g0.out.put K_c.out hg_); replace R_ga := am_ (R_ga.out.put K_c.out hg_); replace R_g1 := am_ (R_g1.out.put K_c.out hg_); replace R_gb_ := am_ (R_gb_.out.put K_c.out hg_); replace FM := am_ (FM.out.put K_c.out hg_); replace K_r := am_ (K_r.out.put hg_ N_c_r.out); replace K_w := am_ (K_w.out.put hg_ N_c_w.out); replace K_a := am_ (K_a.out.put hg_ N_c_a.out); replace K_b := am_ (K_b.out.put hg_ N_c_b.out); replace K_d := am_ (K_d.out.put hg_ N_d_c.out.symm); replace KR := am_ (Own.kept KR.out hg_ (fun k_ hk_ e_ => NK_c.out k_ hk_ (Option.some.inj e_).symm)); replace HNL := am_ (Nat.le_trans HNL.out hg_.size); replace HB := am_ (HB.out.grown hg_ HB.out.size (fun k_ hk_ => by cases hk_; exact L_c.out)); replace K_c := am_ (show Bx w109 g_c A_g0 hl.length c_g0 A_ga ha.length c_ga from hw_); clear hw_ hg_; have c_c_0 := K_c.out.c0; have c_c_1 := K_c.out.c1)
  | ((with_reducible refine zK (t := 24) (p := 15) rfl ?_); refine zC rfl 24 rfl rfl g_d #[.slice A_g1 hl.length c_g1, .slice A_gb_ hbb.length c_gb_] rfl rfl 24 _ K_d.out (info24.trans rfl) rfl (zaa _ _ _ _ _ _) ?_; intro w110 hw_ hg_; replace R_0 := am_ (R_0.out.put K_d.out hg_); replace R_1 := am_ (R_1.out.put K_d.out hg_); replace S_0 := am_ (S_0.out.put K_d.out hg_); replace S_1 := am_ (S_1.out.put K_d.out hg_); replace R_h0 := am_ (R_h0.out.put K_d.out hg_); replace R_ha := am_ (R_ha.out.put K_d.out hg_); replace R_h1 := am_ (R_h1.out.put K_d.out hg_); replace R_hb_ := am_ (R_hb_.out.put K_d.out hg_); replace R_g0 := am_ (R_g0.out.put K_d.out hg_); replace R_ga := am_ (R_ga.out.put K_d.out hg_); replace R_g1 := am_ (R_g1.out.put K_d.out hg_); replace R_gb_ := am_ (R_gb_.out.put K_d.out hg_); replace FM := am_ (FM.out.put K_d.out hg_); replace K_r := am_ (K_r.out.put hg_ N_d_r.out); replace K_w := am_ (K_w.out.put hg_ N_d_w.out); replace K_a := am_ (K_a.out.put hg_ N_d_a.out); replace K_b := am_ (K_b.out.put hg_ N_d_b.out); replace K_c := am_ (K_c.out.put hg_ N_d_c.out); replace KR := am_ (Own.kept KR.out hg_ (fun k_ hk_ e_ => NK_d.out k_ hk_ (Option.some.inj e_).symm)); replace HNL := am_ (Nat.le_trans HNL.out hg_.size); replace HB := am_ (HB.out.grown hg_ HB.out.size (fun k_ hk_ => by cases hk_; exact L_d.out)); replace K_d := am_ (show Bx w110 g_d A_g1 hl.length c_g1 A_gb_ hbb.length c_gb_ from hw_); clear hw_ hg_; have c_d_0 := K_d.out.c0; have c_d_1 := K_d.out.c1; have c_a_0 := K_a.out.c0; have c_c_0 := K_c.out.c0; have c_a_1 := K_a.out.c1; have c_c_1 := K_c.out.c1)
  | fail)
    refine (same_c w110 R_h0.out.rd R_ha.out.rd R_g0.out.rd R_ga.out.rd M0.out M1.out).mono ?_
    rintro e_ w111 ⟨rfl, hb⟩
    replace R_0 := am_ (R_0.out.step hb); replace R_1 := am_ (R_1.out.step hb); replace S_0 := am_ (S_0.out.step hb); replace S_1 := am_ (S_1.out.step hb); replace R_h0 := am_ (R_h0.out.step hb); replace R_ha := am_ (R_ha.out.step hb); replace R_h1 := am_ (R_h1.out.step hb); replace R_hb_ := am_ (R_hb_.out.step hb); replace R_g0 := am_ (R_g0.out.step hb); replace R_ga := am_ (R_ga.out.step hb); replace R_g1 := am_ (R_g1.out.step hb); replace R_gb_ := am_ (R_gb_.out.step hb); replace FM := am_ (FM.out.step hb); replace K_r := am_ (K_r.out.step hb); replace K_w := am_ (K_w.out.step hb); replace K_a := am_ (K_a.out.step hb); replace K_b := am_ (K_b.out.step hb); replace K_c := am_ (K_c.out.step hb); replace K_d := am_ (K_d.out.step hb); replace HB := am_ (zj HB.out hb); replace KR := am_ (Own.below KR.out hb); replace HNL := am_ (Nat.le_trans HNL.out (hb).size)
    clear hb 
    clear c_a_0 c_a_1 c_c_0 c_c_1
    have c_b_0 := K_b.out.c0
    have c_d_0 := K_d.out.c0
    have c_b_1 := K_b.out.c1
    have c_d_1 := K_d.out.c1
    go_wp2_with fail
    refine (same_c w111 R_h1.out.rd R_hb_.out.rd R_g1.out.rd R_gb_.out.rd M0.out M2.out).mono ?_
    rintro e_ w112 ⟨rfl, hb⟩
    replace R_0 := am_ (R_0.out.step hb); replace R_1 := am_ (R_1.out.step hb); replace S_0 := am_ (S_0.out.step hb); replace S_1 := am_ (S_1.out.step hb); replace R_h0 := am_ (R_h0.out.step hb); replace R_ha := am_ (R_ha.out.step hb); replace R_h1 := am_ (R_h1.out.step hb); replace R_hb_ := am_ (R_hb_.out.step hb); replace R_g0 := am_ (R_g0.out.step hb); replace R_ga := am_ (R_ga.out.step hb); replace R_g1 := am_ (R_g1.out.step hb); replace R_gb_ := am_ (R_gb_.out.step hb); replace FM := am_ (FM.out.step hb); replace K_r := am_ (K_r.out.step hb); replace K_w := am_ (K_w.out.step hb); replace K_a := am_ (K_a.out.step hb); replace K_b := am_ (K_b.out.step hb); replace K_c := am_ (K_c.out.step hb); replace K_d := am_ (K_d.out.step hb); replace HB := am_ (zj HB.out hb); replace KR := am_ (Own.below KR.out hb); replace HNL := am_ (Nat.le_trans HNL.out (hb).size)
    clear hb 
    clear c_b_0 c_b_1 c_d_0 c_d_1
    have c_r_0 := K_r.out.c0
    have c_w_0 := K_w.out.c0
    have c_r_1 := K_r.out.c1
    have c_w_1 := K_w.out.c1
    go_wp2_with fail
    refine (same_c w112 R_0.out.rd R_1.out.rd S_0.out.rd S_1.out.rd (by have := HLN.out; omega) (by have := HLN.out; omega)).mono ?_
    rintro e_ w113 ⟨rfl, hb⟩
    replace R_0 := am_ (R_0.out.step hb); replace R_1 := am_ (R_1.out.step hb); replace S_0 := am_ (S_0.out.step hb); replace S_1 := am_ (S_1.out.step hb); replace R_h0 := am_ (R_h0.out.step hb); replace R_ha := am_ (R_ha.out.step hb); replace R_h1 := am_ (R_h1.out.step hb); replace R_hb_ := am_ (R_hb_.out.step hb); replace R_g0 := am_ (R_g0.out.step hb); replace R_ga := am_ (R_ga.out.step hb); replace R_g1 := am_ (R_g1.out.step hb); replace R_gb_ := am_ (R_gb_.out.step hb); replace FM := am_ (FM.out.step hb); replace K_r := am_ (K_r.out.step hb); replace K_w := am_ (K_w.out.step hb); replace K_a := am_ (K_a.out.step hb); replace K_b := am_ (K_b.out.step hb); replace K_c := am_ (K_c.out.step hb); replace K_d := am_ (K_d.out.step hb); replace HB := am_ (zj HB.out hb); replace KR := am_ (Own.below KR.out hb); replace HNL := am_ (Nat.le_trans HNL.out (hb).size)
    clear hb 
    clear c_r_0 c_r_1 c_w_0 c_w_1
    have hw1 : wrap64 ((x : Int) + 1) = ((x + 1 : Nat) : Int) := wnext x (by have := HX.out; omega)
    by_cases hE0 : E = 0
    ·have heb : (E != 0) = false := by rw [hE0]; rfl
     have HRR := am_ (HRG.out hE0)
     have pp := perm_mid hs ([⟨A0, lv.length, c0⟩, ⟨A1, at_.length, c1⟩] : List H) (([⟨A_h0, hl.length, c_h0⟩, ⟨A_ha, ha.length, c_ha⟩, ⟨A_h1, hl.length, c_h1⟩, ⟨A_hb_, hbb.length, c_hb_⟩] : List H) ++ ([⟨A_g0, hl.length, c_g0⟩, ⟨A_ga, ha.length, c_ga⟩, ⟨A_g1, hl.length, c_g1⟩, ⟨A_gb_, hbb.length, c_gb_⟩] : List H))
     have pq : (hs ++ ([⟨A0, lv.length, c0⟩, ⟨A1, at_.length, c1⟩] : List H) ++ (([⟨A_h0, hl.length, c_h0⟩, ⟨A_ha, ha.length, c_ha⟩, ⟨A_h1, hl.length, c_h1⟩, ⟨A_hb_, hbb.length, c_hb_⟩] : List H) ++ ([⟨A_g0, hl.length, c_g0⟩, ⟨A_ga, ha.length, c_ga⟩, ⟨A_g1, hl.length, c_g1⟩, ⟨A_gb_, hbb.length, c_gb_⟩] : List H))).Perm (hs ++ ([⟨A_h0, hl.length, c_h0⟩, ⟨A_ha, ha.length, c_ha⟩, ⟨A_h1, hl.length, c_h1⟩, ⟨A_hb_, hbb.length, c_hb_⟩, ⟨A_g0, hl.length, c_g0⟩, ⟨A_ga, ha.length, c_ga⟩, ⟨A_g1, hl.length, c_g1⟩, ⟨A_gb_, hbb.length, c_gb_⟩, ⟨A0, lv.length, c0⟩, ⟨A1, at_.length, c1⟩] : List H)) := pp
     have DL2 := am_ (show DistL (hs ++ ([⟨A_h0, hl.length, c_h0⟩, ⟨A_ha, ha.length, c_ha⟩, ⟨A_h1, hl.length, c_h1⟩, ⟨A_hb_, hbb.length, c_hb_⟩, ⟨A_g0, hl.length, c_g0⟩, ⟨A_ga, ha.length, c_ga⟩, ⟨A_g1, hl.length, c_g1⟩, ⟨A_gb_, hbb.length, c_gb_⟩, ⟨A0, lv.length, c0⟩, ⟨A1, at_.length, c1⟩] : List H)) from (show DistL (hs ++ ([⟨A0, lv.length, c0⟩, ⟨A1, at_.length, c1⟩] : List H) ++ (([⟨A_h0, hl.length, c_h0⟩, ⟨A_ha, ha.length, c_ha⟩, ⟨A_h1, hl.length, c_h1⟩, ⟨A_hb_, hbb.length, c_hb_⟩] : List H) ++ ([⟨A_g0, hl.length, c_g0⟩, ⟨A_ga, ha.length, c_ga⟩, ⟨A_g1, hl.length, c_g1⟩, ⟨A_gb_, hbb.length, c_gb_⟩] : List H))) by rw [← List.append_assoc]; exact (DL.out.app DS_1.out LT_1.out GE_1.out).app DS_2.out (LT_2.out hE0) GE_2.out).perm pq)
     have FM2 := am_ (show FamM w113 w.heap.size (hs ++ ([⟨A_h0, hl.length, c_h0⟩, ⟨A_ha, ha.length, c_ha⟩, ⟨A_h1, hl.length, c_h1⟩, ⟨A_hb_, hbb.length, c_hb_⟩, ⟨A_g0, hl.length, c_g0⟩, ⟨A_ga, ha.length, c_ga⟩, ⟨A_g1, hl.length, c_g1⟩, ⟨A_gb_, hbb.length, c_gb_⟩, ⟨A0, lv.length, c0⟩, ⟨A1, at_.length, c1⟩] : List H)) from (FM.out.app ((FamM.four R_h0.out R_ha.out R_h1.out R_hb_.out HRR.out.1 HRR.out.2.1 HRR.out.1 HRR.out.2.2).app (FamM.four R_g0.out R_ga.out R_g1.out R_gb_.out HRR.out.1 HRR.out.2.1 HRR.out.1 HRR.out.2.2))).perm pq)
     clear pp pq hE0 LT_1 LT_2 GE_1 GE_2 DS_1 DS_2 FM DL
     have c_a_0 := K_a.out.c0
     have c_b_0 := K_b.out.c0
     have c_c_0 := K_c.out.c0
     have c_d_0 := K_d.out.c0
     have c_r_0 := K_r.out.c0
     have c_a_1 := K_a.out.c1
     have c_b_1 := K_b.out.c1
     have c_c_1 := K_c.out.c1
     have c_d_1 := K_d.out.c1
     have c_r_1 := K_r.out.c1
     clear R_g0 R_ga R_g1 R_gb_ R_0 R_1 S_0 S_1
     go_wp2_with (first
  | ((with_reducible refine zp (N := 86) rfl ?_); refine app_event (w := w113.alloc (.cells #[.slice A_h0 hl.length c_h0, .slice A_ha ha.length c_ha, .slice A_h1 hl.length c_h1, .slice A_hb_ hbb.length c_hb_, .slice A_g0 hl.length c_g0, .slice A_ga ha.length c_ga, .slice A_g1 hl.length c_g1, .slice A_gb_ hbb.length c_gb_, .slice A0 lv.length c0, .slice A1 at_.length c1] 24)) (base := NL) (t := 57) (e := 24) (m := 5) (v := .slice AK n ck) (news := [.slice A_h0 hl.length c_h0, .slice A_ha ha.length c_ha, .slice A_h1 hl.length c_h1, .slice A_hb_ hbb.length c_hb_, .slice A_g0 hl.length c_g0, .slice A_ga ha.length c_ga, .slice A_g1 hl.length c_g1, .slice A_gb_ hbb.length c_gb_, .slice A0 lv.length c0, .slice A1 at_.length c1]) rfl _ _ rfl Try.underlying57 info24b rfl (by decide) rfl (KR.out.alloc _) rfl rfl (by decide) (World.news_of_block (cs := #[.slice A_h0 hl.length c_h0, .slice A_ha ha.length c_ha, .slice A_h1 hl.length c_h1, .slice A_hb_ hbb.length c_hb_, .slice A_g0 hl.length c_g0, .slice A_ga ha.length c_ga, .slice A_g1 hl.length c_g1, .slice A_gb_ hbb.length c_gb_, .slice A0 lv.length c0, .slice A1 at_.length c1]) (heap_alloc_new _ _)) (by simp [Value.oneCell']) (by have := HN.out; exact le_max_ _ (by omega)) (by have := HN.out; omega) (Nat.le_trans HNL.out (by simp)) ?_; intro v1 w114 ho alt; have GA := World.grownBy.trans (World.grownBy_alloc w113 (.cells #[.slice A_h0 hl.length c_h0, .slice A_ha ha.length c_ha, .slice A_h1 hl.length c_h1, .slice A_hb_ hbb.length c_hb_, .slice A_g0 hl.length c_g0, .slice A_ga ha.length c_ga, .slice A_g1 hl.length c_g1, .slice A_gb_ hbb.length c_gb_, .slice A0 lv.length c0, .slice A1 at_.length c1] 24) _) (grow_any alt); replace R_h0 := am_ (R_h0.out.other KR.out (by decide) GA); replace R_ha := am_ (R_ha.out.other KR.out (by decide) GA); replace R_h1 := am_ (R_h1.out.other KR.out (by decide) GA); replace R_hb_ := am_ (R_hb_.out.other KR.out (by decide) GA); replace FM2 := am_ (FM2.out.other KR.out (by decide) GA); replace K_r := am_ (Bx.grown K_r.out GA (fun e => (by have h_ := zah KR.out _ e.symm; have := GRW.out; omega))); replace K_w := am_ (Bx.grown K_w.out GA (fun e => (by have h_ := zah KR.out _ e.symm; have := GRW.out; omega))); replace K_a := am_ (Bx.grown K_a.out GA (fun e => NK_a.out _ e.symm rfl)); replace K_b := am_ (Bx.grown K_b.out GA (fun e => NK_b.out _ e.symm rfl)); replace K_c := am_ (Bx.grown K_c.out GA (fun e => NK_c.out _ e.symm rfl)); replace K_d := am_ (Bx.grown K_d.out GA (fun e => NK_d.out _ e.symm rfl)); replace HB := am_ (HB.out.grown GA HB.out.size (fun k hk => Nat.le_trans GRW.out.2.2 (zah KR.out k hk))); replace HNL := am_ (Nat.le_trans HNL.out GA.size); obtain ⟨AK2, ck2, rfl⟩ := own_form ho; replace KR := am_ (show w114.ownsRow NL 24 2 (.slice AK2 (n + 5) ck2) (n + 5) ((hs ++ ([⟨A_h0, hl.length, c_h0⟩, ⟨A_ha, ha.length, c_ha⟩, ⟨A_h1, hl.length, c_h1⟩, ⟨A_hb_, hbb.length, c_hb_⟩, ⟨A_g0, hl.length, c_g0⟩, ⟨A_ga, ha.length, c_ga⟩, ⟨A_g1, hl.length, c_g1⟩, ⟨A_gb_, hbb.length, c_gb_⟩, ⟨A0, lv.length, c0⟩, ⟨A1, at_.length, c1⟩] : List H)).map hv) by rw [List.map_append]; exact ho); clear GA alt ho; have c_a_0 := K_a.out.c0; have c_a_1 := K_a.out.c1)
  | fail)
     clear K_c K_d c_b_0 c_b_1 c_c_0 c_c_1 c_d_0 c_d_1 c_r_0 c_r_1
     have LT_3 := am_ FM2.out.lt
     refine (copy_o w114 R_h0.out.rd R_ha.out.rd (by have := HRR.out; omega) (by have := HRR.out; omega)).mono ?_
     rintro e_ w115 ⟨A_n0, c_n0, A_n1, c_n1, rfl, h0, h1, hd_, hb⟩
     have GE_3 := am_ (ge2 h0 h1)
     have DS_3 := am_ hd_
     clear hd_
     replace h0 := h0.lower HB.out.size
     replace h1 := h1.lower HB.out.size
     replace R_h0 := am_ (R_h0.out.step hb); replace R_ha := am_ (R_ha.out.step hb); replace R_h1 := am_ (R_h1.out.step hb); replace R_hb_ := am_ (R_hb_.out.step hb); replace FM2 := am_ (FM2.out.step hb); replace K_r := am_ (K_r.out.step hb); replace K_w := am_ (K_w.out.step hb); replace K_a := am_ (K_a.out.step hb); replace K_b := am_ (K_b.out.step hb); replace HB := am_ (zj HB.out hb); replace KR := am_ (Own.below KR.out hb); replace HNL := am_ (Nat.le_trans HNL.out (hb).size)
     have R_n0 := am_ h0
     have R_n1 := am_ h1
     clear hb h0 h1
     cases up
     ·have hupT : True := trivial
      have hT_ : True := trivial
      go_wp2_with (first
  | ((with_reducible refine zK (t := 24) (p := 5) rfl ?_); refine zC rfl 24 rfl rfl g_r #[.slice A_n0 hl.length c_n0, .slice A_n1 ha.length c_n1] rfl rfl 24 _ K_r.out (info24.trans rfl) rfl (zaa _ _ _ _ _ _) ?_; intro w116 hw_ hg_; replace R_h0 := am_ (R_h0.out.put K_r.out hg_); replace R_ha := am_ (R_ha.out.put K_r.out hg_); replace R_h1 := am_ (R_h1.out.put K_r.out hg_); replace R_hb_ := am_ (R_hb_.out.put K_r.out hg_); replace R_n0 := am_ (R_n0.out.put K_r.out hg_); replace R_n1 := am_ (R_n1.out.put K_r.out hg_); replace FM2 := am_ (FM2.out.put K_r.out hg_); replace K_w := am_ (K_w.out.put hg_ N_w_r.out.symm); replace K_a := am_ (K_a.out.put hg_ N_a_r.out.symm); replace K_b := am_ (K_b.out.put hg_ N_b_r.out.symm); replace KR := am_ (Own.kept KR.out hg_ (fun k_ hk_ e_ => by have := zah KR.out k_ hk_; have := GRW.out; have := Option.some.inj e_; omega)); replace HNL := am_ (Nat.le_trans HNL.out hg_.size); replace HB := am_ (HB.out.grown hg_ HB.out.size (fun k_ hk_ => by cases hk_; exact L_r.out)); replace K_r := am_ (show Bx w116 g_r A_n0 hl.length c_n0 A_n1 ha.length c_n1 from hw_); clear hw_ hg_; have c_r_0 := K_r.out.c0; have c_r_1 := K_r.out.c1; have hyu := HYU.out _ HB.out; have c_r_0 := K_r.out.c0; have c_r_1 := K_r.out.c1)
  | fail)
      refine (copy_o w116 R_n0.out.rd R_n1.out.rd (by have := HRR.out; omega) (by have := HRR.out; omega)).mono ?_
      rintro e_ w117 ⟨A_z0, c_z0, A_z1, c_z1, rfl, h0, h1, hd_, hb⟩
      have GE_5 := am_ (ge2 h0 h1)
      have DS_5 := am_ hd_
      clear hd_
      replace h0 := h0.lower HB.out.size
      replace h1 := h1.lower HB.out.size
      replace R_h0 := am_ (R_h0.out.step hb); replace R_ha := am_ (R_ha.out.step hb); replace R_h1 := am_ (R_h1.out.step hb); replace R_hb_ := am_ (R_hb_.out.step hb); replace R_n0 := am_ (R_n0.out.step hb); replace R_n1 := am_ (R_n1.out.step hb); replace FM2 := am_ (FM2.out.step hb); replace K_r := am_ (K_r.out.step hb); replace K_w := am_ (K_w.out.step hb); replace K_a := am_ (K_a.out.step hb); replace K_b := am_ (K_b.out.step hb); replace HB := am_ (zj HB.out hb); replace KR := am_ (Own.below KR.out hb); replace HNL := am_ (Nat.le_trans HNL.out (hb).size)
      have R_z0 := am_ h0
      have R_z1 := am_ h1
      clear hb h0 h1
      go_wp2_with (first
  | ((with_reducible refine zK (t := 24) (p := 7) rfl ?_); refine zC rfl 24 rfl rfl g_w #[.slice A_z0 hl.length c_z0, .slice A_z1 ha.length c_z1] rfl rfl 24 _ K_w.out (info24.trans rfl) rfl (zaa _ _ _ _ _ _) ?_; intro w118 hw_ hg_; replace R_h0 := am_ (R_h0.out.put K_w.out hg_); replace R_ha := am_ (R_ha.out.put K_w.out hg_); replace R_h1 := am_ (R_h1.out.put K_w.out hg_); replace R_hb_ := am_ (R_hb_.out.put K_w.out hg_); replace R_n0 := am_ (R_n0.out.put K_w.out hg_); replace R_n1 := am_ (R_n1.out.put K_w.out hg_); replace R_z0 := am_ (R_z0.out.put K_w.out hg_); replace R_z1 := am_ (R_z1.out.put K_w.out hg_); replace FM2 := am_ (FM2.out.put K_w.out hg_); replace K_r := am_ (K_r.out.put hg_ N_w_r.out); replace K_a := am_ (K_a.out.put hg_ N_a_w.out.symm); replace K_b := am_ (K_b.out.put hg_ N_b_w.out.symm); replace KR := am_ (Own.kept KR.out hg_ (fun k_ hk_ e_ => by have := zah KR.out k_ hk_; have := GRW.out; have := Option.some.inj e_; omega)); replace HNL := am_ (Nat.le_trans HNL.out hg_.size); replace HB := am_ (HB.out.grown hg_ HB.out.size (fun k_ hk_ => by cases hk_; exact L_w.out)); replace K_w := am_ (show Bx w118 g_w A_z0 hl.length c_z0 A_z1 ha.length c_z1 from hw_); clear hw_ hg_; have c_w_0 := K_w.out.c0; have c_w_1 := K_w.out.c1)
  | fail)
      go_roundg (gk - 1)
      case measure => have := hm.out; have := HX.out; omega
      case rel => exact ⟨x + 1, n + 5, ck2, hs ++ ([⟨A_h0, hl.length, c_h0⟩, ⟨A_ha, ha.length, c_ha⟩, ⟨A_h1, hl.length, c_h1⟩, ⟨A_hb_, hbb.length, c_hb_⟩, ⟨A_g0, hl.length, c_g0⟩, ⟨A_ga, ha.length, c_ga⟩, ⟨A_g1, hl.length, c_g1⟩, ⟨A_gb_, hbb.length, c_gb_⟩, ⟨A0, lv.length, c0⟩, ⟨A1, at_.length, c1⟩] : List H), hl, ha, AK2, A_n0, A_n1, A_z0, A_z1, c_n0, c_n1, c_z0, c_z1, rfl, by first | rfl | (rw [w64 _ (by omega) (by have := HX.out; omega)]; rfl), ⟨by have := hm.out; have := HX.out; omega⟩, ⟨by have := HX.out; have := HN.out; refine ⟨by omega, ?_, by omega⟩; rw [List.length_append]; simp only [List.length_cons, List.length_nil]; omega⟩, ⟨⟨HRR.out.1, HRR.out.2.1⟩⟩, K_r, K_w, R_n0, R_n1, R_z0, R_z1, ⟨FM2.out.app (FamM.two R_n0.out R_n1.out HRR.out.1 HRR.out.2.1)⟩, ⟨DL2.out.app DS_3.out LT_3.out GE_3.out⟩, KR, HNL, HB⟩
     ·have hupT : True := trivial
      have hT_ : True := trivial
      go_wp2_with (first
  | ((with_reducible refine zK (t := 24) (p := 5) rfl ?_); refine zC rfl 24 rfl rfl g_r #[.slice A_n0 hl.length c_n0, .slice A_n1 ha.length c_n1] rfl rfl 24 _ K_r.out (info24.trans rfl) rfl (zaa _ _ _ _ _ _) ?_; intro w116 hw_ hg_; replace R_h0 := am_ (R_h0.out.put K_r.out hg_); replace R_ha := am_ (R_ha.out.put K_r.out hg_); replace R_h1 := am_ (R_h1.out.put K_r.out hg_); replace R_hb_ := am_ (R_hb_.out.put K_r.out hg_); replace R_n0 := am_ (R_n0.out.put K_r.out hg_); replace R_n1 := am_ (R_n1.out.put K_r.out hg_); replace FM2 := am_ (FM2.out.put K_r.out hg_); replace K_w := am_ (K_w.out.put hg_ N_w_r.out.symm); replace K_a := am_ (K_a.out.put hg_ N_a_r.out.symm); replace K_b := am_ (K_b.out.put hg_ N_b_r.out.symm); replace KR := am_ (Own.kept KR.out hg_ (fun k_ hk_ e_ => by have := zah KR.out k_ hk_; have := GRW.out; have := Option.some.inj e_; omega)); replace HNL := am_ (Nat.le_trans HNL.out hg_.size); replace HB := am_ (HB.out.grown hg_ HB.out.size (fun k_ hk_ => by cases hk_; exact L_r.out)); replace K_r := am_ (show Bx w116 g_r A_n0 hl.length c_n0 A_n1 ha.length c_n1 from hw_); clear hw_ hg_; have c_r_0 := K_r.out.c0; have c_r_1 := K_r.out.c1; have hyu := HYU.out _ HB.out; have c_b_0 := K_b.out.c0; have c_b_1 := K_b.out.c1)
  | fail)
      have LT_4 := am_ FM2.out.lt
      refine (copy_o w116 R_h1.out.rd R_hb_.out.rd (by have := HRR.out; omega) (by have := HRR.out; omega)).mono ?_
      rintro e_ w117 ⟨A_m0, c_m0, A_m1, c_m1, rfl, h0, h1, hd_, hb⟩
      have GE_4 := am_ (ge2 h0 h1)
      have DS_4 := am_ hd_
      clear hd_
      replace h0 := h0.lower HB.out.size
      replace h1 := h1.lower HB.out.size
      replace R_h0 := am_ (R_h0.out.step hb); replace R_ha := am_ (R_ha.out.step hb); replace R_h1 := am_ (R_h1.out.step hb); replace R_hb_ := am_ (R_hb_.out.step hb); replace R_n0 := am_ (R_n0.out.step hb); replace R_n1 := am_ (R_n1.out.step hb); replace FM2 := am_ (FM2.out.step hb); replace K_r := am_ (K_r.out.step hb); replace K_w := am_ (K_w.out.step hb); replace K_a := am_ (K_a.out.step hb); replace K_b := am_ (K_b.out.step hb); replace HB := am_ (zj HB.out hb); replace KR := am_ (Own.below KR.out hb); replace HNL := am_ (Nat.le_trans HNL.out (hb).size)
      have R_m0 := am_ h0
      have R_m1 := am_ h1
      clear hb h0 h1
      go_wp2_with (first
  | ((with_reducible refine zK (t := 24) (p := 5) rfl ?_); refine zC rfl 24 rfl rfl g_r #[.slice A_m0 hl.length c_m0, .slice A_m1 hbb.length c_m1] rfl rfl 24 _ K_r.out (info24.trans rfl) rfl (zaa _ _ _ _ _ _) ?_; intro w118 hw_ hg_; replace R_h0 := am_ (R_h0.out.put K_r.out hg_); replace R_ha := am_ (R_ha.out.put K_r.out hg_); replace R_h1 := am_ (R_h1.out.put K_r.out hg_); replace R_hb_ := am_ (R_hb_.out.put K_r.out hg_); replace R_n0 := am_ (R_n0.out.put K_r.out hg_); replace R_n1 := am_ (R_n1.out.put K_r.out hg_); replace R_m0 := am_ (R_m0.out.put K_r.out hg_); replace R_m1 := am_ (R_m1.out.put K_r.out hg_); replace FM2 := am_ (FM2.out.put K_r.out hg_); replace K_w := am_ (K_w.out.put hg_ N_w_r.out.symm); replace K_a := am_ (K_a.out.put hg_ N_a_r.out.symm); replace K_b := am_ (K_b.out.put hg_ N_b_r.out.symm); replace KR := am_ (Own.kept KR.out hg_ (fun k_ hk_ e_ => by have := zah KR.out k_ hk_; have := GRW.out; have := Option.some.inj e_; omega)); replace HNL := am_ (Nat.le_trans HNL.out hg_.size); replace HB := am_ (HB.out.grown hg_ HB.out.size (fun k_ hk_ => by cases hk_; exact L_r.out)); replace K_r := am_ (show Bx w118 g_r A_m0 hl.length c_m0 A_m1 hbb.length c_m1 from hw_); clear hw_ hg_; have c_r_0 := K_r.out.c0; have c_r_1 := K_r.out.c1; have c_r_0 := K_r.out.c0; have c_r_1 := K_r.out.c1)
  | fail)
      refine (copy_o w118 R_m0.out.rd R_m1.out.rd (by have := HRR.out; omega) (by have := HRR.out; omega)).mono ?_
      rintro e_ w119 ⟨A_z0, c_z0, A_z1, c_z1, rfl, h0, h1, hd_, hb⟩
      have GE_5 := am_ (ge2 h0 h1)
      have DS_5 := am_ hd_
      clear hd_
      replace h0 := h0.lower HB.out.size
      replace h1 := h1.lower HB.out.size
      replace R_h0 := am_ (R_h0.out.step hb); replace R_ha := am_ (R_ha.out.step hb); replace R_h1 := am_ (R_h1.out.step hb); replace R_hb_ := am_ (R_hb_.out.step hb); replace R_n0 := am_ (R_n0.out.step hb); replace R_n1 := am_ (R_n1.out.step hb); replace R_m0 := am_ (R_m0.out.step hb); replace R_m1 := am_ (R_m1.out.step hb); replace FM2 := am_ (FM2.out.step hb); replace K_r := am_ (K_r.out.step hb); replace K_w := am_ (K_w.out.step hb); replace K_a := am_ (K_a.out.step hb); replace K_b := am_ (K_b.out.step hb); replace HB := am_ (zj HB.out hb); replace KR := am_ (Own.below KR.out hb); replace HNL := am_ (Nat.le_trans HNL.out (hb).size)
      have R_z0 := am_ h0
      have R_z1 := am_ h1
      clear hb h0 h1
      go_wp2_with (first
  | ((with_reducible refine zK (t := 24) (p := 7) rfl ?_); refine zC rfl 24 rfl rfl g_w #[.slice A_z0 hl.length c_z0, .slice A_z1 hbb.length c_z1] rfl rfl 24 _ K_w.out (info24.trans rfl) rfl (zaa _ _ _ _ _ _) ?_; intro w120 hw_ hg_; replace R_h0 := am_ (R_h0.out.put K_w.out hg_); replace R_ha := am_ (R_ha.out.put K_w.out hg_); replace R_h1 := am_ (R_h1.out.put K_w.out hg_); replace R_hb_ := am_ (R_hb_.out.put K_w.out hg_); replace R_n0 := am_ (R_n0.out.put K_w.out hg_); replace R_n1 := am_ (R_n1.out.put K_w.out hg_); replace R_m0 := am_ (R_m0.out.put K_w.out hg_); replace R_m1 := am_ (R_m1.out.put K_w.out hg_); replace R_z0 := am_ (R_z0.out.put K_w.out hg_); replace R_z1 := am_ (R_z1.out.put K_w.out hg_); replace FM2 := am_ (FM2.out.put K_w.out hg_); replace K_r := am_ (K_r.out.put hg_ N_w_r.out); replace K_a := am_ (K_a.out.put hg_ N_a_w.out.symm); replace K_b := am_ (K_b.out.put hg_ N_b_w.out.symm); replace KR := am_ (Own.kept KR.out hg_ (fun k_ hk_ e_ => by have := zah KR.out k_ hk_; have := GRW.out; have := Option.some.inj e_; omega)); replace HNL := am_ (Nat.le_trans HNL.out hg_.size); replace HB := am_ (HB.out.grown hg_ HB.out.size (fun k_ hk_ => by cases hk_; exact L_w.out)); replace K_w := am_ (show Bx w120 g_w A_z0 hl.length c_z0 A_z1 hbb.length c_z1 from hw_); clear hw_ hg_; have c_w_0 := K_w.out.c0; have c_w_1 := K_w.out.c1)
  | fail)
      go_roundg (gk - 1)
      case measure => have := hm.out; have := HX.out; omega
      case rel => exact ⟨x + 1, n + 5, ck2, hs ++ ([⟨A_h0, hl.length, c_h0⟩, ⟨A_ha, ha.length, c_ha⟩, ⟨A_h1, hl.length, c_h1⟩, ⟨A_hb_, hbb.length, c_hb_⟩, ⟨A_g0, hl.length, c_g0⟩, ⟨A_ga, ha.length, c_ga⟩, ⟨A_g1, hl.length, c_g1⟩, ⟨A_gb_, hbb.length, c_gb_⟩, ⟨A0, lv.length, c0⟩, ⟨A1, at_.length, c1⟩] : List H), hl, hbb, AK2, A_m0, A_m1, A_z0, A_z1, c_m0, c_m1, c_z0, c_z1, rfl, by first | rfl | (rw [w64 _ (by omega) (by have := HX.out; omega)]; rfl), ⟨by have := hm.out; have := HX.out; omega⟩, ⟨by have := HX.out; have := HN.out; refine ⟨by omega, ?_, by omega⟩; rw [List.length_append]; simp only [List.length_cons, List.length_nil]; omega⟩, ⟨⟨HRR.out.1, HRR.out.2.2⟩⟩, K_r, K_w, R_m0, R_m1, R_z0, R_z1, ⟨FM2.out.app (FamM.two R_m0.out R_m1.out HRR.out.1 HRR.out.2.2)⟩, ⟨DL2.out.app DS_4.out LT_4.out GE_4.out⟩, KR, HNL, HB⟩
    ·have heb : (E != 0) = true := bne_iff_ne.2 hE0
     clear hE0
     go_wp2_with fail
     go_roundg (gk - 1)
     case measure => have := hm.out; have := HX.out; omega
     case rel => exact ⟨x + 1, n, ck, hs, lv, at_, AK, A0, A1, B0, B1, c0, c1, d0, d1, rfl, by first | rfl | (rw [w64 _ (by omega) (by have := HX.out; omega)]; rfl), ⟨by have := hm.out; have := HX.out; omega⟩, ⟨by have := HX.out; have := HN.out; omega⟩, HLN, K_r, K_w, R_0, R_1, S_0, S_1, FM, DL, KR, HNL, HB⟩
   ·have hx4b : decide ((x : Int) < 12) = false := decide_eq_false (by omega)
    have hxe := eq_true hx
    have hxf := eq_true (show (x : Int) < (l1.length : Int) by omega)
    have hx4c : (x < 12) = False := eq_false hx4
    have hx4d : ((x : Int) < 12) = False := eq_false (by omega)
    clear hx hx4
    go_wp2_with fail
    obtain ⟨X, hX⟩ := (show FamM wr w.heap.size hs from fun p hp => FM.out p (List.mem_append_left _ hp)).fam
    refine (settled_calls AK n ck w.heap.size hs X wr (Own.lower KR.out GRW.out.2.2) hX (dist_of (List.pairwise_append.1 DL.out).1) ⟨HN.out.2.1, by have := HN.out; omega⟩ (fun k h hk => (FM.out h (List.mem_append_left _ (List.mem_of_getElem? hk))).1) HB.out.size).mono ?_
    rintro e_ w5 ⟨rfl, hb⟩
    replace HB := am_ (HB.out.trans hb)
    clear hb
    go_wp2_with fail
    refine (awake_calls _).mono ?_
    rintro e_ w6 ⟨rfl, hb⟩
    go_wp2_with fail
    go_ret
    exact ⟨by first | done | rfl, zj HB.out hb⟩
  ·have hxb : decide ((x : Int) < (l1.length : Int)) = false := decide_eq_false (by omega)
   have hxc : (x < l1.length) = False := eq_false hx
   have hxd : ((x : Int) < (l1.length : Int)) = False := eq_false (by omega)
   clear hx
   go_wp2_with fail
   obtain ⟨X, hX⟩ := (show FamM wr w.heap.size hs from fun p hp => FM.out p (List.mem_append_left _ hp)).fam
   refine (settled_calls AK n ck w.heap.size hs X wr (Own.lower KR.out GRW.out.2.2) hX (dist_of (List.pairwise_append.1 DL.out).1) ⟨HN.out.2.1, by have := HN.out; omega⟩ (fun k h hk => (FM.out h (List.mem_append_left _ (List.mem_of_getElem? hk))).1) HB.out.size).mono ?_
   rintro e_ w5 ⟨rfl, hb⟩
   replace HB := am_ (HB.out.trans hb)
   clear hb
   go_wp2_with fail
   refine (awake_calls _).mono ?_
   rintro e_ w6 ⟨rfl, hb⟩
   go_wp2_with fail
   go_ret
   exact ⟨by first | done | rfl, zj HB.out hb⟩
end Go.Proofs.Ytlidbaejhmamjaa.SL

namespace Go.Proofs.Ytlidbaejhmamjaa.LW
open Go.RowKit Go.ChangeShapes Go.WideShapes Go.Proofs.YtlidbaejhmamjaaW.PrintWords Go.Proofs.YtlidbaejhmamjaaW.PrintLast Go.Proofs.YtlidbaejhmamjaaW.PrintMore Go.Proofs.Ytlidbaejhmamjaa.PB Go.Proofs.Ytlidbaejhmamjaa.LA Go.Proofs.Ytlidbaejhmamjaa.AC
set_option linter.unusedVariables false
set_option linter.unusedSimpArgs false
section
variable {H : Type} {enc : TypeId × Value → H} {W : World} {base : Nat} {spare : Nat → Bool} {held : Bool}
theorem turns_of_trod {fuel : Nat} {v : Value} {x : DataW H × List MemPlace} (h : DataW.trod enc Try.prog W base spare held fuel 50 [v] = some x) : ∃ (A : Option Addr) (c : Nat) (xs : List S52), v = .slice A xs.length c ∧ xs.length ≤ c ∧ Kd.C k52 W A xs.length xs := by
 rcases Deep.open_slice_pairs Try.underlying50 Try.underlying52 (by kernel_rfl) rfl rfl (by kernel_rfl) (by kernel_rfl) h with ⟨hcs, _⟩ | ⟨a, len, cap, m, n, V0, V1, D0, D1, P0, P1, hcs, _, hl, hm, hmm, _, hcell⟩
 ·obtain rfl := (List.cons.inj hcs).1
  exact ⟨none, 0, [], rfl, Nat.le_refl _, Kd.C_nil _ _⟩
 ·obtain rfl := (List.cons.inj hcs).1
  have hlm : len ≤ m := by rw [hmm]; split <;> omega
  have each : ∀ i, i < len → ∃ q : Int × Bool, W.cell? (a.add (i * 2)) = some (.int .i64 q.1) ∧ W.cell? (a.add (i * 2 + 1)) = some (.bool q.2) := by
   intro i hi
   obtain ⟨h0, h1, t0, t1⟩ := hcell i (by omega)
   obtain ⟨z, e0, _, _⟩ := DataW.trod_int Try.underlying3 t0
   obtain ⟨b, e1, _⟩ := DataW.trod_bool Try.underlying4 t1
   obtain e0 := (List.cons.inj e0).1
   obtain e1 := (List.cons.inj e1).1
   exact ⟨(z, b), by rw [h0, e0], by rw [h1, e1]⟩
  obtain ⟨q, hq⟩ := Deep.choose_lt each
  have hlen : ((List.range len).map fun i => (⟨(q i).1, (q i).2⟩ : S52)).length = len := by simp
  refine ⟨some a, cap, (List.range len).map fun i => ⟨(q i).1, (q i).2⟩, by rw [hlen], by rw [hlen]; exact hl, ⟨rfl, by rw [hlen]; simp [maxLen] at hm; omega, fun _ => ⟨a, rfl, fun j p hj => ⟨[.int .i64 p.f0, .bool p.f1], rfl, k52_mk _ _, fun i u hu => ?_⟩⟩⟩⟩
  have hj2 : j < len := by
   rcases Nat.lt_or_ge j len with h1 | h1
   ·exact h1
   ·rw [List.getElem?_eq_none (by rw [hlen]; exact h1)] at hj; cases hj
  have hp : p = ⟨(q j).1, (q j).2⟩ := by
   rw [List.getElem?_map, List.getElem?_range hj2] at hj
   exact (Option.some.inj hj).symm
  subst hp
  match i with
  | 0 => obtain rfl := Option.some.inj hu; exact (hq j hj2).1
  | 1 => obtain rfl := Option.some.inj hu; exact (hq j hj2).2
  | i + 2 => cases hu
end
end Go.Proofs.Ytlidbaejhmamjaa.LW
