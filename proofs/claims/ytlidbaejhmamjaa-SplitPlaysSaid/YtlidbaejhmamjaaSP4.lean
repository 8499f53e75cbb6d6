/- Part 4 of the proof of SplitPlays: what the functions below it compute, each shown by a walk or by plain reasoning; no condition of its own. -/
import Derived.Test.YtlidbaejhmamjaaSP3
import Derived.Test.YtlidbaejhmamjaaSP1
namespace Go.Proofs.Ytlidbaejhmamjaa.LW
open Go.RowKit Go.Proofs.YtlidbaejhmamjaaW.PrintWords Go.Proofs.YtlidbaejhmamjaaW.PrintLast Go.Proofs.YtlidbaejhmamjaaW.PrintMore Go.Proofs.Ytlidbaejhmamjaa.PB Go.Proofs.Ytlidbaejhmamjaa.LA Go.Proofs.Ytlidbaejhmamjaa.AC
set_option linter.unusedVariables false
set_option linter.unusedSimpArgs false
theorem drawn0_below {w w' : World} (h : zay w w') : Below w.heap.size w w' := by
 obtain ⟨n, rfl⟩ := h
 exact below_drewN (Below.refl _ _) n
set_option maxRecDepth 100000 in
set_option maxHeartbeats 4000000 in
theorem awake_calls (w : World) : Calls Try.prog 14 #[] w fun e w' => e = .returned (.bool true) ∧ Below w.heap.size w w' := by
 obtain ⟨p0, p1, a0, a1, b0, b1, l, y1, y2, y3, y4, y5, h1, h2, h3, h4, h5, h6, h7, h8, h9, e1, e2, e3, e4, e5⟩ := awake_vals
 have F1 := am_ h1
 have F2 := am_ h2
 have F3 := am_ h3
 have F4 := am_ h4
 have F5 := am_ h5
 have F6 := am_ h6
 have F7 := am_ h7
 have F8 := am_ h8
 have F9 := am_ h9
 have E1 := am_ e1
 have E2 := am_ e2
 have E3 := am_ e3
 have E4 := am_ e4
 have E5 := am_ e5
 have HI3 := am_ (show I64 y3 by rw [e3]; intro x hx; simp at hx; omega)
 have HI4 := am_ (show I64 y4 by rw [e4]; intro x hx; simp at hx; omega)
 clear h1 h2 h3 h4 h5 h6 h7 h8 h9 e1 e2 e3 e4 e5
 have hu24 := Try.underlying24
 have HB := am_ (Below.refl w.heap.size w)
 go_enter Try.func14, Try.ntmps14
 go_wp2_with fail
 refine (zbb.calls 40 2 p0 p1 0 w F1.out).mono ?_
 rintro e w1 ⟨v0, v1, rfl, h0, h1, hb⟩
 obtain ⟨A_p0, c_p0, rfl, r_p0⟩ := Rd.of_R h0
 obtain ⟨A_p1, c_p1, rfl, r_p1⟩ := Rd.of_R h1
 replace HB := am_ (zh HB.out hb)
 have R_p0 := am_ r_p0
 have R_p1 := am_ r_p1
 clear hb r_p0 h0 r_p1 h1
 go_wp2_with (first
  | ((with_reducible refine zr (N := 1) rfl ?_); refine zt rfl (N := 1) rfl (cs := #[.slice none 0 0, .slice none 0 0]) (t := 24) ?hr ?_; (case hr => first | (go_simp; done) | (go_simp; rfl)); intro g_p hg_ w2 hw_ hb_; have L_p := am_ (show w.heap.size ≤ g_p by have := HB.out.size; omega); replace R_p0 := am_ (R_p0.out.step hb_); replace R_p1 := am_ (R_p1.out.step hb_); replace HB := am_ (zh HB.out hb_); have K_p := am_ (show Bx w2 g_p none 0 0 none 0 0 from hw_); clear hg_ hw_ hb_)
  | ((with_reducible refine zJ (t := 24) (p := 1) rfl ?_); refine zD rfl 24 rfl rfl g_p #[.slice A_p0 p0.length c_p0, .slice A_p1 p1.length c_p1] rfl rfl 24 _ K_p.out (info24.trans rfl) rfl (zaA _ _ _ _ _ _) ?_; intro w3 hw_ hg_; replace R_p0 := am_ (R_p0.out.put K_p.out hg_); replace R_p1 := am_ (R_p1.out.put K_p.out hg_); replace HB := am_ (HB.out.grown hg_ HB.out.size (fun k_ hk_ => by cases hk_; exact L_p.out)); replace K_p := am_ (show Bx w3 g_p A_p0 p0.length c_p0 A_p1 p1.length c_p1 from hw_); clear hw_ hg_; have c_p_0 := K_p.out.c0; have c_p_1 := K_p.out.c1)
  | fail)
 refine (z2.calls 40 A_p0 c_p0 p0 A_p1 c_p1 p1 1 a0 a1 b0 b1 0 w3 R_p0.out.row R_p0.out.cap R_p1.out.row R_p1.out.cap F2.out).mono ?_
 rintro e w4 ⟨v0, v1, v2, v3, rfl, h0, h1, h2, h3, hb⟩
 clear c_p_0 c_p_1
 obtain ⟨A_a0, c_a0, rfl, r_a0⟩ := Rd.of_R h0
 obtain ⟨A_a1, c_a1, rfl, r_a1⟩ := Rd.of_R h1
 obtain ⟨A_b0, c_b0, rfl, r_b0⟩ := Rd.of_R h2
 obtain ⟨A_b1, c_b1, rfl, r_b1⟩ := Rd.of_R h3
 replace R_p0 := am_ (R_p0.out.step hb); replace R_p1 := am_ (R_p1.out.step hb); replace K_p := am_ (K_p.out.step hb); replace HB := am_ (zh HB.out hb)
 have R_a0 := am_ r_a0
 have R_a1 := am_ r_a1
 have R_b0 := am_ r_b0
 have R_b1 := am_ r_b1
 clear hb r_a0 h0 r_a1 h1 r_b0 h2 r_b1 h3
 go_wp2_with (first
  | ((with_reducible refine zr (N := 3) rfl ?_); refine zt rfl (N := 3) rfl (cs := #[.slice none 0 0, .slice none 0 0]) (t := 24) ?hr ?_; (case hr => first | (go_simp; done) | (go_simp; rfl)); intro g_a hg_ w5 hw_ hb_; have N_a_p := am_ (show g_p ≠ g_a by have := K_p.out.lt; omega); have L_a := am_ (show w.heap.size ≤ g_a by have := HB.out.size; omega); replace R_p0 := am_ (R_p0.out.step hb_); replace R_p1 := am_ (R_p1.out.step hb_); replace R_a0 := am_ (R_a0.out.step hb_); replace R_a1 := am_ (R_a1.out.step hb_); replace R_b0 := am_ (R_b0.out.step hb_); replace R_b1 := am_ (R_b1.out.step hb_); replace K_p := am_ (K_p.out.step hb_); replace HB := am_ (zh HB.out hb_); have K_a := am_ (show Bx w5 g_a none 0 0 none 0 0 from hw_); clear hg_ hw_ hb_)
  | ((with_reducible refine zr (N := 4) rfl ?_); refine zt rfl (N := 4) rfl (cs := #[.slice none 0 0, .slice none 0 0]) (t := 24) ?hr ?_; (case hr => first | (go_simp; done) | (go_simp; rfl)); intro g_b hg_ w6 hw_ hb_; have N_b_p := am_ (show g_p ≠ g_b by have := K_p.out.lt; omega); have N_b_a := am_ (show g_a ≠ g_b by have := K_a.out.lt; omega); have L_b := am_ (show w.heap.size ≤ g_b by have := HB.out.size; omega); replace R_p0 := am_ (R_p0.out.step hb_); replace R_p1 := am_ (R_p1.out.step hb_); replace R_a0 := am_ (R_a0.out.step hb_); replace R_a1 := am_ (R_a1.out.step hb_); replace R_b0 := am_ (R_b0.out.step hb_); replace R_b1 := am_ (R_b1.out.step hb_); replace K_p := am_ (K_p.out.step hb_); replace K_a := am_ (K_a.out.step hb_); replace HB := am_ (zh HB.out hb_); have K_b := am_ (show Bx w6 g_b none 0 0 none 0 0 from hw_); clear hg_ hw_ hb_)
  | ((with_reducible refine zJ (t := 24) (p := 3) rfl ?_); refine zD rfl 24 rfl rfl g_a #[.slice A_a0 a0.length c_a0, .slice A_a1 a1.length c_a1] rfl rfl 24 _ K_a.out (info24.trans rfl) rfl (zaA _ _ _ _ _ _) ?_; intro w7 hw_ hg_; replace R_p0 := am_ (R_p0.out.put K_a.out hg_); replace R_p1 := am_ (R_p1.out.put K_a.out hg_); replace R_a0 := am_ (R_a0.out.put K_a.out hg_); replace R_a1 := am_ (R_a1.out.put K_a.out hg_); replace R_b0 := am_ (R_b0.out.put K_a.out hg_); replace R_b1 := am_ (R_b1.out.put K_a.out hg_); replace K_p := am_ (K_p.out.put hg_ N_a_p.out); replace K_b := am_ (K_b.out.put hg_ N_b_a.out.symm); replace HB := am_ (HB.out.grown hg_ HB.out.size (fun k_ hk_ => by cases hk_; exact L_a.out)); replace K_a := am_ (show Bx w7 g_a A_a0 a0.length c_a0 A_a1 a1.length c_a1 from hw_); clear hw_ hg_; have c_a_0 := K_a.out.c0; have c_a_1 := K_a.out.c1)
  | ((with_reducible refine zJ (t := 24) (p := 4) rfl ?_); refine zD rfl 24 rfl rfl g_b #[.slice A_b0 b0.length c_b0, .slice A_b1 b1.length c_b1] rfl rfl 24 _ K_b.out (info24.trans rfl) rfl (zaA _ _ _ _ _ _) ?_; intro w8 hw_ hg_; replace R_p0 := am_ (R_p0.out.put K_b.out hg_); replace R_p1 := am_ (R_p1.out.put K_b.out hg_); replace R_a0 := am_ (R_a0.out.put K_b.out hg_); replace R_a1 := am_ (R_a1.out.put K_b.out hg_); replace R_b0 := am_ (R_b0.out.put K_b.out hg_); replace R_b1 := am_ (R_b1.out.put K_b.out hg_); replace K_p := am_ (K_p.out.put hg_ N_b_p.out); replace K_a := am_ (K_a.out.put hg_ N_b_a.out); replace HB := am_ (HB.out.grown hg_ HB.out.size (fun k_ hk_ => by cases hk_; exact L_b.out)); replace K_b := am_ (show Bx w8 g_b A_b0 b0.length c_b0 A_b1 b1.length c_b1 from hw_); clear hw_ hg_; have c_b_0 := K_b.out.c0; have c_b_1 := K_b.out.c1)
  | fail)
 refine (zaz.calls 40 A_b0 c_b0 b0 A_b1 c_b1 b1 1 0 w8 R_b0.out.row R_b0.out.cap R_b1.out.row R_b1.out.cap F3.out).mono ?_
 rintro e w9 ⟨rfl, hb⟩
 clear c_a_0 c_a_1 c_b_0 c_b_1
 replace R_p0 := am_ (R_p0.out.step hb); replace R_p1 := am_ (R_p1.out.step hb); replace R_a0 := am_ (R_a0.out.step hb); replace R_a1 := am_ (R_a1.out.step hb); replace R_b0 := am_ (R_b0.out.step hb); replace R_b1 := am_ (R_b1.out.step hb); replace K_p := am_ (K_p.out.step hb); replace K_a := am_ (K_a.out.step hb); replace K_b := am_ (K_b.out.step hb); replace HB := am_ (zh HB.out hb)
 clear hb
 have c_b_0 := K_b.out.c0
 have c_b_1 := K_b.out.c1
 go_wp2_with (first
  | ((with_reducible refine zr (N := 27) rfl ?_); (try (refine z6 (by rfl) ?_; dsimp only)); refine Kd.R_lit (Kd.int .i64) _ 3 ?hg (N := 27) ?hd (xs := ([1, (-1)] : List Int)) (inner := [.int .i64 1, .int .i64 (-1)]) (ok := fun _ => True) (okp := fun _ => True) ?hr ?hp (fun _ hk => hk) trivial (Below.refl _ _) (Nat.le_refl _) (by simp) ?_; (case hd => rfl); (case hg => rfl); (case hr => first | (go_simp; done) | (go_simp; rfl)); (case hp => exact (zaJ.one (show Kd.M (Kd.int .i64) _ _ _ 1 [.int .i64 1] from rfl) (zaJ.one (show Kd.M (Kd.int .i64) _ _ _ (-1) [.int .i64 (-1)] from rfl) (zaJ.none _ _)))); intro v_ w10 ho_ hb_ hg_ hnew_; clear hg_ hnew_; rw [← E1.out] at ho_; obtain ⟨A_y1, c_y1, rfl, hr_⟩ := Rd.of_R ho_; replace R_p0 := am_ (R_p0.out.step hb_); replace R_p1 := am_ (R_p1.out.step hb_); replace R_a0 := am_ (R_a0.out.step hb_); replace R_a1 := am_ (R_a1.out.step hb_); replace R_b0 := am_ (R_b0.out.step hb_); replace R_b1 := am_ (R_b1.out.step hb_); replace K_p := am_ (K_p.out.step hb_); replace K_a := am_ (K_a.out.step hb_); replace K_b := am_ (K_b.out.step hb_); replace HB := am_ (zh HB.out hb_); have R_y1 := am_ hr_; clear ho_ hb_ hr_)
  | fail)
 refine (zF.calls 40 A_b0 c_b0 b0 A_b1 c_b1 b1 A_y1 c_y1 y1 1 l 0 w10 R_b0.out.row R_b0.out.cap R_b1.out.row R_b1.out.cap R_y1.out.row R_y1.out.cap F4.out).mono ?_
 rintro e w11 ⟨v0, rfl, h0, hb⟩
 clear c_b_0 c_b_1
 obtain ⟨A_l, c_l, rfl, r_l⟩ := Rd.of_R h0
 replace R_p0 := am_ (R_p0.out.step hb); replace R_p1 := am_ (R_p1.out.step hb); replace R_a0 := am_ (R_a0.out.step hb); replace R_a1 := am_ (R_a1.out.step hb); replace R_b0 := am_ (R_b0.out.step hb); replace R_b1 := am_ (R_b1.out.step hb); replace R_y1 := am_ (R_y1.out.step hb); replace K_p := am_ (K_p.out.step hb); replace K_a := am_ (K_a.out.step hb); replace K_b := am_ (K_b.out.step hb); replace HB := am_ (zh HB.out hb)
 have R_l := am_ r_l
 clear hb r_l h0
 go_wp2_with (first
  | ((with_reducible refine zr (N := 51) rfl ?_); (try (refine z6 (by rfl) ?_; dsimp only)); refine Kd.R_lit (Kd.int .i64) _ 3 ?hg (N := 51) ?hd (xs := ([2, 0] : List Int)) (inner := [.int .i64 2, .int .i64 0]) (ok := fun _ => True) (okp := fun _ => True) ?hr ?hp (fun _ hk => hk) trivial (Below.refl _ _) (Nat.le_refl _) (by simp) ?_; (case hd => rfl); (case hg => rfl); (case hr => first | (go_simp; done) | (go_simp; rfl)); (case hp => exact (zaJ.one (show Kd.M (Kd.int .i64) _ _ _ 2 [.int .i64 2] from rfl) (zaJ.one (show Kd.M (Kd.int .i64) _ _ _ 0 [.int .i64 0] from rfl) (zaJ.none _ _)))); intro v_ w12 ho_ hb_ hg_ hnew_; clear hg_ hnew_; rw [← E2.out] at ho_; obtain ⟨A_y2, c_y2, rfl, hr_⟩ := Rd.of_R ho_; replace R_p0 := am_ (R_p0.out.step hb_); replace R_p1 := am_ (R_p1.out.step hb_); replace R_a0 := am_ (R_a0.out.step hb_); replace R_a1 := am_ (R_a1.out.step hb_); replace R_b0 := am_ (R_b0.out.step hb_); replace R_b1 := am_ (R_b1.out.step hb_); replace R_y1 := am_ (R_y1.out.step hb_); replace R_l := am_ (R_l.out.step hb_); replace K_p := am_ (K_p.out.step hb_); replace K_a := am_ (K_a.out.step hb_); replace K_b := am_ (K_b.out.step hb_); replace HB := am_ (zh HB.out hb_); have R_y2 := am_ hr_; clear ho_ hb_ hr_)
  | fail)
 refine (zC.calls 40 A_l c_l l A_y2 c_y2 y2 true w12 R_l.out.row R_l.out.cap R_y2.out.row R_y2.out.cap F5.out).mono ?_
 rintro e w13 ⟨rfl, hd⟩
 have hb := drawn0_below hd
 clear hd
 replace R_p0 := am_ (R_p0.out.step hb); replace R_p1 := am_ (R_p1.out.step hb); replace R_a0 := am_ (R_a0.out.step hb); replace R_a1 := am_ (R_a1.out.step hb); replace R_b0 := am_ (R_b0.out.step hb); replace R_b1 := am_ (R_b1.out.step hb); replace R_y1 := am_ (R_y1.out.step hb); replace R_l := am_ (R_l.out.step hb); replace R_y2 := am_ (R_y2.out.step hb); replace K_p := am_ (K_p.out.step hb); replace K_a := am_ (K_a.out.step hb); replace K_b := am_ (K_b.out.step hb); replace HB := am_ (zh HB.out hb)
 clear hb
 have c_p_0 := K_p.out.c0
 have c_a_0 := K_a.out.c0
 have c_b_0 := K_b.out.c0
 have c_p_1 := K_p.out.c1
 have c_a_1 := K_a.out.c1
 have c_b_1 := K_b.out.c1
 go_wp2_with fail
 refine (zH.calls 40 A_p0 c_p0 p0 A_p1 c_p1 p1 2 0 w13 R_p0.out.row R_p0.out.cap R_p1.out.row R_p1.out.cap F6.out).mono ?_
 rintro e w14 ⟨rfl, hb⟩
 clear c_p_0 c_p_1 c_a_0 c_a_1 c_b_0 c_b_1
 replace R_p0 := am_ (R_p0.out.step hb); replace R_p1 := am_ (R_p1.out.step hb); replace R_a0 := am_ (R_a0.out.step hb); replace R_a1 := am_ (R_a1.out.step hb); replace R_b0 := am_ (R_b0.out.step hb); replace R_b1 := am_ (R_b1.out.step hb); replace R_y1 := am_ (R_y1.out.step hb); replace R_l := am_ (R_l.out.step hb); replace R_y2 := am_ (R_y2.out.step hb); replace K_p := am_ (K_p.out.step hb); replace K_a := am_ (K_a.out.step hb); replace K_b := am_ (K_b.out.step hb); replace HB := am_ (zh HB.out hb)
 clear hb
 have c_p_0 := K_p.out.c0
 have c_a_0 := K_a.out.c0
 have c_b_0 := K_b.out.c0
 have c_p_1 := K_p.out.c1
 have c_a_1 := K_a.out.c1
 have c_b_1 := K_b.out.c1
 go_wp2_with (first
  | ((with_reducible refine zr (N := 60) rfl ?_); (try (refine z6 (by rfl) ?_; dsimp only)); refine Kd.R_lit (Kd.int .i64) _ 3 ?hg (N := 60) ?hd (xs := ([0, (-1)] : List Int)) (inner := [.int .i64 0, .int .i64 (-1)]) (ok := fun _ => True) (okp := fun _ => True) ?hr ?hp (fun _ hk => hk) trivial (Below.refl _ _) (Nat.le_refl _) (by simp) ?_; (case hd => rfl); (case hg => rfl); (case hr => first | (go_simp; done) | (go_simp; rfl)); (case hp => exact (zaJ.one (show Kd.M (Kd.int .i64) _ _ _ 0 [.int .i64 0] from rfl) (zaJ.one (show Kd.M (Kd.int .i64) _ _ _ (-1) [.int .i64 (-1)] from rfl) (zaJ.none _ _)))); intro v_ w15 ho_ hb_ hg_ hnew_; clear hg_ hnew_; rw [← E3.out] at ho_; obtain ⟨A_y3, c_y3, rfl, hr_⟩ := Rd.of_R ho_; replace R_p0 := am_ (R_p0.out.step hb_); replace R_p1 := am_ (R_p1.out.step hb_); replace R_a0 := am_ (R_a0.out.step hb_); replace R_a1 := am_ (R_a1.out.step hb_); replace R_b0 := am_ (R_b0.out.step hb_); replace R_b1 := am_ (R_b1.out.step hb_); replace R_y1 := am_ (R_y1.out.step hb_); replace R_l := am_ (R_l.out.step hb_); replace R_y2 := am_ (R_y2.out.step hb_); replace K_p := am_ (K_p.out.step hb_); replace K_a := am_ (K_a.out.step hb_); replace K_b := am_ (K_b.out.step hb_); replace HB := am_ (zh HB.out hb_); have R_y3 := am_ hr_; clear ho_ hb_ hr_)
  | fail)
 refine (within_calls A_a0 c_a0 a0 A_a1 c_a1 a1 A_y3 c_y3 y3 0 w15 R_a0.out.row R_a0.out.cap R_a1.out.row R_a1.out.cap R_y3.out.row R_y3.out.cap HI3.out).mono ?_
 rw [F7.out]
 rintro e w16 ⟨rfl, hb⟩
 clear c_p_0 c_p_1 c_a_0 c_a_1 c_b_0 c_b_1
 replace R_p0 := am_ (R_p0.out.step hb); replace R_p1 := am_ (R_p1.out.step hb); replace R_a0 := am_ (R_a0.out.step hb); replace R_a1 := am_ (R_a1.out.step hb); replace R_b0 := am_ (R_b0.out.step hb); replace R_b1 := am_ (R_b1.out.step hb); replace R_y1 := am_ (R_y1.out.step hb); replace R_l := am_ (R_l.out.step hb); replace R_y2 := am_ (R_y2.out.step hb); replace R_y3 := am_ (R_y3.out.step hb); replace K_p := am_ (K_p.out.step hb); replace K_a := am_ (K_a.out.step hb); replace K_b := am_ (K_b.out.step hb); replace HB := am_ (zh HB.out hb)
 clear hb
 have c_p_0 := K_p.out.c0
 have c_a_0 := K_a.out.c0
 have c_b_0 := K_b.out.c0
 have c_p_1 := K_p.out.c1
 have c_a_1 := K_a.out.c1
 have c_b_1 := K_b.out.c1
 go_wp2_with (first
  | ((with_reducible refine zr (N := 65) rfl ?_); (try (refine z6 (by rfl) ?_; dsimp only)); refine Kd.R_lit (Kd.int .i64) _ 3 ?hg (N := 65) ?hd (xs := ([0, (-1)] : List Int)) (inner := [.int .i64 0, .int .i64 (-1)]) (ok := fun _ => True) (okp := fun _ => True) ?hr ?hp (fun _ hk => hk) trivial (Below.refl _ _) (Nat.le_refl _) (by simp) ?_; (case hd => rfl); (case hg => rfl); (case hr => first | (go_simp; done) | (go_simp; rfl)); (case hp => exact (zaJ.one (show Kd.M (Kd.int .i64) _ _ _ 0 [.int .i64 0] from rfl) (zaJ.one (show Kd.M (Kd.int .i64) _ _ _ (-1) [.int .i64 (-1)] from rfl) (zaJ.none _ _)))); intro v_ w17 ho_ hb_ hg_ hnew_; clear hg_ hnew_; rw [← E4.out] at ho_; obtain ⟨A_y4, c_y4, rfl, hr_⟩ := Rd.of_R ho_; replace R_p0 := am_ (R_p0.out.step hb_); replace R_p1 := am_ (R_p1.out.step hb_); replace R_a0 := am_ (R_a0.out.step hb_); replace R_a1 := am_ (R_a1.out.step hb_); replace R_b0 := am_ (R_b0.out.step hb_); replace R_b1 := am_ (R_b1.out.step hb_); replace R_y1 := am_ (R_y1.out.step hb_); replace R_l := am_ (R_l.out.step hb_); replace R_y2 := am_ (R_y2.out.step hb_); replace R_y3 := am_ (R_y3.out.step hb_); replace K_p := am_ (K_p.out.step hb_); replace K_a := am_ (K_a.out.step hb_); replace K_b := am_ (K_b.out.step hb_); replace HB := am_ (zh HB.out hb_); have R_y4 := am_ hr_; clear ho_ hb_ hr_)
  | fail)
 refine (within_calls A_b0 c_b0 b0 A_b1 c_b1 b1 A_y4 c_y4 y4 0 w17 R_b0.out.row R_b0.out.cap R_b1.out.row R_b1.out.cap R_y4.out.row R_y4.out.cap HI4.out).mono ?_
 rw [F8.out]
 rintro e w18 ⟨rfl, hb⟩
 clear c_p_0 c_p_1 c_a_0 c_a_1 c_b_0 c_b_1
 replace R_p0 := am_ (R_p0.out.step hb); replace R_p1 := am_ (R_p1.out.step hb); replace R_a0 := am_ (R_a0.out.step hb); replace R_a1 := am_ (R_a1.out.step hb); replace R_b0 := am_ (R_b0.out.step hb); replace R_b1 := am_ (R_b1.out.step hb); replace R_y1 := am_ (R_y1.out.step hb); replace R_l := am_ (R_l.out.step hb); replace R_y2 := am_ (R_y2.out.step hb); replace R_y3 := am_ (R_y3.out.step hb); replace R_y4 := am_ (R_y4.out.step hb); replace K_p := am_ (K_p.out.step hb); replace K_a := am_ (K_a.out.step hb); replace K_b := am_ (K_b.out.step hb); replace HB := am_ (zh HB.out hb)
 clear hb
 have c_p_0 := K_p.out.c0
 have c_a_0 := K_a.out.c0
 have c_b_0 := K_b.out.c0
 have c_p_1 := K_p.out.c1
 have c_a_1 := K_a.out.c1
 have c_b_1 := K_b.out.c1
 go_wp2_with (first
  | ((with_reducible refine zr (N := 72) rfl ?_); (try (refine z6 (by rfl) ?_; dsimp only)); refine Kd.R_lit (Kd.int .i64) _ 3 ?hg (N := 72) ?hd (xs := ([0, 1] : List Int)) (inner := [.int .i64 0, .int .i64 1]) (ok := fun _ => True) (okp := fun _ => True) ?hr ?hp (fun _ hk => hk) trivial (Below.refl _ _) (Nat.le_refl _) (by simp) ?_; (case hd => rfl); (case hg => rfl); (case hr => first | (go_simp; done) | (go_simp; rfl)); (case hp => exact (zaJ.one (show Kd.M (Kd.int .i64) _ _ _ 0 [.int .i64 0] from rfl) (zaJ.one (show Kd.M (Kd.int .i64) _ _ _ 1 [.int .i64 1] from rfl) (zaJ.none _ _)))); intro v_ w19 ho_ hb_ hg_ hnew_; clear hg_ hnew_; rw [← E5.out] at ho_; obtain ⟨A_y5, c_y5, rfl, hr_⟩ := Rd.of_R ho_; replace R_p0 := am_ (R_p0.out.step hb_); replace R_p1 := am_ (R_p1.out.step hb_); replace R_a0 := am_ (R_a0.out.step hb_); replace R_a1 := am_ (R_a1.out.step hb_); replace R_b0 := am_ (R_b0.out.step hb_); replace R_b1 := am_ (R_b1.out.step hb_); replace R_y1 := am_ (R_y1.out.step hb_); replace R_l := am_ (R_l.out.step hb_); replace R_y2 := am_ (R_y2.out.step hb_); replace R_y3 := am_ (R_y3.out.step hb_); replace R_y4 := am_ (R_y4.out.step hb_); replace K_p := am_ (K_p.out.step hb_); replace K_a := am_ (K_a.out.step hb_); replace K_b := am_ (K_b.out.step hb_); replace HB := am_ (zh HB.out hb_); have R_y5 := am_ hr_; clear ho_ hb_ hr_)
  | fail)
 refine (zC.calls 40 A_b1 c_b1 b1 A_y5 c_y5 y5 true w19 R_b1.out.row R_b1.out.cap R_y5.out.row R_y5.out.cap F9.out).mono ?_
 rintro e w20 ⟨rfl, hd⟩
 have hb := drawn0_below hd
 clear hd
 replace HB := am_ (zh HB.out hb)
 clear hb
 clear c_p_0 c_p_1 c_a_0 c_a_1 c_b_0 c_b_1
 go_wp2_with fail
 go_ret
 exact ⟨by first | done | rfl, HB.out⟩
end Go.Proofs.Ytlidbaejhmamjaa.LW

namespace Go.Proofs.Ytlidbaejhmamjaa.PB
open Go.RowKit Go.Proofs.YtlidbaejhmamjaaW.PrintWords Go.Proofs.YtlidbaejhmamjaaW.PrintLast Go.Proofs.YtlidbaejhmamjaaW.PrintMore
attribute [local go_sem] zao zar zaB zaC zaf zag zap zas   -- for this text's walks alone
set_option linter.unusedVariables false
set_option linter.unusedSimpArgs false
def zI.l0 : Nat → List Int → Int → Option (List Int)
 | 0, _, _ => none
 | k + 1, x0, x3 => if x3 > 0 then (if 0 ≤ (wrap64 (x3 - 1)) then (if (wrap64 (x3 - 1)) < (x0.length : Int) then (if (rd x0 (wrap64 (x3 - 1))) = 0 then (zI.l0 k x0 (wrap64 (x3 - 1))) else (if 0 ≤ x3 then (if x3 ≤ (x0.length : Int) then (some (x0.take (x3 : Int).toNat)) else (none)) else (none))) else (none)) else (none)) else (if 0 ≤ x3 then (if x3 ≤ (x0.length : Int) then (some (x0.take (x3 : Int).toNat)) else (none)) else (none))
def zI.f (k : Nat) (l0 : List Int) : Option (List Int) := zI.l0 k l0 (l0.length : Int)
set_option maxHeartbeats 8000000 in
set_option maxRecDepth 100000 in
theorem zI.calls (k : Nat) (P0_ : Nat → Prop) (u9000_ : Value) (l0 : List Int) (r : List Int) (w0 w : World) (hB : Below w0.heap.size w0 w) (ho0 : Kd.R (Kd.int .u32) 134 w w0.heap.size P0_ u9000_ l0) (h : zI.f k l0 = some r) :
  Calls Try.prog 69 #[u9000_] w fun e w' => ∃ v0_ : Value, e = .returned (v0_) ∧ Kd.R (Kd.int .u32) 134 w' w0.heap.size (fun k_ => (P0_ k_ ∨ w.heap.size ≤ k_)) v0_ r ∧ Below w0.heap.size w0 w' ∧ Kept w w' (fun k_ => P0_ k_) := by
 have HO0 := am_ (show Kd.R (Kd.int .u32) 134 w w0.heap.size (fun k_ => (P0_ k_ ∨ w.heap.size ≤ k_)) u9000_ l0 from Kd.zN ho0 (fun k_ hk => (.inl hk)))
 have HK := am_ (Kept.refl w (fun k_ => P0_ k_))
 have HW0 := am_ hB.size
 have HB := am_ hB
 clear hB
 have H : (zI.l0 k l0 (l0.length : Int)) = some r := h
 clear h
 have H' := am_ H
 clear H
 obtain ⟨Ao2, co2, eo2⟩ := Kd.zad HO0.out
 subst eo2
 go_enter Try.func69, Try.ntmps69
 go_wp2
 go_loopg [3] k (fun kq v3 w' => ∃ (x3_1 : Int), v3 = .int .i64 x3_1 ∧ Aside0 (zI.l0 kq l0 x3_1 = some r) ∧ Aside0 (kq ≤ k) ∧ Aside0 (Kd.R (Kd.int .u32) 134 w' w0.heap.size (fun k_ => (P0_ k_ ∨ w.heap.size ≤ k_)) (.slice Ao2 l0.length co2) l0) ∧ Aside0 (Kept w w' (fun k_ => P0_ k_)) ∧ Aside0 (Below w0.heap.size w0 w'))
 case atStart => exact ⟨((l0.length : Int)), (by first | rfl | (simp; done) | (simp [*]; done)), H', ⟨Nat.le_refl _⟩, ⟨by (with_reducible repeat (first | apply Kd.zw | apply Kd.zu | apply Kd.zA)); exact HO0.out⟩, ⟨by repeat (first | (with_reducible first | exact HK.out | apply Kept.alloc | apply Kept.drewN | apply Kept.drew) | exact HK.out)⟩, ⟨by repeat (first | (with_reducible first | exact HB.out | apply zc | apply za | apply zb) | exact HB.out)⟩⟩
 case round =>
  clear H'
  try clear p2
  obtain ⟨x3_1, rfl, HA, HK1, HO_0, HK, HB⟩ := hrel
  cases gk with
  | zero => exact absurd HA.out (by simp [zI.l0])
  | succ k1 =>
   have H := HA.out
   clear HA
   simp only [zI.l0] at H
   by_cases c3 : x3_1 > 0
   ·rw [if_pos c3] at H
    have c3b0 : decide (0 < x3_1) = true := decide_eq_true c3
    clear c3
    obtain ⟨ji4, hji4⟩ : ∃ j_ : Int, (wrap64 (x3_1 - 1)) = j_ := ⟨_, rfl⟩
    replace H : (if 0 ≤ (ji4) then (if (ji4) < (l0.length : Int) then (if (rd l0 (ji4)) = 0 then (zI.l0 k1 l0 ji4) else (if 0 ≤ x3_1 then (if x3_1 ≤ (l0.length : Int) then (some (l0.take (x3_1 : Int).toNat)) else (none)) else (none))) else (none)) else (none)) = some r := by first | (rw [hji4] at H; exact H) | (simp only [hji4] at H ⊢; exact H)
    have hji4w : (IntKind.i64.wrap (x3_1 - 1)) = ji4 := (zl _).trans hji4
    by_cases c5 : 0 ≤ (ji4)
    ·rw [if_pos c5] at H
     have c5b0 : decide (0 ≤ (ji4)) = true := decide_eq_true c5
     clear c5
     by_cases c6 : (ji4) < (l0.length : Int)
     ·rw [if_pos c6] at H
      have c6b0 : decide ((ji4) < (l0.length : Int)) = true := decide_eq_true c6
      clear c6
      by_cases c7 : (rd l0 (ji4)) = 0
      ·rw [if_pos c7] at H
       have c7b0 : ((rd l0 (ji4)) == 0) = true := beq_iff_eq.mpr c7
       have c7b1 : ((rd l0 (ji4)) != 0) = false := bne_eq_false_iff_eq.mpr c7
       clear c7
       have H' := am_ H
       clear H
       have p307 : 0 ≤ ((ji4) : Int) := of_decide_eq_true (by first | (with_reducible assumption) | assumption)
       have q307 : (ji4) < (l0.length : Int) := of_decide_eq_true (by first | (with_reducible assumption) | assumption)
       obtain ⟨ad307, e307, hx307_0⟩ := Kd.z3 (Kd.z9 HO_0.out).2.2 (ji4) p307 q307
       cases e307
       replace p307 := eq_true p307
       replace q307 := eq_true q307
       go_wp2
       go_roundg k1
       case measure => have := HK1.out; omega
       case rel => exact ⟨(ji4), (by first | rfl | (simp; done) | (simp only [← hji4] <;> (first | rfl | simp)) | (simp [*]; done)), H', ⟨by have := HK1.out; omega⟩, ⟨by (with_reducible repeat (first | apply Kd.zw | apply Kd.zu | apply Kd.zA)); exact HO_0.out⟩, ⟨by repeat (first | (with_reducible first | exact HK.out | apply Kept.alloc | apply Kept.drewN | apply Kept.drew) | exact HK.out)⟩, ⟨by repeat (first | (with_reducible first | exact HB.out | apply zc | apply za | apply zb) | exact HB.out)⟩⟩
      ·rw [if_neg c7] at H
       have c7b0 : ((rd l0 (ji4)) == 0) = false := beq_eq_false_iff_ne.mpr c7
       have c7b1 : ((rd l0 (ji4)) != 0) = true := bne_iff_ne.mpr c7
       by_cases c8 : 0 ≤ x3_1
       ·rw [if_pos c8] at H
        have c8b0 := eq_true c8
        have c8b1 : decide (0 ≤ x3_1) = true := decide_eq_true c8
        clear c8
        by_cases c9 : x3_1 ≤ (l0.length : Int)
        ·rw [if_pos c9] at H
         have c9b0 := eq_true c9
         have c9b1 : decide (x3_1 ≤ (l0.length : Int)) = true := decide_eq_true c9
         clear c9
         obtain ⟨y308, hy308⟩ : ∃ y_ : List Int, y_ = (l0.take (x3_1 : Int).toNat) := ⟨_, rfl⟩
         replace H : (some y308) = some r := by first | (rw [hy308]; with_reducible exact H) | (have H2_ := (Option.bind_some _ _).symm.trans H; rw [hy308]; with_reducible exact H2_) | (have H2_ := (Option.bind_some _ _).symm.trans H; with_reducible exact H2_) | with_reducible exact H | (rw [hy308]; exact H) | exact H
         have Ny308 := am_ hy308
         clear hy308
         obtain rfl := Option.some.inj H
         have p307 : 0 ≤ ((ji4) : Int) := of_decide_eq_true (by first | (with_reducible assumption) | assumption)
         have q307 : (ji4) < (l0.length : Int) := of_decide_eq_true (by first | (with_reducible assumption) | assumption)
         obtain ⟨ad307, e307, hx307_0⟩ := Kd.z3 (Kd.z9 HO_0.out).2.2 (ji4) p307 q307
         cases e307
         replace p307 := eq_true p307
         replace q307 := eq_true q307
         have q10 : (x3_1 : Int) ≤ ((l0.length : Int) : Int) := of_decide_eq_true (by first | (with_reducible assumption) | assumption)
         obtain ⟨i010, hi010, _, hsz10, _⟩ := info_parts info134
         have hcut10 := cut_to (P := Try.prog) 99 134 .i64 Try.underlying99 hi010 (some ad307) l0.length co2 x3_1 (of_decide_eq_true (by first | (with_reducible assumption) | assumption)) q10 (Kd.z9 HO_0.out).2.1
         have hr10 := Kd.R_take (m := (x3_1 : Int).toNat) HO_0.out (by omega)
         have hy10 : y308.length = (x3_1 : Int).toNat := (by rw [Ny308.out, List.length_take]; omega)
         rw [← Ny308.out] at hr10
         rw [← hy10] at hr10 hcut10
         clear hy10 hi010 hsz10 HO_0
         have HO310 := am_ hr10
         clear hr10
         replace q10 := eq_true q10
         go_wp2
         go_ret
         exact ⟨_, by first | rfl | (simp [zq, zp] <;> rfl) | (simp only [← hji4]; first | rfl | (simp [zq, zp] <;> rfl)) | (simp [*, zq, zp] <;> rfl), by (with_reducible repeat (first | apply Kd.zw | apply Kd.zu | apply Kd.zA)); exact HO310.out, by repeat (first | (with_reducible first | exact HB.out | apply zc | apply za | apply zb) | exact HB.out), by repeat (first | (with_reducible first | exact HK.out | apply Kept.alloc | apply Kept.drewN | apply Kept.drew) | exact HK.out)⟩
        ·rw [if_neg c9] at H
         exact absurd H (by simp)
       ·rw [if_neg c8] at H
        exact absurd H (by simp)
     ·rw [if_neg c6] at H
      exact absurd H (by simp)
    ·rw [if_neg c5] at H
     exact absurd H (by simp)
   ·rw [if_neg c3] at H
    have c3b0 : decide (0 < x3_1) = false := decide_eq_false c3
    clear c3
    by_cases c11 : 0 ≤ x3_1
    ·rw [if_pos c11] at H
     have c11b0 := eq_true c11
     have c11b1 : decide (0 ≤ x3_1) = true := decide_eq_true c11
     clear c11
     by_cases c12 : x3_1 ≤ (l0.length : Int)
     ·rw [if_pos c12] at H
      have c12b0 := eq_true c12
      have c12b1 : decide (x3_1 ≤ (l0.length : Int)) = true := decide_eq_true c12
      clear c12
      obtain ⟨y311, hy311⟩ : ∃ y_ : List Int, y_ = (l0.take (x3_1 : Int).toNat) := ⟨_, rfl⟩
      replace H : (some y311) = some r := by first | (rw [hy311]; with_reducible exact H) | (have H2_ := (Option.bind_some _ _).symm.trans H; rw [hy311]; with_reducible exact H2_) | (have H2_ := (Option.bind_some _ _).symm.trans H; with_reducible exact H2_) | with_reducible exact H | (rw [hy311]; exact H) | exact H
      have Ny311 := am_ hy311
      clear hy311
      obtain rfl := Option.some.inj H
      have q13 : (x3_1 : Int) ≤ ((l0.length : Int) : Int) := of_decide_eq_true (by first | (with_reducible assumption) | assumption)
      obtain ⟨i013, hi013, _, hsz13, _⟩ := info_parts info134
      have hcut13 := cut_to (P := Try.prog) 99 134 .i64 Try.underlying99 hi013 Ao2 l0.length co2 x3_1 (of_decide_eq_true (by first | (with_reducible assumption) | assumption)) q13 (Kd.z9 HO_0.out).2.1
      have hr13 := Kd.R_take (m := (x3_1 : Int).toNat) HO_0.out (by omega)
      have hy13 : y311.length = (x3_1 : Int).toNat := (by rw [Ny311.out, List.length_take]; omega)
      rw [← Ny311.out] at hr13
      rw [← hy13] at hr13 hcut13
      clear hy13 hi013 hsz13 HO_0
      have HO313 := am_ hr13
      clear hr13
      replace q13 := eq_true q13
      go_wp2
      go_ret
      exact ⟨_, by first | rfl | (simp [zq, zp] <;> rfl) | (simp [*, zq, zp] <;> rfl), by (with_reducible repeat (first | apply Kd.zw | apply Kd.zu | apply Kd.zA)); exact HO313.out, by repeat (first | (with_reducible first | exact HB.out | apply zc | apply za | apply zb) | exact HB.out), by repeat (first | (with_reducible first | exact HK.out | apply Kept.alloc | apply Kept.drewN | apply Kept.drew) | exact HK.out)⟩
     ·rw [if_neg c12] at H
      exact absurd H (by simp)
    ·rw [if_neg c11] at H
     exact absurd H (by simp)
end Go.Proofs.Ytlidbaejhmamjaa.PB

namespace Go.Proofs.Ytlidbaejhmamjaa.PB
open Go.RowKit Go.Proofs.YtlidbaejhmamjaaW.PrintWords Go.Proofs.YtlidbaejhmamjaaW.PrintLast Go.Proofs.YtlidbaejhmamjaaW.PrintMore
attribute [local go_sem] zao zar zaB zaC zaf zag zap zas   -- for this text's walks alone
set_option linter.unusedVariables false
set_option linter.unusedSimpArgs false
def zaj.f (k : Nat) (a0 : Int) : Option (Bool × List Int × Int) := if a0 < 0 then (if a0 = 0 then (some (false, ([] : List Int), 0)) else ((zI.f k (([(IntKind.u64.wrap (-(IntKind.u64.wrap (a0)))) % 4294967296, ((IntKind.u64.wrap (-(IntKind.u64.wrap (a0)))) / 4294967296) % 4294967296] : List Int))).bind fun t318 => (some (decide (a0 < 0), t318, 0)))) else (if a0 = 0 then (some (false, ([] : List Int), 0)) else ((zI.f k (([(IntKind.u64.wrap (a0)) % 4294967296, ((IntKind.u64.wrap (a0)) / 4294967296) % 4294967296] : List Int))).bind fun t324 => (some (decide (a0 < 0), t324, 0))))
set_option maxHeartbeats 8000000 in
set_option maxRecDepth 100000 in
theorem zaj.calls (k : Nat) (a0 : Int) (r1 : Bool) (r2 : List Int) (r3 : Int) (w : World) (h : zaj.f k a0 = some (r1, r2, r3)) :
  Calls Try.prog 47 #[.int .i64 a0] w fun e w' => ∃ v1_ : Value, e = .returned (.agg #[.bool r1, v1_, .int .i64 r3]) ∧ Kd.R (Kd.int .u32) 134 w' w.heap.size (fun _ => True) v1_ r2 ∧ Below w.heap.size w w' := by
 have hu101 := Try.underlying101
 have HB := am_ (Below.refl w.heap.size w)
 have H : (if a0 < 0 then (if a0 = 0 then (some (false, ([] : List Int), 0)) else ((zI.f k (([(IntKind.u64.wrap (-(IntKind.u64.wrap (a0)))) % 4294967296, ((IntKind.u64.wrap (-(IntKind.u64.wrap (a0)))) / 4294967296) % 4294967296] : List Int))).bind fun t318 => (some (decide (a0 < 0), t318, 0)))) else (if a0 = 0 then (some (false, ([] : List Int), 0)) else ((zI.f k (([(IntKind.u64.wrap (a0)) % 4294967296, ((IntKind.u64.wrap (a0)) / 4294967296) % 4294967296] : List Int))).bind fun t324 => (some (decide (a0 < 0), t324, 0))))) = some (r1, r2, r3) := h
 clear h
 by_cases c2 : a0 < 0
 ·rw [if_pos c2] at H
  have c2b0 : decide (a0 < 0) = true := decide_eq_true c2
  clear c2
  by_cases c3 : a0 = 0
  ·rw [if_pos c3] at H
   have c3b0 : (a0 == 0) = true := beq_iff_eq.mpr c3
   have c3b1 : (a0 != 0) = false := bne_eq_false_iff_eq.mpr c3
   clear c3
   simp only [Option.some.injEq, Prod.mk.injEq] at H; try rw [c2b0] at H
   obtain ⟨rfl, rfl, rfl⟩ := H
   go_enter Try.func47, Try.ntmps47
   go_wp2_with (first | ((with_reducible refine zr (N := 2) rfl ?_); refine zt ?hg (N := 2) ?hd (cs := #[.bool false, .slice none 0 0, .int .i64 0]) (t := 101) ?hr ?_; (case hd => rfl); (case hg => rfl); (case hr => first | (go_simp; done) | (go_simp; rfl)); intro gb314 hg w4 hbox hb; have n0_ := am_ (zh (by repeat (first | (with_reducible first | exact HB.out | apply zc | apply za | apply zb) | exact HB.out)) hb); have n1_ := am_ (hbox); have n2_ := am_ ((by rw [hg]; exact (zk (by repeat (first | (with_reducible first | exact HB.out | apply zc | apply za | apply zb) | exact HB.out))) : w.heap.size ≤ gb314)); have n3_ := am_ ((by rw [hg]; exact (zk (by repeat (first | (with_reducible first | exact HB.out | apply zc | apply za | apply zb) | exact HB.out))) : w.heap.size ≤ gb314)); clear HB; have HB := n0_; have BK314 := n1_; have GW314 := n2_; have GE314 := n3_; clear n0_ n1_ n2_ n3_; clear hb hbox hg; have hcz5_0 : w4.cell? ⟨gb314, 0, none⟩ = some (.bool false) := (zj BK314.out 0).trans rfl; have hcz5_1 : w4.cell? ⟨gb314, 1, none⟩ = some (.slice none 0 0) := (zj BK314.out 1).trans rfl; have hcz5_2 : w4.cell? ⟨gb314, 2, none⟩ = some (.int .i64 0) := (zj BK314.out 2).trans rfl; have hfz5_0 := zi BK314.out 0; have hfz5_1 := zi BK314.out 1; have hfz5_2 := zi BK314.out 2))
   refine bodyPost_ret (results_cell_row rfl _ _ gb314 101 #[.bool false, .slice none 0 0, .int .i64 0] (0, 0) _ rfl (by (with_reducible repeat (first | refine ze ?_ _ | refine zg ?_ | refine zd ?_ _)); refine zQ (cs := #[.bool false, .slice none 0 0, .int .i64 0]) ?_ 2 _ rfl; (with_reducible repeat (first | refine ze ?_ _ | refine zg ?_ | refine zd ?_ _)); refine zQ (cs := #[.bool false, .slice none 0 0, .int .i64 0]) ?_ 1 _ rfl; (with_reducible repeat (first | refine ze ?_ _ | refine zg ?_ | refine zd ?_ _)); refine zQ (cs := #[.bool false, .slice none 0 0, .int .i64 0]) ?_ 0 _ rfl; (with_reducible repeat (first | refine ze ?_ _ | refine zg ?_ | refine zd ?_ _)); exact BK314.out) Try.underlying101 rfl (by kernel_rfl)) rfl ?_
   exact ⟨_, by first | rfl | (simp [zq, zp] <;> rfl) | (simp [*, zq, zp] <;> rfl), by first | exact Kd.zaK _ _ _ _ _ | exact Kd.zaP _ _ _ _ _ | exact Kd.zaT _ _ _ _ _ | exact Kd.zaO _ _ _ _ _ | exact Kd.zaS _ _ _ _ _, by repeat (first | (with_reducible first | exact HB.out | apply zc | apply za | apply zb | refine zf ?_ GE314.out) | exact HB.out)⟩
  ·rw [if_neg c3] at H
   have c3b0 : (a0 == 0) = false := beq_eq_false_iff_ne.mpr c3
   have c3b1 : (a0 != 0) = true := bne_iff_ne.mpr c3
   obtain ⟨y315, hy315⟩ : ∃ y_ : List Int, y_ = (([(IntKind.u64.wrap (-(IntKind.u64.wrap (a0)))) % 4294967296, ((IntKind.u64.wrap (-(IntKind.u64.wrap (a0)))) / 4294967296) % 4294967296] : List Int)) := ⟨_, rfl⟩
   replace H : ((zI.f k y315).bind fun t318 => (some (decide (a0 < 0), t318, 0))) = some (r1, r2, r3) := by first | (rw [hy315]; with_reducible exact H) | (have H2_ := (Option.bind_some _ _).symm.trans H; rw [hy315]; with_reducible exact H2_) | (have H2_ := (Option.bind_some _ _).symm.trans H; with_reducible exact H2_) | with_reducible exact H | (rw [hy315]; exact H) | exact H
   have Ny315 := am_ hy315
   clear hy315
   replace H := Option.bind_eq_some_iff.mp H
   obtain ⟨t318, A60, H⟩ := H
   replace H : (some (decide (a0 < 0), t318, 0)) = some (r1, r2, r3) := H
   have A6 := am_ A60
   clear A60
   simp only [Option.some.injEq, Prod.mk.injEq] at H; try rw [c2b0] at H
   obtain ⟨rfl, rfl, rfl⟩ := H
   go_enter Try.func47, Try.ntmps47
   go_wp2_with (first | ((with_reducible refine zr (N := 2) rfl ?_); refine zt ?hg (N := 2) ?hd (cs := #[.bool false, .slice none 0 0, .int .i64 0]) (t := 101) ?hr ?_; (case hd => rfl); (case hg => rfl); (case hr => first | (go_simp; done) | (go_simp; rfl)); intro gb314 hg w7 hbox hb; have n0_ := am_ (zh (by repeat (first | (with_reducible first | exact HB.out | apply zc | apply za | apply zb) | exact HB.out)) hb); have n1_ := am_ (hbox); have n2_ := am_ ((by rw [hg]; exact (zk (by repeat (first | (with_reducible first | exact HB.out | apply zc | apply za | apply zb) | exact HB.out))) : w.heap.size ≤ gb314)); have n3_ := am_ ((by rw [hg]; exact (zk (by repeat (first | (with_reducible first | exact HB.out | apply zc | apply za | apply zb) | exact HB.out))) : w.heap.size ≤ gb314)); clear HB; have HB := n0_; have BK314 := n1_; have GW314 := n2_; have GE314 := n3_; clear n0_ n1_ n2_ n3_; clear hb hbox hg) | ((with_reducible refine zr (N := 20) rfl ?_); refine Kd.R_lit (Kd.int .u32) _ 134 ?hg (N := 20) ?hd (xs := ([(IntKind.u64.wrap (-(IntKind.u64.wrap (a0)))) % 4294967296, ((IntKind.u64.wrap (-(IntKind.u64.wrap (a0)))) / 4294967296) % 4294967296] : List Int)) (inner := [.int .u32 ((IntKind.u64.wrap (-(IntKind.u64.wrap (a0)))) % 4294967296), .int .u32 (((IntKind.u64.wrap (-(IntKind.u64.wrap (a0)))) / 4294967296) % 4294967296)]) (ok := fun _ => True) (okp := fun _ => True) ?hr ?hp (fun _ hk => hk) trivial (Below.refl _ _) (Nat.le_refl _) (by simp) ?_; (case hd => rfl); (case hg => rfl); (case hr => first | (go_simp; done) | (go_simp; rfl)); (case hp => exact (zaJ.one (show Kd.M (Kd.int .u32) _ _ _ ((IntKind.u64.wrap (-(IntKind.u64.wrap (a0)))) % 4294967296) [.int .u32 ((IntKind.u64.wrap (-(IntKind.u64.wrap (a0)))) % 4294967296)] from rfl) (zaJ.one (show Kd.M (Kd.int .u32) _ _ _ (((IntKind.u64.wrap (-(IntKind.u64.wrap (a0)))) / 4294967296) % 4294967296) [.int .u32 (((IntKind.u64.wrap (-(IntKind.u64.wrap (a0)))) / 4294967296) % 4294967296)] from rfl) (zaJ.none _ _)))); intro v316 w8 ho9 hb hg_ hnew_; clear hg_ hnew_; (first | rw [← Ny315.out] at ho9 | (simp only [Int.reduceToNat] at ho9; rw [← Ny315.out] at ho9)); have n0_ := am_ (Kd.zaw ho9 (zk (by repeat (first | (with_reducible first | exact HB.out | apply zc | apply za | apply zb | refine zf ?_ GE314.out) | exact HB.out)))); have n1_ := am_ (zo (g := gb314) (o := .cells #[.bool false, .slice none 0 0, .int .i64 0] 101 (0, 0)) (by (with_reducible repeat (first | refine ze ?_ _ | refine zg ?_ | refine zd ?_ _)); exact BK314.out) hb); have n2_ := am_ (zh (by repeat (first | (with_reducible first | exact HB.out | apply zc | apply za | apply zb | refine zf ?_ GE314.out) | exact HB.out)) hb); clear BK314; clear HB; have HO317 := n0_; have BK314 := n1_; have HB := n2_; clear n0_ n1_ n2_; clear hb ho9; obtain ⟨Ao10, co10, eo10⟩ := Kd.zad HO317.out; subst eo10) | ((with_reducible refine zV (f := 69) rfl ?_); refine zaF (some 21) rfl rfl Try.func69 (by kernel_rfl) rfl #[.slice Ao10 y315.length co10] rfl (by (try simp only [List.map_toArray, List.map_cons, List.map_nil]); first | done | rfl | (simp only [List.length_drop, List.length_take]; rfl)) ?_; (with_reducible refine (zI.calls k (fun k_ => some k_ = (.slice Ao10 y315.length co10 : Value).ownBlock) (.slice Ao10 y315.length co10) y315 t318 w _ ?side1 ?side2 A6.out).mono ?_); (case side1 => repeat (first | (with_reducible first | exact HB.out | apply zc | apply za | apply zb | refine zf ?_ GE314.out) | exact HB.out)); (case side2 => exact Kd.R_tight rfl HO317.out); rintro e w11 ⟨v319, rfl, ho0, hb, hkp⟩; refine ⟨_, rfl, ?_⟩; have n0_ := am_ (blk_kept (by (with_reducible repeat (first | refine ze ?_ _ | refine zg ?_ | refine zd ?_ _)); exact BK314.out) hkp (fun hs_ => (fun e_ => (Kd.R_ne HO317.out BK314.out (by decide)) e_) hs_)); have n1_ := am_ (Kd.zN (ok' := fun k_ => True) ho0 (fun k_ hk_ => trivial)); have n2_ := am_ (hb); clear BK314; clear HB; clear HO317; have BK314 := n0_; have HO320 := n1_; have HB := n2_; clear n0_ n1_ n2_; (try clear hb); (try clear hkp); (try clear ho0); obtain ⟨Ao12, co12, eo12⟩ := Kd.zad HO320.out; subst eo12; have hcz13_0 : w11.cell? ⟨gb314, 0, none⟩ = some (.bool false) := (zj BK314.out 0).trans rfl; have hcz13_1 : w11.cell? ⟨gb314, 1, none⟩ = some (.slice none 0 0) := (zj BK314.out 1).trans rfl; have hcz13_2 : w11.cell? ⟨gb314, 2, none⟩ = some (.int .i64 0) := (zj BK314.out 2).trans rfl; have hfz13_0 := zi BK314.out 0; have hfz13_1 := zi BK314.out 1; have hfz13_2 := zi BK314.out 2))
   refine bodyPost_ret (results_cell_row rfl _ _ gb314 101 #[.bool true, .slice Ao12 t318.length co12, .int .i64 0] (0, 0) _ rfl (by (with_reducible repeat (first | refine ze ?_ _ | refine zg ?_ | refine zd ?_ _)); refine zQ (cs := #[.bool true, .slice Ao12 t318.length co12, .int .i64 0]) ?_ 2 _ rfl; (with_reducible repeat (first | refine ze ?_ _ | refine zg ?_ | refine zd ?_ _)); refine zQ (cs := #[.bool true, .slice none 0 0, .int .i64 0]) ?_ 1 _ rfl; (with_reducible repeat (first | refine ze ?_ _ | refine zg ?_ | refine zd ?_ _)); refine zQ (cs := #[.bool false, .slice none 0 0, .int .i64 0]) ?_ 0 _ rfl; (with_reducible repeat (first | refine ze ?_ _ | refine zg ?_ | refine zd ?_ _)); exact BK314.out) Try.underlying101 rfl (by kernel_rfl)) rfl ?_
   exact ⟨_, by first | rfl | (simp [zq, zp] <;> rfl) | (simp [*, zq, zp] <;> rfl), by (with_reducible repeat (first | apply Kd.zw | apply Kd.zu | apply Kd.zA)); exact Kd.zN (Kd.zX (p := ⟨gb314, 2, none⟩) (Kd.zX (p := ⟨gb314, 1, none⟩) (Kd.zX (p := ⟨gb314, 0, none⟩) (Kd.z5 HO320.out BK314.out (by decide)) (fun _ hk => hk.2) (.bool true)) (fun _ hk => hk.2) (.slice Ao12 t318.length co12)) (fun _ hk => hk.2) (.int .i64 0)) (fun _ hk => trivial), by repeat (first | (with_reducible first | exact HB.out | apply zc | apply za | apply zb | refine zf ?_ GE314.out) | exact HB.out)⟩
 ·rw [if_neg c2] at H
  have c2b0 : decide (a0 < 0) = false := decide_eq_false c2
  clear c2
  by_cases c14 : a0 = 0
  ·rw [if_pos c14] at H
   have c14b0 : (a0 == 0) = true := beq_iff_eq.mpr c14
   have c14b1 : (a0 != 0) = false := bne_eq_false_iff_eq.mpr c14
   clear c14
   simp only [Option.some.injEq, Prod.mk.injEq] at H; try rw [c2b0] at H
   obtain ⟨rfl, rfl, rfl⟩ := H
   go_enter Try.func47, Try.ntmps47
   go_wp2_with (first | ((with_reducible refine zr (N := 2) rfl ?_); refine zt ?hg (N := 2) ?hd (cs := #[.bool false, .slice none 0 0, .int .i64 0]) (t := 101) ?hr ?_; (case hd => rfl); (case hg => rfl); (case hr => first | (go_simp; done) | (go_simp; rfl)); intro gb314 hg w15 hbox hb; have n0_ := am_ (zh (by repeat (first | (with_reducible first | exact HB.out | apply zc | apply za | apply zb) | exact HB.out)) hb); have n1_ := am_ (hbox); have n2_ := am_ ((by rw [hg]; exact (zk (by repeat (first | (with_reducible first | exact HB.out | apply zc | apply za | apply zb) | exact HB.out))) : w.heap.size ≤ gb314)); have n3_ := am_ ((by rw [hg]; exact (zk (by repeat (first | (with_reducible first | exact HB.out | apply zc | apply za | apply zb) | exact HB.out))) : w.heap.size ≤ gb314)); clear HB; have HB := n0_; have BK314 := n1_; have GW314 := n2_; have GE314 := n3_; clear n0_ n1_ n2_ n3_; clear hb hbox hg; have hcz16_0 : w15.cell? ⟨gb314, 0, none⟩ = some (.bool false) := (zj BK314.out 0).trans rfl; have hcz16_1 : w15.cell? ⟨gb314, 1, none⟩ = some (.slice none 0 0) := (zj BK314.out 1).trans rfl; have hcz16_2 : w15.cell? ⟨gb314, 2, none⟩ = some (.int .i64 0) := (zj BK314.out 2).trans rfl; have hfz16_0 := zi BK314.out 0; have hfz16_1 := zi BK314.out 1; have hfz16_2 := zi BK314.out 2))
   refine bodyPost_ret (results_cell_row rfl _ _ gb314 101 #[.bool false, .slice none 0 0, .int .i64 0] (0, 0) _ rfl (by (with_reducible repeat (first | refine ze ?_ _ | refine zg ?_ | refine zd ?_ _)); refine zQ (cs := #[.bool false, .slice none 0 0, .int .i64 0]) ?_ 2 _ rfl; (with_reducible repeat (first | refine ze ?_ _ | refine zg ?_ | refine zd ?_ _)); refine zQ (cs := #[.bool false, .slice none 0 0, .int .i64 0]) ?_ 1 _ rfl; (with_reducible repeat (first | refine ze ?_ _ | refine zg ?_ | refine zd ?_ _)); refine zQ (cs := #[.bool false, .slice none 0 0, .int .i64 0]) ?_ 0 _ rfl; (with_reducible repeat (first | refine ze ?_ _ | refine zg ?_ | refine zd ?_ _)); exact BK314.out) Try.underlying101 rfl (by kernel_rfl)) rfl ?_
   exact ⟨_, by first | rfl | (simp [zq, zp] <;> rfl) | (simp [*, zq, zp] <;> rfl), by first | exact Kd.zaK _ _ _ _ _ | exact Kd.zaP _ _ _ _ _ | exact Kd.zaT _ _ _ _ _ | exact Kd.zaO _ _ _ _ _ | exact Kd.zaS _ _ _ _ _, by repeat (first | (with_reducible first | exact HB.out | apply zc | apply za | apply zb | refine zf ?_ GE314.out) | exact HB.out)⟩
  ·rw [if_neg c14] at H
   have c14b0 : (a0 == 0) = false := beq_eq_false_iff_ne.mpr c14
   have c14b1 : (a0 != 0) = true := bne_iff_ne.mpr c14
   obtain ⟨y321, hy321⟩ : ∃ y_ : List Int, y_ = (([(IntKind.u64.wrap (a0)) % 4294967296, ((IntKind.u64.wrap (a0)) / 4294967296) % 4294967296] : List Int)) := ⟨_, rfl⟩
   replace H : ((zI.f k y321).bind fun t324 => (some (decide (a0 < 0), t324, 0))) = some (r1, r2, r3) := by first | (rw [hy321]; with_reducible exact H) | (have H2_ := (Option.bind_some _ _).symm.trans H; rw [hy321]; with_reducible exact H2_) | (have H2_ := (Option.bind_some _ _).symm.trans H; with_reducible exact H2_) | with_reducible exact H | (rw [hy321]; exact H) | exact H
   have Ny321 := am_ hy321
   clear hy321
   replace H := Option.bind_eq_some_iff.mp H
   obtain ⟨t324, A170, H⟩ := H
   replace H : (some (decide (a0 < 0), t324, 0)) = some (r1, r2, r3) := H
   have A17 := am_ A170
   clear A170
   simp only [Option.some.injEq, Prod.mk.injEq] at H; try rw [c2b0] at H
   obtain ⟨rfl, rfl, rfl⟩ := H
   go_enter Try.func47, Try.ntmps47
   go_wp2_with (first | ((with_reducible refine zr (N := 2) rfl ?_); refine zt ?hg (N := 2) ?hd (cs := #[.bool false, .slice none 0 0, .int .i64 0]) (t := 101) ?hr ?_; (case hd => rfl); (case hg => rfl); (case hr => first | (go_simp; done) | (go_simp; rfl)); intro gb314 hg w18 hbox hb; have n0_ := am_ (zh (by repeat (first | (with_reducible first | exact HB.out | apply zc | apply za | apply zb) | exact HB.out)) hb); have n1_ := am_ (hbox); have n2_ := am_ ((by rw [hg]; exact (zk (by repeat (first | (with_reducible first | exact HB.out | apply zc | apply za | apply zb) | exact HB.out))) : w.heap.size ≤ gb314)); have n3_ := am_ ((by rw [hg]; exact (zk (by repeat (first | (with_reducible first | exact HB.out | apply zc | apply za | apply zb) | exact HB.out))) : w.heap.size ≤ gb314)); clear HB; have HB := n0_; have BK314 := n1_; have GW314 := n2_; have GE314 := n3_; clear n0_ n1_ n2_ n3_; clear hb hbox hg) | ((with_reducible refine zr (N := 20) rfl ?_); refine Kd.R_lit (Kd.int .u32) _ 134 ?hg (N := 20) ?hd (xs := ([(IntKind.u64.wrap (a0)) % 4294967296, ((IntKind.u64.wrap (a0)) / 4294967296) % 4294967296] : List Int)) (inner := [.int .u32 ((IntKind.u64.wrap (a0)) % 4294967296), .int .u32 (((IntKind.u64.wrap (a0)) / 4294967296) % 4294967296)]) (ok := fun _ => True) (okp := fun _ => True) ?hr ?hp (fun _ hk => hk) trivial (Below.refl _ _) (Nat.le_refl _) (by simp) ?_; (case hd => rfl); (case hg => rfl); (case hr => first | (go_simp; done) | (go_simp; rfl)); (case hp => exact (zaJ.one (show Kd.M (Kd.int .u32) _ _ _ ((IntKind.u64.wrap (a0)) % 4294967296) [.int .u32 ((IntKind.u64.wrap (a0)) % 4294967296)] from rfl) (zaJ.one (show Kd.M (Kd.int .u32) _ _ _ (((IntKind.u64.wrap (a0)) / 4294967296) % 4294967296) [.int .u32 (((IntKind.u64.wrap (a0)) / 4294967296) % 4294967296)] from rfl) (zaJ.none _ _)))); intro v322 w19 ho20 hb hg_ hnew_; clear hg_ hnew_; (first | rw [← Ny321.out] at ho20 | (simp only [Int.reduceToNat] at ho20; rw [← Ny321.out] at ho20)); have n0_ := am_ (Kd.zaw ho20 (zk (by repeat (first | (with_reducible first | exact HB.out | apply zc | apply za | apply zb | refine zf ?_ GE314.out) | exact HB.out)))); have n1_ := am_ (zo (g := gb314) (o := .cells #[.bool false, .slice none 0 0, .int .i64 0] 101 (0, 0)) (by (with_reducible repeat (first | refine ze ?_ _ | refine zg ?_ | refine zd ?_ _)); exact BK314.out) hb); have n2_ := am_ (zh (by repeat (first | (with_reducible first | exact HB.out | apply zc | apply za | apply zb | refine zf ?_ GE314.out) | exact HB.out)) hb); clear BK314; clear HB; have HO323 := n0_; have BK314 := n1_; have HB := n2_; clear n0_ n1_ n2_; clear hb ho20; obtain ⟨Ao21, co21, eo21⟩ := Kd.zad HO323.out; subst eo21) | ((with_reducible refine zV (f := 69) rfl ?_); refine zaF (some 21) rfl rfl Try.func69 (by kernel_rfl) rfl #[.slice Ao21 y321.length co21] rfl (by (try simp only [List.map_toArray, List.map_cons, List.map_nil]); first | done | rfl | (simp only [List.length_drop, List.length_take]; rfl)) ?_; (with_reducible refine (zI.calls k (fun k_ => some k_ = (.slice Ao21 y321.length co21 : Value).ownBlock) (.slice Ao21 y321.length co21) y321 t324 w _ ?side1 ?side2 A17.out).mono ?_); (case side1 => repeat (first | (with_reducible first | exact HB.out | apply zc | apply za | apply zb | refine zf ?_ GE314.out) | exact HB.out)); (case side2 => exact Kd.R_tight rfl HO323.out); rintro e w22 ⟨v325, rfl, ho0, hb, hkp⟩; refine ⟨_, rfl, ?_⟩; have n0_ := am_ (blk_kept (by (with_reducible repeat (first | refine ze ?_ _ | refine zg ?_ | refine zd ?_ _)); exact BK314.out) hkp (fun hs_ => (fun e_ => (Kd.R_ne HO323.out BK314.out (by decide)) e_) hs_)); have n1_ := am_ (Kd.zN (ok' := fun k_ => True) ho0 (fun k_ hk_ => trivial)); have n2_ := am_ (hb); clear BK314; clear HB; clear HO323; have BK314 := n0_; have HO326 := n1_; have HB := n2_; clear n0_ n1_ n2_; (try clear hb); (try clear hkp); (try clear ho0); obtain ⟨Ao23, co23, eo23⟩ := Kd.zad HO326.out; subst eo23; have hcz24_0 : w22.cell? ⟨gb314, 0, none⟩ = some (.bool false) := (zj BK314.out 0).trans rfl; have hcz24_1 : w22.cell? ⟨gb314, 1, none⟩ = some (.slice none 0 0) := (zj BK314.out 1).trans rfl; have hcz24_2 : w22.cell? ⟨gb314, 2, none⟩ = some (.int .i64 0) := (zj BK314.out 2).trans rfl; have hfz24_0 := zi BK314.out 0; have hfz24_1 := zi BK314.out 1; have hfz24_2 := zi BK314.out 2))
   refine bodyPost_ret (results_cell_row rfl _ _ gb314 101 #[.bool false, .slice Ao23 t324.length co23, .int .i64 0] (0, 0) _ rfl (by (with_reducible repeat (first | refine ze ?_ _ | refine zg ?_ | refine zd ?_ _)); refine zQ (cs := #[.bool false, .slice Ao23 t324.length co23, .int .i64 0]) ?_ 2 _ rfl; (with_reducible repeat (first | refine ze ?_ _ | refine zg ?_ | refine zd ?_ _)); refine zQ (cs := #[.bool false, .slice none 0 0, .int .i64 0]) ?_ 1 _ rfl; (with_reducible repeat (first | refine ze ?_ _ | refine zg ?_ | refine zd ?_ _)); refine zQ (cs := #[.bool false, .slice none 0 0, .int .i64 0]) ?_ 0 _ rfl; (with_reducible repeat (first | refine ze ?_ _ | refine zg ?_ | refine zd ?_ _)); exact BK314.out) Try.underlying101 rfl (by kernel_rfl)) rfl ?_
   exact ⟨_, by first | rfl | (simp [zq, zp] <;> rfl) | (simp [*, zq, zp] <;> rfl), by (with_reducible repeat (first | apply Kd.zw | apply Kd.zu | apply Kd.zA)); exact Kd.zN (Kd.zX (p := ⟨gb314, 2, none⟩) (Kd.zX (p := ⟨gb314, 1, none⟩) (Kd.zX (p := ⟨gb314, 0, none⟩) (Kd.z5 HO326.out BK314.out (by decide)) (fun _ hk => hk.2) (.bool false)) (fun _ hk => hk.2) (.slice Ao23 t324.length co23)) (fun _ hk => hk.2) (.int .i64 0)) (fun _ hk => trivial), by repeat (first | (with_reducible first | exact HB.out | apply zc | apply za | apply zb | refine zf ?_ GE314.out) | exact HB.out)⟩
end Go.Proofs.Ytlidbaejhmamjaa.PB

namespace Go.Proofs.Ytlidbaejhmamjaa.PB
open Go.RowKit Go.Proofs.YtlidbaejhmamjaaW.PrintWords Go.Proofs.YtlidbaejhmamjaaW.PrintLast Go.Proofs.YtlidbaejhmamjaaW.PrintMore
attribute [local go_sem] zao zar zaB zaC zaf zag zap zas   -- for this text's walks alone
set_option linter.unusedVariables false
set_option linter.unusedSimpArgs false
mutual
def zM.j0 : Nat → List Int → List Int → Option (List Int)
 | 0, _, _ => none
 | k + 1, x0, x1 => if 0 ≤ (wrap64 ((x0.length : Int) + 1)) then (if (wrap64 ((x0.length : Int) + 1) : Int).toNat ≤ 70368744177664 then (zM.l0 k x0 x1 (List.replicate (wrap64 ((x0.length : Int) + 1) : Int).toNat 0) 0 0) else (none)) else (none)
def zM.l0 : Nat → List Int → List Int → List Int → Int → Int → Option (List Int)
 | 0, _, _, _, _, _ => none
 | k + 1, x0, x1, x5, x6, x7 => if x7 < (x0.length : Int) then (if 0 ≤ x7 then (if x7 < (x1.length : Int) then (if x7 < (x5.length : Int) then (zM.l0 k x0 x1 (x5.set (x7 : Int).toNat ((IntKind.u64.wrap ((IntKind.u64.wrap (x6 + (IntKind.u64.wrap (rd x0 x7)))) + (IntKind.u64.wrap (rd x1 x7)))) % 4294967296)) ((IntKind.u64.wrap ((IntKind.u64.wrap (x6 + (IntKind.u64.wrap (rd x0 x7)))) + (IntKind.u64.wrap (rd x1 x7)))) / 4294967296) (wrap64 (x7 + 1))) else (none)) else (if x7 < (x5.length : Int) then (zM.l0 k x0 x1 (x5.set (x7 : Int).toNat ((IntKind.u64.wrap (x6 + (IntKind.u64.wrap (rd x0 x7)))) % 4294967296)) ((IntKind.u64.wrap (x6 + (IntKind.u64.wrap (rd x0 x7)))) / 4294967296) (wrap64 (x7 + 1))) else (none))) else (none)) else (if 0 ≤ (x0.length : Int) then (if (x0.length : Int) < (x5.length : Int) then ((zI.f k (x5.set ((x0.length : Int) : Int).toNat ((x6) % 4294967296))).bind fun t355 => (some t355)) else (none)) else (none))
end
def zM.f (k : Nat) (l0 : List Int) (l1 : List Int) : Option (List Int) := if (l0.length : Int) < (l1.length : Int) then (zM.j0 k l1 l0) else (zM.j0 k l0 l1)
set_option maxHeartbeats 8000000 in
set_option maxRecDepth 100000 in
theorem zM.calls (k : Nat) (A0 : Option Addr) (c0 : Nat) (l0 : List Int) (A1 : Option Addr) (c1 : Nat) (l1 : List Int) (r : List Int) (w : World) (hr0 : Kd.C (Kd.int .u32) w A0 l0.length l0) (hc0 : l0.length ≤ c0) (hr1 : Kd.C (Kd.int .u32) w A1 l1.length l1) (hc1 : l1.length ≤ c1) (h : zM.f k l0 l1 = some r) :
  Calls Try.prog 97 #[.slice A0 l0.length c0, .slice A1 l1.length c1] w fun e w' => ∃ v0_ : Value, e = .returned (v0_) ∧ Kd.R (Kd.int .u32) 134 w' w.heap.size (fun _ => True) v0_ r ∧ Below w.heap.size w w' := by
 have HR0 := am_ hr0
 have HC0 := am_ hc0
 clear hr0 hc0
 have HR1 := am_ hr1
 have HC1 := am_ hc1
 clear hr1 hc1
 have HB := am_ (Below.refl w.heap.size w)
 have H : (if (l0.length : Int) < (l1.length : Int) then (zM.j0 k l1 l0) else (zM.j0 k l0 l1)) = some r := h
 clear h
 have HC3 := am_ H
 clear H
 go_enter Try.func97, Try.ntmps97
 go_upto_if 12 with (fail)
 go_cut [0, 1] (fun v0 v1 wc => ∃ (kq : Nat) (A0' : Option Addr) (c0' : Nat) (l0' : List Int) (A1' : Option Addr) (c1' : Nat) (l1' : List Int), v0 = .slice A0' l0'.length c0' ∧ v1 = .slice A1' l1'.length c1' ∧ Aside0 (Kd.C (Kd.int .u32) w A0' l0'.length l0') ∧ Aside0 (l0'.length ≤ c0') ∧ Aside0 (Kd.C (Kd.int .u32) w A1' l1'.length l1') ∧ Aside0 (l1'.length ≤ c1') ∧ Aside0 (zM.j0 kq l0' l1' = some r) ∧ Aside0 (kq ≤ k) ∧ Aside0 (Below w.heap.size w wc))
 case first =>
  have H := HC3.out
  clear HC3
  by_cases c4 : (l0.length : Int) < (l1.length : Int)
  ·rw [if_pos c4] at H
   have c4b0 : decide ((l0.length : Int) < (l1.length : Int)) = true := decide_eq_true c4
   have c4b1 : decide (l0.length < l1.length) = true := decide_eq_true (Int.ofNat_lt.mp c4)
   clear c4
   (first | rw [c4b1] | rw [c4b0] | (simp only [zl, zm]; rw [c4b0]) | skip)
   have H' := am_ H
   clear H
   go_wp2
   go_meet
   case rel => exact ⟨_, A1, c1, l1, A0, c0, l0, rfl, rfl, HR1, HC1, HR0, HC0, H', ⟨by first | omega | exact Nat.le_refl _⟩, ⟨by repeat (first | (with_reducible first | exact HB.out | apply zc | apply za | apply zb) | exact HB.out)⟩⟩
  ·rw [if_neg c4] at H
   have c4b0 : decide ((l0.length : Int) < (l1.length : Int)) = false := decide_eq_false c4
   have c4b1 : decide (l0.length < l1.length) = false := decide_eq_false (fun h => c4 (Int.ofNat_lt.mpr h))
   clear c4
   (first | rw [c4b1] | rw [c4b0] | (simp only [zl, zm]; rw [c4b0]) | skip)
   have H' := am_ H
   clear H
   go_wp2
   go_meet
   case rel => exact ⟨_, A0, c0, l0, A1, c1, l1, rfl, rfl, HR0, HC0, HR1, HC1, H', ⟨by first | omega | exact Nat.le_refl _⟩, ⟨by repeat (first | (with_reducible first | exact HB.out | apply zc | apply za | apply zb) | exact HB.out)⟩⟩
 case rest =>
  clear HC3
  try clear c1
  try clear p2
  try clear c4
  try clear c4b0
  try clear c4b1
  clear HR0 HC0 HR1 HC1; obtain ⟨kq, A0, c0, l0, A1, c1, l1, rfl, rfl, HR0, HC0, HR1, HC1, HA, HJ2, HB⟩ := hcut
  cases kq with
  | zero => exact absurd HA.out (by simp [zM.j0])
  | succ kj2 =>
   have H := HA.out
   clear HA
   simp only [zM.j0] at H
   obtain ⟨ji5, hji5⟩ : ∃ j_ : Int, (wrap64 ((l0.length : Int) + 1)) = j_ := ⟨_, rfl⟩
   replace H : (if 0 ≤ (ji5) then (if (ji5 : Int).toNat ≤ 70368744177664 then (zM.l0 kj2 l0 l1 (List.replicate (ji5 : Int).toNat 0) 0 0) else (none)) else (none)) = some r := by first | (rw [hji5] at H; exact H) | (simp only [hji5] at H ⊢; exact H)
   have hji5w : (IntKind.i64.wrap ((l0.length : Int) + 1)) = ji5 := (zl _).trans hji5
   by_cases c6 : 0 ≤ (ji5)
   ·rw [if_pos c6] at H
    have c6b0 := eq_true c6
    have c6b1 : decide (0 ≤ (ji5)) = true := decide_eq_true c6
    clear c6
    by_cases c7 : (ji5 : Int).toNat ≤ 70368744177664
    ·rw [if_pos c7] at H
     have c7b0 := eq_true c7
     have c7b1 : decide ((ji5 : Int).toNat ≤ 70368744177664) = true := decide_eq_true c7
     clear c7
     obtain ⟨y347, hy347⟩ : ∃ y_ : List Int, y_ = (List.replicate (ji5 : Int).toNat 0) := ⟨_, rfl⟩
     replace H : (zM.l0 kj2 l0 l1 y347 0 0) = some r := by first | (rw [hy347]; with_reducible exact H) | (have H2_ := (Option.bind_some _ _).symm.trans H; rw [hy347]; with_reducible exact H2_) | (have H2_ := (Option.bind_some _ _).symm.trans H; with_reducible exact H2_) | with_reducible exact H | (rw [hy347]; exact H) | exact H
     have Ny347 := am_ hy347
     clear hy347
     have H' := am_ H
     clear H
     go_wp2_with (first | ((with_reducible refine zr (N := 18) rfl ?_); refine Kd.R_make (Kd.int .u32) _ 134 rfl (N := 18) rfl 99 _ _ rfl ji5 rfl rfl Try.underlying99 (.int .u32 0) 4 info134 rfl (by decide) (by omega) 0 (ok := fun _ => True) (okp := fun _ => True) rfl (fun _ hk => hk) trivial (of_decide_eq_true (by first | (with_reducible assumption) | assumption)) (Nat.le_trans (Nat.mul_le_mul_right _ (of_decide_eq_true (by first | (with_reducible assumption) | assumption) : ji5.toNat ≤ 70368744177664)) (by omega)) (Below.refl _ _) (Nat.le_refl _) ?_; intro v348 w8 ho9 hb hg_ hnew_; clear hg_ hnew_; (first | rw [← Ny347.out] at ho9 | (simp only [Int.reduceToNat] at ho9; rw [← Ny347.out] at ho9)); have n0_ := am_ (Kd.zaw ho9 (zk (by repeat (first | (with_reducible first | exact HB.out | apply zc | apply za | apply zb) | exact HB.out)))); have n1_ := am_ (zh (by repeat (first | (with_reducible first | exact HB.out | apply zc | apply za | apply zb) | exact HB.out)) hb); clear HB; have HO349 := n0_; have HB := n1_; clear n0_ n1_; clear hb ho9))
     go_loopg [6, 7] kj2 (fun kq v6 v7 w' => ∃ (x5_2 : List Int) (x6_2 : Int) (x7_2 : Int), v6 = .int .u64 x6_2 ∧ v7 = .int .i64 x7_2 ∧ Aside0 (zM.l0 kq l0 l1 x5_2 x6_2 x7_2 = some r) ∧ Aside0 (kq ≤ kj2) ∧ Aside0 (Kd.R (Kd.int .u32) 134 w' w.heap.size (fun _ => True) v348 x5_2) ∧ Aside0 (Below w.heap.size w w'))
     case atStart => exact ⟨(y347), (0), (0), (by first | rfl | (simp; done) | (simp [*]; done)), (by first | rfl | (simp; done) | (simp [*]; done)), H', ⟨Nat.le_refl _⟩, ⟨by (with_reducible repeat (first | apply Kd.zw | apply Kd.zu | apply Kd.zA)); exact HO349.out⟩, ⟨by repeat (first | (with_reducible first | exact HB.out | apply zc | apply za | apply zb) | exact HB.out)⟩⟩
     case round =>
      clear H'
      try clear c1
      try clear p2
      try clear c4
      try clear c4b0
      try clear c4b1
      try clear c6
      try clear c6b0
      try clear c6b1
      try clear p6
      try clear c7
      try clear c7b0
      try clear c7b1
      try clear c9
      try clear p2
      obtain ⟨x5_2, x6_2, x7_2, rfl, rfl, HA, HK2, HO_5, HB⟩ := hrel
      cases gk with
      | zero => exact absurd HA.out (by simp [zM.l0])
      | succ k2 =>
       have H := HA.out
       clear HA
       simp only [zM.l0] at H
       by_cases c10 : x7_2 < (l0.length : Int)
       ·rw [if_pos c10] at H
        have c10b0 : decide (x7_2 < (l0.length : Int)) = true := decide_eq_true c10
        clear c10
        by_cases c11 : 0 ≤ x7_2
        ·rw [if_pos c11] at H
         have c11b0 : decide (0 ≤ x7_2) = true := decide_eq_true c11
         clear c11
         by_cases c12 : x7_2 < (l1.length : Int)
         ·rw [if_pos c12] at H
          have c12b0 : decide (x7_2 < (l1.length : Int)) = true := decide_eq_true c12
          clear c12
          by_cases c13 : x7_2 < (x5_2.length : Int)
          ·rw [if_pos c13] at H
           have c13b0 : decide (x7_2 < (x5_2.length : Int)) = true := decide_eq_true c13
           clear c13
           obtain ⟨y352, hy352⟩ : ∃ y_ : List Int, y_ = (x5_2.set (x7_2 : Int).toNat ((IntKind.u64.wrap ((IntKind.u64.wrap (x6_2 + (IntKind.u64.wrap (rd l0 x7_2)))) + (IntKind.u64.wrap (rd l1 x7_2)))) % 4294967296)) := ⟨_, rfl⟩
           replace H : (zM.l0 k2 l0 l1 y352 ((IntKind.u64.wrap ((IntKind.u64.wrap (x6_2 + (IntKind.u64.wrap (rd l0 x7_2)))) + (IntKind.u64.wrap (rd l1 x7_2)))) / 4294967296) (wrap64 (x7_2 + 1))) = some r := by first | (rw [hy352]; with_reducible exact H) | (have H2_ := (Option.bind_some _ _).symm.trans H; rw [hy352]; with_reducible exact H2_) | (have H2_ := (Option.bind_some _ _).symm.trans H; with_reducible exact H2_) | with_reducible exact H | (rw [hy352]; exact H) | exact H
           have Ny352 := am_ hy352
           clear hy352
           have H' := am_ H
           clear H
           have p350 : 0 ≤ (x7_2 : Int) := of_decide_eq_true (by first | (with_reducible assumption) | assumption)
           have q350 : x7_2 < (l0.length : Int) := of_decide_eq_true (by first | (with_reducible assumption) | assumption)
           obtain ⟨ad350, e350, hx350_0⟩ := Kd.z3 HR0.out x7_2 p350 q350
           cases e350
           replace hx350_0 := (HB.out.cell (World.block_lt_of_cell? w _ hx350_0)).trans hx350_0
           replace p350 := eq_true p350
           replace q350 := eq_true q350
           have p351 : 0 ≤ (x7_2 : Int) := of_decide_eq_true (by first | (with_reducible assumption) | assumption)
           have q351 : x7_2 < (l1.length : Int) := of_decide_eq_true (by first | (with_reducible assumption) | assumption)
           obtain ⟨ad351, e351, hx351_0⟩ := Kd.z3 HR1.out x7_2 p351 q351
           cases e351
           replace hx351_0 := (HB.out.cell (World.block_lt_of_cell? w _ hx351_0)).trans hx351_0
           replace p351 := eq_true p351
           replace q351 := eq_true q351
           have p14 : 0 ≤ (x7_2 : Int) := of_decide_eq_true (by first | (with_reducible assumption) | assumption)
           have q14 : (x7_2 : Int) < ((x5_2.length : Int) : Int) := of_decide_eq_true (by first | (with_reducible assumption) | assumption)
           obtain ⟨go14, co14, eo14, gb14, gl14, cl14, HG14⟩ := Kd.R_form HO_5.out (by omega)
           (first | cases eo14 | (injection eo14 with ea_ en_ ec_; (first | subst ea_ | (injection ea_ with ea_; subst ea_)); subst ec_; clear en_))
           have GB14 := am_ gb14
           have GG14 := am_ HG14
           clear gb14 gl14 HG14
           obtain ⟨hx14_0, hf14_0⟩ := Kd.zaQ 0 HO_5.out (x7_2 : Int) p14 q14
           replace p14 := eq_true p14
           replace q14 := eq_true q14
           have HP15 := Kd.R_putg HO_5.out (x7_2 : Int) ((IntKind.u64.wrap ((IntKind.u64.wrap (x6_2 + (IntKind.u64.wrap (rd l0 x7_2)))) + (IntKind.u64.wrap (rd l1 x7_2)))) % 4294967296)
           go_wp2_with (first | ((with_reducible refine zJ (t := 134) (p := 47) rfl ?_); refine zat (t := 134) (p := 47) (v := ?vo_w16) (w1 := (wr.setCell ⟨go14, (x7_2 : Int).toNat, none⟩ (.int .u32 ((IntKind.u64.wrap ((IntKind.u64.wrap (x6_2 + (IntKind.u64.wrap (rd l0 x7_2)))) + (IntKind.u64.wrap (rd l1 x7_2)))) % 4294967296)))) ?hg ?ho ?hn ?hr ?_; (case ho => rfl); (case hg => rfl); (case hn => rfl); (case hr => first | (go_simp; done) | (go_simp; rfl)); intro w16 hw; have hg : wr.grownBy w16 (some go14) := (by rw [hw]; exact HP15.2); have hp_ : Kd.R (Kd.int .u32) 134 w16 w.heap.size (fun _ => True) (.slice (some ⟨go14, 0, none⟩) x5_2.length co14) y352 := (by rw [hw, Ny352.out]; exact HP15.1); clear HP15; have n0_ := am_ (hp_); have n1_ := am_ ((by rw [hw]; exact zf (HB.out) GB14.out : Below w.heap.size w w16)); clear HO_5; clear HB; have HO_5 := n0_; have HB := n1_; clear n0_ n1_; clear hg hw hp_))
           go_roundg k2
           case measure => have := HJ2.out; have := HK2.out; omega
           case rel => exact ⟨(y352), ((IntKind.u64.wrap ((IntKind.u64.wrap (x6_2 + (IntKind.u64.wrap (rd l0 x7_2)))) + (IntKind.u64.wrap (rd l1 x7_2)))) / 4294967296), (wrap64 (x7_2 + 1)), (by first | rfl | (simp; done) | (simp [*]; done)), (by first | rfl | (simp; done) | (simp [*]; done)), H', ⟨by have := HJ2.out; have := HK2.out; omega⟩, ⟨by (with_reducible repeat (first | apply Kd.zw | apply Kd.zu | apply Kd.zA)); exact HO_5.out⟩, ⟨by repeat (first | (with_reducible first | exact HB.out | apply zc | apply za | apply zb) | exact HB.out)⟩⟩
          ·rw [if_neg c13] at H
           exact absurd H (by simp)
         ·rw [if_neg c12] at H
          have c12b0 : decide (x7_2 < (l1.length : Int)) = false := decide_eq_false c12
          clear c12
          by_cases c17 : x7_2 < (x5_2.length : Int)
          ·rw [if_pos c17] at H
           have c17b0 : decide (x7_2 < (x5_2.length : Int)) = true := decide_eq_true c17
           clear c17
           obtain ⟨y353, hy353⟩ : ∃ y_ : List Int, y_ = (x5_2.set (x7_2 : Int).toNat ((IntKind.u64.wrap (x6_2 + (IntKind.u64.wrap (rd l0 x7_2)))) % 4294967296)) := ⟨_, rfl⟩
           replace H : (zM.l0 k2 l0 l1 y353 ((IntKind.u64.wrap (x6_2 + (IntKind.u64.wrap (rd l0 x7_2)))) / 4294967296) (wrap64 (x7_2 + 1))) = some r := by first | (rw [hy353]; with_reducible exact H) | (have H2_ := (Option.bind_some _ _).symm.trans H; rw [hy353]; with_reducible exact H2_) | (have H2_ := (Option.bind_some _ _).symm.trans H; with_reducible exact H2_) | with_reducible exact H | (rw [hy353]; exact H) | exact H
           have Ny353 := am_ hy353
           clear hy353
           have H' := am_ H
           clear H
           have p350 : 0 ≤ (x7_2 : Int) := of_decide_eq_true (by first | (with_reducible assumption) | assumption)
           have q350 : x7_2 < (l0.length : Int) := of_decide_eq_true (by first | (with_reducible assumption) | assumption)
           obtain ⟨ad350, e350, hx350_0⟩ := Kd.z3 HR0.out x7_2 p350 q350
           cases e350
           replace hx350_0 := (HB.out.cell (World.block_lt_of_cell? w _ hx350_0)).trans hx350_0
           replace p350 := eq_true p350
           replace q350 := eq_true q350
           have p18 : 0 ≤ (x7_2 : Int) := of_decide_eq_true (by first | (with_reducible assumption) | assumption)
           have q18 : (x7_2 : Int) < ((x5_2.length : Int) : Int) := of_decide_eq_true (by first | (with_reducible assumption) | assumption)
           obtain ⟨go18, co18, eo18, gb18, gl18, cl18, HG18⟩ := Kd.R_form HO_5.out (by omega)
           (first | cases eo18 | (injection eo18 with ea_ en_ ec_; (first | subst ea_ | (injection ea_ with ea_; subst ea_)); subst ec_; clear en_))
           have GB18 := am_ gb18
           have GG18 := am_ HG18
           clear gb18 gl18 HG18
           obtain ⟨hx18_0, hf18_0⟩ := Kd.zaQ 0 HO_5.out (x7_2 : Int) p18 q18
           replace p18 := eq_true p18
           replace q18 := eq_true q18
           have HP19 := Kd.R_putg HO_5.out (x7_2 : Int) ((IntKind.u64.wrap (x6_2 + (IntKind.u64.wrap (rd l0 x7_2)))) % 4294967296)
           go_wp2_with (first | ((with_reducible refine zJ (t := 134) (p := 47) rfl ?_); refine zat (t := 134) (p := 47) (v := ?vo_w20) (w1 := (wr.setCell ⟨go18, (x7_2 : Int).toNat, none⟩ (.int .u32 ((IntKind.u64.wrap (x6_2 + (IntKind.u64.wrap (rd l0 x7_2)))) % 4294967296)))) ?hg ?ho ?hn ?hr ?_; (case ho => rfl); (case hg => rfl); (case hn => rfl); (case hr => first | (go_simp; done) | (go_simp; rfl)); intro w20 hw; have hg : wr.grownBy w20 (some go18) := (by rw [hw]; exact HP19.2); have hp_ : Kd.R (Kd.int .u32) 134 w20 w.heap.size (fun _ => True) (.slice (some ⟨go18, 0, none⟩) x5_2.length co18) y353 := (by rw [hw, Ny353.out]; exact HP19.1); clear HP19; have n0_ := am_ (hp_); have n1_ := am_ ((by rw [hw]; exact zf (HB.out) GB18.out : Below w.heap.size w w20)); clear HO_5; clear HB; have HO_5 := n0_; have HB := n1_; clear n0_ n1_; clear hg hw hp_))
           go_roundg k2
           case measure => have := HJ2.out; have := HK2.out; omega
           case rel => exact ⟨(y353), ((IntKind.u64.wrap (x6_2 + (IntKind.u64.wrap (rd l0 x7_2)))) / 4294967296), (wrap64 (x7_2 + 1)), (by first | rfl | (simp; done) | (simp [*]; done)), (by first | rfl | (simp; done) | (simp [*]; done)), H', ⟨by have := HJ2.out; have := HK2.out; omega⟩, ⟨by (with_reducible repeat (first | apply Kd.zw | apply Kd.zu | apply Kd.zA)); exact HO_5.out⟩, ⟨by repeat (first | (with_reducible first | exact HB.out | apply zc | apply za | apply zb) | exact HB.out)⟩⟩
          ·rw [if_neg c17] at H
           exact absurd H (by simp)
        ·rw [if_neg c11] at H
         exact absurd H (by simp)
       ·rw [if_neg c10] at H
        have c10b0 : decide (x7_2 < (l0.length : Int)) = false := decide_eq_false c10
        clear c10
        by_cases c21 : 0 ≤ (l0.length : Int)
        ·rw [if_pos c21] at H
         have c21b0 : decide (0 ≤ (l0.length : Int)) = true := decide_eq_true c21
         have c21b1 : decide (0 ≤ l0.length) = true := decide_eq_true (by omega)
         clear c21
         by_cases c22 : (l0.length : Int) < (x5_2.length : Int)
         ·rw [if_pos c22] at H
          have c22b0 : decide ((l0.length : Int) < (x5_2.length : Int)) = true := decide_eq_true c22
          have c22b1 : decide (l0.length < x5_2.length) = true := decide_eq_true (Int.ofNat_lt.mp c22)
          clear c22
          obtain ⟨y354, hy354⟩ : ∃ y_ : List Int, y_ = (x5_2.set ((l0.length : Int) : Int).toNat ((x6_2) % 4294967296)) := ⟨_, rfl⟩
          replace H : ((zI.f k2 y354).bind fun t355 => (some t355)) = some r := by first | (rw [hy354]; with_reducible exact H) | (have H2_ := (Option.bind_some _ _).symm.trans H; rw [hy354]; with_reducible exact H2_) | (have H2_ := (Option.bind_some _ _).symm.trans H; with_reducible exact H2_) | with_reducible exact H | (rw [hy354]; exact H) | exact H
          have Ny354 := am_ hy354
          clear hy354
          replace H := Option.bind_eq_some_iff.mp H
          obtain ⟨t355, A240, H⟩ := H
          replace H : (some t355) = some r := H
          have A24 := am_ A240
          clear A240
          obtain rfl := Option.some.inj H
          have p23 : 0 ≤ ((l0.length : Int) : Int) := of_decide_eq_true (by first | (with_reducible assumption) | assumption)
          have q23 : ((l0.length : Int) : Int) < ((x5_2.length : Int) : Int) := of_decide_eq_true (by first | (with_reducible assumption) | assumption)
          obtain ⟨go23, co23, eo23, gb23, gl23, cl23, HG23⟩ := Kd.R_form HO_5.out (by omega)
          (first | cases eo23 | (injection eo23 with ea_ en_ ec_; (first | subst ea_ | (injection ea_ with ea_; subst ea_)); subst ec_; clear en_))
          have GB23 := am_ gb23
          have GG23 := am_ HG23
          clear gb23 gl23 HG23
          obtain ⟨hx23_0, hf23_0⟩ := Kd.zaQ 0 HO_5.out ((l0.length : Int) : Int) p23 q23
          have hx23_n := hx23_0
          have hf23_n := hf23_0
          rw [Int.toNat_natCast] at hx23_n hf23_n
          replace p23 := eq_true p23
          replace q23 := eq_true q23
          have HP25 := Kd.R_putg HO_5.out ((l0.length : Int) : Int) ((x6_2) % 4294967296)
          go_wp2_with (first | ((with_reducible refine zJ (t := 134) (p := 55) rfl ?_); refine zat (t := 134) (p := 55) (v := ?vo_w26) (w1 := (wr.setCell ⟨go23, ((l0.length : Int) : Int).toNat, none⟩ (.int .u32 ((x6_2) % 4294967296)))) ?hg ?ho ?hn ?hr ?_; (case ho => rfl); (case hg => rfl); (case hn => rfl); (case hr => first | (go_simp; done) | (go_simp; rfl)); intro w26 hw; have hg : wr.grownBy w26 (some go23) := (by rw [hw]; exact HP25.2); have hp_ : Kd.R (Kd.int .u32) 134 w26 w.heap.size (fun _ => True) (.slice (some ⟨go23, 0, none⟩) x5_2.length co23) y354 := (by rw [hw, Ny354.out]; exact HP25.1); clear HP25; have n0_ := am_ (hp_); have n1_ := am_ ((by rw [hw]; exact zf (HB.out) GB23.out : Below w.heap.size w w26)); clear HO_5; clear HB; have HO_5 := n0_; have HB := n1_; clear n0_ n1_; clear hg hw hp_) | ((with_reducible refine zV (f := 69) rfl ?_); refine zaF (some 57) rfl rfl Try.func69 (by kernel_rfl) rfl #[.slice (some ⟨go23, 0, none⟩) x5_2.length co23] rfl (by (try simp only [List.map_toArray, List.map_cons, List.map_nil]); first | done | rfl | (simp only [List.length_drop, List.length_take]; rfl)) ?_; (with_reducible refine (zI.calls k2 (fun k_ => some k_ = (.slice (some ⟨go23, 0, none⟩) x5_2.length co23 : Value).ownBlock) (.slice (some ⟨go23, 0, none⟩) x5_2.length co23) y354 t355 w _ ?side1 ?side2 A24.out).mono ?_); (case side1 => repeat (first | (with_reducible first | exact HB.out | apply zc | apply za | apply zb) | exact HB.out)); (case side2 => exact Kd.R_tight rfl HO_5.out); rintro e w27 ⟨v356, rfl, ho0, hb, hkp⟩; refine ⟨_, rfl, ?_⟩; have n0_ := am_ (Kd.zN (ok' := fun k_ => True) ho0 (fun k_ hk_ => trivial)); have n1_ := am_ (hb); clear HB; clear HO_5; have HO357 := n0_; have HB := n1_; clear n0_ n1_; (try clear hb); (try clear hkp); (try clear ho0)))
          go_ret
          exact ⟨_, by first | rfl | (simp [zq, zp] <;> rfl) | (simp only [← hji5]; first | rfl | (simp [zq, zp] <;> rfl)) | (simp [*, zq, zp] <;> rfl), by (with_reducible repeat (first | apply Kd.zw | apply Kd.zu | apply Kd.zA)); exact HO357.out, by repeat (first | (with_reducible first | exact HB.out | apply zc | apply za | apply zb) | exact HB.out)⟩
         ·rw [if_neg c22] at H
          exact absurd H (by simp)
        ·rw [if_neg c21] at H
         exact absurd H (by simp)
    ·rw [if_neg c7] at H
     exact absurd H (by simp)
   ·rw [if_neg c6] at H
    exact absurd H (by simp)
end Go.Proofs.Ytlidbaejhmamjaa.PB

namespace Go.Proofs.Ytlidbaejhmamjaa.PB
open Go.RowKit Go.Proofs.YtlidbaejhmamjaaW.PrintWords Go.Proofs.YtlidbaejhmamjaaW.PrintLast Go.Proofs.YtlidbaejhmamjaaW.PrintMore
attribute [local go_sem] zao zar zaB zaC zaf zag zap zas   -- for this text's walks alone
set_option linter.unusedVariables false
set_option linter.unusedSimpArgs false
def z7.l0 : Nat → List Int → List Int → Int → Option (Int)
 | 0, _, _, _ => none
 | k + 1, x0, x1, x5 => if x5 ≥ 0 then (if 0 ≤ x5 then (if x5 < (x0.length : Int) then (if x5 < (x1.length : Int) then (if (rd x0 x5) < (rd x1 x5) then (some (-1)) else (if (rd x0 x5) > (rd x1 x5) then (some 1) else (z7.l0 k x0 x1 (wrap64 (x5 - 1))))) else (none)) else (none)) else (none)) else (some 0)
def z7.f (k : Nat) (l0 : List Int) (l1 : List Int) : Option (Int) := if (l0.length : Int) = (l1.length : Int) then (z7.l0 k l0 l1 (wrap64 ((l0.length : Int) - 1))) else (if (l0.length : Int) < (l1.length : Int) then (some (-1)) else (some 1))
set_option maxHeartbeats 8000000 in
set_option maxRecDepth 100000 in
theorem z7.calls (k : Nat) (A0 : Option Addr) (c0 : Nat) (l0 : List Int) (A1 : Option Addr) (c1 : Nat) (l1 : List Int) (r : Int) (w : World) (hr0 : Kd.C (Kd.int .u32) w A0 l0.length l0) (hc0 : l0.length ≤ c0) (hr1 : Kd.C (Kd.int .u32) w A1 l1.length l1) (hc1 : l1.length ≤ c1) (h : z7.f k l0 l1 = some r) :
  Calls Try.prog 98 #[.slice A0 l0.length c0, .slice A1 l1.length c1] w fun e w' => e = .returned (.int .i64 r) ∧ zay w w' := by
 have HR0 := am_ hr0
 have HC0 := am_ hc0
 clear hr0 hc0
 have HR1 := am_ hr1
 have HC1 := am_ hc1
 clear hr1 hc1
 have H : (if (l0.length : Int) = (l1.length : Int) then (z7.l0 k l0 l1 (wrap64 ((l0.length : Int) - 1))) else (if (l0.length : Int) < (l1.length : Int) then (some (-1)) else (some 1))) = some r := h
 clear h
 by_cases c3 : (l0.length : Int) = (l1.length : Int)
 ·rw [if_pos c3] at H
  have c3b0 : ((l0.length : Int) == (l1.length : Int)) = true := beq_iff_eq.mpr c3
  have c3b1 : ((l0.length : Int) != (l1.length : Int)) = false := bne_eq_false_iff_eq.mpr c3
  have c3b2 : (l0.length == l1.length) = true := by first | simpa using c3 | (simp at c3 ⊢; omega)
  clear c3
  have H' := am_ H
  clear H
  go_enter Try.func98, Try.ntmps98
  go_wp2
  repeat (go_quiet (fail); try go_wp2)
  go_loopg [5] k (fun kq v5 w' => ∃ (x5_1 : Int), v5 = .int .i64 x5_1 ∧ Aside0 (z7.l0 kq l0 l1 x5_1 = some r) ∧ Aside0 (kq ≤ k) ∧ zay w w')
  case atStart => exact ⟨(wrap64 ((l0.length : Int) - 1)), (by first | rfl | (simp; done) | (simp [*]; done)), H', ⟨Nat.le_refl _⟩, by repeat (first | exact zay.refl _ | apply zay.step)⟩
  case round =>
   clear H'
   try clear c1
   try clear p2
   try clear c3
   try clear c3b0
   try clear c3b1
   try clear c3b2
   obtain ⟨x5_1, rfl, HA, HK1, ⟨m1, rfl⟩⟩ := hrel
   cases gk with
   | zero => exact absurd HA.out (by simp [z7.l0])
   | succ k1 =>
    have H := HA.out
    clear HA
    simp only [z7.l0] at H
    by_cases c4 : x5_1 ≥ 0
    ·rw [if_pos c4] at H
     have c4b0 : decide (0 ≤ x5_1) = true := decide_eq_true c4
     clear c4
     by_cases c5 : 0 ≤ x5_1
     ·rw [if_pos c5] at H
      have c5b0 : decide (0 ≤ x5_1) = true := decide_eq_true c5
      clear c5
      by_cases c6 : x5_1 < (l0.length : Int)
      ·rw [if_pos c6] at H
       have c6b0 : decide (x5_1 < (l0.length : Int)) = true := decide_eq_true c6
       clear c6
       by_cases c7 : x5_1 < (l1.length : Int)
       ·rw [if_pos c7] at H
        have c7b0 : decide (x5_1 < (l1.length : Int)) = true := decide_eq_true c7
        clear c7
        by_cases c8 : (rd l0 x5_1) < (rd l1 x5_1)
        ·rw [if_pos c8] at H
         have c8b0 : decide ((rd l0 x5_1) < (rd l1 x5_1)) = true := decide_eq_true c8
         clear c8
         obtain rfl := Option.some.inj H
         have p358 : 0 ≤ (x5_1 : Int) := of_decide_eq_true (by first | (with_reducible assumption) | assumption)
         have q358 : x5_1 < (l0.length : Int) := of_decide_eq_true (by first | (with_reducible assumption) | assumption)
         obtain ⟨ad358, e358, hx358_0⟩ := Kd.z3 HR0.out x5_1 p358 q358
         cases e358
         replace p358 := eq_true p358
         replace q358 := eq_true q358
         have p359 : 0 ≤ (x5_1 : Int) := of_decide_eq_true (by first | (with_reducible assumption) | assumption)
         have q359 : x5_1 < (l1.length : Int) := of_decide_eq_true (by first | (with_reducible assumption) | assumption)
         obtain ⟨ad359, e359, hx359_0⟩ := Kd.z3 HR1.out x5_1 p359 q359
         cases e359
         replace p359 := eq_true p359
         replace q359 := eq_true q359
         go_wp2
         repeat (go_quiet (fail); try go_wp2)
         go_ret
         exact ⟨by first | rfl | (simp; done) | (simp [*]; done), by repeat (first | exact zay.refl _ | apply zay.step)⟩
        ·rw [if_neg c8] at H
         have c8b0 : decide ((rd l0 x5_1) < (rd l1 x5_1)) = false := decide_eq_false c8
         clear c8
         by_cases c9 : (rd l0 x5_1) > (rd l1 x5_1)
         ·rw [if_pos c9] at H
          have c9b0 : decide ((rd l1 x5_1) < (rd l0 x5_1)) = true := decide_eq_true c9
          clear c9
          obtain rfl := Option.some.inj H
          have p358 : 0 ≤ (x5_1 : Int) := of_decide_eq_true (by first | (with_reducible assumption) | assumption)
          have q358 : x5_1 < (l0.length : Int) := of_decide_eq_true (by first | (with_reducible assumption) | assumption)
          obtain ⟨ad358, e358, hx358_0⟩ := Kd.z3 HR0.out x5_1 p358 q358
          cases e358
          replace p358 := eq_true p358
          replace q358 := eq_true q358
          have p359 : 0 ≤ (x5_1 : Int) := of_decide_eq_true (by first | (with_reducible assumption) | assumption)
          have q359 : x5_1 < (l1.length : Int) := of_decide_eq_true (by first | (with_reducible assumption) | assumption)
          obtain ⟨ad359, e359, hx359_0⟩ := Kd.z3 HR1.out x5_1 p359 q359
          cases e359
          replace p359 := eq_true p359
          replace q359 := eq_true q359
          have p360 : 0 ≤ (x5_1 : Int) := of_decide_eq_true (by first | (with_reducible assumption) | assumption)
          have q360 : x5_1 < (l0.length : Int) := of_decide_eq_true (by first | (with_reducible assumption) | assumption)
          obtain ⟨ad360, e360, hx360_0⟩ := Kd.z3 HR0.out x5_1 p360 q360
          obtain rfl : ad358 = ad360 := (by injection e360)
          replace p360 := eq_true p360
          replace q360 := eq_true q360
          have p361 : 0 ≤ (x5_1 : Int) := of_decide_eq_true (by first | (with_reducible assumption) | assumption)
          have q361 : x5_1 < (l1.length : Int) := of_decide_eq_true (by first | (with_reducible assumption) | assumption)
          obtain ⟨ad361, e361, hx361_0⟩ := Kd.z3 HR1.out x5_1 p361 q361
          obtain rfl : ad359 = ad361 := (by injection e361)
          replace p361 := eq_true p361
          replace q361 := eq_true q361
          go_wp2
          repeat (go_quiet (fail); try go_wp2)
          go_ret
          exact ⟨by first | rfl | (simp; done) | (simp [*]; done), by repeat (first | exact zay.refl _ | apply zay.step)⟩
         ·rw [if_neg c9] at H
          have c9b0 : decide ((rd l1 x5_1) < (rd l0 x5_1)) = false := decide_eq_false c9
          clear c9
          have H' := am_ H
          clear H
          have p358 : 0 ≤ (x5_1 : Int) := of_decide_eq_true (by first | (with_reducible assumption) | assumption)
          have q358 : x5_1 < (l0.length : Int) := of_decide_eq_true (by first | (with_reducible assumption) | assumption)
          obtain ⟨ad358, e358, hx358_0⟩ := Kd.z3 HR0.out x5_1 p358 q358
          cases e358
          replace p358 := eq_true p358
          replace q358 := eq_true q358
          have p359 : 0 ≤ (x5_1 : Int) := of_decide_eq_true (by first | (with_reducible assumption) | assumption)
          have q359 : x5_1 < (l1.length : Int) := of_decide_eq_true (by first | (with_reducible assumption) | assumption)
          obtain ⟨ad359, e359, hx359_0⟩ := Kd.z3 HR1.out x5_1 p359 q359
          cases e359
          replace p359 := eq_true p359
          replace q359 := eq_true q359
          have p360 : 0 ≤ (x5_1 : Int) := of_decide_eq_true (by first | (with_reducible assumption) | assumption)
          have q360 : x5_1 < (l0.length : Int) := of_decide_eq_true (by first | (with_reducible assumption) | assumption)
          obtain ⟨ad360, e360, hx360_0⟩ := Kd.z3 HR0.out x5_1 p360 q360
          obtain rfl : ad358 = ad360 := (by injection e360)
          replace p360 := eq_true p360
          replace q360 := eq_true q360
          have p361 : 0 ≤ (x5_1 : Int) := of_decide_eq_true (by first | (with_reducible assumption) | assumption)
          have q361 : x5_1 < (l1.length : Int) := of_decide_eq_true (by first | (with_reducible assumption) | assumption)
          obtain ⟨ad361, e361, hx361_0⟩ := Kd.z3 HR1.out x5_1 p361 q361
          obtain rfl : ad359 = ad361 := (by injection e361)
          replace p361 := eq_true p361
          replace q361 := eq_true q361
          go_wp2
          repeat (go_quiet (fail); try go_wp2)
          go_roundg k1
          case measure => have := HK1.out; omega
          case rel => exact ⟨(wrap64 (x5_1 - 1)), (by first | rfl | (simp; done) | (simp [*]; done)), H', ⟨by have := HK1.out; omega⟩, by repeat (first | exact zay.refl _ | apply zay.step)⟩
       ·rw [if_neg c7] at H
        exact absurd H (by simp)
      ·rw [if_neg c6] at H
       exact absurd H (by simp)
     ·rw [if_neg c5] at H
      exact absurd H (by simp)
    ·rw [if_neg c4] at H
     have c4b0 : decide (0 ≤ x5_1) = false := decide_eq_false c4
     clear c4
     obtain rfl := Option.some.inj H
     go_wp2
     repeat (go_quiet (fail); try go_wp2)
     go_ret
     exact ⟨by first | rfl | (simp; done) | (simp [*]; done), by repeat (first | exact zay.refl _ | apply zay.step)⟩
 ·rw [if_neg c3] at H
  have c3b0 : ((l0.length : Int) == (l1.length : Int)) = false := beq_eq_false_iff_ne.mpr c3
  have c3b1 : ((l0.length : Int) != (l1.length : Int)) = true := bne_iff_ne.mpr c3
  have c3b2 : (l0.length == l1.length) = false := by first | simpa using c3 | (simp at c3 ⊢; omega)
  by_cases c10 : (l0.length : Int) < (l1.length : Int)
  ·rw [if_pos c10] at H
   have c10b0 : decide ((l0.length : Int) < (l1.length : Int)) = true := decide_eq_true c10
   have c10b1 : decide (l0.length < l1.length) = true := decide_eq_true (Int.ofNat_lt.mp c10)
   clear c10
   obtain rfl := Option.some.inj H
   go_enter Try.func98, Try.ntmps98
   go_wp2
   repeat (go_quiet (fail); try go_wp2)
   go_ret
   exact ⟨by first | rfl | (simp; done) | (simp [*]; done), by repeat (first | exact zay.refl _ | apply zay.step)⟩
  ·rw [if_neg c10] at H
   have c10b0 : decide ((l0.length : Int) < (l1.length : Int)) = false := decide_eq_false c10
   have c10b1 : decide (l0.length < l1.length) = false := decide_eq_false (fun h => c10 (Int.ofNat_lt.mpr h))
   clear c10
   obtain rfl := Option.some.inj H
   go_enter Try.func98, Try.ntmps98
   go_wp2
   repeat (go_quiet (fail); try go_wp2)
   go_ret
   exact ⟨by first | rfl | (simp; done) | (simp [*]; done), by repeat (first | exact zay.refl _ | apply zay.step)⟩
end Go.Proofs.Ytlidbaejhmamjaa.PB

namespace Go.Proofs.Ytlidbaejhmamjaa.PB
open Go.RowKit Go.Proofs.YtlidbaejhmamjaaW.PrintWords Go.Proofs.YtlidbaejhmamjaaW.PrintLast Go.Proofs.YtlidbaejhmamjaaW.PrintMore
attribute [local go_sem] zao zar zaB zaC zaf zag zap zas   -- for this text's walks alone
set_option linter.unusedVariables false
set_option linter.unusedSimpArgs false
def zO.l0 : Nat → List Int → List Int → List Int → Int → Int → Option (List Int)
 | 0, _, _, _, _, _ => none
 | k + 1, x0, x1, x5, x6, x7 => if x7 < (x0.length : Int) then (if x7 < (x1.length : Int) then (if 0 ≤ x7 then (if (IntKind.u64.wrap (rd x0 x7)) < (IntKind.u64.wrap (x6 + (IntKind.u64.wrap (rd x1 x7)))) then (if x7 < (x5.length : Int) then (zO.l0 k x0 x1 (x5.set (x7 : Int).toNat ((IntKind.u64.wrap ((IntKind.u64.wrap ((IntKind.u64.wrap (rd x0 x7)) + 4294967296)) - (IntKind.u64.wrap (x6 + (IntKind.u64.wrap (rd x1 x7)))))) % 4294967296)) 1 (wrap64 (x7 + 1))) else (none)) else (if x7 < (x5.length : Int) then (zO.l0 k x0 x1 (x5.set (x7 : Int).toNat ((IntKind.u64.wrap ((IntKind.u64.wrap (rd x0 x7)) - (IntKind.u64.wrap (x6 + (IntKind.u64.wrap (rd x1 x7)))))) % 4294967296)) 0 (wrap64 (x7 + 1))) else (none))) else (none)) else (if 0 ≤ x7 then (if (IntKind.u64.wrap (rd x0 x7)) < x6 then (if x7 < (x5.length : Int) then (zO.l0 k x0 x1 (x5.set (x7 : Int).toNat ((IntKind.u64.wrap ((IntKind.u64.wrap ((IntKind.u64.wrap (rd x0 x7)) + 4294967296)) - x6)) % 4294967296)) 1 (wrap64 (x7 + 1))) else (none)) else (if x7 < (x5.length : Int) then (zO.l0 k x0 x1 (x5.set (x7 : Int).toNat ((IntKind.u64.wrap ((IntKind.u64.wrap (rd x0 x7)) - x6)) % 4294967296)) 0 (wrap64 (x7 + 1))) else (none))) else (none))) else ((zI.f k x5).bind fun t365 => (some t365))
def zO.f (k : Nat) (l0 : List Int) (l1 : List Int) : Option (List Int) := if 0 ≤ (l0.length : Int) then (if ((l0.length : Int) : Int).toNat ≤ 70368744177664 then (zO.l0 k l0 l1 (List.replicate ((l0.length : Int) : Int).toNat 0) 0 0) else (none)) else (none)
set_option maxHeartbeats 8000000 in
set_option maxRecDepth 100000 in
theorem zO.calls (k : Nat) (A0 : Option Addr) (c0 : Nat) (l0 : List Int) (A1 : Option Addr) (c1 : Nat) (l1 : List Int) (r : List Int) (w : World) (hr0 : Kd.C (Kd.int .u32) w A0 l0.length l0) (hc0 : l0.length ≤ c0) (hr1 : Kd.C (Kd.int .u32) w A1 l1.length l1) (hc1 : l1.length ≤ c1) (h : zO.f k l0 l1 = some r) :
  Calls Try.prog 99 #[.slice A0 l0.length c0, .slice A1 l1.length c1] w fun e w' => ∃ v0_ : Value, e = .returned (v0_) ∧ Kd.R (Kd.int .u32) 134 w' w.heap.size (fun _ => True) v0_ r ∧ Below w.heap.size w w' := by
 have HR0 := am_ hr0
 have HC0 := am_ hc0
 clear hr0 hc0
 have HR1 := am_ hr1
 have HC1 := am_ hc1
 clear hr1 hc1
 have HB := am_ (Below.refl w.heap.size w)
 have H : (if 0 ≤ (l0.length : Int) then (if ((l0.length : Int) : Int).toNat ≤ 70368744177664 then (zO.l0 k l0 l1 (List.replicate ((l0.length : Int) : Int).toNat 0) 0 0) else (none)) else (none)) = some r := h
 clear h
 by_cases c3 : 0 ≤ (l0.length : Int)
 ·rw [if_pos c3] at H
  have c3b0 := eq_true c3
  have c3b1 : decide (0 ≤ (l0.length : Int)) = true := decide_eq_true c3
  clear c3
  by_cases c4 : ((l0.length : Int) : Int).toNat ≤ 70368744177664
  ·rw [if_pos c4] at H
   have c4b0 := eq_true c4
   have c4b1 : decide (((l0.length : Int) : Int).toNat ≤ 70368744177664) = true := decide_eq_true c4
   clear c4
   obtain ⟨y362, hy362⟩ : ∃ y_ : List Int, y_ = (List.replicate ((l0.length : Int) : Int).toNat 0) := ⟨_, rfl⟩
   replace H : (zO.l0 k l0 l1 y362 0 0) = some r := by first | (rw [hy362]; with_reducible exact H) | (have H2_ := (Option.bind_some _ _).symm.trans H; rw [hy362]; with_reducible exact H2_) | (have H2_ := (Option.bind_some _ _).symm.trans H; with_reducible exact H2_) | with_reducible exact H | (rw [hy362]; exact H) | exact H
   have Ny362 := am_ hy362
   clear hy362
   have H' := am_ H
   clear H
   go_enter Try.func99, Try.ntmps99
   go_wp2_with (first | ((with_reducible refine zr (N := 12) rfl ?_); refine Kd.R_make (Kd.int .u32) _ 134 rfl (N := 12) rfl 99 _ _ rfl (l0.length : Int) rfl rfl Try.underlying99 (.int .u32 0) 4 info134 rfl (by decide) (by omega) 0 (ok := fun _ => True) (okp := fun _ => True) rfl (fun _ hk => hk) trivial (of_decide_eq_true (by first | (with_reducible assumption) | assumption)) (Nat.le_trans (Nat.mul_le_mul_right _ (of_decide_eq_true (by first | (with_reducible assumption) | assumption) : (l0.length : Int).toNat ≤ 70368744177664)) (by omega)) (Below.refl _ _) (Nat.le_refl _) ?_; intro v363 w5 ho6 hb hg_ hnew_; clear hg_ hnew_; (first | rw [← Ny362.out] at ho6 | (simp only [Int.reduceToNat] at ho6; rw [← Ny362.out] at ho6)); have n0_ := am_ (Kd.zaw ho6 (zk (by repeat (first | (with_reducible first | exact HB.out | apply zc | apply za | apply zb) | exact HB.out)))); have n1_ := am_ (zh (by repeat (first | (with_reducible first | exact HB.out | apply zc | apply za | apply zb) | exact HB.out)) hb); clear HB; have HO364 := n0_; have HB := n1_; clear n0_ n1_; clear hb ho6))
   go_loopg [6, 7] k (fun kq v6 v7 w' => ∃ (x5_1 : List Int) (x6_1 : Int) (x7_1 : Int), v6 = .int .u64 x6_1 ∧ v7 = .int .i64 x7_1 ∧ Aside0 (zO.l0 kq l0 l1 x5_1 x6_1 x7_1 = some r) ∧ Aside0 (kq ≤ k) ∧ Aside0 (Kd.R (Kd.int .u32) 134 w' w.heap.size (fun _ => True) v363 x5_1) ∧ Aside0 (Below w.heap.size w w'))
   case atStart => exact ⟨(y362), (0), (0), (by first | rfl | (simp; done) | (simp [*]; done)), (by first | rfl | (simp; done) | (simp [*]; done)), H', ⟨Nat.le_refl _⟩, ⟨by (with_reducible repeat (first | apply Kd.zw | apply Kd.zu | apply Kd.zA)); exact HO364.out⟩, ⟨by repeat (first | (with_reducible first | exact HB.out | apply zc | apply za | apply zb) | exact HB.out)⟩⟩
   case round =>
    clear H'
    try clear c1
    try clear p2
    try clear c3
    try clear c3b0
    try clear c3b1
    try clear c4
    try clear c4b0
    try clear c4b1
    obtain ⟨x5_1, x6_1, x7_1, rfl, rfl, HA, HK1, HO_5, HB⟩ := hrel
    cases gk with
    | zero => exact absurd HA.out (by simp [zO.l0])
    | succ k1 =>
     have H := HA.out
     clear HA
     simp only [zO.l0] at H
     by_cases c7 : x7_1 < (l0.length : Int)
     ·rw [if_pos c7] at H
      have c7b0 : decide (x7_1 < (l0.length : Int)) = true := decide_eq_true c7
      clear c7
      by_cases c8 : x7_1 < (l1.length : Int)
      ·rw [if_pos c8] at H
       have c8b0 : decide (x7_1 < (l1.length : Int)) = true := decide_eq_true c8
       clear c8
       by_cases c9 : 0 ≤ x7_1
       ·rw [if_pos c9] at H
        have c9b0 : decide (0 ≤ x7_1) = true := decide_eq_true c9
        clear c9
        by_cases c10 : (IntKind.u64.wrap (rd l0 x7_1)) < (IntKind.u64.wrap (x6_1 + (IntKind.u64.wrap (rd l1 x7_1))))
        ·rw [if_pos c10] at H
         have c10b0 : decide ((IntKind.u64.wrap (rd l0 x7_1)) < (IntKind.u64.wrap (x6_1 + (IntKind.u64.wrap (rd l1 x7_1))))) = true := decide_eq_true c10
         clear c10
         by_cases c11 : x7_1 < (x5_1.length : Int)
         ·rw [if_pos c11] at H
          have c11b0 : decide (x7_1 < (x5_1.length : Int)) = true := decide_eq_true c11
          clear c11
          obtain ⟨y370, hy370⟩ : ∃ y_ : List Int, y_ = (x5_1.set (x7_1 : Int).toNat ((IntKind.u64.wrap ((IntKind.u64.wrap ((IntKind.u64.wrap (rd l0 x7_1)) + 4294967296)) - (IntKind.u64.wrap (x6_1 + (IntKind.u64.wrap (rd l1 x7_1)))))) % 4294967296)) := ⟨_, rfl⟩
          replace H : (zO.l0 k1 l0 l1 y370 1 (wrap64 (x7_1 + 1))) = some r := by first | (rw [hy370]; with_reducible exact H) | (have H2_ := (Option.bind_some _ _).symm.trans H; rw [hy370]; with_reducible exact H2_) | (have H2_ := (Option.bind_some _ _).symm.trans H; with_reducible exact H2_) | with_reducible exact H | (rw [hy370]; exact H) | exact H
          have Ny370 := am_ hy370
          clear hy370
          have H' := am_ H
          clear H
          have p368 : 0 ≤ (x7_1 : Int) := of_decide_eq_true (by first | (with_reducible assumption) | assumption)
          have q368 : x7_1 < (l1.length : Int) := of_decide_eq_true (by first | (with_reducible assumption) | assumption)
          obtain ⟨ad368, e368, hx368_0⟩ := Kd.z3 HR1.out x7_1 p368 q368
          cases e368
          replace hx368_0 := (HB.out.cell (World.block_lt_of_cell? w _ hx368_0)).trans hx368_0
          replace p368 := eq_true p368
          replace q368 := eq_true q368
          have p369 : 0 ≤ (x7_1 : Int) := of_decide_eq_true (by first | (with_reducible assumption) | assumption)
          have q369 : x7_1 < (l0.length : Int) := of_decide_eq_true (by first | (with_reducible assumption) | assumption)
          obtain ⟨ad369, e369, hx369_0⟩ := Kd.z3 HR0.out x7_1 p369 q369
          cases e369
          replace hx369_0 := (HB.out.cell (World.block_lt_of_cell? w _ hx369_0)).trans hx369_0
          replace p369 := eq_true p369
          replace q369 := eq_true q369
          have p12 : 0 ≤ (x7_1 : Int) := of_decide_eq_true (by first | (with_reducible assumption) | assumption)
          have q12 : (x7_1 : Int) < ((x5_1.length : Int) : Int) := of_decide_eq_true (by first | (with_reducible assumption) | assumption)
          obtain ⟨go12, co12, eo12, gb12, gl12, cl12, HG12⟩ := Kd.R_form HO_5.out (by omega)
          (first | cases eo12 | (injection eo12 with ea_ en_ ec_; (first | subst ea_ | (injection ea_ with ea_; subst ea_)); subst ec_; clear en_))
          have GB12 := am_ gb12
          have GG12 := am_ HG12
          clear gb12 gl12 HG12
          obtain ⟨hx12_0, hf12_0⟩ := Kd.zaQ 0 HO_5.out (x7_1 : Int) p12 q12
          replace p12 := eq_true p12
          replace q12 := eq_true q12
          have HP13 := Kd.R_putg HO_5.out (x7_1 : Int) ((IntKind.u64.wrap ((IntKind.u64.wrap ((IntKind.u64.wrap (rd l0 x7_1)) + 4294967296)) - (IntKind.u64.wrap (x6_1 + (IntKind.u64.wrap (rd l1 x7_1)))))) % 4294967296)
          go_wp2_with (first | ((with_reducible refine zJ (t := 134) (p := 47) rfl ?_); refine zat (t := 134) (p := 47) (v := ?vo_w14) (w1 := (wr.setCell ⟨go12, (x7_1 : Int).toNat, none⟩ (.int .u32 ((IntKind.u64.wrap ((IntKind.u64.wrap ((IntKind.u64.wrap (rd l0 x7_1)) + 4294967296)) - (IntKind.u64.wrap (x6_1 + (IntKind.u64.wrap (rd l1 x7_1)))))) % 4294967296)))) ?hg ?ho ?hn ?hr ?_; (case ho => rfl); (case hg => rfl); (case hn => rfl); (case hr => first | (go_simp; done) | (go_simp; rfl)); intro w14 hw; have hg : wr.grownBy w14 (some go12) := (by rw [hw]; exact HP13.2); have hp_ : Kd.R (Kd.int .u32) 134 w14 w.heap.size (fun _ => True) (.slice (some ⟨go12, 0, none⟩) x5_1.length co12) y370 := (by rw [hw, Ny370.out]; exact HP13.1); clear HP13; have n0_ := am_ (hp_); have n1_ := am_ ((by rw [hw]; exact zf (HB.out) GB12.out : Below w.heap.size w w14)); clear HO_5; clear HB; have HO_5 := n0_; have HB := n1_; clear n0_ n1_; clear hg hw hp_))
          go_roundg k1
          case measure => have := HK1.out; omega
          case rel => exact ⟨(y370), (1), (wrap64 (x7_1 + 1)), (by first | rfl | (simp; done) | (simp [*]; done)), (by first | rfl | (simp; done) | (simp [*]; done)), H', ⟨by have := HK1.out; omega⟩, ⟨by (with_reducible repeat (first | apply Kd.zw | apply Kd.zu | apply Kd.zA)); exact HO_5.out⟩, ⟨by repeat (first | (with_reducible first | exact HB.out | apply zc | apply za | apply zb) | exact HB.out)⟩⟩
         ·rw [if_neg c11] at H
          exact absurd H (by simp)
        ·rw [if_neg c10] at H
         have c10b0 : decide ((IntKind.u64.wrap (rd l0 x7_1)) < (IntKind.u64.wrap (x6_1 + (IntKind.u64.wrap (rd l1 x7_1))))) = false := decide_eq_false c10
         clear c10
         by_cases c15 : x7_1 < (x5_1.length : Int)
         ·rw [if_pos c15] at H
          have c15b0 : decide (x7_1 < (x5_1.length : Int)) = true := decide_eq_true c15
          clear c15
          obtain ⟨y371, hy371⟩ : ∃ y_ : List Int, y_ = (x5_1.set (x7_1 : Int).toNat ((IntKind.u64.wrap ((IntKind.u64.wrap (rd l0 x7_1)) - (IntKind.u64.wrap (x6_1 + (IntKind.u64.wrap (rd l1 x7_1)))))) % 4294967296)) := ⟨_, rfl⟩
          replace H : (zO.l0 k1 l0 l1 y371 0 (wrap64 (x7_1 + 1))) = some r := by first | (rw [hy371]; with_reducible exact H) | (have H2_ := (Option.bind_some _ _).symm.trans H; rw [hy371]; with_reducible exact H2_) | (have H2_ := (Option.bind_some _ _).symm.trans H; with_reducible exact H2_) | with_reducible exact H | (rw [hy371]; exact H) | exact H
          have Ny371 := am_ hy371
          clear hy371
          have H' := am_ H
          clear H
          have p368 : 0 ≤ (x7_1 : Int) := of_decide_eq_true (by first | (with_reducible assumption) | assumption)
          have q368 : x7_1 < (l1.length : Int) := of_decide_eq_true (by first | (with_reducible assumption) | assumption)
          obtain ⟨ad368, e368, hx368_0⟩ := Kd.z3 HR1.out x7_1 p368 q368
          cases e368
          replace hx368_0 := (HB.out.cell (World.block_lt_of_cell? w _ hx368_0)).trans hx368_0
          replace p368 := eq_true p368
          replace q368 := eq_true q368
          have p369 : 0 ≤ (x7_1 : Int) := of_decide_eq_true (by first | (with_reducible assumption) | assumption)
          have q369 : x7_1 < (l0.length : Int) := of_decide_eq_true (by first | (with_reducible assumption) | assumption)
          obtain ⟨ad369, e369, hx369_0⟩ := Kd.z3 HR0.out x7_1 p369 q369
          cases e369
          replace hx369_0 := (HB.out.cell (World.block_lt_of_cell? w _ hx369_0)).trans hx369_0
          replace p369 := eq_true p369
          replace q369 := eq_true q369
          have p16 : 0 ≤ (x7_1 : Int) := of_decide_eq_true (by first | (with_reducible assumption) | assumption)
          have q16 : (x7_1 : Int) < ((x5_1.length : Int) : Int) := of_decide_eq_true (by first | (with_reducible assumption) | assumption)
          obtain ⟨go16, co16, eo16, gb16, gl16, cl16, HG16⟩ := Kd.R_form HO_5.out (by omega)
          (first | cases eo16 | (injection eo16 with ea_ en_ ec_; (first | subst ea_ | (injection ea_ with ea_; subst ea_)); subst ec_; clear en_))
          have GB16 := am_ gb16
          have GG16 := am_ HG16
          clear gb16 gl16 HG16
          obtain ⟨hx16_0, hf16_0⟩ := Kd.zaQ 0 HO_5.out (x7_1 : Int) p16 q16
          replace p16 := eq_true p16
          replace q16 := eq_true q16
          have HP17 := Kd.R_putg HO_5.out (x7_1 : Int) ((IntKind.u64.wrap ((IntKind.u64.wrap (rd l0 x7_1)) - (IntKind.u64.wrap (x6_1 + (IntKind.u64.wrap (rd l1 x7_1)))))) % 4294967296)
          go_wp2_with (first | ((with_reducible refine zJ (t := 134) (p := 47) rfl ?_); refine zat (t := 134) (p := 47) (v := ?vo_w18) (w1 := (wr.setCell ⟨go16, (x7_1 : Int).toNat, none⟩ (.int .u32 ((IntKind.u64.wrap ((IntKind.u64.wrap (rd l0 x7_1)) - (IntKind.u64.wrap (x6_1 + (IntKind.u64.wrap (rd l1 x7_1)))))) % 4294967296)))) ?hg ?ho ?hn ?hr ?_; (case ho => rfl); (case hg => rfl); (case hn => rfl); (case hr => first | (go_simp; done) | (go_simp; rfl)); intro w18 hw; have hg : wr.grownBy w18 (some go16) := (by rw [hw]; exact HP17.2); have hp_ : Kd.R (Kd.int .u32) 134 w18 w.heap.size (fun _ => True) (.slice (some ⟨go16, 0, none⟩) x5_1.length co16) y371 := (by rw [hw, Ny371.out]; exact HP17.1); clear HP17; have n0_ := am_ (hp_); have n1_ := am_ ((by rw [hw]; exact zf (HB.out) GB16.out : Below w.heap.size w w18)); clear HO_5; clear HB; have HO_5 := n0_; have HB := n1_; clear n0_ n1_; clear hg hw hp_))
          go_roundg k1
          case measure => have := HK1.out; omega
          case rel => exact ⟨(y371), (0), (wrap64 (x7_1 + 1)), (by first | rfl | (simp; done) | (simp [*]; done)), (by first | rfl | (simp; done) | (simp [*]; done)), H', ⟨by have := HK1.out; omega⟩, ⟨by (with_reducible repeat (first | apply Kd.zw | apply Kd.zu | apply Kd.zA)); exact HO_5.out⟩, ⟨by repeat (first | (with_reducible first | exact HB.out | apply zc | apply za | apply zb) | exact HB.out)⟩⟩
         ·rw [if_neg c15] at H
          exact absurd H (by simp)
       ·rw [if_neg c9] at H
        exact absurd H (by simp)
      ·rw [if_neg c8] at H
       have c8b0 : decide (x7_1 < (l1.length : Int)) = false := decide_eq_false c8
       clear c8
       by_cases c19 : 0 ≤ x7_1
       ·rw [if_pos c19] at H
        have c19b0 : decide (0 ≤ x7_1) = true := decide_eq_true c19
        clear c19
        by_cases c20 : (IntKind.u64.wrap (rd l0 x7_1)) < x6_1
        ·rw [if_pos c20] at H
         have c20b0 : decide ((IntKind.u64.wrap (rd l0 x7_1)) < x6_1) = true := decide_eq_true c20
         clear c20
         by_cases c21 : x7_1 < (x5_1.length : Int)
         ·rw [if_pos c21] at H
          have c21b0 : decide (x7_1 < (x5_1.length : Int)) = true := decide_eq_true c21
          clear c21
          obtain ⟨y373, hy373⟩ : ∃ y_ : List Int, y_ = (x5_1.set (x7_1 : Int).toNat ((IntKind.u64.wrap ((IntKind.u64.wrap ((IntKind.u64.wrap (rd l0 x7_1)) + 4294967296)) - x6_1)) % 4294967296)) := ⟨_, rfl⟩
          replace H : (zO.l0 k1 l0 l1 y373 1 (wrap64 (x7_1 + 1))) = some r := by first | (rw [hy373]; with_reducible exact H) | (have H2_ := (Option.bind_some _ _).symm.trans H; rw [hy373]; with_reducible exact H2_) | (have H2_ := (Option.bind_some _ _).symm.trans H; with_reducible exact H2_) | with_reducible exact H | (rw [hy373]; exact H) | exact H
          have Ny373 := am_ hy373
          clear hy373
          have H' := am_ H
          clear H
          have p372 : 0 ≤ (x7_1 : Int) := of_decide_eq_true (by first | (with_reducible assumption) | assumption)
          have q372 : x7_1 < (l0.length : Int) := of_decide_eq_true (by first | (with_reducible assumption) | assumption)
          obtain ⟨ad372, e372, hx372_0⟩ := Kd.z3 HR0.out x7_1 p372 q372
          cases e372
          replace hx372_0 := (HB.out.cell (World.block_lt_of_cell? w _ hx372_0)).trans hx372_0
          replace p372 := eq_true p372
          replace q372 := eq_true q372
          have p22 : 0 ≤ (x7_1 : Int) := of_decide_eq_true (by first | (with_reducible assumption) | assumption)
          have q22 : (x7_1 : Int) < ((x5_1.length : Int) : Int) := of_decide_eq_true (by first | (with_reducible assumption) | assumption)
          obtain ⟨go22, co22, eo22, gb22, gl22, cl22, HG22⟩ := Kd.R_form HO_5.out (by omega)
          (first | cases eo22 | (injection eo22 with ea_ en_ ec_; (first | subst ea_ | (injection ea_ with ea_; subst ea_)); subst ec_; clear en_))
          have GB22 := am_ gb22
          have GG22 := am_ HG22
          clear gb22 gl22 HG22
          obtain ⟨hx22_0, hf22_0⟩ := Kd.zaQ 0 HO_5.out (x7_1 : Int) p22 q22
          replace p22 := eq_true p22
          replace q22 := eq_true q22
          have HP23 := Kd.R_putg HO_5.out (x7_1 : Int) ((IntKind.u64.wrap ((IntKind.u64.wrap ((IntKind.u64.wrap (rd l0 x7_1)) + 4294967296)) - x6_1)) % 4294967296)
          go_wp2_with (first | ((with_reducible refine zJ (t := 134) (p := 47) rfl ?_); refine zat (t := 134) (p := 47) (v := ?vo_w24) (w1 := (wr.setCell ⟨go22, (x7_1 : Int).toNat, none⟩ (.int .u32 ((IntKind.u64.wrap ((IntKind.u64.wrap ((IntKind.u64.wrap (rd l0 x7_1)) + 4294967296)) - x6_1)) % 4294967296)))) ?hg ?ho ?hn ?hr ?_; (case ho => rfl); (case hg => rfl); (case hn => rfl); (case hr => first | (go_simp; done) | (go_simp; rfl)); intro w24 hw; have hg : wr.grownBy w24 (some go22) := (by rw [hw]; exact HP23.2); have hp_ : Kd.R (Kd.int .u32) 134 w24 w.heap.size (fun _ => True) (.slice (some ⟨go22, 0, none⟩) x5_1.length co22) y373 := (by rw [hw, Ny373.out]; exact HP23.1); clear HP23; have n0_ := am_ (hp_); have n1_ := am_ ((by rw [hw]; exact zf (HB.out) GB22.out : Below w.heap.size w w24)); clear HO_5; clear HB; have HO_5 := n0_; have HB := n1_; clear n0_ n1_; clear hg hw hp_))
          go_roundg k1
          case measure => have := HK1.out; omega
          case rel => exact ⟨(y373), (1), (wrap64 (x7_1 + 1)), (by first | rfl | (simp; done) | (simp [*]; done)), (by first | rfl | (simp; done) | (simp [*]; done)), H', ⟨by have := HK1.out; omega⟩, ⟨by (with_reducible repeat (first | apply Kd.zw | apply Kd.zu | apply Kd.zA)); exact HO_5.out⟩, ⟨by repeat (first | (with_reducible first | exact HB.out | apply zc | apply za | apply zb) | exact HB.out)⟩⟩
         ·rw [if_neg c21] at H
          exact absurd H (by simp)
        ·rw [if_neg c20] at H
         have c20b0 : decide ((IntKind.u64.wrap (rd l0 x7_1)) < x6_1) = false := decide_eq_false c20
         clear c20
         by_cases c25 : x7_1 < (x5_1.length : Int)
         ·rw [if_pos c25] at H
          have c25b0 : decide (x7_1 < (x5_1.length : Int)) = true := decide_eq_true c25
          clear c25
          obtain ⟨y374, hy374⟩ : ∃ y_ : List Int, y_ = (x5_1.set (x7_1 : Int).toNat ((IntKind.u64.wrap ((IntKind.u64.wrap (rd l0 x7_1)) - x6_1)) % 4294967296)) := ⟨_, rfl⟩
          replace H : (zO.l0 k1 l0 l1 y374 0 (wrap64 (x7_1 + 1))) = some r := by first | (rw [hy374]; with_reducible exact H) | (have H2_ := (Option.bind_some _ _).symm.trans H; rw [hy374]; with_reducible exact H2_) | (have H2_ := (Option.bind_some _ _).symm.trans H; with_reducible exact H2_) | with_reducible exact H | (rw [hy374]; exact H) | exact H
          have Ny374 := am_ hy374
          clear hy374
          have H' := am_ H
          clear H
          have p372 : 0 ≤ (x7_1 : Int) := of_decide_eq_true (by first | (with_reducible assumption) | assumption)
          have q372 : x7_1 < (l0.length : Int) := of_decide_eq_true (by first | (with_reducible assumption) | assumption)
          obtain ⟨ad372, e372, hx372_0⟩ := Kd.z3 HR0.out x7_1 p372 q372
          cases e372
          replace hx372_0 := (HB.out.cell (World.block_lt_of_cell? w _ hx372_0)).trans hx372_0
          replace p372 := eq_true p372
          replace q372 := eq_true q372
          have p26 : 0 ≤ (x7_1 : Int) := of_decide_eq_true (by first | (with_reducible assumption) | assumption)
          have q26 : (x7_1 : Int) < ((x5_1.length : Int) : Int) := of_decide_eq_true (by first | (with_reducible assumption) | assumption)
          obtain ⟨go26, co26, eo26, gb26, gl26, cl26, HG26⟩ := Kd.R_form HO_5.out (by omega)
          (first | cases eo26 | (injection eo26 with ea_ en_ ec_; (first | subst ea_ | (injection ea_ with ea_; subst ea_)); subst ec_; clear en_))
          have GB26 := am_ gb26
          have GG26 := am_ HG26
          clear gb26 gl26 HG26
          obtain ⟨hx26_0, hf26_0⟩ := Kd.zaQ 0 HO_5.out (x7_1 : Int) p26 q26
          replace p26 := eq_true p26
          replace q26 := eq_true q26
          have HP27 := Kd.R_putg HO_5.out (x7_1 : Int) ((IntKind.u64.wrap ((IntKind.u64.wrap (rd l0 x7_1)) - x6_1)) % 4294967296)
          go_wp2_with (first | ((with_reducible refine zJ (t := 134) (p := 47) rfl ?_); refine zat (t := 134) (p := 47) (v := ?vo_w28) (w1 := (wr.setCell ⟨go26, (x7_1 : Int).toNat, none⟩ (.int .u32 ((IntKind.u64.wrap ((IntKind.u64.wrap (rd l0 x7_1)) - x6_1)) % 4294967296)))) ?hg ?ho ?hn ?hr ?_; (case ho => rfl); (case hg => rfl); (case hn => rfl); (case hr => first | (go_simp; done) | (go_simp; rfl)); intro w28 hw; have hg : wr.grownBy w28 (some go26) := (by rw [hw]; exact HP27.2); have hp_ : Kd.R (Kd.int .u32) 134 w28 w.heap.size (fun _ => True) (.slice (some ⟨go26, 0, none⟩) x5_1.length co26) y374 := (by rw [hw, Ny374.out]; exact HP27.1); clear HP27; have n0_ := am_ (hp_); have n1_ := am_ ((by rw [hw]; exact zf (HB.out) GB26.out : Below w.heap.size w w28)); clear HO_5; clear HB; have HO_5 := n0_; have HB := n1_; clear n0_ n1_; clear hg hw hp_))
          go_roundg k1
          case measure => have := HK1.out; omega
          case rel => exact ⟨(y374), (0), (wrap64 (x7_1 + 1)), (by first | rfl | (simp; done) | (simp [*]; done)), (by first | rfl | (simp; done) | (simp [*]; done)), H', ⟨by have := HK1.out; omega⟩, ⟨by (with_reducible repeat (first | apply Kd.zw | apply Kd.zu | apply Kd.zA)); exact HO_5.out⟩, ⟨by repeat (first | (with_reducible first | exact HB.out | apply zc | apply za | apply zb) | exact HB.out)⟩⟩
         ·rw [if_neg c25] at H
          exact absurd H (by simp)
       ·rw [if_neg c19] at H
        exact absurd H (by simp)
     ·rw [if_neg c7] at H
      have c7b0 : decide (x7_1 < (l0.length : Int)) = false := decide_eq_false c7
      clear c7
      replace H := Option.bind_eq_some_iff.mp H
      obtain ⟨t365, A290, H⟩ := H
      replace H : (some t365) = some r := H
      have A29 := am_ A290
      clear A290
      obtain rfl := Option.some.inj H
      obtain ⟨Ao30, co30, eo30⟩ := Kd.zad HO_5.out
      subst eo30
      go_wp2_with (first | ((with_reducible refine zV (f := 69) rfl ?_); refine zaF (some 49) rfl rfl Try.func69 (by kernel_rfl) rfl #[.slice Ao30 x5_1.length co30] rfl (by (try simp only [List.map_toArray, List.map_cons, List.map_nil]); first | done | rfl | (simp only [List.length_drop, List.length_take]; rfl)) ?_; (with_reducible refine (zI.calls k1 (fun k_ => some k_ = (.slice Ao30 x5_1.length co30 : Value).ownBlock) (.slice Ao30 x5_1.length co30) x5_1 t365 w _ ?side1 ?side2 A29.out).mono ?_); (case side1 => repeat (first | (with_reducible first | exact HB.out | apply zc | apply za | apply zb) | exact HB.out)); (case side2 => exact Kd.R_tight rfl HO_5.out); rintro e w31 ⟨v366, rfl, ho0, hb, hkp⟩; refine ⟨_, rfl, ?_⟩; have n0_ := am_ (Kd.zN (ok' := fun k_ => True) ho0 (fun k_ hk_ => trivial)); have n1_ := am_ (hb); clear HB; clear HO_5; have HO367 := n0_; have HB := n1_; clear n0_ n1_; (try clear hb); (try clear hkp); (try clear ho0)))
      go_ret
      exact ⟨_, by first | rfl | (simp [zq, zp] <;> rfl) | (simp [*, zq, zp] <;> rfl), by (with_reducible repeat (first | apply Kd.zw | apply Kd.zu | apply Kd.zA)); exact HO367.out, by repeat (first | (with_reducible first | exact HB.out | apply zc | apply za | apply zb) | exact HB.out)⟩
  ·rw [if_neg c4] at H
   exact absurd H (by simp)
 ·rw [if_neg c3] at H
  exact absurd H (by simp)
end Go.Proofs.Ytlidbaejhmamjaa.PB

namespace Go.Proofs.Ytlidbaejhmamjaa.PB
open Go.RowKit Go.Proofs.YtlidbaejhmamjaaW.PrintWords Go.Proofs.YtlidbaejhmamjaaW.PrintLast Go.Proofs.YtlidbaejhmamjaaW.PrintMore
attribute [local go_sem] zao zar zaB zaC zaf zag zap zas   -- for this text's walks alone
set_option linter.unusedVariables false
set_option linter.unusedSimpArgs false
def zP.l0 : Nat → List Int → Int → List Int → Int → Option (List Int)
 | 0, _, _, _, _ => none
 | k + 1, x0, x1, x5, x6 => if x6 < (x0.length : Int) then (if 0 ≤ x6 then (if 0 ≤ (Int.tmod x1 32) then (if 0 ≤ (wrap64 (x6 + (wrap64 (Int.tdiv x1 32)))) then (if (wrap64 (x6 + (wrap64 (Int.tdiv x1 32)))) < (x5.length : Int) then ((some (x5.set ((wrap64 (x6 + (wrap64 (Int.tdiv x1 32)))) : Int).toNat (Go.bits .or .u32 (rd x5 (wrap64 (x6 + (wrap64 (Int.tdiv x1 32))))) ((shl .u64 (IntKind.u64.wrap (rd x0 x6)) (Int.tmod x1 32)) % 4294967296)) : List Int)).bind fun y333 => (if 0 ≤ (wrap64 ((wrap64 (x6 + (wrap64 (Int.tdiv x1 32)))) + 1)) then (if (wrap64 ((wrap64 (x6 + (wrap64 (Int.tdiv x1 32)))) + 1)) < (x5.length : Int) then (zP.l0 k x0 x1 (y333.set ((wrap64 ((wrap64 (x6 + (wrap64 (Int.tdiv x1 32)))) + 1)) : Int).toNat (Go.bits .or .u32 (rd y333 (wrap64 ((wrap64 (x6 + (wrap64 (Int.tdiv x1 32)))) + 1))) (((shl .u64 (IntKind.u64.wrap (rd x0 x6)) (Int.tmod x1 32)) / 4294967296) % 4294967296))) (wrap64 (x6 + 1))) else (none)) else (none))) else (none)) else (none)) else (none)) else (none)) else ((zI.f k x5).bind fun t336 => (some t336))
def zP.f (k : Nat) (l0 : List Int) (a1 : Int) : Option (List Int) := if (l0.length : Int) = 0 then (some ([] : List Int)) else (if 0 ≤ (wrap64 ((wrap64 ((l0.length : Int) + (wrap64 (Int.tdiv a1 32)))) + 1)) then (if (wrap64 ((wrap64 ((l0.length : Int) + (wrap64 (Int.tdiv a1 32)))) + 1) : Int).toNat ≤ 70368744177664 then (zP.l0 k l0 a1 (List.replicate (wrap64 ((wrap64 ((l0.length : Int) + (wrap64 (Int.tdiv a1 32)))) + 1) : Int).toNat 0) 0) else (none)) else (none))
set_option maxHeartbeats 8000000 in
set_option maxRecDepth 100000 in
theorem zP.calls (k : Nat) (A0 : Option Addr) (c0 : Nat) (l0 : List Int) (a1 : Int) (r : List Int) (w : World) (hr0 : Kd.C (Kd.int .u32) w A0 l0.length l0) (hc0 : l0.length ≤ c0) (h : zP.f k l0 a1 = some r) :
  Calls Try.prog 103 #[.slice A0 l0.length c0, .int .i64 a1] w fun e w' => ∃ v0_ : Value, e = .returned (v0_) ∧ Kd.R (Kd.int .u32) 134 w' w.heap.size (fun _ => True) v0_ r ∧ Below w.heap.size w w' := by
 have HR0 := am_ hr0
 have HC0 := am_ hc0
 clear hr0 hc0
 have HB := am_ (Below.refl w.heap.size w)
 have H : (if (l0.length : Int) = 0 then (some ([] : List Int)) else (if 0 ≤ (wrap64 ((wrap64 ((l0.length : Int) + (wrap64 (Int.tdiv a1 32)))) + 1)) then (if (wrap64 ((wrap64 ((l0.length : Int) + (wrap64 (Int.tdiv a1 32)))) + 1) : Int).toNat ≤ 70368744177664 then (zP.l0 k l0 a1 (List.replicate (wrap64 ((wrap64 ((l0.length : Int) + (wrap64 (Int.tdiv a1 32)))) + 1) : Int).toNat 0) 0) else (none)) else (none))) = some r := h
 clear h
 by_cases c3 : (l0.length : Int) = 0
 ·rw [if_pos c3] at H
  have c3b0 : ((l0.length : Int) == 0) = true := beq_iff_eq.mpr c3
  have c3b1 : ((l0.length : Int) != 0) = false := bne_eq_false_iff_eq.mpr c3
  clear c3
  obtain rfl := Option.some.inj H
  go_enter Try.func103, Try.ntmps103
  go_wp2
  go_ret
  exact ⟨_, by first | rfl | (simp [zq, zp] <;> rfl) | (simp [*, zq, zp] <;> rfl), by first | exact Kd.zaK _ _ _ _ _ | exact Kd.zaP _ _ _ _ _ | exact Kd.zaT _ _ _ _ _ | exact Kd.zaO _ _ _ _ _ | exact Kd.zaS _ _ _ _ _, by repeat (first | (with_reducible first | exact HB.out | apply zc | apply za | apply zb) | exact HB.out)⟩
 ·rw [if_neg c3] at H
  have c3b0 : ((l0.length : Int) == 0) = false := beq_eq_false_iff_ne.mpr c3
  have c3b1 : ((l0.length : Int) != 0) = true := bne_iff_ne.mpr c3
  have c3b2 : ¬ (l0 = []) := fun h_ => c3 (by rw [h_]; rfl)
  obtain ⟨ji4, hji4⟩ : ∃ j_ : Int, (wrap64 ((wrap64 ((l0.length : Int) + (wrap64 (Int.tdiv a1 32)))) + 1)) = j_ := ⟨_, rfl⟩
  replace H : (if 0 ≤ (ji4) then (if (ji4 : Int).toNat ≤ 70368744177664 then (zP.l0 k l0 a1 (List.replicate (ji4 : Int).toNat 0) 0) else (none)) else (none)) = some r := by first | (rw [hji4] at H; exact H) | (simp only [hji4] at H ⊢; exact H)
  have hji4w : (IntKind.i64.wrap ((wrap64 ((l0.length : Int) + (wrap64 (Int.tdiv a1 32)))) + 1)) = ji4 := (zl _).trans hji4
  by_cases c5 : 0 ≤ (ji4)
  ·rw [if_pos c5] at H
   have c5b0 := eq_true c5
   have c5b1 : decide (0 ≤ (ji4)) = true := decide_eq_true c5
   clear c5
   by_cases c6 : (ji4 : Int).toNat ≤ 70368744177664
   ·rw [if_pos c6] at H
    have c6b0 := eq_true c6
    have c6b1 : decide ((ji4 : Int).toNat ≤ 70368744177664) = true := decide_eq_true c6
    clear c6
    obtain ⟨y328, hy328⟩ : ∃ y_ : List Int, y_ = (List.replicate (ji4 : Int).toNat 0) := ⟨_, rfl⟩
    replace H : (zP.l0 k l0 a1 y328 0) = some r := by first | (rw [hy328]; with_reducible exact H) | (have H2_ := (Option.bind_some _ _).symm.trans H; rw [hy328]; with_reducible exact H2_) | (have H2_ := (Option.bind_some _ _).symm.trans H; with_reducible exact H2_) | with_reducible exact H | (rw [hy328]; exact H) | exact H
    have Ny328 := am_ hy328
    clear hy328
    have H' := am_ H
    clear H
    go_enter Try.func103, Try.ntmps103
    go_wp2_with (first | ((with_reducible refine zr (N := 17) rfl ?_); refine Kd.R_make (Kd.int .u32) _ 134 rfl (N := 17) rfl 99 _ _ rfl ji4 rfl rfl Try.underlying99 (.int .u32 0) 4 info134 rfl (by decide) (by omega) 0 (ok := fun _ => True) (okp := fun _ => True) rfl (fun _ hk => hk) trivial (of_decide_eq_true (by first | (with_reducible assumption) | assumption)) (Nat.le_trans (Nat.mul_le_mul_right _ (of_decide_eq_true (by first | (with_reducible assumption) | assumption) : ji4.toNat ≤ 70368744177664)) (by omega)) (Below.refl _ _) (Nat.le_refl _) ?_; intro v329 w7 ho8 hb hg_ hnew_; clear hg_ hnew_; (first | rw [← Ny328.out] at ho8 | (simp only [Int.reduceToNat] at ho8; rw [← Ny328.out] at ho8)); have n0_ := am_ (Kd.zaw ho8 (zk (by repeat (first | (with_reducible first | exact HB.out | apply zc | apply za | apply zb) | exact HB.out)))); have n1_ := am_ (zh (by repeat (first | (with_reducible first | exact HB.out | apply zc | apply za | apply zb) | exact HB.out)) hb); clear HB; have HO330 := n0_; have HB := n1_; clear n0_ n1_; clear hb ho8))
    go_loopg [6] k (fun kq v6 w' => ∃ (x5_1 : List Int) (x6_1 : Int), v6 = .int .i64 x6_1 ∧ Aside0 (zP.l0 kq l0 a1 x5_1 x6_1 = some r) ∧ Aside0 (kq ≤ k) ∧ Aside0 (Kd.R (Kd.int .u32) 134 w' w.heap.size (fun _ => True) v329 x5_1) ∧ Aside0 (Below w.heap.size w w'))
    case atStart => exact ⟨(y328), (0), (by first | rfl | (simp; done) | (simp [*]; done)), H', ⟨Nat.le_refl _⟩, ⟨by (with_reducible repeat (first | apply Kd.zw | apply Kd.zu | apply Kd.zA)); exact HO330.out⟩, ⟨by repeat (first | (with_reducible first | exact HB.out | apply zc | apply za | apply zb) | exact HB.out)⟩⟩
    case round =>
     clear H'
     try clear c1
     try clear p2
     try clear c3
     try clear c3b0
     try clear c3b1
     try clear c3b2
     try clear c5
     try clear c5b0
     try clear c5b1
     try clear c6
     try clear c6b0
     try clear c6b1
     try clear p6
     obtain ⟨x5_1, x6_1, rfl, HA, HK1, HO_5, HB⟩ := hrel
     cases gk with
     | zero => exact absurd HA.out (by simp [zP.l0])
     | succ k1 =>
      have H := HA.out
      clear HA
      simp only [zP.l0] at H
      by_cases c9 : x6_1 < (l0.length : Int)
      ·rw [if_pos c9] at H
       have c9b0 : decide (x6_1 < (l0.length : Int)) = true := decide_eq_true c9
       clear c9
       by_cases c10 : 0 ≤ x6_1
       ·rw [if_pos c10] at H
        have c10b0 : decide (0 ≤ x6_1) = true := decide_eq_true c10
        clear c10
        obtain ⟨ji11, hji11⟩ : ∃ j_ : Int, (Int.tmod a1 32) = j_ := ⟨_, rfl⟩
        replace H : (if 0 ≤ (ji11) then (if 0 ≤ (wrap64 (x6_1 + (wrap64 (Int.tdiv a1 32)))) then (if (wrap64 (x6_1 + (wrap64 (Int.tdiv a1 32)))) < (x5_1.length : Int) then ((some (x5_1.set ((wrap64 (x6_1 + (wrap64 (Int.tdiv a1 32)))) : Int).toNat (Go.bits .or .u32 (rd x5_1 (wrap64 (x6_1 + (wrap64 (Int.tdiv a1 32))))) ((shl .u64 (IntKind.u64.wrap (rd l0 x6_1)) (ji11)) % 4294967296)) : List Int)).bind fun y333 => (if 0 ≤ (wrap64 ((wrap64 (x6_1 + (wrap64 (Int.tdiv a1 32)))) + 1)) then (if (wrap64 ((wrap64 (x6_1 + (wrap64 (Int.tdiv a1 32)))) + 1)) < (x5_1.length : Int) then (zP.l0 k1 l0 a1 (y333.set ((wrap64 ((wrap64 (x6_1 + (wrap64 (Int.tdiv a1 32)))) + 1)) : Int).toNat (Go.bits .or .u32 (rd y333 (wrap64 ((wrap64 (x6_1 + (wrap64 (Int.tdiv a1 32)))) + 1))) (((shl .u64 (IntKind.u64.wrap (rd l0 x6_1)) (ji11)) / 4294967296) % 4294967296))) (wrap64 (x6_1 + 1))) else (none)) else (none))) else (none)) else (none)) else (none)) = some r := by first | (rw [hji11] at H; exact H) | (simp only [hji11] at H ⊢; exact H)
        by_cases c12 : 0 ≤ (ji11)
        ·rw [if_pos c12] at H
         have c12b0 := eq_true c12
         have c12b1 : decide (0 ≤ (ji11)) = true := decide_eq_true c12
         clear c12
         obtain ⟨ji13, hji13⟩ : ∃ j_ : Int, (shl .u64 (IntKind.u64.wrap (rd l0 x6_1)) (ji11)) = j_ := ⟨_, rfl⟩
         replace H : (if 0 ≤ (wrap64 (x6_1 + (wrap64 (Int.tdiv a1 32)))) then (if (wrap64 (x6_1 + (wrap64 (Int.tdiv a1 32)))) < (x5_1.length : Int) then ((some (x5_1.set ((wrap64 (x6_1 + (wrap64 (Int.tdiv a1 32)))) : Int).toNat (Go.bits .or .u32 (rd x5_1 (wrap64 (x6_1 + (wrap64 (Int.tdiv a1 32))))) ((ji13) % 4294967296)) : List Int)).bind fun y333 => (if 0 ≤ (wrap64 ((wrap64 (x6_1 + (wrap64 (Int.tdiv a1 32)))) + 1)) then (if (wrap64 ((wrap64 (x6_1 + (wrap64 (Int.tdiv a1 32)))) + 1)) < (x5_1.length : Int) then (zP.l0 k1 l0 a1 (y333.set ((wrap64 ((wrap64 (x6_1 + (wrap64 (Int.tdiv a1 32)))) + 1)) : Int).toNat (Go.bits .or .u32 (rd y333 (wrap64 ((wrap64 (x6_1 + (wrap64 (Int.tdiv a1 32)))) + 1))) (((ji13) / 4294967296) % 4294967296))) (wrap64 (x6_1 + 1))) else (none)) else (none))) else (none)) else (none)) = some r := by first | (rw [hji13] at H; exact H) | (simp only [hji13] at H ⊢; exact H)
         have hji13_ : (IntKind.u64.wrap ((IntKind.u64.wrap (rd l0 x6_1)) * 2 ^ min (ji11).toNat 64)) = ji13 := hji13
         have hji13z : (ji11) ≤ 64 → (IntKind.u64.wrap ((IntKind.u64.wrap (rd l0 x6_1)) * 2 ^ (ji11).toNat)) = ji13 := shl_small hji13
         obtain ⟨ji14, hji14⟩ : ∃ j_ : Int, (wrap64 (x6_1 + (wrap64 (Int.tdiv a1 32)))) = j_ := ⟨_, rfl⟩
         replace H : (if 0 ≤ (ji14) then (if (ji14) < (x5_1.length : Int) then ((some (x5_1.set ((ji14) : Int).toNat (Go.bits .or .u32 (rd x5_1 (ji14)) ((ji13) % 4294967296)) : List Int)).bind fun y333 => (if 0 ≤ (wrap64 ((ji14) + 1)) then (if (wrap64 ((ji14) + 1)) < (x5_1.length : Int) then (zP.l0 k1 l0 a1 (y333.set ((wrap64 ((ji14) + 1)) : Int).toNat (Go.bits .or .u32 (rd y333 (wrap64 ((ji14) + 1))) (((ji13) / 4294967296) % 4294967296))) (wrap64 (x6_1 + 1))) else (none)) else (none))) else (none)) else (none)) = some r := by first | (rw [hji14] at H; exact H) | (simp only [hji14] at H ⊢; exact H)
         have hji14w : (IntKind.i64.wrap (x6_1 + (wrap64 (Int.tdiv a1 32)))) = ji14 := (zl _).trans hji14
         by_cases c15 : 0 ≤ (ji14)
         ·rw [if_pos c15] at H
          have c15b0 : decide (0 ≤ (ji14)) = true := decide_eq_true c15
          clear c15
          by_cases c16 : (ji14) < (x5_1.length : Int)
          ·rw [if_pos c16] at H
           have c16b0 : decide ((ji14) < (x5_1.length : Int)) = true := decide_eq_true c16
           clear c16
           obtain ⟨y333, hy333⟩ : ∃ y_ : List Int, y_ = (x5_1.set ((ji14) : Int).toNat (Go.bits .or .u32 (rd x5_1 (ji14)) ((ji13) % 4294967296))) := ⟨_, rfl⟩
           replace H : (if 0 ≤ (wrap64 ((ji14) + 1)) then (if (wrap64 ((ji14) + 1)) < (x5_1.length : Int) then (zP.l0 k1 l0 a1 (y333.set ((wrap64 ((ji14) + 1)) : Int).toNat (Go.bits .or .u32 (rd y333 (wrap64 ((ji14) + 1))) (((ji13) / 4294967296) % 4294967296))) (wrap64 (x6_1 + 1))) else (none)) else (none)) = some r := by first | (rw [hy333]; with_reducible exact H) | (have H2_ := (Option.bind_some _ _).symm.trans H; rw [hy333]; with_reducible exact H2_) | (have H2_ := (Option.bind_some _ _).symm.trans H; with_reducible exact H2_) | with_reducible exact H | (rw [hy333]; exact H) | exact H
           have Ny333 := am_ hy333
           clear hy333
           obtain ⟨ji18, hji18⟩ : ∃ j_ : Int, (wrap64 ((ji14) + 1)) = j_ := ⟨_, rfl⟩
           replace H : (if 0 ≤ (ji18) then (if (ji18) < (x5_1.length : Int) then (zP.l0 k1 l0 a1 (y333.set ((ji18) : Int).toNat (Go.bits .or .u32 (rd y333 (ji18)) (((ji13) / 4294967296) % 4294967296))) (wrap64 (x6_1 + 1))) else (none)) else (none)) = some r := by first | (rw [hji18] at H; exact H) | (simp only [hji18] at H ⊢; exact H)
           have hji18w : (IntKind.i64.wrap ((ji14) + 1)) = ji18 := (zl _).trans hji18
           by_cases c19 : 0 ≤ (ji18)
           ·rw [if_pos c19] at H
            have c19b0 : decide (0 ≤ (ji18)) = true := decide_eq_true c19
            clear c19
            by_cases c20 : (ji18) < (x5_1.length : Int)
            ·rw [if_pos c20] at H
             have c20b0 : decide ((ji18) < (x5_1.length : Int)) = true := decide_eq_true c20
             clear c20
             obtain ⟨y335, hy335⟩ : ∃ y_ : List Int, y_ = (y333.set ((ji18) : Int).toNat (Go.bits .or .u32 (rd y333 (ji18)) (((ji13) / 4294967296) % 4294967296))) := ⟨_, rfl⟩
             replace H : (zP.l0 k1 l0 a1 y335 (wrap64 (x6_1 + 1))) = some r := by first | (rw [hy335]; with_reducible exact H) | (have H2_ := (Option.bind_some _ _).symm.trans H; rw [hy335]; with_reducible exact H2_) | (have H2_ := (Option.bind_some _ _).symm.trans H; with_reducible exact H2_) | with_reducible exact H | (rw [hy335]; exact H) | exact H
             have Ny335 := am_ hy335
             clear hy335
             have H' := am_ H
             clear H
             have p331 : 0 ≤ (x6_1 : Int) := of_decide_eq_true (by first | (with_reducible assumption) | assumption)
             have q331 : x6_1 < (l0.length : Int) := of_decide_eq_true (by first | (with_reducible assumption) | assumption)
             obtain ⟨ad331, e331, hx331_0⟩ := Kd.z3 HR0.out x6_1 p331 q331
             cases e331
             replace hx331_0 := (HB.out.cell (World.block_lt_of_cell? w _ hx331_0)).trans hx331_0
             replace p331 := eq_true p331
             replace q331 := eq_true q331
             obtain ⟨Ao22, co22, eo22⟩ := Kd.zad HO_5.out
             subst eo22
             have p332 : 0 ≤ ((ji14) : Int) := of_decide_eq_true (by first | (with_reducible assumption) | assumption)
             have q332 : (ji14) < (x5_1.length : Int) := of_decide_eq_true (by first | (with_reducible assumption) | assumption)
             obtain ⟨ad332, e332, hx332_0⟩ := Kd.z3 (Kd.z9 HO_5.out).2.2 (ji14) p332 q332
             cases e332
             replace p332 := eq_true p332
             replace q332 := eq_true q332
             have p17 : 0 ≤ ((ji14) : Int) := of_decide_eq_true (by first | (with_reducible assumption) | assumption)
             have q17 : ((ji14) : Int) < ((x5_1.length : Int) : Int) := of_decide_eq_true (by first | (with_reducible assumption) | assumption)
             obtain ⟨go17, co17, eo17, gb17, gl17, cl17, HG17⟩ := Kd.R_form HO_5.out (by omega)
             (first | cases eo17 | (injection eo17 with ea_ en_ ec_; (first | subst ea_ | (injection ea_ with ea_; subst ea_)); subst ec_; clear en_))
             have GB17 := am_ gb17
             have GG17 := am_ HG17
             clear gb17 gl17 HG17
             (first | simp only [add_plain] at hx332_0 | skip)
             obtain ⟨hx17_0, hf17_0⟩ := Kd.zaQ 0 HO_5.out ((ji14) : Int) p17 q17
             replace p17 := eq_true p17
             replace q17 := eq_true q17
             have HP23 := Kd.R_putg HO_5.out ((ji14) : Int) (Go.bits .or .u32 (rd x5_1 (ji14)) ((ji13) % 4294967296))
             go_wp2_with (first | ((with_reducible refine zJ (t := 134) (p := 47) rfl ?_); refine zat (t := 134) (p := 47) (v := ?vo_w24) (w1 := (wr.setCell ⟨go17, ((ji14) : Int).toNat, none⟩ (.int .u32 (Go.bits .or .u32 (rd x5_1 (ji14)) ((ji13) % 4294967296))))) ?hg ?ho ?hn ?hr ?_; (case ho => rfl); (case hg => rfl); (case hn => rfl); (case hr => first | (go_simp; done) | (go_simp; rfl)); intro w24 hw; have hg : wr.grownBy w24 (some go17) := (by rw [hw]; exact HP23.2); have hp_ : Kd.R (Kd.int .u32) 134 w24 w.heap.size (fun _ => True) (.slice (some ⟨go17, 0, none⟩) x5_1.length co22) y333 := (by rw [hw, Ny333.out]; exact HP23.1); clear HP23; have n0_ := am_ (hp_); have n1_ := am_ ((by rw [hw]; exact zf (HB.out) GB17.out : Below w.heap.size w w24)); clear HO_5; clear HB; have HO_5 := n0_; have HB := n1_; clear n0_ n1_; clear hg hw hp_; have p334 : 0 ≤ ((ji18) : Int) := of_decide_eq_true (by first | (with_reducible assumption) | assumption); have q334 : (ji18) < (y333.length : Int) := (by have h_ : ((ji18) : Int) < ((x5_1.length : Int) : Int) := of_decide_eq_true (by first | (with_reducible assumption) | assumption); first | (have e_ := (Kd.z9 HO_5.out).1; omega) | simpa only [Ny333.out, List.length_set] using h_); have ql334 : (((ji18) : Int) < ((x5_1.length : Int) : Int)) = True := eq_true (of_decide_eq_true (by first | (with_reducible assumption) | assumption)); obtain ⟨ad334, e334, hx334_0⟩ := Kd.z3 (Kd.z9 HO_5.out).2.2 (ji18) p334 q334; obtain rfl : (⟨go17, 0, none⟩ : Addr) = ad334 := (by injection e334); (first | simp only [add_plain] at hx334_0 | simp only [add_at] at hx334_0 | simp only [Addr.add, Nat.zero_add] at hx334_0 | skip); replace p334 := eq_true p334; replace q334 := eq_true q334; have p21 : 0 ≤ ((ji18) : Int) := of_decide_eq_true (by first | (with_reducible assumption) | assumption); have q21 : ((ji18) : Int) < ((x5_1.length : Int) : Int) := of_decide_eq_true (by first | (with_reducible assumption) | assumption); obtain ⟨hx21_0, hf21_0⟩ := Kd.zaQ 0 HO_5.out ((ji18) : Int) p21 q21; replace p21 := eq_true p21; replace q21 := eq_true q21; obtain ⟨hy25_, hz25_⟩ := Kd.zaQ 0 HO_5.out ((ji18) : Int) (of_decide_eq_true (by first | (with_reducible assumption) | assumption)) (of_decide_eq_true (by first | (with_reducible assumption) | assumption)); have HP25 := Kd.R_putg HO_5.out ((ji18) : Int) (Go.bits .or .u32 (rd y333 (ji18)) (((ji13) / 4294967296) % 4294967296))) | ((with_reducible refine zJ (t := 134) (p := 66) rfl ?_); refine zat (t := 134) (p := 66) (v := ?vo_w26) (w1 := (w24.setCell ⟨go17, ((ji18) : Int).toNat, none⟩ (.int .u32 (Go.bits .or .u32 (rd y333 (ji18)) (((ji13) / 4294967296) % 4294967296))))) ?hg ?ho ?hn ?hr ?_; (case ho => rfl); (case hg => rfl); (case hn => rfl); (case hr => first | (go_simp; done) | (go_simp; rfl)); intro w26 hw; have hg : w24.grownBy w26 (some go17) := (by rw [hw]; exact HP25.2); have hp_ : Kd.R (Kd.int .u32) 134 w26 w.heap.size (fun _ => True) (.slice (some ⟨go17, 0, none⟩) x5_1.length co22) y335 := (by rw [hw, Ny335.out]; exact HP25.1); clear HP25; have n0_ := am_ (hp_); have n1_ := am_ ((by rw [hw]; exact zf (HB.out) GB17.out : Below w.heap.size w w26)); clear HO_5; clear HB; have HO_5 := n0_; have HB := n1_; clear n0_ n1_; clear hg hw hp_))
             go_roundg k1
             case measure => have := HK1.out; omega
             case rel => exact ⟨(y335), (wrap64 (x6_1 + 1)), (by first | rfl | (simp; done) | (simp [*]; done)), H', ⟨by have := HK1.out; omega⟩, ⟨by (with_reducible repeat (first | apply Kd.zw | apply Kd.zu | apply Kd.zA)); exact HO_5.out⟩, ⟨by repeat (first | (with_reducible first | exact HB.out | apply zc | apply za | apply zb) | exact HB.out)⟩⟩
            ·rw [if_neg c20] at H
             exact absurd H (by simp)
           ·rw [if_neg c19] at H
            exact absurd H (by simp)
          ·rw [if_neg c16] at H
           exact absurd H (by simp)
         ·rw [if_neg c15] at H
          exact absurd H (by simp)
        ·rw [if_neg c12] at H
         exact absurd H (by simp)
       ·rw [if_neg c10] at H
        exact absurd H (by simp)
      ·rw [if_neg c9] at H
       have c9b0 : decide (x6_1 < (l0.length : Int)) = false := decide_eq_false c9
       clear c9
       replace H := Option.bind_eq_some_iff.mp H
       obtain ⟨t336, A270, H⟩ := H
       replace H : (some t336) = some r := H
       have A27 := am_ A270
       clear A270
       obtain rfl := Option.some.inj H
       obtain ⟨Ao28, co28, eo28⟩ := Kd.zad HO_5.out
       subst eo28
       go_wp2_with (first | ((with_reducible refine zV (f := 69) rfl ?_); refine zaF (some 68) rfl rfl Try.func69 (by kernel_rfl) rfl #[.slice Ao28 x5_1.length co28] rfl (by (try simp only [List.map_toArray, List.map_cons, List.map_nil]); first | done | rfl | (simp only [List.length_drop, List.length_take]; rfl)) ?_; (with_reducible refine (zI.calls k1 (fun k_ => some k_ = (.slice Ao28 x5_1.length co28 : Value).ownBlock) (.slice Ao28 x5_1.length co28) x5_1 t336 w _ ?side1 ?side2 A27.out).mono ?_); (case side1 => repeat (first | (with_reducible first | exact HB.out | apply zc | apply za | apply zb) | exact HB.out)); (case side2 => exact Kd.R_tight rfl HO_5.out); rintro e w29 ⟨v337, rfl, ho0, hb, hkp⟩; refine ⟨_, rfl, ?_⟩; have n0_ := am_ (Kd.zN (ok' := fun k_ => True) ho0 (fun k_ hk_ => trivial)); have n1_ := am_ (hb); clear HB; clear HO_5; have HO338 := n0_; have HB := n1_; clear n0_ n1_; (try clear hb); (try clear hkp); (try clear ho0)))
       go_ret
       exact ⟨_, by first | rfl | (simp [zq, zp] <;> rfl) | (simp only [← hji4]; first | rfl | (simp [zq, zp] <;> rfl)) | (simp [*, zq, zp] <;> rfl), by (with_reducible repeat (first | apply Kd.zw | apply Kd.zu | apply Kd.zA)); exact HO338.out, by repeat (first | (with_reducible first | exact HB.out | apply zc | apply za | apply zb) | exact HB.out)⟩
   ·rw [if_neg c6] at H
    exact absurd H (by simp)
  ·rw [if_neg c5] at H
   exact absurd H (by simp)
end Go.Proofs.Ytlidbaejhmamjaa.PB

namespace Go.Proofs.Ytlidbaejhmamjaa.NW
open Go.RowKit Go.Proofs.YtlidbaejhmamjaaW.PrintWords Go.Proofs.YtlidbaejhmamjaaW.PrintLast Go.Proofs.YtlidbaejhmamjaaW.PrintMore Go.Proofs.Ytlidbaejhmamjaa.PB Go.Proofs.Ytlidbaejhmamjaa.LA Go.Proofs.Ytlidbaejhmamjaa.AC
set_option linter.unusedVariables false
set_option linter.unusedSimpArgs false
def nv : List Int → Int
 | [] => 0
 | x :: xs => x + 4294967296 * nv xs
def U32 (l : List Int) : Prop := ∀ x, x ∈ l → 0 ≤ x ∧ x < 4294967296
def B (i : Nat) : Int := 2 ^ (32 * i)
theorem B_zero : B 0 = 1 := rfl
theorem B_succ (i : Nat) : B (i + 1) = 4294967296 * B i := by
 unfold B
 rw [show 32 * (i + 1) = 32 + 32 * i by omega, Int.pow_add]
 rfl
theorem B_pos (i : Nat) : 0 < B i := Int.pow_pos (by decide)
theorem B_mono {i j : Nat} (h : i ≤ j) : B i ≤ B j := pow_le' (by omega)
theorem nv_append : ∀ a b : List Int, nv (a ++ b) = nv a + B a.length * nv b
 | [], b => by simp [nv, B_zero]
 | x :: a, b => by
  have ih := nv_append a b
  simp only [List.cons_append, nv, List.length_cons, ih, B_succ]
  rw [Int.mul_add, Int.mul_assoc]
  omega
theorem nv_zeros : ∀ n : Nat, nv (List.replicate n 0) = 0
 | 0 => rfl
 | n + 1 => by rw [List.replicate_succ]; simp only [nv, nv_zeros n]; rfl
theorem nv_one (x : Int) : nv [x] = x := by simp [nv]
theorem nv_snoc (l : List Int) (x : Int) : nv (l ++ [x]) = nv l + B l.length * x := by rw [nv_append, nv_one]
theorem nv_take (l : List Int) (i : Nat) (h : i < l.length) : nv (l.take (i + 1)) = nv (l.take i) + B i * rd l (i : Nat) := by
 rw [List.take_add_one, List.getElem?_eq_getElem h, Option.toList_some, nv_snoc, List.length_take, Nat.min_eq_left (by omega)]
 simp [rd, h]
theorem nv_bound : ∀ l : List Int, U32 l → 0 ≤ nv l ∧ nv l < B l.length
 | [], _ => by simp [nv, B_zero]
 | x :: l, h => by
  have hx := h x (by simp)
  have ih := nv_bound l (fun y hy => h y (by simp [hy]))
  simp only [nv, List.length_cons, B_succ]
  generalize B l.length = P at *
  omega
theorem u32_rd {l : List Int} (h : U32 l) (i : Nat) (hi : i < l.length) : 0 ≤ rd l (i : Int) ∧ rd l (i : Int) < 4294967296 := by
 have : rd l (i : Int) = l[i] := by simp [rd, hi]
 rw [this]
 exact h _ (List.getElem_mem hi)
theorem U32.snoc {l : List Int} (h : U32 l) {x : Int} (h0 : 0 ≤ x) (h1 : x < 4294967296) : U32 (l ++ [x]) := by
 intro y hy
 simp at hy
 rcases hy with hy | rfl
 ·exact h y hy
 ·exact ⟨h0, h1⟩
theorem U32.take {l : List Int} (h : U32 l) (i : Nat) : U32 (l.take i) := fun x hx => h x (List.mem_of_mem_take hx)
theorem U32.zeros (n : Nat) : U32 (List.replicate n 0) := fun x hx => by
 obtain ⟨_, rfl⟩ := List.mem_replicate.1 hx
 decide
/-- Its last word is not 0. -/
def Tr (l : List Int) : Prop := ∀ i : Nat, i + 1 = l.length → rd l (i : Nat) ≠ 0
theorem set_at (ds : List Int) (m i : Nat) (v : Int) (h : ds.length = i) : (ds ++ List.replicate (m + 1) 0).set i v = (ds ++ [v]) ++ List.replicate m 0 := by
 subst h
 rw [List.replicate_succ, List.set_append_right _ _ (Nat.le_refl _), Nat.sub_self, s0_, List.append_assoc]
 rfl
theorem trim_ev (l : List Int) (hu : U32 l) (hn : l.length ≤ 100000000) : ∃ t, EvS (fun k => zI.f k l) t ∧ nv t = nv l ∧ U32 t ∧ Tr t ∧ t.length ≤ l.length := by
 unfold zI.f
 have key : ∀ i : Nat, i ≤ l.length → nv (l.take i) = nv l → ∃ t, EvS (fun k => zI.l0 k l (i : Int)) t ∧ nv t = nv l ∧ U32 t ∧ Tr t ∧ t.length ≤ l.length := by
  intro i
  induction i with
  | zero =>
   intro _ h
   refine ⟨[], EvS.done fun k => ?_, h ▸ rfl, fun x hx => by simp at hx, fun i hi => by simp at hi, by simp⟩
   simp only [zI.l0]
   rw [if_neg (by omega), if_pos (by omega), if_pos (by omega)]
   rfl
  | succ i ih =>
   intro hi h
   have e : wrap64 (((i + 1 : Nat) : Int) - 1) = (i : Int) := by rw [w64 _ (by omega) (by omega)]; omega
   by_cases hz : rd l (i : Int) = 0
   ·have h2 := nv_take l i (by omega)
    rw [hz, Int.mul_zero, Int.add_zero, h] at h2
    obtain ⟨t, ht, r⟩ := ih (by omega) h2.symm
    refine ⟨t, EvS.succ (fun k => ?_) ht, r⟩
    simp only [zI.l0]
    rw [if_pos (by omega), e, if_pos (by omega), if_pos (by omega), if_pos hz]
   ·refine ⟨l.take (i + 1), EvS.done fun k => ?_, h, hu.take _, fun j hj => ?_, by rw [List.length_take]; omega⟩
    ·simp only [zI.l0]
     rw [if_pos (by omega), e, if_pos (by omega), if_pos (by omega), if_neg hz, if_pos (by omega), if_pos (by omega), Int.toNat_natCast]
    ·rw [List.length_take, Nat.min_eq_left hi] at hj
     obtain rfl : j = i := by omega
     intro h0
     apply hz
     rw [← h0]
     simp [rd, List.getElem?_take]
 exact key l.length (Nat.le_refl _) (by rw [List.take_length])
theorem u64_id (x : Int) (h0 : 0 ≤ x) (h1 : x < 18446744073709551616) : IntKind.u64.wrap x = x := wraps_u64 x h0 (by
 have : (2 : Int) ^ 64 = 18446744073709551616 := by decide
 omega)
end Go.Proofs.Ytlidbaejhmamjaa.NW

namespace Go.Proofs.Ytlidbaejhmamjaa.NW
open Go.RowKit Go.Proofs.YtlidbaejhmamjaaW.PrintWords Go.Proofs.YtlidbaejhmamjaaW.PrintLast Go.Proofs.YtlidbaejhmamjaaW.PrintMore Go.Proofs.Ytlidbaejhmamjaa.PB Go.Proofs.Ytlidbaejhmamjaa.LA Go.Proofs.Ytlidbaejhmamjaa.AC
set_option linter.unusedVariables false
set_option linter.unusedSimpArgs false
theorem plus_core (a b : List Int) (ha : U32 a) (hb : U32 b) (hl : b.length ≤ a.length) (hn : a.length ≤ 10000000) :
  ∃ t, EvS (fun k => zM.j0 k a b) t ∧ nv t = nv a + nv b ∧ U32 t ∧ Tr t ∧ t.length ≤ a.length + 1 := by
 have key : ∀ (m i : Nat) (ds : List Int) (c : Int), a.length = i + m → ds.length = i → U32 ds → 0 ≤ c → c < 4294967296 → nv ds + B i * c = nv (a.take i) + nv (b.take i) →
   ∃ t, EvS (fun k => zM.l0 k a b (ds ++ List.replicate (m + 1) 0) c (i : Int)) t ∧ nv t = nv a + nv b ∧ U32 t ∧ Tr t ∧ t.length ≤ a.length + 1 := by
  intro m
  induction m with
  | zero =>
   intro i ds c e hd hu c0 c1 h
   obtain ⟨t, ht, r0, r1, r2, r3⟩ := trim_ev (ds ++ [c]) (hu.snoc c0 c1) (by simp; omega)
   have e1 : a.take i = a := List.take_of_length_le (by omega)
   have e2 : b.take i = b := List.take_of_length_le (by omega)
   rw [e1, e2] at h
   refine ⟨t, ?_, by rw [r0, nv_snoc, hd]; exact h, r1, r2, by simp at r3; omega⟩
   have hs := set_at ds 0 i c hd
   rw [show (0 : Nat) + 1 = 1 from rfl] at *
   refine EvS.succ (G := fun k => (zI.f k (ds ++ [c])).bind fun t355 => some t355) (fun k => ?_) (EvS.bind ht (EvS.pure _))
   simp only [zM.l0]
   rw [if_neg (by omega), if_pos (by omega), if_pos (by simp; omega), Int.emod_eq_of_lt c0 c1, Int.toNat_natCast, show a.length = i by omega, hs, List.replicate_zero, List.append_nil]
  | succ m ih =>
   intro i ds c e hd hu c0 c1 h
   have hx := u32_rd ha i (by omega)
   have ta := nv_take a i (by omega)
   by_cases hi : i < b.length
   ·have hy := u32_rd hb i hi
    have tb := nv_take b i hi
    obtain ⟨v, hv⟩ : ∃ v, v = c + rd a (i : Int) + rd b (i : Int) := ⟨_, rfl⟩
    have v1 : 0 ≤ v % 4294967296 ∧ v % 4294967296 < 4294967296 := by omega
    have v2 : v = v % 4294967296 + 4294967296 * (v / 4294967296) := by omega
    obtain ⟨t, ht, r⟩ := ih (i + 1) (ds ++ [v % 4294967296]) (v / 4294967296) (by omega) (by simp; omega) (hu.snoc v1.1 v1.2) (by omega) (by omega) (by
     rw [nv_snoc, hd, B_succ, ta, tb, Int.mul_comm 4294967296, Int.mul_assoc, Int.add_assoc, ← Int.mul_add, ← v2, hv, Int.mul_add, Int.mul_add]
     omega)
    refine ⟨t, EvS.succ (fun k => ?_) ht, r⟩
    simp only [zM.l0]
    rw [if_pos (by omega), if_pos (by omega), if_pos (by omega), if_pos (by simp; omega), u64_id (rd a (i : Int)) (by omega) (by omega), u64_id (rd b (i : Int)) (by omega) (by omega), u64_id (c + rd a (i : Int)) (by omega) (by omega), u64_id (c + rd a (i : Int) + rd b (i : Int)) (by omega) (by omega), ← hv, wnext i (by omega), Int.toNat_natCast, set_at ds (m + 1) i _ hd]
   ·obtain ⟨v, hv⟩ : ∃ v, v = c + rd a (i : Int) := ⟨_, rfl⟩
    have v1 : 0 ≤ v % 4294967296 ∧ v % 4294967296 < 4294967296 := by omega
    have v2 : v = v % 4294967296 + 4294967296 * (v / 4294967296) := by omega
    have e2 : b.take i = b := List.take_of_length_le (by omega)
    have e3 : b.take (i + 1) = b := List.take_of_length_le (by omega)
    rw [e2] at h
    obtain ⟨t, ht, r⟩ := ih (i + 1) (ds ++ [v % 4294967296]) (v / 4294967296) (by omega) (by simp; omega) (hu.snoc v1.1 v1.2) (by omega) (by omega) (by
     rw [nv_snoc, hd, B_succ, ta, e3, Int.mul_comm 4294967296, Int.mul_assoc, Int.add_assoc, ← Int.mul_add, ← v2, hv, Int.mul_add]
     omega)
    refine ⟨t, EvS.succ (fun k => ?_) ht, r⟩
    simp only [zM.l0]
    rw [if_pos (by omega), if_pos (by omega), if_neg (by omega), if_pos (by simp; omega), u64_id (rd a (i : Int)) (by omega) (by omega), u64_id (c + rd a (i : Int)) (by omega) (by omega), ← hv, wnext i (by omega), Int.toNat_natCast, set_at ds (m + 1) i _ hd]
 obtain ⟨t, ht, r⟩ := key a.length 0 [] 0 (by omega) rfl (fun x hx => by simp at hx) (by omega) (by omega) (by simp [nv])
 refine ⟨t, EvS.succ (fun k => ?_) ht, r⟩
 simp only [zM.j0]
 rw [w64 _ (by omega) (by omega), if_pos (by omega), show (((a.length : Int) + 1).toNat) = a.length + 1 by omega, if_pos (by omega)]
 rfl
theorem plus_ev (a b : List Int) (ha : U32 a) (hb : U32 b) (hn : a.length ≤ 10000000) (hm : b.length ≤ 10000000) :
  ∃ t, EvS (fun k => zM.f k a b) t ∧ nv t = nv a + nv b ∧ U32 t ∧ Tr t ∧ t.length ≤ max a.length b.length + 1 := by
 by_cases h : a.length < b.length
 ·obtain ⟨t, ht, r0, r1, r2, r3⟩ := plus_core b a hb ha (by omega) hm
  exact ⟨t, EvS.of (fun k => by unfold zM.f; rw [if_pos (by omega)]) ht, by omega, r1, r2, by omega⟩
 ·obtain ⟨t, ht, r0, r1, r2, r3⟩ := plus_core a b ha hb (by omega) hn
  exact ⟨t, EvS.of (fun k => by unfold zM.f; rw [if_neg (by omega)]) ht, by omega, r1, r2, by omega⟩
theorem tr_pos {a : List Int} (h : U32 a) (ht : Tr a) (hn : 0 < a.length) : B (a.length - 1) ≤ nv a := by
 have h1 := nv_take a (a.length - 1) (by omega)
 rw [show a.length - 1 + 1 = a.length by omega, List.take_length] at h1
 have h2 := ht (a.length - 1) (by omega)
 have h3 := u32_rd h (a.length - 1) (by omega)
 have h4 := (nv_bound _ (h.take (a.length - 1))).1
 have h5 : B (a.length - 1) * 1 ≤ B (a.length - 1) * rd a ((a.length - 1 : Nat) : Int) := Int.mul_le_mul_of_nonneg_left (by omega) (Int.le_of_lt (B_pos _))
 omega
theorem nv_pos {a : List Int} (h : U32 a) (ht : Tr a) (hn : 0 < a.length) : 0 < nv a := by
 have := tr_pos h ht hn
 have := B_pos (a.length - 1)
 omega
theorem len_le {a b : List Int} (ha : U32 a) (hb : U32 b) (ht : Tr b) (h : nv b ≤ nv a) : b.length ≤ a.length := by
 apply Classical.byContradiction
 intro hc
 have h1 := tr_pos hb ht (by omega)
 have h2 := (nv_bound a ha).2
 have h3 := B_mono (show a.length ≤ b.length - 1 by omega)
 omega
theorem minus_ev (a b : List Int) (ha : U32 a) (hb : U32 b) (hl : b.length ≤ a.length) (hv : nv b ≤ nv a) (hn : a.length ≤ 10000000) :
  ∃ t, EvS (fun k => zO.f k a b) t ∧ nv t = nv a - nv b ∧ U32 t ∧ Tr t ∧ t.length ≤ a.length := by
 have key : ∀ (m i : Nat) (ds : List Int) (c : Int), a.length = i + m → ds.length = i → U32 ds → 0 ≤ c → c ≤ 1 → nv ds - B i * c = nv (a.take i) - nv (b.take i) →
   ∃ t, EvS (fun k => zO.l0 k a b (ds ++ List.replicate m 0) c (i : Int)) t ∧ nv t = nv a - nv b ∧ U32 t ∧ Tr t ∧ t.length ≤ a.length := by
  intro m
  induction m with
  | zero =>
   intro i ds c e hd hu c0 c1 h
   obtain ⟨t, ht, r0, r1, r2, r3⟩ := trim_ev ds hu (by omega)
   have e1 : a.take i = a := List.take_of_length_le (by omega)
   have e2 : b.take i = b := List.take_of_length_le (by omega)
   rw [e1, e2] at h
   have hb2 := nv_bound ds hu
   rw [hd] at hb2
   have hc : c = 0 := by
    apply Classical.byContradiction
    intro hc
    obtain rfl : c = 1 := by omega
    omega
   subst hc
   refine ⟨t, ?_, by omega, r1, r2, by omega⟩
   refine EvS.succ (G := fun k => (zI.f k ds).bind fun t365 => some t365) (fun k => ?_) (EvS.bind ht (EvS.pure _))
   simp only [zO.l0]
   rw [if_neg (by omega), List.replicate_zero, List.append_nil]
  | succ m ih =>
   intro i ds c e hd hu c0 c1 h
   have hx := u32_rd ha i (by omega)
   have ta := nv_take a i (by omega)
   have step : ∀ (y : Int), 0 ≤ y → y < 4294967296 → nv (b.take (i + 1)) = nv (b.take i) + B i * y → ∃ (v c' : Int), v = (if rd a (i : Int) < c + y then rd a (i : Int) + 4294967296 - (c + y) else rd a (i : Int) - (c + y)) ∧ c' = (if rd a (i : Int) < c + y then 1 else 0) ∧ 0 ≤ v ∧ v < 4294967296 ∧ 
     (∃ t, EvS (fun k => zO.l0 k a b (ds ++ [v] ++ List.replicate m 0) c' ((i + 1 : Nat) : Int)) t ∧ nv t = nv a - nv b ∧ U32 t ∧ Tr t ∧ t.length ≤ a.length) := by
    intro y y0 y1 tb
    refine ⟨_, _, rfl, rfl, by split <;> omega, by split <;> omega, ?_⟩
    obtain ⟨v, hv⟩ : ∃ v, v = (if rd a (i : Int) < c + y then rd a (i : Int) + 4294967296 - (c + y) else rd a (i : Int) - (c + y)) := ⟨_, rfl⟩
    obtain ⟨c', hc'⟩ : ∃ c' : Int, c' = (if rd a (i : Int) < c + y then 1 else 0) := ⟨_, rfl⟩
    rw [← hv, ← hc']
    have v1 : 0 ≤ v ∧ v < 4294967296 := by rw [hv]; split <;> omega
    have v2 : v - 4294967296 * c' = rd a (i : Int) - c - y := by rw [hv, hc']; split <;> omega
    refine ih (i + 1) (ds ++ [v]) c' (by omega) (by simp; omega) (hu.snoc v1.1 v1.2) (by rw [hc']; split <;> omega) (by rw [hc']; split <;> omega) ?_
    rw [nv_snoc, hd, B_succ, ta, tb, Int.mul_comm 4294967296, Int.mul_assoc]
    have v3 : B i * v - B i * (4294967296 * c') = B i * rd a (i : Int) - B i * c - B i * y := by rw [← Int.mul_sub, v2, Int.mul_sub, Int.mul_sub]
    omega
   by_cases hi : i < b.length
   ·have hy := u32_rd hb i hi
    obtain ⟨v, c', hv, hc', v0, v1, t, ht, r⟩ := step (rd b (i : Int)) hy.1 hy.2 (nv_take b i hi)
    refine ⟨t, EvS.succ (fun k => ?_) ht, r⟩
    simp only [zO.l0]
    rw [if_pos (by omega), if_pos (by omega), if_pos (by omega), u64_id (rd a (i : Int)) (by omega) (by omega), u64_id (rd b (i : Int)) (by omega) (by omega), u64_id (c + rd b (i : Int)) (by omega) (by omega)]
    by_cases hlt : rd a (i : Int) < c + rd b (i : Int)
    ·rw [if_pos hlt] at hv hc' ⊢
     subst hc'
     rw [if_pos (by simp; omega), u64_id (rd a (i : Int) + 4294967296) (by omega) (by omega), u64_id _ (by omega) (by omega), ← hv, Int.emod_eq_of_lt v0 v1, wnext i (by omega), Int.toNat_natCast, set_at ds m i _ hd]
    ·rw [if_neg hlt] at hv hc' ⊢
     subst hc'
     rw [if_pos (by simp; omega), u64_id _ (by omega) (by omega), ← hv, Int.emod_eq_of_lt v0 v1, wnext i (by omega), Int.toNat_natCast, set_at ds m i _ hd]
   ·have e2 : b.take i = b := List.take_of_length_le (by omega)
    have e3 : b.take (i + 1) = b := List.take_of_length_le (by omega)
    obtain ⟨v, c', hv, hc', v0, v1, t, ht, r⟩ := step 0 (by omega) (by omega) (by rw [e2, e3]; omega)
    rw [Int.add_zero] at hv hc'
    refine ⟨t, EvS.succ (fun k => ?_) ht, r⟩
    simp only [zO.l0]
    rw [if_pos (by omega), if_neg (by omega), if_pos (by omega), u64_id (rd a (i : Int)) (by omega) (by omega)]
    by_cases hlt : rd a (i : Int) < c
    ·rw [if_pos hlt] at hv hc' ⊢
     subst hc'
     rw [if_pos (by simp; omega), u64_id (rd a (i : Int) + 4294967296) (by omega) (by omega), u64_id _ (by omega) (by omega), ← hv, Int.emod_eq_of_lt v0 v1, wnext i (by omega), Int.toNat_natCast, set_at ds m i _ hd]
    ·rw [if_neg hlt] at hv hc' ⊢
     subst hc'
     rw [if_pos (by simp; omega), u64_id _ (by omega) (by omega), ← hv, Int.emod_eq_of_lt v0 v1, wnext i (by omega), Int.toNat_natCast, set_at ds m i _ hd]
 obtain ⟨t, ht, r⟩ := key a.length 0 [] 0 (by omega) rfl (fun x hx => by simp at hx) (by omega) (by omega) (by simp [nv])
 refine ⟨t, EvS.of (fun k => ?_) ht, r⟩
 unfold zO.f
 rw [if_pos (by omega), Int.toNat_natCast, if_pos (by omega)]
 rfl
theorem cmp_ev (a b : List Int) (ha : U32 a) (hb : U32 b) (ta : Tr a) (tb : Tr b) (hn : a.length ≤ 10000000) (hm : b.length ≤ 10000000) : EvS (fun k => z7.f k a b) (sgnI (nv a - nv b)) := by
 by_cases h : a.length = b.length
 ·have key : ∀ i : Nat, i ≤ a.length → nv a - nv b = nv (a.take i) - nv (b.take i) → EvS (fun k => z7.l0 k a b ((i : Int) - 1)) (sgnI (nv a - nv b)) := by
   intro i
   induction i with
   | zero =>
    intro _ hd
    refine EvS.done fun k => ?_
    simp only [z7.l0]
    rw [if_neg (by omega), hd]
    exact (congrArg some (sgnI_zero (by simp [nv]))).symm
   | succ i ih =>
    intro hi hd
    have h1 := nv_take a i (by omega)
    have h2 := nv_take b i (by omega)
    have b1 := nv_bound _ (ha.take i)
    have b2 := nv_bound _ (hb.take i)
    rw [List.length_take, Nat.min_eq_left (by omega)] at b1 b2
    by_cases c1 : rd a (i : Int) < rd b (i : Int)
    ·have h5 : B i * rd a (i : Int) + B i ≤ B i * rd b (i : Int) := by
      have := Int.mul_le_mul_of_nonneg_left (show rd a (i : Int) + 1 ≤ rd b (i : Int) by omega) (Int.le_of_lt (B_pos i))
      rw [Int.mul_add, Int.mul_one] at this
      exact this
     refine EvS.done fun k => ?_
     simp only [z7.l0]
     rw [show ((i + 1 : Nat) : Int) - 1 = (i : Int) by omega, if_pos (by omega), if_pos (by omega), if_pos (by omega), if_pos (by omega), if_pos c1]
     rw [sgnI_neg (by omega)]
    ·by_cases c2 : rd a (i : Int) > rd b (i : Int)
     ·have h5 : B i * rd b (i : Int) + B i ≤ B i * rd a (i : Int) := by
       have := Int.mul_le_mul_of_nonneg_left (show rd b (i : Int) + 1 ≤ rd a (i : Int) by omega) (Int.le_of_lt (B_pos i))
       rw [Int.mul_add, Int.mul_one] at this
       exact this
      refine EvS.done fun k => ?_
      simp only [z7.l0]
      rw [show ((i + 1 : Nat) : Int) - 1 = (i : Int) by omega, if_pos (by omega), if_pos (by omega), if_pos (by omega), if_pos (by omega), if_neg c1, if_pos c2]
      rw [sgnI_pos (by omega)]
     ·have e : rd a (i : Int) = rd b (i : Int) := by omega
      refine EvS.succ (fun k => ?_) (ih (by omega) (by rw [hd, h1, h2, e]; omega))
      simp only [z7.l0]
      rw [show ((i + 1 : Nat) : Int) - 1 = (i : Int) by omega, if_pos (by omega), if_pos (by omega), if_pos (by omega), if_pos (by omega), if_neg c1, if_neg c2, w64 _ (by omega) (by omega)]
  refine EvS.of (fun k => ?_) (key a.length (Nat.le_refl _) (by rw [List.take_length, h, List.take_length]))
  unfold z7.f
  rw [if_pos (by omega), w64 _ (by omega) (by omega)]
 ·have b1 := nv_bound a ha
  have b2 := nv_bound b hb
  by_cases h2 : a.length < b.length
  ·have h3 := tr_pos hb tb (by omega)
   have h4 := B_mono (show a.length ≤ b.length - 1 by omega)
   refine EvS.of (G := fun _ => some (sgnI (nv a - nv b))) (fun k => ?_) (EvS.pure _)
   unfold z7.f
   rw [if_neg (by omega), if_pos (by omega)]
   rw [sgnI_neg (by omega)]
  ·have h3 := tr_pos ha ta (by omega)
   have h4 := B_mono (show b.length ≤ a.length - 1 by omega)
   refine EvS.of (G := fun _ => some (sgnI (nv a - nv b))) (fun k => ?_) (EvS.pure _)
   unfold z7.f
   rw [if_neg (by omega), if_neg (by omega)]
   rw [sgnI_pos (by omega)]
theorem whole_ev (z : Int) (h : -9223372036854775808 ≤ z ∧ z < 9223372036854775808) : ∃ t, EvS (fun k => zaj.f k z) (decide (z < 0), t, 0) ∧ nv t = absI z ∧ U32 t ∧ Tr t ∧ t.length ≤ 2 := by
 have two : ∀ u : Int, 0 ≤ u → u < 18446744073709551616 → ∃ t, EvS (fun k => zI.f k [u % 4294967296, (u / 4294967296) % 4294967296]) t ∧ nv t = u ∧ U32 t ∧ Tr t ∧ t.length ≤ 2 := by
  intro u u0 u1
  obtain ⟨t, ht, r0, r1, r2, r3⟩ := trim_ev [u % 4294967296, (u / 4294967296) % 4294967296] (fun x hx => by
   simp at hx
   rcases hx with rfl | rfl <;> omega) (by simp)
  refine ⟨t, ht, ?_, r1, r2, by simpa using r3⟩
  rw [r0]; simp only [nv]; omega
 by_cases hz : z = 0
 ·subst hz
  refine ⟨[], EvS.of (G := fun _ => some (decide ((0 : Int) < 0), [], 0)) (fun k => ?_) (EvS.pure _), by simp [nv, absI], fun x hx => by simp at hx, fun i hi => by simp at hi, by simp⟩
  unfold zaj.f
  rw [if_neg (by omega), if_pos rfl]
  rfl
 ·by_cases hn : z < 0
  ·obtain ⟨t, ht, r0, r⟩ := two (-z) (by omega) (by omega)
   refine ⟨t, EvS.of (fun k => ?_) (EvS.bind (G := fun _ t => some (decide (z < 0), t, 0)) ht (EvS.pure _)), by rw [r0]; unfold absI; rw [if_pos hn], r⟩
   unfold zaj.f
   have e : IntKind.u64.wrap (-(IntKind.u64.wrap z)) = -z := by simp only [IntKind.wrap_u64]; omega
   rw [if_pos hn, if_neg hz, e]
  ·obtain ⟨t, ht, r0, r⟩ := two z (by omega) (by omega)
   refine ⟨t, EvS.of (fun k => ?_) (EvS.bind (G := fun _ t => some (decide (z < 0), t, 0)) ht (EvS.pure _)), by rw [r0]; unfold absI; rw [if_neg hn], r⟩
   unfold zaj.f
   rw [if_neg hn, if_neg hz, u64_id z (by omega) (by omega)]
end Go.Proofs.Ytlidbaejhmamjaa.NW

namespace Go.Proofs.Ytlidbaejhmamjaa.NW
open Go.RowKit Go.Proofs.YtlidbaejhmamjaaW.PrintWords Go.Proofs.YtlidbaejhmamjaaW.PrintLast Go.Proofs.YtlidbaejhmamjaaW.PrintMore Go.Proofs.Ytlidbaejhmamjaa.PB Go.Proofs.Ytlidbaejhmamjaa.LA Go.Proofs.Ytlidbaejhmamjaa.AC
set_option linter.unusedVariables false
set_option linter.unusedSimpArgs false
theorem or_low (x y : Int) (r : Nat) (hr : r < 32) (hx0 : 0 ≤ x) (hx : x < 2 ^ r) (hy0 : 0 ≤ y) (hy : y < 4294967296) (hm : y % 2 ^ r = 0) : bits .or .u32 x y = x + y := by
 have e32 : (2 : Int) ^ 32 = 4294967296 := by decide
 have hp : (2 : Int) ^ r ≤ 2 ^ 32 := pow_le' (by omega)
 have hk : ∀ n : Int, 0 ≤ n → n < 2 ^ 32 → IntKind.u32.wrap n = n := fun n h0 h1 => by
  rw [IntKind.wrap_u32]; omega
 obtain ⟨a, rfl⟩ := Int.eq_ofNat_of_zero_le hx0
 obtain ⟨b, rfl⟩ := Int.eq_ofNat_of_zero_le hy0
 have h1 := (bits_nat .u32 32 (by decide) hk a b (by omega) (by omega)).2
 have h2 := (bits_nat .u32 32 (by decide) hk b a (by omega) (by omega)).2
 have h3 := bits_join .u32 32 (by decide) hk r (b : Int) (a : Int) hy0 hm (by omega) hx0 hx (by omega)
 rw [h1, Nat.or_comm, ← h2, h3]
 omega
theorem left_step (y h : Int) (r : Nat) (hr32 : r < 32) (y0 : 0 ≤ y) (y1 : y < 4294967296) (h0 : 0 ≤ h) (h1 : h < 2 ^ r) :
  ∃ x lo hi : Int, x = y * 2 ^ r ∧ shl .u64 (IntKind.u64.wrap y) (r : Int) = x ∧ lo = x % 4294967296 ∧ hi = x / 4294967296 ∧ bits .or .u32 h lo = h + lo ∧ bits .or .u32 0 hi = 0 + hi ∧ 0 ≤ h + lo ∧ h + lo < 4294967296 ∧ 0 ≤ hi ∧ hi < 2 ^ r ∧ hi < 4294967296 ∧ x = lo + 4294967296 * hi := by
 have pr : (0 : Int) < 2 ^ r := zak r
 have pr32 : (2 : Int) ^ r ≤ 2147483648 := by
  have : (2 : Int) ^ r ≤ 2 ^ 31 := pow_le' (by omega)
  have e : (2 : Int) ^ 31 = 2147483648 := by decide
  omega
 have e32 : (4294967296 : Int) = 2 ^ r * 2 ^ (32 - r) := by rw [← zaR, show r + (32 - r) = 32 by omega]; decide
 obtain ⟨x, hxe⟩ : ∃ x, x = y * 2 ^ r := ⟨_, rfl⟩
 have x0 : 0 ≤ x := by rw [hxe]; exact Int.mul_nonneg y0 (Int.le_of_lt pr)
 have x1 : x < 4294967296 * 2 ^ r := by rw [hxe]; exact Int.mul_lt_mul_of_pos_right y1 pr
 have x64 : x < 18446744073709551616 := by
  generalize (2 : Int) ^ r = P at *
  omega
 have esh : shl .u64 (IntKind.u64.wrap y) (r : Int) = x := by
  unfold shl
  rw [u64_id _ y0 (by omega), Int.toNat_natCast, show min r IntKind.u64.bits = r from Nat.min_eq_left (by show r ≤ 64; omega), ← hxe, u64_id x x0 x64]
 obtain ⟨lo, hlo⟩ : ∃ lo, lo = x % 4294967296 := ⟨_, rfl⟩
 obtain ⟨hi, hhi⟩ : ∃ hi, hi = x / 4294967296 := ⟨_, rfl⟩
 have l01 : 0 ≤ lo ∧ lo < 4294967296 := by clear e32; omega
 have h01 : 0 ≤ hi := by clear e32; omega
 have h02 : hi < 2 ^ r := by rw [hhi]; exact Int.ediv_lt_of_lt_mul (by decide) (by rw [Int.mul_comm]; exact x1)
 have hxs : x = lo + 4294967296 * hi := by clear e32; omega
 have lom : lo % 2 ^ r = 0 := by
  have : lo = 2 ^ r * (y - 2 ^ (32 - r) * hi) := by
   rw [Int.mul_sub, ← Int.mul_assoc, ← e32, Int.mul_comm (2 ^ r), ← hxe]; clear e32; omega
  rw [this]; exact Int.mul_emod_right _ _
 have h03 : hi < 4294967296 := by clear e32; omega
 have or1 := or_low h lo r hr32 h0 h1 l01.1 l01.2 lom
 have or2 := or_low 0 hi 0 (by omega) (by omega) (by decide) h01 h03 (by rw [Int.pow_zero]; exact Int.emod_one _)
 have hle : h + lo < 4294967296 := by
  have d1 : lo ≤ 4294967296 - 2 ^ r := by
   have d2 : lo / 2 ^ r * 2 ^ r = lo := by have := Int.mul_ediv_add_emod lo (2 ^ r); rw [lom, Int.add_zero, Int.mul_comm] at this; exact this
   have lt : lo / 2 ^ r < 2 ^ (32 - r) := Int.ediv_lt_of_lt_mul pr (by rw [Int.mul_comm, ← e32]; exact l01.2)
   have d3 : (lo / 2 ^ r + 1) * 2 ^ r ≤ 2 ^ (32 - r) * 2 ^ r := Int.mul_le_mul_of_nonneg_right (by omega) (Int.le_of_lt pr)
   rw [Int.mul_comm (2 ^ (32 - r)), ← e32, Int.add_mul, d2] at d3
   clear e32 lom d2
   omega
  clear e32 lom
  omega
 exact ⟨x, lo, hi, hxe, esh, hlo, hhi, or1, or2, Int.add_nonneg h0 l01.1, hle, h01, h02, h03, hxs⟩
end Go.Proofs.Ytlidbaejhmamjaa.NW

namespace Go.Proofs.Ytlidbaejhmamjaa.NW
open Go.RowKit Go.Proofs.YtlidbaejhmamjaaW.PrintWords Go.Proofs.YtlidbaejhmamjaaW.PrintLast Go.Proofs.YtlidbaejhmamjaaW.PrintMore Go.Proofs.Ytlidbaejhmamjaa.PB Go.Proofs.Ytlidbaejhmamjaa.LA Go.Proofs.Ytlidbaejhmamjaa.AC
set_option linter.unusedVariables false
set_option linter.unusedSimpArgs false
theorem rd_mid (p : List Int) (h : Int) (q : List Int) (i : Nat) (hp : p.length = i) : rd (p ++ h :: q) (i : Int) = h := by
 subst hp
 simp [rd]
theorem set_mid (p : List Int) (h v : Int) (q : List Int) (i : Nat) (hp : p.length = i) : (p ++ h :: q).set i v = p ++ v :: q := by
 subst hp
 rw [List.set_append_right _ _ (Nat.le_refl _), Nat.sub_self, s0_]
theorem set_mid1 (p : List Int) (h g v : Int) (q : List Int) (i : Nat) (hp : p.length = i) : (p ++ h :: g :: q).set (i + 1) v = p ++ h :: v :: q := by
 subst hp
 rw [List.set_append_right _ _ (by omega), show p.length + 1 - p.length = 0 + 1 by omega, s1_, s0_]
theorem rd_mid1 (p : List Int) (h g : Int) (q : List Int) (i : Nat) (hp : p.length = i) : rd (p ++ h :: g :: q) ((i + 1 : Nat) : Int) = g := by
 rw [show p ++ h :: g :: q = (p ++ [h]) ++ g :: q by simp]
 exact rd_mid _ _ _ _ (by simp [hp])
theorem left_unf (k : Nat) (a : List Int) (n q r i m : Nat) (pre : List Int) (h lo hi x : Int) (hi1 : i < a.length) (hi2 : i < 100000000) (hq : q < 100000000)
  (hp : pre.length = i + q) : (et : Int.tmod (n : Int) 32 = (r : Int)) → (ed : Int.tdiv (n : Int) 32 = (q : Int)) → (esh : shl .u64 (IntKind.u64.wrap (rd a (i : Int))) (r : Int) = x) → (hlo : lo = x % 4294967296) → (hhi : hi = x / 4294967296) → (or1 : bits .or .u32 h lo = h + lo) → (or2 : bits .or .u32 0 hi = 0 + hi) → (h01 : 0 ≤ hi) → (h03 : hi < 4294967296) →
  zP.l0 (k + 1) a (n : Int) (pre ++ h :: List.replicate (m + 1) 0) (i : Int) = zP.l0 k a (n : Int) (pre ++ [h + lo] ++ hi :: List.replicate m 0) ((i + 1 : Nat) : Int) := by
 have ei : wrap64 ((i : Int) + wrap64 (q : Int)) = ((i + q : Nat) : Int) := by rw [w64 (q : Int) (by omega) (by omega), w64 _ (by omega) (by omega)]; omega
 have ei1 : wrap64 (((i + q : Nat) : Int) + 1) = ((i + q + 1 : Nat) : Int) := wnext (i + q) (by omega)
 have ei2 : wrap64 ((i : Int) + 1) = ((i + 1 : Nat) : Int) := wnext i (by omega)
 have f1 : (i : Int) < (a.length : Int) := by omega
 have f2 : (0 : Int) ≤ (i : Int) := by omega
 have f3 : (0 : Int) ≤ (r : Int) := by omega
 have f4 : (0 : Int) ≤ ((i + q : Nat) : Int) := by omega
 have f5 : (0 : Int) ≤ ((i + q + 1 : Nat) : Int) := by omega
 have g1 : ((i + q : Nat) : Int) < ((pre ++ h :: List.replicate (m + 1) 0).length : Int) := by rw [List.length_append, hp, List.length_cons]; omega
 have g2 : ((i + q + 1 : Nat) : Int) < ((pre ++ h :: List.replicate (m + 1) 0).length : Int) := by rw [List.length_append, hp, List.length_cons, List.length_replicate]; omega
 have s1 : rd (pre ++ h :: List.replicate (m + 1) 0) ((i + q : Nat) : Int) = h := rd_mid _ _ _ _ hp
 have s2 : (pre ++ h :: List.replicate (m + 1) 0).set (i + q) (h + lo) = pre ++ (h + lo) :: List.replicate (m + 1) 0 := set_mid _ _ _ _ _ hp
 have s3 : rd (pre ++ (h + lo) :: List.replicate (m + 1) 0) ((i + q + 1 : Nat) : Int) = 0 := by rw [List.replicate_succ]; exact rd_mid1 _ _ _ _ _ hp
 have s4 : (pre ++ (h + lo) :: List.replicate (m + 1) 0).set (i + q + 1) hi = pre ++ [h + lo] ++ hi :: List.replicate m 0 := by
  rw [List.replicate_succ, set_mid1 _ _ _ _ _ _ hp, List.append_assoc]
  rfl
 have g3 : ((i + q + 1 : Nat) : Int) < ((i + q + (m + 1 + 1) : Nat) : Int) := by omega
 intro et ed esh hlo hhi or1 or2 h01 h03
 simp only [zP.l0]
 rw [if_pos f1, if_pos f2, et, ed, if_pos f3, ei, if_pos f4, if_pos g1, esh, Option.bind_some, ei1, if_pos f5]
 rw [Int.toNat_natCast, s1, ← hlo, or1, s2, ← hhi, s3, Int.emod_eq_of_lt h01 h03, or2, Int.zero_add, Int.toNat_natCast, s4, ei2]
 rw [List.length_append, hp, List.length_cons, List.length_replicate, if_pos g3]
set_option maxHeartbeats 1000000 in
theorem left_ev (a : List Int) (ha : U32 a) (n : Nat) (hn : a.length ≤ 10000000) (hnn : n ≤ 1000000) :
  ∃ t, EvS (fun k => zP.f k a (n : Int)) t ∧ nv t = nv a * 2 ^ n ∧ U32 t ∧ Tr t ∧ t.length ≤ a.length + n / 32 + 1 := by
 by_cases h0 : a.length = 0
 ·obtain rfl := List.length_eq_zero_iff.1 h0
  refine ⟨[], EvS.of (G := fun _ => some []) (fun k => ?_) (EvS.pure _), by simp [nv], fun x hx => by simp at hx, fun i hi => by simp at hi, by simp⟩
  unfold zP.f
  rw [if_pos (by simp)]
 ·obtain ⟨q, hq⟩ : ∃ q, q = n / 32 := ⟨_, rfl⟩
  obtain ⟨r, hr⟩ : ∃ r, r = n % 32 := ⟨_, rfl⟩
  have hr32 : r < 32 := by omega
  have hnq : n = 32 * q + r := by omega
  have et : Int.tmod (n : Int) 32 = (r : Int) := by rw [Int.tmod_eq_emod_of_nonneg (by omega)]; omega
  have ed : Int.tdiv (n : Int) 32 = (q : Int) := by rw [Int.tdiv_eq_ediv_of_nonneg (by omega)]; omega
  have e2n : (2 : Int) ^ n = B q * 2 ^ r := by rw [hnq, zaR]; rfl
  have pr : (0 : Int) < 2 ^ r := zak r
  have pr32 : (2 : Int) ^ r ≤ 2147483648 := by
   have : (2 : Int) ^ r ≤ 2 ^ 31 := pow_le' (by omega)
   have e : (2 : Int) ^ 31 = 2147483648 := by decide
   omega
  have e32 : (4294967296 : Int) = 2 ^ r * 2 ^ (32 - r) := by rw [← zaR, show r + (32 - r) = 32 by omega]; decide
  have key : ∀ (m i : Nat) (pre : List Int) (h : Int), a.length = i + m → pre.length = i + q → U32 pre → 0 ≤ h → h < 2 ^ r → nv pre + B (i + q) * h = nv (a.take i) * 2 ^ n →
    ∃ t, EvS (fun k => zP.l0 k a (n : Int) (pre ++ h :: List.replicate m 0) (i : Int)) t ∧ nv t = nv a * 2 ^ n ∧ U32 t ∧ Tr t ∧ t.length ≤ a.length + n / 32 + 1 := by
   intro m
   induction m with
   | zero =>
    intro i pre h e hp hu h0 h1 hv
    obtain ⟨t, ht, r0, r1, r2, r3⟩ := trim_ev (pre ++ [h]) (hu.snoc h0 (by omega)) (by simp; omega)
    rw [show a.take i = a from List.take_of_length_le (by omega)] at hv
    refine ⟨t, ?_, by rw [r0, nv_snoc, hp]; exact hv, r1, r2, by simp at r3; omega⟩
    refine EvS.succ (G := fun k => (zI.f k (pre ++ [h])).bind fun t336 => some t336) (fun k => ?_) (EvS.bind ht (EvS.pure _))
    simp only [zP.l0]
    rw [if_neg (by omega), List.replicate_zero]
   | succ m ih =>
    intro i pre h e hp hu h0 h1 hv
    clear pr32 e32
    have u1 : i < a.length := by clear et ed e2n pr h1 hv ih; omega
    have u2 : i < 100000000 := by clear et ed e2n pr h1 hv ih; omega
    have u3 : q < 100000000 := by clear et ed e2n pr h1 hv ih; omega
    have u4 : a.length = i + 1 + m := by clear et ed e2n pr h1 hv ih; omega
    have u5 : pre.length + 1 = i + 1 + q := by clear et ed e2n pr h1 hv ih; omega
    have hx := u32_rd ha i u1
    have ta := nv_take a i u1
    obtain ⟨x, lo, hi, hxe, esh, hlo, hhi, or1, or2, hl0, hle, h01, h02, h03, hxs⟩ := left_step (rd a (i : Int)) h r hr32 hx.1 hx.2 h0 h1
    obtain ⟨t, ht, rr⟩ := ih (i + 1) (pre ++ [h + lo]) hi u4 (by rw [List.length_append]; exact u5) (hu.snoc hl0 hle) h01 h02 (by
     rw [nv_snoc, hp, show i + 1 + q = (i + q) + 1 by omega, B_succ, ta, Int.add_mul, ← hv, Int.mul_add, Int.mul_comm 4294967296, Int.mul_assoc, Int.add_assoc, Int.add_assoc, ← Int.mul_add, ← hxs, hxe, e2n]
     have eb : B (i + q) = B i * B q := by unfold B; rw [show 32 * (i + q) = 32 * i + 32 * q by omega, zaR]
     rw [eb]
     generalize B i = b1
     generalize B q = b2
     generalize rd a (i : Int) = y
     generalize (2 : Int) ^ r = z
     have e1 : b1 * b2 * (y * z) = b1 * y * (b2 * z) := by
      rw [Int.mul_assoc b1 b2, Int.mul_left_comm b2, ← Int.mul_assoc]
     rw [e1, Int.add_assoc])
    refine ⟨t, EvS.succ (fun k => ?_) ht, rr⟩
    exact left_unf k a n q r i m pre h lo hi x u1 u2 u3 hp et ed esh hlo hhi or1 or2 h01 h03
  obtain ⟨t, ht, rr⟩ := key a.length 0 (List.replicate q 0) 0 (by omega) (by simp) (U32.zeros q) (by omega) pr (by rw [nv_zeros]; simp [nv])
  refine ⟨t, EvS.of (fun k => ?_) ht, rr⟩
  unfold zP.f
  rw [if_neg (by omega), ed, w64 (q : Int) (by omega) (by omega), w64 ((a.length : Int) + q) (by omega) (by omega), w64 _ (by omega) (by omega), if_pos (by omega), if_pos (by omega)]
  rw [show ((a.length : Int) + (q : Int) + 1).toNat = q + (a.length + 1) by omega, ← List.replicate_append_replicate]
  rfl
end Go.Proofs.Ytlidbaejhmamjaa.NW

namespace Go.Proofs.Ytlidbaejhmamjaa.PB
open Go.RowKit Go.Proofs.YtlidbaejhmamjaaW.PrintWords Go.Proofs.YtlidbaejhmamjaaW.PrintLast Go.Proofs.YtlidbaejhmamjaaW.PrintMore
attribute [local go_sem] zao zar zaB zaC zaf zag zap zas   -- for this text's walks alone
set_option linter.unusedVariables false
set_option linter.unusedSimpArgs false
def za8.f (a0_0 : Bool) (l0_1 : List Int) (a0_2 : Int) : Option (Int) := if (l0_1.length : Int) = 0 then (some 0) else (if a0_0 = true then (some (-1)) else (some 1))
set_option maxHeartbeats 8000000 in
set_option maxRecDepth 100000 in
theorem za8.calls (a0_0 : Bool) (A0_1 : Option Addr) (c0_1 : Nat) (l0_1 : List Int) (a0_2 : Int) (r : Int) (w : World) (hr0_1 : Kd.C (Kd.int .u32) w A0_1 l0_1.length l0_1) (hc0_1 : l0_1.length ≤ c0_1) (h : za8.f a0_0 l0_1 a0_2 = some r) :
  Calls Try.prog 70 #[.agg #[.bool a0_0, .slice A0_1 l0_1.length c0_1, .int .i64 a0_2]] w fun e w' => e = .returned (.int .i64 r) ∧ Below w.heap.size w w' := by
 have hu101 := Try.underlying101
 have HR0_1 := am_ hr0_1
 have HC0_1 := am_ hc0_1
 clear hr0_1 hc0_1
 have HB := am_ (Below.refl w.heap.size w)
 have H : (if (l0_1.length : Int) = 0 then (some 0) else (if a0_0 = true then (some (-1)) else (some 1))) = some r := h
 clear h
 by_cases c2 : (l0_1.length : Int) = 0
 ·rw [if_pos c2] at H
  have c2b0 : ((l0_1.length : Int) == 0) = true := beq_iff_eq.mpr c2
  have c2b1 : ((l0_1.length : Int) != 0) = false := bne_eq_false_iff_eq.mpr c2
  clear c2
  obtain rfl := Option.some.inj H
  go_enter Try.func70, Try.ntmps70
  go_wp2_with (first | ((with_reducible refine zr (N := 1) rfl ?_); refine zt ?hg (N := 1) ?hd (cs := #[.bool a0_0, .slice A0_1 l0_1.length c0_1, .int .i64 a0_2]) (t := 101) ?hr ?_; (case hd => rfl); (case hg => rfl); (case hr => first | (go_simp; done) | (go_simp; rfl)); intro gb327 hg w3 hbox hb; have n0_ := am_ (zh (by repeat (first | (with_reducible first | exact HB.out | apply zc | apply za | apply zb) | exact HB.out)) hb); have n1_ := am_ (hbox); have n2_ := am_ ((by rw [hg]; exact (zk (by repeat (first | (with_reducible first | exact HB.out | apply zc | apply za | apply zb) | exact HB.out))) : w.heap.size ≤ gb327)); have n3_ := am_ ((by rw [hg]; exact (zk (by repeat (first | (with_reducible first | exact HB.out | apply zc | apply za | apply zb) | exact HB.out))) : w.heap.size ≤ gb327)); clear HB; have HB := n0_; have BK327 := n1_; have GW327 := n2_; have GE327 := n3_; clear n0_ n1_ n2_ n3_; clear hb hbox hg; have hcz4_0 : w3.cell? ⟨gb327, 0, none⟩ = some (.bool a0_0) := (zj BK327.out 0).trans rfl; have hcz4_1 : w3.cell? ⟨gb327, 1, none⟩ = some (.slice A0_1 l0_1.length c0_1) := (zj BK327.out 1).trans rfl; have hcz4_2 : w3.cell? ⟨gb327, 2, none⟩ = some (.int .i64 a0_2) := (zj BK327.out 2).trans rfl; have hfz4_0 := zi BK327.out 0; have hfz4_1 := zi BK327.out 1; have hfz4_2 := zi BK327.out 2))
  go_ret
  exact ⟨by first | rfl | (simp [zq, zp] <;> rfl) | (simp [*, zq, zp] <;> rfl), by repeat (first | (with_reducible first | exact HB.out | apply zc | apply za | apply zb | refine zf ?_ GE327.out) | exact HB.out)⟩
 ·rw [if_neg c2] at H
  have c2b0 : ((l0_1.length : Int) == 0) = false := beq_eq_false_iff_ne.mpr c2
  have c2b1 : ((l0_1.length : Int) != 0) = true := bne_iff_ne.mpr c2
  have c2b2 : ¬ (l0_1 = []) := fun h_ => c2 (by rw [h_]; rfl)
  by_cases c5 : a0_0 = true
  ·subst c5
   have H1 : (some (-1)) = some r := by rw [if_pos rfl] at H; exact H
   clear H
   have H := H1
   clear H1
   obtain rfl := Option.some.inj H
   go_enter Try.func70, Try.ntmps70
   go_wp2_with (first | ((with_reducible refine zr (N := 1) rfl ?_); refine zt ?hg (N := 1) ?hd (cs := #[.bool true, .slice A0_1 l0_1.length c0_1, .int .i64 a0_2]) (t := 101) ?hr ?_; (case hd => rfl); (case hg => rfl); (case hr => first | (go_simp; done) | (go_simp; rfl)); intro gb327 hg w6 hbox hb; have n0_ := am_ (zh (by repeat (first | (with_reducible first | exact HB.out | apply zc | apply za | apply zb) | exact HB.out)) hb); have n1_ := am_ (hbox); have n2_ := am_ ((by rw [hg]; exact (zk (by repeat (first | (with_reducible first | exact HB.out | apply zc | apply za | apply zb) | exact HB.out))) : w.heap.size ≤ gb327)); have n3_ := am_ ((by rw [hg]; exact (zk (by repeat (first | (with_reducible first | exact HB.out | apply zc | apply za | apply zb) | exact HB.out))) : w.heap.size ≤ gb327)); clear HB; have HB := n0_; have BK327 := n1_; have GW327 := n2_; have GE327 := n3_; clear n0_ n1_ n2_ n3_; clear hb hbox hg; have hcz7_0 : w6.cell? ⟨gb327, 0, none⟩ = some (.bool true) := (zj BK327.out 0).trans rfl; have hcz7_1 : w6.cell? ⟨gb327, 1, none⟩ = some (.slice A0_1 l0_1.length c0_1) := (zj BK327.out 1).trans rfl; have hcz7_2 : w6.cell? ⟨gb327, 2, none⟩ = some (.int .i64 a0_2) := (zj BK327.out 2).trans rfl; have hfz7_0 := zi BK327.out 0; have hfz7_1 := zi BK327.out 1; have hfz7_2 := zi BK327.out 2))
   go_ret
   exact ⟨by first | rfl | (simp [zq, zp] <;> rfl) | (simp [*, zq, zp] <;> rfl), by repeat (first | (with_reducible first | exact HB.out | apply zc | apply za | apply zb | refine zf ?_ GE327.out) | exact HB.out)⟩
  ·replace c5 := Bool.eq_false_iff.mpr c5
   subst c5
   have H1 : (some 1) = some r := by rw [if_neg (show ¬ (false = true) by decide)] at H; exact H
   clear H
   have H := H1
   clear H1
   obtain rfl := Option.some.inj H
   go_enter Try.func70, Try.ntmps70
   go_wp2_with (first | ((with_reducible refine zr (N := 1) rfl ?_); refine zt ?hg (N := 1) ?hd (cs := #[.bool false, .slice A0_1 l0_1.length c0_1, .int .i64 a0_2]) (t := 101) ?hr ?_; (case hd => rfl); (case hg => rfl); (case hr => first | (go_simp; done) | (go_simp; rfl)); intro gb327 hg w8 hbox hb; have n0_ := am_ (zh (by repeat (first | (with_reducible first | exact HB.out | apply zc | apply za | apply zb) | exact HB.out)) hb); have n1_ := am_ (hbox); have n2_ := am_ ((by rw [hg]; exact (zk (by repeat (first | (with_reducible first | exact HB.out | apply zc | apply za | apply zb) | exact HB.out))) : w.heap.size ≤ gb327)); have n3_ := am_ ((by rw [hg]; exact (zk (by repeat (first | (with_reducible first | exact HB.out | apply zc | apply za | apply zb) | exact HB.out))) : w.heap.size ≤ gb327)); clear HB; have HB := n0_; have BK327 := n1_; have GW327 := n2_; have GE327 := n3_; clear n0_ n1_ n2_ n3_; clear hb hbox hg; have hcz9_0 : w8.cell? ⟨gb327, 0, none⟩ = some (.bool false) := (zj BK327.out 0).trans rfl; have hcz9_1 : w8.cell? ⟨gb327, 1, none⟩ = some (.slice A0_1 l0_1.length c0_1) := (zj BK327.out 1).trans rfl; have hcz9_2 : w8.cell? ⟨gb327, 2, none⟩ = some (.int .i64 a0_2) := (zj BK327.out 2).trans rfl; have hfz9_0 := zi BK327.out 0; have hfz9_1 := zi BK327.out 1; have hfz9_2 := zi BK327.out 2))
   go_ret
   exact ⟨by first | rfl | (simp [zq, zp] <;> rfl) | (simp [*, zq, zp] <;> rfl), by repeat (first | (with_reducible first | exact HB.out | apply zc | apply za | apply zb | refine zf ?_ GE327.out) | exact HB.out)⟩
end Go.Proofs.Ytlidbaejhmamjaa.PB

namespace Go.Proofs.Ytlidbaejhmamjaa.NW
open Go.RowKit Go.Proofs.YtlidbaejhmamjaaW.PrintWords Go.Proofs.YtlidbaejhmamjaaW.PrintLast Go.Proofs.YtlidbaejhmamjaaW.PrintMore Go.Proofs.Ytlidbaejhmamjaa.PB Go.Proofs.Ytlidbaejhmamjaa.LA Go.Proofs.Ytlidbaejhmamjaa.AC Go.Proofs.Ytlidbaejhmamjaa.LW
set_option linter.unusedVariables false
set_option linter.unusedSimpArgs false
/-- A row of words that is read. -/
structure Ru (w : World) (A : Option Addr) (c : Nat) (xs : List Int) (N : Nat) : Prop where
 row : Kd.C (Kd.int .u32) w A xs.length xs
 cap : xs.length ≤ c
 u : U32 xs
 t : Tr xs
 n : xs.length ≤ N
theorem Ru.step {w w' : World} {A : Option Addr} {c : Nat} {xs : List Int} {N : Nat} (h : Ru w A c xs N) (hb : Below w.heap.size w w') : Ru w' A c xs N := ⟨Kd.zU h.row hb, h.cap, h.u, h.t, h.n⟩
theorem Ru.le {w : World} {A : Option Addr} {c : Nat} {xs : List Int} {N M : Nat} (h : Ru w A c xs N) (hm : N ≤ M) : Ru w A c xs M := ⟨h.row, h.cap, h.u, h.t, Nat.le_trans h.n hm⟩
/-- A number's box. -/
def B3 (w : World) (g : Nat) (nb : Bool) (A : Option Addr) (n c : Nat) (e : Int) : Prop := w.heap[g]? = some (.cells #[.bool nb, .slice A n c, .int .i64 e] 101 (0, 0))
theorem B3.step {w w' : World} {g : Nat} {nb : Bool} {A : Option Addr} {n c : Nat} {e : Int} (h : B3 w g nb A n c e) (hb : Below w.heap.size w w') : B3 w' g nb A n c e := zo h hb
theorem B3.put {w w' : World} {g g' : Nat} {nb : Bool} {A : Option Addr} {n c : Nat} {e : Int} (h : B3 w g nb A n c e) (hg : w.grownBy w' (some g')) (hne : g ≠ g') : B3 w' g nb A n c e := zaW hg h (fun e => hne (Option.some.inj e))
theorem B3.lt {w : World} {g : Nat} {nb : Bool} {A : Option Addr} {n c : Nat} {e : Int} (h : B3 w g nb A n c e) : g < w.heap.size := zL h
theorem B3.c0 {w : World} {g : Nat} {nb : Bool} {A : Option Addr} {n c : Nat} {e : Int} (h : B3 w g nb A n c e) : w.cell? ⟨g, 0, none⟩ = some (.bool nb) := (zj h 0).trans rfl
theorem B3.c1 {w : World} {g : Nat} {nb : Bool} {A : Option Addr} {n c : Nat} {e : Int} (h : B3 w g nb A n c e) : w.cell? ⟨g, 1, none⟩ = some (.slice A n c) := (zj h 1).trans rfl
theorem B3.c2 {w : World} {g : Nat} {nb : Bool} {A : Option Addr} {n c : Nat} {e : Int} (h : B3 w g nb A n c e) : w.cell? ⟨g, 2, none⟩ = some (.int .i64 e) := (zj h 2).trans rfl
theorem B3.f {w : World} {g : Nat} {nb : Bool} {A : Option Addr} {n c : Nat} {e : Int} (h : B3 w g nb A n c e) (i : Nat) : w.frozen? ⟨g, i, none⟩ = false := zi h i
theorem Ru.put {w w' : World} {A : Option Addr} {c : Nat} {xs : List Int} {N : Nat} (h : Ru w A c xs N) {g : Nat} {nb : Bool} {A1 : Option Addr} {n c1 : Nat} {e : Int} (hk : B3 w g nb A1 n c1 e) (hg : w.grownBy w' (some g)) : Ru w' A c xs N := by
 refine ⟨⟨h.row.1, h.row.2.1, fun hn => ?_⟩, h.cap, h.u, h.t, h.n⟩
 obtain ⟨ad, e, hc⟩ := h.row.2.2 hn
 refine ⟨ad, e, fun j p hj => ?_⟩
 obtain ⟨cs, hs, hr, hcell⟩ := hc j p hj
 refine ⟨cs, hs, hr, fun i u hu => ?_⟩
 have hold := hcell i u hu
 have hu2 : u = .int .u32 p := by
  have hr2 : cs = [Value.int .u32 p] := hr
  subst hr2
  cases i with
  | zero => exact (Option.some.inj hu).symm
  | succ i => cases hu
 by_cases hb : (ad.add (j * (Kd.int .u32).sz + i)).block = g
 ·exfalso
  unfold World.cell? at hold
  rw [hb, hk, hu2] at hold
  simp only at hold
  split at hold
  ·cases hold
  ·generalize (ad.add (j * (Kd.int .u32).sz + i)).off = o at hold
   match o with
   | 0 => simp at hold
   | 1 => simp at hold
   | 2 => simp at hold
   | o + 3 => simp at hold
 ·rw [World.cell?_of_block (w := w) (hg.block _ (by
   unfold World.cell? at hold
   split at hold
   ·rename_i h1; exact zL h1
   ·cases hold) (fun e => hb (Option.some.inj e)))]
  exact hold
theorem z8 (w : World) (b i : Nat) (v : Value) : w.grownBy (w.setCell ⟨b, i, none⟩ v) (some b) :=
 ⟨rfl, rfl, rfl, by simp [World.setCell], fun k _ hk => Below.heap_setCell _ _ _ _ (fun e => hk (by simp [e]))⟩
theorem za7 : (Try.prog.info? 101).map (·.size) = some 3 := by kernel_rfl
theorem za6 (nb : Bool) (A : Option Addr) (n c : Nat) (e : Int) : (#[Value.bool nb, .slice A n c, .int .i64 e] : Array Value).all (·.oneCell') = true := by simp [Value.oneCell']
theorem Ru.of_R {w : World} {base : Nat} {ok : Nat → Prop} {v : Value} {xs : List Int} {N : Nat} (h : Kd.R (Kd.int .u32) 134 w base ok v xs) (hu : U32 xs) (ht : Tr xs) (hn : xs.length ≤ N) : ∃ A c, v = .slice A xs.length c ∧ Ru w A c xs N := by
 obtain ⟨A, c, rfl⟩ := Kd.zad h
 have := Kd.z9 h
 exact ⟨A, c, rfl, this.2.2, this.2.1, hu, ht, hn⟩
theorem Ru.nil (w : World) (M : Nat) : Ru w none 0 [] M := ⟨Kd.C_nil _ w, Nat.le_refl 0, fun x hx => by simp at hx, fun i hi => by simp at hi, Nat.zero_le _⟩
set_option maxRecDepth 100000 in
set_option maxHeartbeats 2000000 in
theorem moved_calls (nb : Bool) (A : Option Addr) (n c : Nat) (e d : Int) (w : World) :
  Calls Try.prog 46 #[.agg #[.bool nb, .slice A n c, .int .i64 e], .int .i64 d] w fun o w' => o = .returned (.agg #[.bool nb, .slice A n c, .int .i64 (if n = 0 then e else wrap64 (e + d))]) ∧ Below w.heap.size w w' := by
 have hu101 := Try.underlying101
 have HB := am_ (Below.refl w.heap.size w)
 by_cases hn : n = 0
 ·rw [if_pos hn]
  subst hn
  go_enter Try.func46, Try.ntmps46
  go_wp2_with (first
  | ((with_reducible refine zr (N := 2) rfl ?_); refine zt rfl (N := 2) rfl (cs := #[.bool nb, .slice A 0 c, .int .i64 e]) (t := 101) ?hr ?_; (case hr => first | (go_simp; done) | (go_simp; rfl)); intro g_x hg_ w1 hw_ hb_; have L_x := am_ (show w.heap.size ≤ g_x by have := HB.out.size; omega); replace HB := am_ (zh HB.out hb_); have K_x := am_ (show B3 w1 g_x nb A 0 c e from hw_); clear hg_ hw_ hb_)
  | ((with_reducible refine zr (N := 4) rfl ?_); refine zt rfl (N := 4) rfl (cs := #[.bool false, .slice none 0 0, .int .i64 0]) (t := 101) ?hr ?_; (case hr => first | (go_simp; done) | (go_simp; rfl)); intro g_r hg_ w2 hw_ hb_; have N_r_x := am_ (show g_x ≠ g_r by have := K_x.out.lt; omega); have L_r := am_ (show w.heap.size ≤ g_r by have := HB.out.size; omega); replace K_x := am_ (K_x.out.step hb_); replace HB := am_ (zh HB.out hb_); have K_r := am_ (show B3 w2 g_r false none 0 0 0 from hw_); clear hg_ hw_ hb_; have c_x_0 := K_x.out.c0; have c_x_1 := K_x.out.c1; have c_x_2 := K_x.out.c2; have c_r_0 := K_r.out.c0; have c_r_1 := K_r.out.c1; have c_r_2 := K_r.out.c2; have f_x_0 := K_x.out.f 0; have f_x_1 := K_x.out.f 1; have f_x_2 := K_x.out.f 2)
  | ((with_reducible refine zJ (t := 101) (p := 4) rfl ?_); refine zD rfl 101 rfl rfl g_r #[.bool nb, .slice A 0 c, .int .i64 e] rfl rfl 101 _ K_r.out (za7.trans rfl) rfl (za6 _ _ _ _ _) ?_; intro w3 hw_ hg_; replace K_x := am_ (K_x.out.put hg_ N_r_x.out); replace HB := am_ (HB.out.grown hg_ HB.out.size (fun k_ hk_ => by cases hk_; exact L_r.out)); replace K_r := am_ (show B3 w3 g_r nb A 0 c e from hw_); clear hw_ hg_; have r_r_0 := K_r.out.c0; have r_r_1 := K_r.out.c1; have r_r_2 := K_r.out.c2)
  | fail)
  refine bodyPost_ret (results_cell_row rfl _ _ g_r 101 #[.bool nb, .slice A 0 c, .int .i64 e] (0, 0) _ rfl K_r.out Try.underlying101 rfl (by kernel_rfl)) rfl ?_
  exact ⟨by first | done | rfl, HB.out⟩
 ·rw [if_neg hn]
  replace hn : 0 < n := by omega
  go_enter Try.func46, Try.ntmps46
  go_wp2_with (first
  | ((with_reducible refine zr (N := 2) rfl ?_); refine zt rfl (N := 2) rfl (cs := #[.bool nb, .slice A n c, .int .i64 e]) (t := 101) ?hr ?_; (case hr => first | (go_simp; done) | (go_simp; rfl)); intro g_x hg_ w1 hw_ hb_; have L_x := am_ (show w.heap.size ≤ g_x by have := HB.out.size; omega); replace HB := am_ (zh HB.out hb_); have K_x := am_ (show B3 w1 g_x nb A n c e from hw_); clear hg_ hw_ hb_)
  | ((with_reducible refine zr (N := 4) rfl ?_); refine zt rfl (N := 4) rfl (cs := #[.bool false, .slice none 0 0, .int .i64 0]) (t := 101) ?hr ?_; (case hr => first | (go_simp; done) | (go_simp; rfl)); intro g_r hg_ w2 hw_ hb_; have N_r_x := am_ (show g_x ≠ g_r by have := K_x.out.lt; omega); have L_r := am_ (show w.heap.size ≤ g_r by have := HB.out.size; omega); replace K_x := am_ (K_x.out.step hb_); replace HB := am_ (zh HB.out hb_); have K_r := am_ (show B3 w2 g_r false none 0 0 0 from hw_); clear hg_ hw_ hb_; have c_x_0 := K_x.out.c0; have c_x_1 := K_x.out.c1; have c_x_2 := K_x.out.c2; have c_r_0 := K_r.out.c0; have c_r_1 := K_r.out.c1; have c_r_2 := K_r.out.c2; have f_x_0 := K_x.out.f 0; have f_x_1 := K_x.out.f 1; have f_x_2 := K_x.out.f 2)
  | ((with_reducible refine zJ (t := 101) (p := 4) rfl ?_); have hs_ := z8 w2 g_x 2 (.int .i64 (wrap64 (e + d))); replace K_r := am_ (K_r.out.put hs_ N_r_x.out.symm); replace HB := am_ (HB.out.grown hs_ HB.out.size (fun k_ hk_ => by cases hk_; exact L_x.out)); replace K_x := am_ (show B3 (w2.setCell ⟨g_x, 2, none⟩ (.int .i64 (wrap64 (e + d)))) g_x nb A n c (wrap64 (e + d)) from zaD K_x.out 2 _); clear hs_; generalize w2.setCell ⟨g_x, 2, none⟩ (.int .i64 (wrap64 (e + d))) = w3 at HB K_x K_r ⊢; refine zD rfl 101 rfl rfl g_r #[.bool nb, .slice A n c, .int .i64 (wrap64 (e + d))] rfl rfl 101 _ K_r.out (za7.trans rfl) rfl (za6 _ _ _ _ _) ?_; intro w4 hw_ hg_; replace K_x := am_ (K_x.out.put hg_ N_r_x.out); replace HB := am_ (HB.out.grown hg_ HB.out.size (fun k_ hk_ => by cases hk_; exact L_r.out)); replace K_r := am_ (show B3 w4 g_r nb A n c (wrap64 (e + d)) from hw_); clear hw_ hg_; have r_r_0 := K_r.out.c0; have r_r_1 := K_r.out.c1; have r_r_2 := K_r.out.c2)
  | fail)
  refine bodyPost_ret (results_cell_row rfl _ _ g_r 101 #[.bool nb, .slice A n c, .int .i64 (wrap64 (e + d))] (0, 0) _ rfl K_r.out Try.underlying101 rfl (by kernel_rfl)) rfl ?_
  exact ⟨by first | done | rfl, HB.out⟩
set_option maxRecDepth 100000 in
set_option maxHeartbeats 2000000 in
theorem turned_calls (nb : Bool) (A : Option Addr) (n c : Nat) (e : Int) (w : World) :
  Calls Try.prog 87 #[.agg #[.bool nb, .slice A n c, .int .i64 e]] w fun o w' => o = .returned (.agg #[.bool (if n = 0 then nb else !nb), .slice A n c, .int .i64 e]) ∧ Below w.heap.size w w' := by
 have hu101 := Try.underlying101
 have HB := am_ (Below.refl w.heap.size w)
 by_cases hn : n = 0
 ·rw [if_pos hn]
  subst hn
  go_enter Try.func87, Try.ntmps87
  go_wp2_with (first
  | ((with_reducible refine zr (N := 1) rfl ?_); refine zt rfl (N := 1) rfl (cs := #[.bool nb, .slice A 0 c, .int .i64 e]) (t := 101) ?hr ?_; (case hr => first | (go_simp; done) | (go_simp; rfl)); intro g_x hg_ w1 hw_ hb_; have L_x := am_ (show w.heap.size ≤ g_x by have := HB.out.size; omega); replace HB := am_ (zh HB.out hb_); have K_x := am_ (show B3 w1 g_x nb A 0 c e from hw_); clear hg_ hw_ hb_)
  | ((with_reducible refine zr (N := 2) rfl ?_); refine zt rfl (N := 2) rfl (cs := #[.bool false, .slice none 0 0, .int .i64 0]) (t := 101) ?hr ?_; (case hr => first | (go_simp; done) | (go_simp; rfl)); intro g_r hg_ w2 hw_ hb_; have N_r_x := am_ (show g_x ≠ g_r by have := K_x.out.lt; omega); have L_r := am_ (show w.heap.size ≤ g_r by have := HB.out.size; omega); replace K_x := am_ (K_x.out.step hb_); replace HB := am_ (zh HB.out hb_); have K_r := am_ (show B3 w2 g_r false none 0 0 0 from hw_); clear hg_ hw_ hb_; have c_x_0 := K_x.out.c0; have c_x_1 := K_x.out.c1; have c_x_2 := K_x.out.c2; have c_r_0 := K_r.out.c0; have c_r_1 := K_r.out.c1; have c_r_2 := K_r.out.c2; have f_x_0 := K_x.out.f 0; have f_x_1 := K_x.out.f 1; have f_x_2 := K_x.out.f 2)
  | ((with_reducible refine zJ (t := 101) (p := 2) rfl ?_); refine zD rfl 101 rfl rfl g_r #[.bool nb, .slice A 0 c, .int .i64 e] rfl rfl 101 _ K_r.out (za7.trans rfl) rfl (za6 _ _ _ _ _) ?_; intro w3 hw_ hg_; replace K_x := am_ (K_x.out.put hg_ N_r_x.out); replace HB := am_ (HB.out.grown hg_ HB.out.size (fun k_ hk_ => by cases hk_; exact L_r.out)); replace K_r := am_ (show B3 w3 g_r nb A 0 c e from hw_); clear hw_ hg_; have r_r_0 := K_r.out.c0; have r_r_1 := K_r.out.c1; have r_r_2 := K_r.out.c2)
  | fail)
  refine bodyPost_ret (results_cell_row rfl _ _ g_r 101 #[.bool nb, .slice A 0 c, .int .i64 e] (0, 0) _ rfl K_r.out Try.underlying101 rfl (by kernel_rfl)) rfl ?_
  exact ⟨by first | done | rfl, HB.out⟩
 ·rw [if_neg hn]
  replace hn : 0 < n := by omega
  go_enter Try.func87, Try.ntmps87
  go_wp2_with (first
  | ((with_reducible refine zr (N := 1) rfl ?_); refine zt rfl (N := 1) rfl (cs := #[.bool nb, .slice A n c, .int .i64 e]) (t := 101) ?hr ?_; (case hr => first | (go_simp; done) | (go_simp; rfl)); intro g_x hg_ w1 hw_ hb_; have L_x := am_ (show w.heap.size ≤ g_x by have := HB.out.size; omega); replace HB := am_ (zh HB.out hb_); have K_x := am_ (show B3 w1 g_x nb A n c e from hw_); clear hg_ hw_ hb_)
  | ((with_reducible refine zr (N := 2) rfl ?_); refine zt rfl (N := 2) rfl (cs := #[.bool false, .slice none 0 0, .int .i64 0]) (t := 101) ?hr ?_; (case hr => first | (go_simp; done) | (go_simp; rfl)); intro g_r hg_ w2 hw_ hb_; have N_r_x := am_ (show g_x ≠ g_r by have := K_x.out.lt; omega); have L_r := am_ (show w.heap.size ≤ g_r by have := HB.out.size; omega); replace K_x := am_ (K_x.out.step hb_); replace HB := am_ (zh HB.out hb_); have K_r := am_ (show B3 w2 g_r false none 0 0 0 from hw_); clear hg_ hw_ hb_; have c_x_0 := K_x.out.c0; have c_x_1 := K_x.out.c1; have c_x_2 := K_x.out.c2; have c_r_0 := K_r.out.c0; have c_r_1 := K_r.out.c1; have c_r_2 := K_r.out.c2; have f_x_0 := K_x.out.f 0; have f_x_1 := K_x.out.f 1; have f_x_2 := K_x.out.f 2)
  | ((with_reducible refine zJ (t := 101) (p := 2) rfl ?_); have hs_ := z8 w2 g_x 0 (.bool (!nb)); replace K_r := am_ (K_r.out.put hs_ N_r_x.out.symm); replace HB := am_ (HB.out.grown hs_ HB.out.size (fun k_ hk_ => by cases hk_; exact L_x.out)); replace K_x := am_ (show B3 (w2.setCell ⟨g_x, 0, none⟩ (.bool (!nb))) g_x (!nb) A n c e from zaD K_x.out 0 _); clear hs_; generalize w2.setCell ⟨g_x, 0, none⟩ (.bool (!nb)) = w3 at HB K_x K_r ⊢; refine zD rfl 101 rfl rfl g_r #[.bool (!nb), .slice A n c, .int .i64 e] rfl rfl 101 _ K_r.out (za7.trans rfl) rfl (za6 _ _ _ _ _) ?_; intro w4 hw_ hg_; replace K_x := am_ (K_x.out.put hg_ N_r_x.out); replace HB := am_ (HB.out.grown hg_ HB.out.size (fun k_ hk_ => by cases hk_; exact L_r.out)); replace K_r := am_ (show B3 w4 g_r (!nb) A n c e from hw_); clear hw_ hg_; have r_r_0 := K_r.out.c0; have r_r_1 := K_r.out.c1; have r_r_2 := K_r.out.c2)
  | fail)
  refine bodyPost_ret (results_cell_row rfl _ _ g_r 101 #[.bool (!nb), .slice A n c, .int .i64 e] (0, 0) _ rfl K_r.out Try.underlying101 rfl (by kernel_rfl)) rfl ?_
  exact ⟨by first | done | rfl, HB.out⟩
end Go.Proofs.Ytlidbaejhmamjaa.NW

namespace Go.Proofs.Ytlidbaejhmamjaa.NW
open Go.RowKit Go.Proofs.YtlidbaejhmamjaaW.PrintWords Go.Proofs.YtlidbaejhmamjaaW.PrintLast Go.Proofs.YtlidbaejhmamjaaW.PrintMore Go.Proofs.Ytlidbaejhmamjaa.PB Go.Proofs.Ytlidbaejhmamjaa.LA Go.Proofs.Ytlidbaejhmamjaa.AC Go.Proofs.Ytlidbaejhmamjaa.LW
set_option linter.unusedVariables false
set_option linter.unusedSimpArgs false
def lvE (l1 : List Int) (e1 : Int) (l2 : List Int) (e2 : Int) : Int := if l1.length = 0 then e2 else if l2.length = 0 then e1 else if e2 < e1 then e2 else e1
def level.T6 : Bool × List (List Nat × List Nat) := (true, [([], []), ([0], [0]), ([], []), ([2], [2]), ([], []), ([4], [4]), ([3, 5], [3, 5]), ([1, 6], [1, 6]), ([], []), ([8], [8]), ([], []), ([10], [10]), ([7, 7, 0, 1, 2, 3, 4, 5, 6, 7], [7]), ([9, 12, 0, 1, 2, 3, 4, 5, 6, 7, 8, 9, 12], [9]), ([11, 13, 0, 1, 2, 3, 4, 5, 6, 7, 8, 9, 10, 11, 12, 13], [11])])
def level.B6 : List Nat := [0, 1, 0, 4, 0, 16, 60, 127, 0, 256, 0, 1024, 255, 5119, 16383]
theorem level.tab6 : rtab .any (opsOf Try.f96 6) = level.T6 := by kernel_rfl
theorem level.bits6 : zaG level.T6.2 level.B6 = true := by kernel_rfl
def level.T7 : Bool × List (List Nat × List Nat) := (true, [([], []), ([0], [0]), ([], []), ([2], [2]), ([], []), ([4], [4]), ([], []), ([6], [6]), ([5, 7], [5, 7]), ([3, 8], [3, 8]), ([], []), ([10], [10]), ([1, 9, 0, 1], [1]), ([9, 12, 0, 1, 2, 3, 4, 5, 6, 7, 8, 9, 12], [9]), ([11, 13, 0, 1, 2, 3, 4, 5, 6, 7, 8, 9, 10, 11, 12, 13], [11])])
def level.B7 : List Nat := [0, 1, 0, 4, 0, 16, 0, 64, 240, 508, 0, 1024, 1023, 5119, 16383]
theorem level.tab7 : rtab .any (opsOf Try.f96 7) = level.T7 := by kernel_rfl
theorem level.bits7 : zaG level.T7.2 level.B7 = true := by kernel_rfl
set_option maxRecDepth 100000 in
set_option maxHeartbeats 2000000 in
theorem level_calls (n1 n2 : Bool) (A1 : Option Addr) (c1 : Nat) (l1 : List Int) (e1 : Int) (A2 : Option Addr) (c2 : Nat) (l2 : List Int) (e2 : Int) (N : Nat) (w : World) (r1 : Ru w A1 c1 l1 N) (r2 : Ru w A2 c2 l2 N) (hN : N ≤ 1000000) (hE : (-100000 ≤ e1 ∧ e1 ≤ 100000) ∧ (-100000 ≤ e2 ∧ e2 ≤ 100000)) :
  Calls Try.prog 96 #[.agg #[.bool n1, .slice A1 l1.length c1, .int .i64 e1], .agg #[.bool n2, .slice A2 l2.length c2, .int .i64 e2]] w fun o w' => ∃ A ca la B cb lb, o = .returned (.tuple #[.slice A (la : List Int).length ca, .slice B (lb : List Int).length cb, .int .i64 (lvE l1 e1 l2 e2)]) ∧ Ru w' A ca la (N + 10000) ∧ Ru w' B cb lb (N + 10000) ∧ nv la = nv l1 * 2 ^ (e1 - lvE l1 e1 l2 e2).toNat ∧ nv lb = nv l2 * 2 ^ (e2 - lvE l1 e1 l2 e2).toNat ∧ Below w.heap.size w w' := by
 have hu101 := Try.underlying101
 have HB := am_ (Below.refl w.heap.size w)
 have R1 := am_ r1
 have R2 := am_ r2
 have HE := am_ hE
 clear r1 r2 hE
 by_cases h1 : l1.length = 0
 ·have e0 : lvE l1 e1 l2 e2 = e2 := by unfold lvE; rw [if_pos h1]
  rw [e0]
  clear e0
  obtain rfl := List.length_eq_zero_iff.1 h1
  clear h1
  go_enter Try.func96, Try.ntmps96
  go_wp2_with (first
  | ((with_reducible refine zr (N := 2) rfl ?_); refine zt rfl (N := 2) rfl (cs := #[.bool n1, .slice A1 0 c1, .int .i64 e1]) (t := 101) ?hr ?_; (case hr => first | (go_simp; done) | (go_simp; rfl)); intro g_x hg_ w1 hw_ hb_; have L_x := am_ (show w.heap.size ≤ g_x by have := HB.out.size; omega); replace R1 := am_ (R1.out.step hb_); replace R2 := am_ (R2.out.step hb_); replace HB := am_ (zh HB.out hb_); have K_x := am_ (show B3 w1 g_x n1 A1 0 c1 e1 from hw_); clear hg_ hw_ hb_)
  | ((with_reducible refine zr (N := 3) rfl ?_); refine zt rfl (N := 3) rfl (cs := #[.bool n2, .slice A2 l2.length c2, .int .i64 e2]) (t := 101) ?hr ?_; (case hr => first | (go_simp; done) | (go_simp; rfl)); intro g_y hg_ w2 hw_ hb_; have N_y_x := am_ (show g_x ≠ g_y by have := K_x.out.lt; omega); have L_y := am_ (show w.heap.size ≤ g_y by have := HB.out.size; omega); replace R1 := am_ (R1.out.step hb_); replace R2 := am_ (R2.out.step hb_); replace K_x := am_ (K_x.out.step hb_); replace HB := am_ (zh HB.out hb_); have K_y := am_ (show B3 w2 g_y n2 A2 l2.length c2 e2 from hw_); clear hg_ hw_ hb_; have c_x_0 := K_x.out.c0; have c_x_1 := K_x.out.c1; have c_x_2 := K_x.out.c2; have c_y_0 := K_y.out.c0; have c_y_1 := K_y.out.c1; have c_y_2 := K_y.out.c2)
  | fail)
  repeat (go_quiet (fail); try go_wp2_with fail)
  go_ret3
  exact ⟨none, 0, [], A2, c2, l2, by first | done | rfl, Ru.nil _ _, (R2.out.step (below_drewN (Below.refl _ _) _)).le (by omega), by simp [nv], by simp, below_drewN HB.out _⟩
 ·by_cases h2 : l2.length = 0
  ·have e0 : lvE l1 e1 l2 e2 = e1 := by unfold lvE; rw [if_neg h1, if_pos h2]
   rw [e0]
   clear e0
   obtain rfl := List.length_eq_zero_iff.1 h2
   clear h2
   have q10 : ((l1.length : Int) == 0) = false := beq_eq_false_iff_ne.mpr (by omega)
   have q11 : ¬ (l1 = []) := fun h_ => h1 (by rw [h_]; rfl)
   clear h1
   go_enter Try.func96, Try.ntmps96
   go_wp2_with (first
  | ((with_reducible refine zr (N := 2) rfl ?_); refine zt rfl (N := 2) rfl (cs := #[.bool n1, .slice A1 l1.length c1, .int .i64 e1]) (t := 101) ?hr ?_; (case hr => first | (go_simp; done) | (go_simp; rfl)); intro g_x hg_ w1 hw_ hb_; have L_x := am_ (show w.heap.size ≤ g_x by have := HB.out.size; omega); replace R1 := am_ (R1.out.step hb_); replace R2 := am_ (R2.out.step hb_); replace HB := am_ (zh HB.out hb_); have K_x := am_ (show B3 w1 g_x n1 A1 l1.length c1 e1 from hw_); clear hg_ hw_ hb_)
  | ((with_reducible refine zr (N := 3) rfl ?_); refine zt rfl (N := 3) rfl (cs := #[.bool n2, .slice A2 0 c2, .int .i64 e2]) (t := 101) ?hr ?_; (case hr => first | (go_simp; done) | (go_simp; rfl)); intro g_y hg_ w2 hw_ hb_; have N_y_x := am_ (show g_x ≠ g_y by have := K_x.out.lt; omega); have L_y := am_ (show w.heap.size ≤ g_y by have := HB.out.size; omega); replace R1 := am_ (R1.out.step hb_); replace R2 := am_ (R2.out.step hb_); replace K_x := am_ (K_x.out.step hb_); replace HB := am_ (zh HB.out hb_); have K_y := am_ (show B3 w2 g_y n2 A2 0 c2 e2 from hw_); clear hg_ hw_ hb_; have c_x_0 := K_x.out.c0; have c_x_1 := K_x.out.c1; have c_x_2 := K_x.out.c2; have c_y_0 := K_y.out.c0; have c_y_1 := K_y.out.c1; have c_y_2 := K_y.out.c2)
  | fail)
   repeat (go_quiet (fail); try go_wp2_with fail)
   go_ret3
   exact ⟨A1, c1, l1, none, 0, [], by first | done | rfl, (R1.out.step (below_drewN (Below.refl _ _) _)).le (by omega), Ru.nil _ _, by simp, by simp [nv], below_drewN HB.out _⟩
  ·by_cases h3 : e2 < e1
   ·have e0 : lvE l1 e1 l2 e2 = e2 := by unfold lvE; rw [if_neg h1, if_neg h2, if_pos h3]
    rw [e0]
    clear e0
    obtain ⟨D, hD⟩ : ∃ D : Nat, (D : Int) = e1 - e2 := ⟨(e1 - e2).toNat, by omega⟩
    have hD2 : D ≤ 200000 := by have := HE.out; omega
    have hw := w64 (e1 - e2) (by omega) (by omega)
    obtain ⟨t, ht, tv, tu, tt, tn⟩ := left_ev l1 R1.out.u D (by have := R1.out.n; omega) (by omega)
    obtain ⟨kl, hl⟩ := ht.get
    rw [hD, ← hw] at hl
    have FL := am_ hl
    have FT := am_ (show nv t = nv l1 * 2 ^ (e1 - e2).toNat by rw [tv, ← hD, Int.toNat_natCast])
    have FU := am_ tu
    have FR := am_ tt
    have FN := am_ (show t.length ≤ N + 10000 by have := R1.out.n; omega)
    clear ht tv tu tt tn hl hD hD2 hw D
    have h3b : decide (e2 < e1) = true := decide_eq_true h3
    clear h3
    have q10 : ((l1.length : Int) == 0) = false := beq_eq_false_iff_ne.mpr (by omega)
    have q11 : ¬ (l1 = []) := fun h_ => h1 (by rw [h_]; rfl)
    clear h1
    have q20 : ((l2.length : Int) == 0) = false := beq_eq_false_iff_ne.mpr (by omega)
    have q21 : ¬ (l2 = []) := fun h_ => h2 (by rw [h_]; rfl)
    clear h2
    go_enter Try.func96, Try.ntmps96
    go_wp2_with (first
  | ((with_reducible refine zr (N := 2) rfl ?_); refine zt rfl (N := 2) rfl (cs := #[.bool n1, .slice A1 l1.length c1, .int .i64 e1]) (t := 101) ?hr ?_; (case hr => first | (go_simp; done) | (go_simp; rfl)); intro g_x hg_ w1 hw_ hb_; have L_x := am_ (show w.heap.size ≤ g_x by have := HB.out.size; omega); replace R1 := am_ (R1.out.step hb_); replace R2 := am_ (R2.out.step hb_); replace HB := am_ (zh HB.out hb_); have K_x := am_ (show B3 w1 g_x n1 A1 l1.length c1 e1 from hw_); clear hg_ hw_ hb_)
  | ((with_reducible refine zr (N := 3) rfl ?_); refine zt rfl (N := 3) rfl (cs := #[.bool n2, .slice A2 l2.length c2, .int .i64 e2]) (t := 101) ?hr ?_; (case hr => first | (go_simp; done) | (go_simp; rfl)); intro g_y hg_ w2 hw_ hb_; have N_y_x := am_ (show g_x ≠ g_y by have := K_x.out.lt; omega); have L_y := am_ (show w.heap.size ≤ g_y by have := HB.out.size; omega); replace R1 := am_ (R1.out.step hb_); replace R2 := am_ (R2.out.step hb_); replace K_x := am_ (K_x.out.step hb_); replace HB := am_ (zh HB.out hb_); have K_y := am_ (show B3 w2 g_y n2 A2 l2.length c2 e2 from hw_); clear hg_ hw_ hb_; have c_x_0 := K_x.out.c0; have c_x_1 := K_x.out.c1; have c_x_2 := K_x.out.c2; have c_y_0 := K_y.out.c0; have c_y_1 := K_y.out.c1; have c_y_2 := K_y.out.c2)
  | fail)
    have hb : Below w2.heap.size w2 w2.drew := zaH (Below.refl _ _)
    replace R1 := am_ (R1.out.step hb); replace R2 := am_ (R2.out.step hb); replace K_x := am_ (K_x.out.step hb); replace K_y := am_ (K_y.out.step hb); replace HB := am_ (zh HB.out hb)
    clear c_x_0 c_x_1 c_x_2 c_y_0 c_y_1 c_y_2
    clear hb
    have c_x_0 := K_x.out.c0; have c_x_1 := K_x.out.c1; have c_x_2 := K_x.out.c2; have c_y_0 := K_y.out.c0; have c_y_1 := K_y.out.c1; have c_y_2 := K_y.out.c2
    refine zaY (n := 15) (S := fun w' => w'.cell? ⟨g_x, 0, none⟩ = some (.bool n1) ∧ w'.cell? ⟨g_x, 1, none⟩ = some (.slice A1 l1.length c1) ∧ w'.cell? ⟨g_x, 2, none⟩ = some (.int .i64 e1) ∧ w'.cell? ⟨g_y, 0, none⟩ = some (.bool n2) ∧ w'.cell? ⟨g_y, 1, none⟩ = some (.slice A2 l2.length c2) ∧ w'.cell? ⟨g_y, 2, none⟩ = some (.int .i64 e2)) (ds := []) (bl_ 15 0) (by kernel_rfl) rfl rfl ⟨K_x.out.c0, K_x.out.c1, K_x.out.c2, K_y.out.c0, K_y.out.c1, K_y.out.c2⟩ (fun hHeld => ?_); refine zav level.tab6 level.bits6 (fun HT_ HW_ => ?_)
    generalize w2.drew = w3 at R1 R2 K_x K_y HB hHeld ⊢
    refine zz (i := 0) (N := some 28) (v := ?_) (a' := ?_) (bl_ 15 1) rfl rfl (zn HT_.out (by kernel_rfl)) (fun _ _ _ h => h) (Or.inl ⟨by rfl, ?_⟩) ?_ ?_; rotate_left; (focus (intro w'; go_simp; first | done | with_reducible rfl)); rotate_left; (focus (simp only [Act.put, sI_, s0_, s1_, zl, zm]; first | done | rfl))
    refine zz (i := 2) (N := some 30) (v := ?_) (a' := ?_) (bl_ 15 5) rfl rfl (zn HT_.out (by kernel_rfl)) (fun _ _ _ h => h) (Or.inl ⟨by rfl, ?_⟩) ?_ ?_; rotate_left; (focus (intro w'; go_simp; first | done | with_reducible rfl)); rotate_left; (focus (simp only [Act.put, sI_, s0_, s1_, zl, zm]; first | done | rfl))
    refine zz (i := 4) (N := some 32) (v := ?_) (a' := ?_) (bl_ 15 21) rfl rfl (zn HT_.out (by kernel_rfl)) (fun _ _ _ h => h) (Or.inl ⟨by rfl, ?_⟩) ?_ ?_; rotate_left; (focus (intro w'; go_simp; first | done | with_reducible rfl)); rotate_left; (focus (simp only [Act.put, sI_, s0_, s1_, zl, zm]; first | done | rfl))
    refine zz (i := 8) (N := some 36) (v := ?_) (a' := ?_) (bl_ 15 277) rfl rfl (zn HT_.out (by kernel_rfl)) (fun _ _ _ h => h) (Or.inl ⟨by rfl, ?_⟩) ?_ ?_; rotate_left; (focus (intro w'; go_simp; first | done | with_reducible rfl)); rotate_left; (focus (simp only [Act.put, sI_, s0_, s1_, zl, zm]; first | done | rfl))
    refine zz (i := 10) (N := some 38) (v := ?_) (a' := ?_) (bl_ 15 1301) rfl rfl (zn HT_.out (by kernel_rfl)) (fun _ _ _ h => h) (Or.inl ⟨by rfl, ?_⟩) ?_ ?_; rotate_left; (focus (intro w'; go_simp; first | done | with_reducible rfl)); rotate_left; (focus (simp only [Act.put, sI_, s0_, s1_, zl, zm]; first | done | rfl))
    refine zau (i := 1) (N := some 29) (v := ?_) (a' := ?_) (bl_ 15 1303) rfl rfl (zR HT_.out HW_.out (by kernel_rfl)) (fun _ _ _ h => h) (Or.inl ⟨by rfl, ?_⟩) hHeld ?_ ?_; rotate_left; (focus (rintro w' ⟨s0, s1, s2, s3, s4, s5⟩; go_simp; first | done | with_reducible rfl)); rotate_left; (focus (simp only [Act.put, sI_, s0_, s1_, zl, zm]; first | done | rfl))
    refine zau (i := 3) (N := some 31) (v := ?_) (a' := ?_) (bl_ 15 1311) rfl rfl (zR HT_.out HW_.out (by kernel_rfl)) (fun _ _ _ h => h) (Or.inl ⟨by rfl, ?_⟩) hHeld ?_ ?_; rotate_left; (focus (rintro w' ⟨s0, s1, s2, s3, s4, s5⟩; go_simp; first | done | with_reducible rfl)); rotate_left; (focus (simp only [Act.put, sI_, s0_, s1_, zl, zm]; first | done | rfl))
    refine zau (i := 5) (N := some 33) (v := ?_) (a' := ?_) (bl_ 15 1343) rfl rfl (zR HT_.out HW_.out (by kernel_rfl)) (fun _ _ _ h => h) (Or.inl ⟨by rfl, ?_⟩) hHeld ?_ ?_; rotate_left; (focus (rintro w' ⟨s0, s1, s2, s3, s4, s5⟩; go_simp; first | done | with_reducible rfl)); rotate_left; (focus (simp only [Act.put, sI_, s0_, s1_, zl, zm]; first | done | rfl))
    refine zz (i := 6) (N := some 34) (v := ?_) (a' := ?_) (bl_ 15 1407) rfl rfl (zn HT_.out (by kernel_rfl)) (fun _ _ _ h => h) (Or.inl ⟨by rfl, ?_⟩) ?_ ?_; rotate_left; (focus (intro w'; go_simp; first | done | with_reducible rfl)); rotate_left; (focus (simp only [Act.put, sI_, s0_, s1_, zl, zm]; first | done | rfl))
    refine zau (i := 9) (N := some 37) (v := ?_) (a' := ?_) (bl_ 15 1919) rfl rfl (zR HT_.out HW_.out (by kernel_rfl)) (fun _ _ _ h => h) (Or.inl ⟨by rfl, ?_⟩) hHeld ?_ ?_; rotate_left; (focus (rintro w' ⟨s0, s1, s2, s3, s4, s5⟩; go_simp; first | done | with_reducible rfl)); rotate_left; (focus (simp only [Act.put, sI_, s0_, s1_, zl, zm]; first | done | rfl))
    refine zau (i := 11) (N := some 39) (v := ?_) (a' := ?_) (bl_ 15 3967) rfl rfl (zR HT_.out HW_.out (by kernel_rfl)) (fun _ _ _ h => h) (Or.inl ⟨by rfl, ?_⟩) hHeld ?_ ?_; rotate_left; (focus (rintro w' ⟨s0, s1, s2, s3, s4, s5⟩; go_simp; first | done | with_reducible rfl)); rotate_left; (focus (simp only [Act.put, sI_, s0_, s1_, zl, zm]; first | done | rfl))
    refine one_ (i := 7) (N := some 35) (bl_ 15 4095) rfl rfl (zae HT_.out (by kernel_rfl)) (by decide) (fun K hK => ?_)
    refine zbc Try.func103 (by kernel_rfl) rfl #[.slice A1 l1.length c1, .int .i64 (wrap64 (e1 - e2))] (by rfl) rfl rfl (by (try simp only [List.map_toArray, List.map_cons, List.map_nil]); first | done | rfl) ?_
    refine (zP.calls kl A1 c1 l1 (wrap64 (e1 - e2)) t w3 R1.out.row R1.out.cap FL.out).mono ?_
    rintro e_ w4 ⟨v0, rfl, h0, hb⟩
    refine ⟨_, rfl, ?_⟩
    obtain ⟨At, ct, rfl, r_t⟩ := Ru.of_R h0 FU.out FR.out FN.out
    replace R1 := am_ (R1.out.step hb); replace R2 := am_ (R2.out.step hb); replace K_x := am_ (K_x.out.step hb); replace K_y := am_ (K_y.out.step hb); replace HB := am_ (zh HB.out hb)
    have R_t := am_ r_t
    clear hb h0 r_t
    refine hK.out _ _ ⟨K_x.out.c0, K_x.out.c1, K_x.out.c2, K_y.out.c0, K_y.out.c1, K_y.out.c2⟩ (fun hHeld => ?_); clear hK K
    refine zZ (a' := ?_) ?_ ?_; rotate_left; (focus (show Act.put _ (some 35) _ = _; simp only [Act.put, sI_, s0_, s1_, zl, zm]; first | done | rfl))
    refine zz (i := 12) (N := some 4) (v := ?_) (a' := ?_) (bl_ 15 8191) rfl rfl (zn HT_.out (by kernel_rfl)) (fun _ _ _ h => h) (Or.inl ⟨by rfl, ?_⟩) ?_ ?_; rotate_left; (focus (intro w'; go_simp; first | done | with_reducible rfl)); rotate_left; (focus (simp only [Act.put, sI_, s0_, s1_, zl, zm]; first | done | rfl))
    refine zz (i := 13) (N := some 5) (v := ?_) (a' := ?_) (bl_ 15 16383) rfl rfl (zn HT_.out (by kernel_rfl)) (fun _ _ _ h => h) (Or.inl ⟨by rfl, ?_⟩) ?_ ?_; rotate_left; (focus (intro w'; go_simp; first | done | with_reducible rfl)); rotate_left; (focus (simp only [Act.put, sI_, s0_, s1_, zl, zm]; first | done | rfl))
    refine zz (i := 14) (N := some 6) (v := ?_) (a' := ?_) (bl_ 15 32767) rfl rfl (zn HT_.out (by kernel_rfl)) (fun _ _ _ h => h) (Or.inl ⟨by rfl, ?_⟩) ?_ ?_; rotate_left; (focus (intro w'; go_simp; first | done | with_reducible rfl)); rotate_left; (focus (simp only [Act.put, sI_, s0_, s1_, zl, zm]; first | done | rfl))
    refine done_ (zaL HT_.out (by kernel_rfl)) ?_
    go_wp2_with fail
    go_ret3
    exact ⟨At, ct, t, A2, c2, l2, by first | done | rfl, R_t.out, R2.out.le (by omega), FT.out, by simp, HB.out⟩
   ·have e0 : lvE l1 e1 l2 e2 = e1 := by unfold lvE; rw [if_neg h1, if_neg h2, if_neg h3]
    rw [e0]
    clear e0
    obtain ⟨D, hD⟩ : ∃ D : Nat, (D : Int) = e2 - e1 := ⟨(e2 - e1).toNat, by omega⟩
    have hD2 : D ≤ 200000 := by have := HE.out; omega
    have hw := w64 (e2 - e1) (by omega) (by omega)
    obtain ⟨t, ht, tv, tu, tt, tn⟩ := left_ev l2 R2.out.u D (by have := R2.out.n; omega) (by omega)
    obtain ⟨kl, hl⟩ := ht.get
    rw [hD, ← hw] at hl
    have FL := am_ hl
    have FT := am_ (show nv t = nv l2 * 2 ^ (e2 - e1).toNat by rw [tv, ← hD, Int.toNat_natCast])
    have FU := am_ tu
    have FR := am_ tt
    have FN := am_ (show t.length ≤ N + 10000 by have := R2.out.n; omega)
    clear ht tv tu tt tn hl hD hD2 hw D
    have h3b : decide (e2 < e1) = false := decide_eq_false h3
    clear h3
    have q10 : ((l1.length : Int) == 0) = false := beq_eq_false_iff_ne.mpr (by omega)
    have q11 : ¬ (l1 = []) := fun h_ => h1 (by rw [h_]; rfl)
    clear h1
    have q20 : ((l2.length : Int) == 0) = false := beq_eq_false_iff_ne.mpr (by omega)
    have q21 : ¬ (l2 = []) := fun h_ => h2 (by rw [h_]; rfl)
    clear h2
    go_enter Try.func96, Try.ntmps96
    go_wp2_with (first
  | ((with_reducible refine zr (N := 2) rfl ?_); refine zt rfl (N := 2) rfl (cs := #[.bool n1, .slice A1 l1.length c1, .int .i64 e1]) (t := 101) ?hr ?_; (case hr => first | (go_simp; done) | (go_simp; rfl)); intro g_x hg_ w1 hw_ hb_; have L_x := am_ (show w.heap.size ≤ g_x by have := HB.out.size; omega); replace R1 := am_ (R1.out.step hb_); replace R2 := am_ (R2.out.step hb_); replace HB := am_ (zh HB.out hb_); have K_x := am_ (show B3 w1 g_x n1 A1 l1.length c1 e1 from hw_); clear hg_ hw_ hb_)
  | ((with_reducible refine zr (N := 3) rfl ?_); refine zt rfl (N := 3) rfl (cs := #[.bool n2, .slice A2 l2.length c2, .int .i64 e2]) (t := 101) ?hr ?_; (case hr => first | (go_simp; done) | (go_simp; rfl)); intro g_y hg_ w2 hw_ hb_; have N_y_x := am_ (show g_x ≠ g_y by have := K_x.out.lt; omega); have L_y := am_ (show w.heap.size ≤ g_y by have := HB.out.size; omega); replace R1 := am_ (R1.out.step hb_); replace R2 := am_ (R2.out.step hb_); replace K_x := am_ (K_x.out.step hb_); replace HB := am_ (zh HB.out hb_); have K_y := am_ (show B3 w2 g_y n2 A2 l2.length c2 e2 from hw_); clear hg_ hw_ hb_; have c_x_0 := K_x.out.c0; have c_x_1 := K_x.out.c1; have c_x_2 := K_x.out.c2; have c_y_0 := K_y.out.c0; have c_y_1 := K_y.out.c1; have c_y_2 := K_y.out.c2)
  | fail)
    have hb : Below w2.heap.size w2 w2.drew := zaH (Below.refl _ _)
    replace R1 := am_ (R1.out.step hb); replace R2 := am_ (R2.out.step hb); replace K_x := am_ (K_x.out.step hb); replace K_y := am_ (K_y.out.step hb); replace HB := am_ (zh HB.out hb)
    clear c_x_0 c_x_1 c_x_2 c_y_0 c_y_1 c_y_2
    clear hb
    have c_x_0 := K_x.out.c0; have c_x_1 := K_x.out.c1; have c_x_2 := K_x.out.c2; have c_y_0 := K_y.out.c0; have c_y_1 := K_y.out.c1; have c_y_2 := K_y.out.c2
    refine zaY (n := 15) (S := fun w' => w'.cell? ⟨g_x, 0, none⟩ = some (.bool n1) ∧ w'.cell? ⟨g_x, 1, none⟩ = some (.slice A1 l1.length c1) ∧ w'.cell? ⟨g_x, 2, none⟩ = some (.int .i64 e1) ∧ w'.cell? ⟨g_y, 0, none⟩ = some (.bool n2) ∧ w'.cell? ⟨g_y, 1, none⟩ = some (.slice A2 l2.length c2) ∧ w'.cell? ⟨g_y, 2, none⟩ = some (.int .i64 e2)) (ds := []) (bl_ 15 0) (by kernel_rfl) rfl rfl ⟨K_x.out.c0, K_x.out.c1, K_x.out.c2, K_y.out.c0, K_y.out.c1, K_y.out.c2⟩ (fun hHeld => ?_); refine zav level.tab7 level.bits7 (fun HT_ HW_ => ?_)
    generalize w2.drew = w3 at R1 R2 K_x K_y HB hHeld ⊢
    refine zz (i := 0) (N := some 40) (v := ?_) (a' := ?_) (bl_ 15 1) rfl rfl (zn HT_.out (by kernel_rfl)) (fun _ _ _ h => h) (Or.inl ⟨by rfl, ?_⟩) ?_ ?_; rotate_left; (focus (intro w'; go_simp; first | done | with_reducible rfl)); rotate_left; (focus (simp only [Act.put, sI_, s0_, s1_, zl, zm]; first | done | rfl))
    refine zz (i := 2) (N := some 42) (v := ?_) (a' := ?_) (bl_ 15 5) rfl rfl (zn HT_.out (by kernel_rfl)) (fun _ _ _ h => h) (Or.inl ⟨by rfl, ?_⟩) ?_ ?_; rotate_left; (focus (intro w'; go_simp; first | done | with_reducible rfl)); rotate_left; (focus (simp only [Act.put, sI_, s0_, s1_, zl, zm]; first | done | rfl))
    refine zz (i := 4) (N := some 44) (v := ?_) (a' := ?_) (bl_ 15 21) rfl rfl (zn HT_.out (by kernel_rfl)) (fun _ _ _ h => h) (Or.inl ⟨by rfl, ?_⟩) ?_ ?_; rotate_left; (focus (intro w'; go_simp; first | done | with_reducible rfl)); rotate_left; (focus (simp only [Act.put, sI_, s0_, s1_, zl, zm]; first | done | rfl))
    refine zz (i := 6) (N := some 46) (v := ?_) (a' := ?_) (bl_ 15 85) rfl rfl (zn HT_.out (by kernel_rfl)) (fun _ _ _ h => h) (Or.inl ⟨by rfl, ?_⟩) ?_ ?_; rotate_left; (focus (intro w'; go_simp; first | done | with_reducible rfl)); rotate_left; (focus (simp only [Act.put, sI_, s0_, s1_, zl, zm]; first | done | rfl))
    refine zz (i := 10) (N := some 50) (v := ?_) (a' := ?_) (bl_ 15 1109) rfl rfl (zn HT_.out (by kernel_rfl)) (fun _ _ _ h => h) (Or.inl ⟨by rfl, ?_⟩) ?_ ?_; rotate_left; (focus (intro w'; go_simp; first | done | with_reducible rfl)); rotate_left; (focus (simp only [Act.put, sI_, s0_, s1_, zl, zm]; first | done | rfl))
    refine zau (i := 1) (N := some 41) (v := ?_) (a' := ?_) (bl_ 15 1111) rfl rfl (zR HT_.out HW_.out (by kernel_rfl)) (fun _ _ _ h => h) (Or.inl ⟨by rfl, ?_⟩) hHeld ?_ ?_; rotate_left; (focus (rintro w' ⟨s0, s1, s2, s3, s4, s5⟩; go_simp; first | done | with_reducible rfl)); rotate_left; (focus (simp only [Act.put, sI_, s0_, s1_, zl, zm]; first | done | rfl))
    refine zau (i := 3) (N := some 43) (v := ?_) (a' := ?_) (bl_ 15 1119) rfl rfl (zR HT_.out HW_.out (by kernel_rfl)) (fun _ _ _ h => h) (Or.inl ⟨by rfl, ?_⟩) hHeld ?_ ?_; rotate_left; (focus (rintro w' ⟨s0, s1, s2, s3, s4, s5⟩; go_simp; first | done | with_reducible rfl)); rotate_left; (focus (simp only [Act.put, sI_, s0_, s1_, zl, zm]; first | done | rfl))
    refine zau (i := 5) (N := some 45) (v := ?_) (a' := ?_) (bl_ 15 1151) rfl rfl (zR HT_.out HW_.out (by kernel_rfl)) (fun _ _ _ h => h) (Or.inl ⟨by rfl, ?_⟩) hHeld ?_ ?_; rotate_left; (focus (rintro w' ⟨s0, s1, s2, s3, s4, s5⟩; go_simp; first | done | with_reducible rfl)); rotate_left; (focus (simp only [Act.put, sI_, s0_, s1_, zl, zm]; first | done | rfl))
    refine zau (i := 7) (N := some 47) (v := ?_) (a' := ?_) (bl_ 15 1279) rfl rfl (zR HT_.out HW_.out (by kernel_rfl)) (fun _ _ _ h => h) (Or.inl ⟨by rfl, ?_⟩) hHeld ?_ ?_; rotate_left; (focus (rintro w' ⟨s0, s1, s2, s3, s4, s5⟩; go_simp; first | done | with_reducible rfl)); rotate_left; (focus (simp only [Act.put, sI_, s0_, s1_, zl, zm]; first | done | rfl))
    refine zz (i := 8) (N := some 48) (v := ?_) (a' := ?_) (bl_ 15 1535) rfl rfl (zn HT_.out (by kernel_rfl)) (fun _ _ _ h => h) (Or.inl ⟨by rfl, ?_⟩) ?_ ?_; rotate_left; (focus (intro w'; go_simp; first | done | with_reducible rfl)); rotate_left; (focus (simp only [Act.put, sI_, s0_, s1_, zl, zm]; first | done | rfl))
    refine zau (i := 11) (N := some 51) (v := ?_) (a' := ?_) (bl_ 15 3583) rfl rfl (zR HT_.out HW_.out (by kernel_rfl)) (fun _ _ _ h => h) (Or.inl ⟨by rfl, ?_⟩) hHeld ?_ ?_; rotate_left; (focus (rintro w' ⟨s0, s1, s2, s3, s4, s5⟩; go_simp; first | done | with_reducible rfl)); rotate_left; (focus (simp only [Act.put, sI_, s0_, s1_, zl, zm]; first | done | rfl))
    refine one_ (i := 9) (N := some 49) (bl_ 15 4095) rfl rfl (zae HT_.out (by kernel_rfl)) (by decide) (fun K hK => ?_)
    refine zbc Try.func103 (by kernel_rfl) rfl #[.slice A2 l2.length c2, .int .i64 (wrap64 (e2 - e1))] (by rfl) rfl rfl (by (try simp only [List.map_toArray, List.map_cons, List.map_nil]); first | done | rfl) ?_
    refine (zP.calls kl A2 c2 l2 (wrap64 (e2 - e1)) t w3 R2.out.row R2.out.cap FL.out).mono ?_
    rintro e_ w4 ⟨v0, rfl, h0, hb⟩
    refine ⟨_, rfl, ?_⟩
    obtain ⟨At, ct, rfl, r_t⟩ := Ru.of_R h0 FU.out FR.out FN.out
    replace R1 := am_ (R1.out.step hb); replace R2 := am_ (R2.out.step hb); replace K_x := am_ (K_x.out.step hb); replace K_y := am_ (K_y.out.step hb); replace HB := am_ (zh HB.out hb)
    have R_t := am_ r_t
    clear hb h0 r_t
    refine hK.out _ _ ⟨K_x.out.c0, K_x.out.c1, K_x.out.c2, K_y.out.c0, K_y.out.c1, K_y.out.c2⟩ (fun hHeld => ?_); clear hK K
    refine zZ (a' := ?_) ?_ ?_; rotate_left; (focus (show Act.put _ (some 49) _ = _; simp only [Act.put, sI_, s0_, s1_, zl, zm]; first | done | rfl))
    refine zz (i := 12) (N := some 4) (v := ?_) (a' := ?_) (bl_ 15 8191) rfl rfl (zn HT_.out (by kernel_rfl)) (fun _ _ _ h => h) (Or.inl ⟨by rfl, ?_⟩) ?_ ?_; rotate_left; (focus (intro w'; go_simp; first | done | with_reducible rfl)); rotate_left; (focus (simp only [Act.put, sI_, s0_, s1_, zl, zm]; first | done | rfl))
    refine zz (i := 13) (N := some 5) (v := ?_) (a' := ?_) (bl_ 15 16383) rfl rfl (zn HT_.out (by kernel_rfl)) (fun _ _ _ h => h) (Or.inl ⟨by rfl, ?_⟩) ?_ ?_; rotate_left; (focus (intro w'; go_simp; first | done | with_reducible rfl)); rotate_left; (focus (simp only [Act.put, sI_, s0_, s1_, zl, zm]; first | done | rfl))
    refine zz (i := 14) (N := some 6) (v := ?_) (a' := ?_) (bl_ 15 32767) rfl rfl (zn HT_.out (by kernel_rfl)) (fun _ _ _ h => h) (Or.inl ⟨by rfl, ?_⟩) ?_ ?_; rotate_left; (focus (intro w'; go_simp; first | done | with_reducible rfl)); rotate_left; (focus (simp only [Act.put, sI_, s0_, s1_, zl, zm]; first | done | rfl))
    refine done_ (zaL HT_.out (by kernel_rfl)) ?_
    go_wp2_with fail
    go_ret3
    exact ⟨A1, c1, l1, At, ct, t, by first | done | rfl, R1.out.le (by omega), R_t.out, by simp, FT.out, HB.out⟩
end Go.Proofs.Ytlidbaejhmamjaa.NW

namespace Go.Proofs.Ytlidbaejhmamjaa.NW
open Go.RowKit Go.Proofs.YtlidbaejhmamjaaW.PrintWords Go.Proofs.YtlidbaejhmamjaaW.PrintLast Go.Proofs.YtlidbaejhmamjaaW.PrintMore Go.Proofs.Ytlidbaejhmamjaa.PB Go.Proofs.Ytlidbaejhmamjaa.LA Go.Proofs.Ytlidbaejhmamjaa.AC Go.Proofs.Ytlidbaejhmamjaa.LW
set_option linter.unusedVariables false
set_option linter.unusedSimpArgs false
/-- A number with its sign. -/
def sv (nb : Bool) (v : Int) : Int := if nb = true then -v else v
theorem sv_zero (nb : Bool) : sv nb 0 = 0 := by cases nb <;> rfl
theorem sv_mul (nb : Bool) (v p : Int) : sv nb v * p = sv nb (v * p) := by cases nb <;> simp [sv, Int.neg_mul]
theorem sv_not (nb : Bool) (v : Int) : sv (!nb) v = - sv nb v := by cases nb <;> simp [sv]
theorem nv_zero_len {l : List Int} (hu : U32 l) (ht : Tr l) (h : nv l = 0) : l.length = 0 := by
 apply Classical.byContradiction
 intro hc
 have := nv_pos hu ht (by omega)
 omega
theorem scaled_zero {v : Int} {k : Nat} (h : v * 2 ^ k = 0) : v = 0 := by
 rcases Int.mul_eq_zero.1 h with h | h
 ·exact h
 ·exact absurd h (Int.ne_of_gt (zak k))
set_option maxRecDepth 100000 in
set_option maxHeartbeats 2000000 in
theorem plus_calls (n1 n2 : Bool) (A1 : Option Addr) (c1 : Nat) (l1 : List Int) (e1 : Int) (A2 : Option Addr) (c2 : Nat) (l2 : List Int) (e2 : Int) (N : Nat) (w : World) (r1 : Ru w A1 c1 l1 N) (r2 : Ru w A2 c2 l2 N) (hN : N ≤ 1000000) (hE : (-100000 ≤ e1 ∧ e1 ≤ 100000) ∧ (-100000 ≤ e2 ∧ e2 ≤ 100000)) :
  Calls Try.prog 80 #[.agg #[.bool n1, .slice A1 l1.length c1, .int .i64 e1], .agg #[.bool n2, .slice A2 l2.length c2, .int .i64 e2]] w fun o w' => ∃ nb A c l e, o = .returned (.agg #[.bool nb, .slice A (l : List Int).length c, .int .i64 e]) ∧ Ru w' A c l (N + 20000) ∧ sv nb (nv l) = sv n1 (nv l1) * 2 ^ (e1 - lvE l1 e1 l2 e2).toNat + sv n2 (nv l2) * 2 ^ (e2 - lvE l1 e1 l2 e2).toNat ∧ (l.length = 0 ∨ e = lvE l1 e1 l2 e2) ∧ Below w.heap.size w w' := by
 have hu101 := Try.underlying101
 have HB := am_ (Below.refl w.heap.size w)
 have R1 := am_ r1
 have R2 := am_ r2
 obtain ⟨E, hE0⟩ : ∃ E, E = lvE l1 e1 l2 e2 := ⟨_, rfl⟩
 rw [← hE0]
 have HE0 := am_ hE0
 clear hE0
 go_enter Try.func80, Try.ntmps80
 go_wp2_with (first
  | ((with_reducible refine zr (N := 2) rfl ?_); refine zt rfl (N := 2) rfl (cs := #[.bool n1, .slice A1 l1.length c1, .int .i64 e1]) (t := 101) ?hr ?_; (case hr => first | (go_simp; done) | (go_simp; rfl)); intro g_x hg_ w1 hw_ hb_; have L_x := am_ (show w.heap.size ≤ g_x by have := HB.out.size; omega); replace R1 := am_ (R1.out.step hb_); replace R2 := am_ (R2.out.step hb_); replace HB := am_ (zh HB.out hb_); have K_x := am_ (show B3 w1 g_x n1 A1 l1.length c1 e1 from hw_); clear hg_ hw_ hb_)
  | ((with_reducible refine zr (N := 3) rfl ?_); refine zt rfl (N := 3) rfl (cs := #[.bool n2, .slice A2 l2.length c2, .int .i64 e2]) (t := 101) ?hr ?_; (case hr => first | (go_simp; done) | (go_simp; rfl)); intro g_y hg_ w2 hw_ hb_; have N_y_x := am_ (show g_x ≠ g_y by have := K_x.out.lt; omega); have L_y := am_ (show w.heap.size ≤ g_y by have := HB.out.size; omega); replace R1 := am_ (R1.out.step hb_); replace R2 := am_ (R2.out.step hb_); replace K_x := am_ (K_x.out.step hb_); replace HB := am_ (zh HB.out hb_); have K_y := am_ (show B3 w2 g_y n2 A2 l2.length c2 e2 from hw_); clear hg_ hw_ hb_)
  | ((with_reducible refine zr (N := 4) rfl ?_); refine zt rfl (N := 4) rfl (cs := #[.bool false, .slice none 0 0, .int .i64 0]) (t := 101) ?hr ?_; (case hr => first | (go_simp; done) | (go_simp; rfl)); intro g_r hg_ w3 hw_ hb_; have N_r_x := am_ (show g_x ≠ g_r by have := K_x.out.lt; omega); have N_r_y := am_ (show g_y ≠ g_r by have := K_y.out.lt; omega); have L_r := am_ (show w.heap.size ≤ g_r by have := HB.out.size; omega); replace R1 := am_ (R1.out.step hb_); replace R2 := am_ (R2.out.step hb_); replace K_x := am_ (K_x.out.step hb_); replace K_y := am_ (K_y.out.step hb_); replace HB := am_ (zh HB.out hb_); have K_r := am_ (show B3 w3 g_r false none 0 0 0 from hw_); clear hg_ hw_ hb_; have c_x_0 := K_x.out.c0; have c_x_1 := K_x.out.c1; have c_x_2 := K_x.out.c2; have c_y_0 := K_y.out.c0; have c_y_1 := K_y.out.c1; have c_y_2 := K_y.out.c2; have c_r_0 := K_r.out.c0; have c_r_1 := K_r.out.c1; have c_r_2 := K_r.out.c2)
  | fail)
 have lvc := level_calls n1 n2 A1 c1 l1 e1 A2 c2 l2 e2 N w3 R1.out R2.out hN hE
 rw [← HE0.out] at lvc
 refine lvc.mono ?_
 clear lvc
 rintro o_ w4 ⟨A, ca, la, B, cb, lb, rfl, r_a, r_b, va, vb, hb⟩
 replace R1 := am_ (R1.out.step hb); replace R2 := am_ (R2.out.step hb); replace K_x := am_ (K_x.out.step hb); replace K_y := am_ (K_y.out.step hb); replace K_r := am_ (K_r.out.step hb); replace HB := am_ (zh HB.out hb)
 have RA := am_ r_a
 have RB := am_ r_b
 clear hb r_a r_b
 clear c_x_0 c_x_1 c_x_2 c_y_0 c_y_1 c_y_2 c_r_0 c_r_1 c_r_2
 have E1 := am_ (show l1.length = 0 → E = e2 from fun h => by rw [HE0.out]; unfold lvE; rw [if_pos h])
 have E2 := am_ (show l1.length ≠ 0 → l2.length = 0 → E = e1 from fun h h' => by rw [HE0.out]; unfold lvE; rw [if_neg h, if_pos h'])
 have VA := am_ va
 have VB := am_ vb
 clear va vb r1 r2 hE
 have HT := am_ (show sv n1 (nv l1) * 2 ^ (e1 - E).toNat + sv n2 (nv l2) * 2 ^ (e2 - E).toNat = sv n1 (nv la) + sv n2 (nv lb) by rw [VA.out, VB.out, sv_mul, sv_mul])
 have Q1 := am_ (show la.length = 0 → l1.length = 0 from fun h => nv_zero_len R1.out.u R1.out.t (scaled_zero (by rw [← VA.out, List.length_eq_zero_iff.1 h]; rfl)))
 have Q2 := am_ (show lb.length = 0 → l2.length = 0 from fun h => nv_zero_len R2.out.u R2.out.t (scaled_zero (by rw [← VB.out, List.length_eq_zero_iff.1 h]; rfl)))
 have c_x_0 := K_x.out.c0; have c_x_1 := K_x.out.c1; have c_x_2 := K_x.out.c2; have c_y_0 := K_y.out.c0; have c_y_1 := K_y.out.c1; have c_y_2 := K_y.out.c2; have c_r_0 := K_r.out.c0; have c_r_1 := K_r.out.c1; have c_r_2 := K_r.out.c2
 by_cases ha : la.length = 0
 ·obtain rfl := List.length_eq_zero_iff.1 ha
  have HR := am_ (show sv n2 (nv l2) = sv n1 (nv l1) * 2 ^ (e1 - E).toNat + sv n2 (nv l2) * 2 ^ (e2 - E).toNat ∧ e2 = E by rw [HT.out, VB.out, E1.out (Q1.out ha), Int.sub_self]; simp [nv, sv_zero])
  clear ha
  go_wp2_with (first
  | ((with_reducible refine zr (N := 8) rfl ?_); refine zt rfl (N := 8) rfl (cs := #[.bool false, .slice none 0 0, .int .i64 0]) (t := 101) ?hr ?_; (case hr => first | (go_simp; done) | (go_simp; rfl)); intro g_o hg_ w5 hw_ hb_; have N_o_x := am_ (show g_x ≠ g_o by have := K_x.out.lt; omega); have N_o_y := am_ (show g_y ≠ g_o by have := K_y.out.lt; omega); have N_o_r := am_ (show g_r ≠ g_o by have := K_r.out.lt; omega); have L_o := am_ (show w.heap.size ≤ g_o by have := HB.out.size; omega); replace R1 := am_ (R1.out.step hb_); replace R2 := am_ (R2.out.step hb_); replace RA := am_ (RA.out.step hb_); replace RB := am_ (RB.out.step hb_); replace K_x := am_ (K_x.out.step hb_); replace K_y := am_ (K_y.out.step hb_); replace K_r := am_ (K_r.out.step hb_); replace HB := am_ (zh HB.out hb_); have K_o := am_ (show B3 w5 g_o false none 0 0 0 from hw_); clear hg_ hw_ hb_)
  | ((with_reducible refine zJ (t := 101) (p := 8) rfl ?_); refine zD rfl 101 rfl rfl g_o #[.bool n1, .slice none 0 0, .int .i64 E] rfl rfl 101 _ K_o.out (za7.trans rfl) rfl (za6 _ _ _ _ _) ?_; intro w6 hw_ hg_; replace R1 := am_ (R1.out.put K_o.out hg_); replace R2 := am_ (R2.out.put K_o.out hg_); replace RA := am_ (RA.out.put K_o.out hg_); replace RB := am_ (RB.out.put K_o.out hg_); replace K_x := am_ (K_x.out.put hg_ N_o_x.out); replace K_y := am_ (K_y.out.put hg_ N_o_y.out); replace K_r := am_ (K_r.out.put hg_ N_o_r.out); replace HB := am_ (HB.out.grown hg_ HB.out.size (fun k_ hk_ => by cases hk_; exact L_o.out)); replace K_o := am_ (show B3 w6 g_o n1 none 0 0 E from hw_); clear hw_ hg_; have r_o_0 := K_o.out.c0; have r_o_1 := K_o.out.c1; have r_o_2 := K_o.out.c2; have c_x_0 := K_x.out.c0; have c_x_1 := K_x.out.c1; have c_x_2 := K_x.out.c2; have c_y_0 := K_y.out.c0; have c_y_1 := K_y.out.c1; have c_y_2 := K_y.out.c2; have c_r_0 := K_r.out.c0; have c_r_1 := K_r.out.c1; have c_r_2 := K_r.out.c2; have f_o_0 := K_o.out.f 0; have f_o_1 := K_o.out.f 1; have f_o_2 := K_o.out.f 2)
  | ((with_reducible refine zJ (t := 101) (p := 4) rfl ?_); refine zD rfl 101 rfl rfl g_r #[.bool n2, .slice A2 l2.length c2, .int .i64 e2] rfl rfl 101 _ K_r.out (za7.trans rfl) rfl (za6 _ _ _ _ _) ?_; intro w7 hw_ hg_; replace R1 := am_ (R1.out.put K_r.out hg_); replace R2 := am_ (R2.out.put K_r.out hg_); replace RA := am_ (RA.out.put K_r.out hg_); replace RB := am_ (RB.out.put K_r.out hg_); replace K_x := am_ (K_x.out.put hg_ N_r_x.out); replace K_y := am_ (K_y.out.put hg_ N_r_y.out); replace K_o := am_ (K_o.out.put hg_ N_o_r.out.symm); replace HB := am_ (HB.out.grown hg_ HB.out.size (fun k_ hk_ => by cases hk_; exact L_r.out)); replace K_r := am_ (show B3 w7 g_r n2 A2 l2.length c2 e2 from hw_); clear hw_ hg_; have r_r_0 := K_r.out.c0; have r_r_1 := K_r.out.c1; have r_r_2 := K_r.out.c2)
  | fail)
  refine bodyPost_ret (results_cell_row rfl _ _ g_r 101 #[.bool n2, .slice A2 l2.length c2, .int .i64 e2] (0, 0) _ rfl K_r.out Try.underlying101 rfl (by kernel_rfl)) rfl ?_
  exact ⟨n2, A2, c2, l2, e2, by first | done | rfl, R2.out.le (by omega), HR.out.1, .inr HR.out.2, HB.out⟩
 ·by_cases hb : lb.length = 0
  ·obtain rfl := List.length_eq_zero_iff.1 hb
   have HR := am_ (show sv n1 (nv l1) = sv n1 (nv l1) * 2 ^ (e1 - E).toNat + sv n2 (nv l2) * 2 ^ (e2 - E).toNat ∧ e1 = E by
    have q : l1.length ≠ 0 := fun h => ha (nv_zero_len RA.out.u RA.out.t (by rw [VA.out, List.length_eq_zero_iff.1 h]; simp [nv]))
    rw [HT.out, VA.out, E2.out q (Q2.out hb), Int.sub_self]; simp [nv, sv_zero])
   clear hb
   have qa0 : ((la.length : Int) == 0) = false := beq_eq_false_iff_ne.mpr (by omega)
   have qa1 : ¬ (la = []) := fun h_ => ha (by rw [h_]; rfl)
   have Pa := am_ ha
   clear ha
   go_wp2_with (first
  | ((with_reducible refine zr (N := 8) rfl ?_); refine zt rfl (N := 8) rfl (cs := #[.bool false, .slice none 0 0, .int .i64 0]) (t := 101) ?hr ?_; (case hr => first | (go_simp; done) | (go_simp; rfl)); intro g_o hg_ w5 hw_ hb_; have N_o_x := am_ (show g_x ≠ g_o by have := K_x.out.lt; omega); have N_o_y := am_ (show g_y ≠ g_o by have := K_y.out.lt; omega); have N_o_r := am_ (show g_r ≠ g_o by have := K_r.out.lt; omega); have L_o := am_ (show w.heap.size ≤ g_o by have := HB.out.size; omega); replace R1 := am_ (R1.out.step hb_); replace R2 := am_ (R2.out.step hb_); replace RA := am_ (RA.out.step hb_); replace RB := am_ (RB.out.step hb_); replace K_x := am_ (K_x.out.step hb_); replace K_y := am_ (K_y.out.step hb_); replace K_r := am_ (K_r.out.step hb_); replace HB := am_ (zh HB.out hb_); have K_o := am_ (show B3 w5 g_o false none 0 0 0 from hw_); clear hg_ hw_ hb_)
  | ((with_reducible refine zJ (t := 101) (p := 8) rfl ?_); refine zD rfl 101 rfl rfl g_o #[.bool n1, .slice none 0 0, .int .i64 E] rfl rfl 101 _ K_o.out (za7.trans rfl) rfl (za6 _ _ _ _ _) ?_; intro w6 hw_ hg_; replace R1 := am_ (R1.out.put K_o.out hg_); replace R2 := am_ (R2.out.put K_o.out hg_); replace RA := am_ (RA.out.put K_o.out hg_); replace RB := am_ (RB.out.put K_o.out hg_); replace K_x := am_ (K_x.out.put hg_ N_o_x.out); replace K_y := am_ (K_y.out.put hg_ N_o_y.out); replace K_r := am_ (K_r.out.put hg_ N_o_r.out); replace HB := am_ (HB.out.grown hg_ HB.out.size (fun k_ hk_ => by cases hk_; exact L_o.out)); replace K_o := am_ (show B3 w6 g_o n1 none 0 0 E from hw_); clear hw_ hg_; have r_o_0 := K_o.out.c0; have r_o_1 := K_o.out.c1; have r_o_2 := K_o.out.c2; have c_x_0 := K_x.out.c0; have c_x_1 := K_x.out.c1; have c_x_2 := K_x.out.c2; have c_y_0 := K_y.out.c0; have c_y_1 := K_y.out.c1; have c_y_2 := K_y.out.c2; have c_r_0 := K_r.out.c0; have c_r_1 := K_r.out.c1; have c_r_2 := K_r.out.c2; have f_o_0 := K_o.out.f 0; have f_o_1 := K_o.out.f 1; have f_o_2 := K_o.out.f 2)
  | ((with_reducible refine zJ (t := 101) (p := 4) rfl ?_); refine zD rfl 101 rfl rfl g_r #[.bool n1, .slice A1 l1.length c1, .int .i64 e1] rfl rfl 101 _ K_r.out (za7.trans rfl) rfl (za6 _ _ _ _ _) ?_; intro w7 hw_ hg_; replace R1 := am_ (R1.out.put K_r.out hg_); replace R2 := am_ (R2.out.put K_r.out hg_); replace RA := am_ (RA.out.put K_r.out hg_); replace RB := am_ (RB.out.put K_r.out hg_); replace K_x := am_ (K_x.out.put hg_ N_r_x.out); replace K_y := am_ (K_y.out.put hg_ N_r_y.out); replace K_o := am_ (K_o.out.put hg_ N_o_r.out.symm); replace HB := am_ (HB.out.grown hg_ HB.out.size (fun k_ hk_ => by cases hk_; exact L_r.out)); replace K_r := am_ (show B3 w7 g_r n1 A1 l1.length c1 e1 from hw_); clear hw_ hg_; have r_r_0 := K_r.out.c0; have r_r_1 := K_r.out.c1; have r_r_2 := K_r.out.c2)
  | fail)
   refine bodyPost_ret (results_cell_row rfl _ _ g_r 101 #[.bool n1, .slice A1 l1.length c1, .int .i64 e1] (0, 0) _ rfl K_r.out Try.underlying101 rfl (by kernel_rfl)) rfl ?_
   exact ⟨n1, A1, c1, l1, e1, by first | done | rfl, R1.out.le (by omega), HR.out.1, .inr HR.out.2, HB.out⟩
  ·have nb0 : 0 < lb.length := by omega
   have na0 : 0 < la.length := by omega
   have PV := am_ (And.intro (nv_pos RA.out.u RA.out.t na0) (nv_pos RB.out.u RB.out.t nb0))
   clear nb0 na0
   have qa0 : ((la.length : Int) == 0) = false := beq_eq_false_iff_ne.mpr (by omega)
   have qa1 : ¬ (la = []) := fun h_ => ha (by rw [h_]; rfl)
   have Pa := am_ ha
   clear ha
   have qb0 : ((lb.length : Int) == 0) = false := beq_eq_false_iff_ne.mpr (by omega)
   have qb1 : ¬ (lb = []) := fun h_ => hb (by rw [h_]; rfl)
   have Pb := am_ hb
   clear hb
   by_cases hs : n1 = n2
   ·subst hs
    obtain ⟨t, ht, tv, tu, tt, tn⟩ := plus_ev la lb RA.out.u RB.out.u (by have := RA.out.n; omega) (by have := RB.out.n; omega)
    obtain ⟨kl, hl⟩ := ht.get
    have FL := am_ hl
    have FT := am_ (show sv n1 (nv t) = sv n1 (nv la) + sv n1 (nv lb) by rw [tv]; cases n1 <;> simp [sv]; omega)
    have FU := am_ tu
    have FR := am_ tt
    have FN := am_ (show t.length ≤ N + 20000 by have := RA.out.n; have := RB.out.n; omega)
    have FZ := am_ (show t.length ≠ 0 from fun h => by have := PV.out; rw [List.length_eq_zero_iff.1 h] at tv; simp [nv] at tv; omega)
    clear ht tv tu tt tn hl
    go_wp2_with (first
  | ((with_reducible refine zr (N := 8) rfl ?_); refine zt rfl (N := 8) rfl (cs := #[.bool false, .slice none 0 0, .int .i64 0]) (t := 101) ?hr ?_; (case hr => first | (go_simp; done) | (go_simp; rfl)); intro g_o hg_ w5 hw_ hb_; have N_o_x := am_ (show g_x ≠ g_o by have := K_x.out.lt; omega); have N_o_y := am_ (show g_y ≠ g_o by have := K_y.out.lt; omega); have N_o_r := am_ (show g_r ≠ g_o by have := K_r.out.lt; omega); have L_o := am_ (show w.heap.size ≤ g_o by have := HB.out.size; omega); replace R1 := am_ (R1.out.step hb_); replace R2 := am_ (R2.out.step hb_); replace RA := am_ (RA.out.step hb_); replace RB := am_ (RB.out.step hb_); replace K_x := am_ (K_x.out.step hb_); replace K_y := am_ (K_y.out.step hb_); replace K_r := am_ (K_r.out.step hb_); replace HB := am_ (zh HB.out hb_); have K_o := am_ (show B3 w5 g_o false none 0 0 0 from hw_); clear hg_ hw_ hb_)
  | ((with_reducible refine zJ (t := 101) (p := 8) rfl ?_); refine zD rfl 101 rfl rfl g_o #[.bool n1, .slice none 0 0, .int .i64 E] rfl rfl 101 _ K_o.out (za7.trans rfl) rfl (za6 _ _ _ _ _) ?_; intro w6 hw_ hg_; replace R1 := am_ (R1.out.put K_o.out hg_); replace R2 := am_ (R2.out.put K_o.out hg_); replace RA := am_ (RA.out.put K_o.out hg_); replace RB := am_ (RB.out.put K_o.out hg_); replace K_x := am_ (K_x.out.put hg_ N_o_x.out); replace K_y := am_ (K_y.out.put hg_ N_o_y.out); replace K_r := am_ (K_r.out.put hg_ N_o_r.out); replace HB := am_ (HB.out.grown hg_ HB.out.size (fun k_ hk_ => by cases hk_; exact L_o.out)); replace K_o := am_ (show B3 w6 g_o n1 none 0 0 E from hw_); clear hw_ hg_; have r_o_0 := K_o.out.c0; have r_o_1 := K_o.out.c1; have r_o_2 := K_o.out.c2; have c_x_0 := K_x.out.c0; have c_x_1 := K_x.out.c1; have c_x_2 := K_x.out.c2; have c_y_0 := K_y.out.c0; have c_y_1 := K_y.out.c1; have c_y_2 := K_y.out.c2; have c_r_0 := K_r.out.c0; have c_r_1 := K_r.out.c1; have c_r_2 := K_r.out.c2; have f_o_0 := K_o.out.f 0; have f_o_1 := K_o.out.f 1; have f_o_2 := K_o.out.f 2)
  | fail)
    refine (zM.calls kl A ca la B cb lb t _ RA.out.row RA.out.cap RB.out.row RB.out.cap FL.out).mono ?_
    rintro e_ w7 ⟨v0, rfl, h0, hb⟩
    obtain ⟨At, ct, rfl, r_t⟩ := Ru.of_R h0 FU.out FR.out FN.out
    replace R1 := am_ (R1.out.step hb); replace R2 := am_ (R2.out.step hb); replace RA := am_ (RA.out.step hb); replace RB := am_ (RB.out.step hb); replace K_x := am_ (K_x.out.step hb); replace K_y := am_ (K_y.out.step hb); replace K_r := am_ (K_r.out.step hb); replace K_o := am_ (K_o.out.step hb); replace HB := am_ (zh HB.out hb)
    have R_t := am_ r_t
    clear hb h0 r_t
    clear c_x_0 c_x_1 c_x_2 c_y_0 c_y_1 c_y_2 c_r_0 c_r_1 c_r_2 r_o_0 r_o_1 r_o_2 f_o_0 f_o_1 f_o_2
    have f_o_0 := K_o.out.f 0
    have f_o_1 := K_o.out.f 1
    have f_o_2 := K_o.out.f 2
    have c_x_0 := K_x.out.c0; have c_x_1 := K_x.out.c1; have c_x_2 := K_x.out.c2; have c_y_0 := K_y.out.c0; have c_y_1 := K_y.out.c1; have c_y_2 := K_y.out.c2; have c_o_0 := K_o.out.c0; have c_o_1 := K_o.out.c1; have c_o_2 := K_o.out.c2
    have z0 : ((t.length : Int) == 0) = false := beq_eq_false_iff_ne.mpr (by have := FZ.out; omega)
    have z1 : ¬ (t = []) := fun h_ => FZ.out (by rw [h_]; rfl)
    go_wp2_with (first
  | ((with_reducible refine zJ (t := 101) (p := 4) rfl ?_); have hs_ := z8 w7 g_o 1 (.slice At t.length ct); replace R1 := am_ (R1.out.put K_o.out hs_); replace R2 := am_ (R2.out.put K_o.out hs_); replace RA := am_ (RA.out.put K_o.out hs_); replace RB := am_ (RB.out.put K_o.out hs_); replace R_t := am_ (R_t.out.put K_o.out hs_); replace K_x := am_ (K_x.out.put hs_ N_o_x.out); replace K_y := am_ (K_y.out.put hs_ N_o_y.out); replace K_r := am_ (K_r.out.put hs_ N_o_r.out); replace HB := am_ (HB.out.grown hs_ HB.out.size (fun k_ hk_ => by cases hk_; exact L_o.out)); replace K_o := am_ (show B3 (w7.setCell ⟨g_o, 1, none⟩ (.slice At t.length ct)) g_o n1 At t.length ct E from zaD K_o.out 1 _); clear hs_; generalize w7.setCell ⟨g_o, 1, none⟩ (.slice At t.length ct) = w8 at HB R1 R2 RA RB R_t K_x K_y K_r K_o ⊢; refine zD rfl 101 rfl rfl g_r #[.bool n1, .slice At t.length ct, .int .i64 E] rfl rfl 101 _ K_r.out (za7.trans rfl) rfl (za6 _ _ _ _ _) ?_; intro w9 hw_ hg_; replace R1 := am_ (R1.out.put K_r.out hg_); replace R2 := am_ (R2.out.put K_r.out hg_); replace RA := am_ (RA.out.put K_r.out hg_); replace RB := am_ (RB.out.put K_r.out hg_); replace R_t := am_ (R_t.out.put K_r.out hg_); replace K_x := am_ (K_x.out.put hg_ N_r_x.out); replace K_y := am_ (K_y.out.put hg_ N_r_y.out); replace K_o := am_ (K_o.out.put hg_ N_o_r.out.symm); replace HB := am_ (HB.out.grown hg_ HB.out.size (fun k_ hk_ => by cases hk_; exact L_r.out)); replace K_r := am_ (show B3 w9 g_r n1 At t.length ct E from hw_); clear hw_ hg_; have r_r_0 := K_r.out.c0; have r_r_1 := K_r.out.c1; have r_r_2 := K_r.out.c2)
  | fail)
    refine bodyPost_ret (results_cell_row rfl _ _ g_r 101 #[.bool n1, .slice At t.length ct, .int .i64 E] (0, 0) _ rfl K_r.out Try.underlying101 rfl (by kernel_rfl)) rfl ?_
    exact ⟨n1, At, ct, t, E, by first | done | rfl, R_t.out, by rw [HT.out, FT.out], .inr rfl, HB.out⟩
   ·have hs0 : (n1 == n2) = false := beq_eq_false_iff_ne.mpr hs
    have HS := am_ (show n2 = !n1 by cases n1 <;> cases n2 <;> simp_all)
    have hs1 := hs
    clear hs
    by_cases hc : nv lb ≤ nv la
    ·obtain ⟨kc, hk⟩ := (cmp_ev la lb RA.out.u RB.out.u RA.out.t RB.out.t (by have := RA.out.n; omega) (by have := RB.out.n; omega)).get
     have hle : nv lb ≤ nv la := by omega
     have hs2 : 0 ≤ sgnI (nv la - nv lb) := by
      by_cases h0 : nv la - nv lb = 0
      ·rw [sgnI_zero h0]; decide
      ·rw [sgnI_pos (by omega)]; decide
     generalize sgnI (nv la - nv lb) = s at hk hs2
     have FK := am_ hk
     clear hk
     obtain ⟨t, ht, tv, tu, tt, tn⟩ := minus_ev la lb RA.out.u RB.out.u (len_le RA.out.u RB.out.u RB.out.t hle) hle (by have := RA.out.n; omega)
     obtain ⟨kl, hl⟩ := ht.get
     have FL := am_ hl
     have FT := am_ (show sv n1 (nv t) = sv n1 (nv la) + sv n2 (nv lb) by rw [tv, HS.out]; cases n1 <;> simp [sv] <;> omega)
     have FU := am_ tu
     have FR := am_ tt
     have FN := am_ (show t.length ≤ N + 20000 by have := RA.out.n; omega)
     clear ht tv tu tt tn hl hc hle
     have hs3 : decide (s ≥ 0) = true := decide_eq_true hs2
     go_wp2_with (first
  | ((with_reducible refine zr (N := 8) rfl ?_); refine zt rfl (N := 8) rfl (cs := #[.bool false, .slice none 0 0, .int .i64 0]) (t := 101) ?hr ?_; (case hr => first | (go_simp; done) | (go_simp; rfl)); intro g_o hg_ w5 hw_ hb_; have N_o_x := am_ (show g_x ≠ g_o by have := K_x.out.lt; omega); have N_o_y := am_ (show g_y ≠ g_o by have := K_y.out.lt; omega); have N_o_r := am_ (show g_r ≠ g_o by have := K_r.out.lt; omega); have L_o := am_ (show w.heap.size ≤ g_o by have := HB.out.size; omega); replace R1 := am_ (R1.out.step hb_); replace R2 := am_ (R2.out.step hb_); replace RA := am_ (RA.out.step hb_); replace RB := am_ (RB.out.step hb_); replace K_x := am_ (K_x.out.step hb_); replace K_y := am_ (K_y.out.step hb_); replace K_r := am_ (K_r.out.step hb_); replace HB := am_ (zh HB.out hb_); have K_o := am_ (show B3 w5 g_o false none 0 0 0 from hw_); clear hg_ hw_ hb_)
  | ((with_reducible refine zJ (t := 101) (p := 8) rfl ?_); refine zD rfl 101 rfl rfl g_o #[.bool n1, .slice none 0 0, .int .i64 E] rfl rfl 101 _ K_o.out (za7.trans rfl) rfl (za6 _ _ _ _ _) ?_; intro w6 hw_ hg_; replace R1 := am_ (R1.out.put K_o.out hg_); replace R2 := am_ (R2.out.put K_o.out hg_); replace RA := am_ (RA.out.put K_o.out hg_); replace RB := am_ (RB.out.put K_o.out hg_); replace K_x := am_ (K_x.out.put hg_ N_o_x.out); replace K_y := am_ (K_y.out.put hg_ N_o_y.out); replace K_r := am_ (K_r.out.put hg_ N_o_r.out); replace HB := am_ (HB.out.grown hg_ HB.out.size (fun k_ hk_ => by cases hk_; exact L_o.out)); replace K_o := am_ (show B3 w6 g_o n1 none 0 0 E from hw_); clear hw_ hg_; have r_o_0 := K_o.out.c0; have r_o_1 := K_o.out.c1; have r_o_2 := K_o.out.c2; have c_x_0 := K_x.out.c0; have c_x_1 := K_x.out.c1; have c_x_2 := K_x.out.c2; have c_y_0 := K_y.out.c0; have c_y_1 := K_y.out.c1; have c_y_2 := K_y.out.c2; have c_r_0 := K_r.out.c0; have c_r_1 := K_r.out.c1; have c_r_2 := K_r.out.c2; have f_o_0 := K_o.out.f 0; have f_o_1 := K_o.out.f 1; have f_o_2 := K_o.out.f 2)
  | fail)
     refine (z7.calls kc A ca la B cb lb s w6 RA.out.row RA.out.cap RB.out.row RB.out.cap FK.out).mono ?_
     rintro e_ w7 ⟨rfl, hd⟩
     have hb := drawn0_below hd
     replace R1 := am_ (R1.out.step hb); replace R2 := am_ (R2.out.step hb); replace RA := am_ (RA.out.step hb); replace RB := am_ (RB.out.step hb); replace K_x := am_ (K_x.out.step hb); replace K_y := am_ (K_y.out.step hb); replace K_r := am_ (K_r.out.step hb); replace K_o := am_ (K_o.out.step hb); replace HB := am_ (zh HB.out hb)
     clear hb hd
     clear c_x_0 c_x_1 c_x_2 c_y_0 c_y_1 c_y_2 c_r_0 c_r_1 c_r_2 r_o_0 r_o_1 r_o_2 f_o_0 f_o_1 f_o_2
     have f_o_0 := K_o.out.f 0
     have f_o_1 := K_o.out.f 1
     have f_o_2 := K_o.out.f 2
     have c_x_0 := K_x.out.c0; have c_x_1 := K_x.out.c1; have c_x_2 := K_x.out.c2; have c_y_0 := K_y.out.c0; have c_y_1 := K_y.out.c1; have c_y_2 := K_y.out.c2; have c_r_0 := K_r.out.c0; have c_r_1 := K_r.out.c1; have c_r_2 := K_r.out.c2
     have r_o_0 := K_o.out.c0
     have r_o_1 := K_o.out.c1
     have r_o_2 := K_o.out.c2
     go_wp2_with fail
     refine (zO.calls kl A ca la B cb lb t _ RA.out.row RA.out.cap RB.out.row RB.out.cap FL.out).mono ?_
     rintro e_ w8 ⟨v0, rfl, h0, hb⟩
     obtain ⟨At, ct, rfl, r_t⟩ := Ru.of_R h0 FU.out FR.out FN.out
     replace R1 := am_ (R1.out.step hb); replace R2 := am_ (R2.out.step hb); replace RA := am_ (RA.out.step hb); replace RB := am_ (RB.out.step hb); replace K_x := am_ (K_x.out.step hb); replace K_y := am_ (K_y.out.step hb); replace K_r := am_ (K_r.out.step hb); replace K_o := am_ (K_o.out.step hb); replace HB := am_ (zh HB.out hb)
     have R_t := am_ r_t
     clear hb h0 r_t
     clear c_x_0 c_x_1 c_x_2 c_y_0 c_y_1 c_y_2 c_r_0 c_r_1 c_r_2 r_o_0 r_o_1 r_o_2 f_o_0 f_o_1 f_o_2
     have f_o_0 := K_o.out.f 0
     have f_o_1 := K_o.out.f 1
     have f_o_2 := K_o.out.f 2
     have c_x_0 := K_x.out.c0; have c_x_1 := K_x.out.c1; have c_x_2 := K_x.out.c2; have c_y_0 := K_y.out.c0; have c_y_1 := K_y.out.c1; have c_y_2 := K_y.out.c2; have c_o_0 := K_o.out.c0; have c_o_1 := K_o.out.c1; have c_o_2 := K_o.out.c2
     by_cases hz : t.length = 0
     ·obtain rfl := List.length_eq_zero_iff.1 hz
      go_wp2_with (first
  | ((with_reducible refine zJ (t := 101) (p := 4) rfl ?_); have hs_ := z8 w8 g_o 1 (.slice At 0 ct); replace R1 := am_ (R1.out.put K_o.out hs_); replace R2 := am_ (R2.out.put K_o.out hs_); replace RA := am_ (RA.out.put K_o.out hs_); replace RB := am_ (RB.out.put K_o.out hs_); replace R_t := am_ (R_t.out.put K_o.out hs_); replace K_x := am_ (K_x.out.put hs_ N_o_x.out); replace K_y := am_ (K_y.out.put hs_ N_o_y.out); replace K_r := am_ (K_r.out.put hs_ N_o_r.out); replace HB := am_ (HB.out.grown hs_ HB.out.size (fun k_ hk_ => by cases hk_; exact L_o.out)); replace K_o := am_ (show B3 (w8.setCell ⟨g_o, 1, none⟩ (.slice At 0 ct)) g_o n1 At 0 ct E from zaD K_o.out 1 _); clear hs_; generalize w8.setCell ⟨g_o, 1, none⟩ (.slice At 0 ct) = w9 at HB R1 R2 RA RB R_t K_x K_y K_r K_o ⊢; refine zD rfl 101 rfl rfl g_r #[.bool false, .slice none 0 0, .int .i64 0] rfl rfl 101 _ K_r.out (za7.trans rfl) rfl (za6 _ _ _ _ _) ?_; intro w10 hw_ hg_; replace R1 := am_ (R1.out.put K_r.out hg_); replace R2 := am_ (R2.out.put K_r.out hg_); replace RA := am_ (RA.out.put K_r.out hg_); replace RB := am_ (RB.out.put K_r.out hg_); replace R_t := am_ (R_t.out.put K_r.out hg_); replace K_x := am_ (K_x.out.put hg_ N_r_x.out); replace K_y := am_ (K_y.out.put hg_ N_r_y.out); replace K_o := am_ (K_o.out.put hg_ N_o_r.out.symm); replace HB := am_ (HB.out.grown hg_ HB.out.size (fun k_ hk_ => by cases hk_; exact L_r.out)); replace K_r := am_ (show B3 w10 g_r false none 0 0 0 from hw_); clear hw_ hg_; have r_r_0 := K_r.out.c0; have r_r_1 := K_r.out.c1; have r_r_2 := K_r.out.c2)
  | fail)
      refine bodyPost_ret (results_cell_row rfl _ _ g_r 101 #[.bool false, .slice none 0 0, .int .i64 0] (0, 0) _ rfl K_r.out Try.underlying101 rfl (by kernel_rfl)) rfl ?_
      exact ⟨false, none, 0, [], 0, by first | done | rfl, Ru.nil _ _, by rw [HT.out, ← FT.out]; simp [nv, sv_zero], .inl rfl, HB.out⟩
     ·have z0 : ((t.length : Int) == 0) = false := beq_eq_false_iff_ne.mpr (by omega)
      have z1 : ¬ (t = []) := fun h_ => hz (by rw [h_]; rfl)
      clear hz
      go_wp2_with (first
  | ((with_reducible refine zJ (t := 101) (p := 4) rfl ?_); have hs_ := z8 w8 g_o 1 (.slice At t.length ct); replace R1 := am_ (R1.out.put K_o.out hs_); replace R2 := am_ (R2.out.put K_o.out hs_); replace RA := am_ (RA.out.put K_o.out hs_); replace RB := am_ (RB.out.put K_o.out hs_); replace R_t := am_ (R_t.out.put K_o.out hs_); replace K_x := am_ (K_x.out.put hs_ N_o_x.out); replace K_y := am_ (K_y.out.put hs_ N_o_y.out); replace K_r := am_ (K_r.out.put hs_ N_o_r.out); replace HB := am_ (HB.out.grown hs_ HB.out.size (fun k_ hk_ => by cases hk_; exact L_o.out)); replace K_o := am_ (show B3 (w8.setCell ⟨g_o, 1, none⟩ (.slice At t.length ct)) g_o n1 At t.length ct E from zaD K_o.out 1 _); clear hs_; generalize w8.setCell ⟨g_o, 1, none⟩ (.slice At t.length ct) = w9 at HB R1 R2 RA RB R_t K_x K_y K_r K_o ⊢; refine zD rfl 101 rfl rfl g_r #[.bool n1, .slice At t.length ct, .int .i64 E] rfl rfl 101 _ K_r.out (za7.trans rfl) rfl (za6 _ _ _ _ _) ?_; intro w10 hw_ hg_; replace R1 := am_ (R1.out.put K_r.out hg_); replace R2 := am_ (R2.out.put K_r.out hg_); replace RA := am_ (RA.out.put K_r.out hg_); replace RB := am_ (RB.out.put K_r.out hg_); replace R_t := am_ (R_t.out.put K_r.out hg_); replace K_x := am_ (K_x.out.put hg_ N_r_x.out); replace K_y := am_ (K_y.out.put hg_ N_r_y.out); replace K_o := am_ (K_o.out.put hg_ N_o_r.out.symm); replace HB := am_ (HB.out.grown hg_ HB.out.size (fun k_ hk_ => by cases hk_; exact L_r.out)); replace K_r := am_ (show B3 w10 g_r n1 At t.length ct E from hw_); clear hw_ hg_; have r_r_0 := K_r.out.c0; have r_r_1 := K_r.out.c1; have r_r_2 := K_r.out.c2)
  | fail)
      refine bodyPost_ret (results_cell_row rfl _ _ g_r 101 #[.bool n1, .slice At t.length ct, .int .i64 E] (0, 0) _ rfl K_r.out Try.underlying101 rfl (by kernel_rfl)) rfl ?_
      exact ⟨n1, At, ct, t, E, by first | done | rfl, R_t.out, by rw [HT.out, FT.out], .inr rfl, HB.out⟩
    ·obtain ⟨kc, hk⟩ := (cmp_ev la lb RA.out.u RB.out.u RA.out.t RB.out.t (by have := RA.out.n; omega) (by have := RB.out.n; omega)).get
     have hle : nv la ≤ nv lb := by omega
     have hs2 : sgnI (nv la - nv lb) < 0 := by
      rw [sgnI_neg (by omega)]; decide
     generalize sgnI (nv la - nv lb) = s at hk hs2
     have FK := am_ hk
     clear hk
     obtain ⟨t, ht, tv, tu, tt, tn⟩ := minus_ev lb la RB.out.u RA.out.u (len_le RB.out.u RA.out.u RA.out.t hle) hle (by have := RB.out.n; omega)
     obtain ⟨kl, hl⟩ := ht.get
     have FL := am_ hl
     have FT := am_ (show sv n2 (nv t) = sv n1 (nv la) + sv n2 (nv lb) by rw [tv, HS.out]; cases n1 <;> simp [sv] <;> omega)
     have FU := am_ tu
     have FR := am_ tt
     have FN := am_ (show t.length ≤ N + 20000 by have := RB.out.n; omega)
     clear ht tv tu tt tn hl hc hle
     have hs3 : decide (s ≥ 0) = false := decide_eq_false (by omega)
     have hs4 : decide (0 ≤ s) = false := decide_eq_false (by omega)
     go_wp2_with (first
  | ((with_reducible refine zr (N := 8) rfl ?_); refine zt rfl (N := 8) rfl (cs := #[.bool false, .slice none 0 0, .int .i64 0]) (t := 101) ?hr ?_; (case hr => first | (go_simp; done) | (go_simp; rfl)); intro g_o hg_ w5 hw_ hb_; have N_o_x := am_ (show g_x ≠ g_o by have := K_x.out.lt; omega); have N_o_y := am_ (show g_y ≠ g_o by have := K_y.out.lt; omega); have N_o_r := am_ (show g_r ≠ g_o by have := K_r.out.lt; omega); have L_o := am_ (show w.heap.size ≤ g_o by have := HB.out.size; omega); replace R1 := am_ (R1.out.step hb_); replace R2 := am_ (R2.out.step hb_); replace RA := am_ (RA.out.step hb_); replace RB := am_ (RB.out.step hb_); replace K_x := am_ (K_x.out.step hb_); replace K_y := am_ (K_y.out.step hb_); replace K_r := am_ (K_r.out.step hb_); replace HB := am_ (zh HB.out hb_); have K_o := am_ (show B3 w5 g_o false none 0 0 0 from hw_); clear hg_ hw_ hb_)
  | ((with_reducible refine zJ (t := 101) (p := 8) rfl ?_); refine zD rfl 101 rfl rfl g_o #[.bool n1, .slice none 0 0, .int .i64 E] rfl rfl 101 _ K_o.out (za7.trans rfl) rfl (za6 _ _ _ _ _) ?_; intro w6 hw_ hg_; replace R1 := am_ (R1.out.put K_o.out hg_); replace R2 := am_ (R2.out.put K_o.out hg_); replace RA := am_ (RA.out.put K_o.out hg_); replace RB := am_ (RB.out.put K_o.out hg_); replace K_x := am_ (K_x.out.put hg_ N_o_x.out); replace K_y := am_ (K_y.out.put hg_ N_o_y.out); replace K_r := am_ (K_r.out.put hg_ N_o_r.out); replace HB := am_ (HB.out.grown hg_ HB.out.size (fun k_ hk_ => by cases hk_; exact L_o.out)); replace K_o := am_ (show B3 w6 g_o n1 none 0 0 E from hw_); clear hw_ hg_; have r_o_0 := K_o.out.c0; have r_o_1 := K_o.out.c1; have r_o_2 := K_o.out.c2; have c_x_0 := K_x.out.c0; have c_x_1 := K_x.out.c1; have c_x_2 := K_x.out.c2; have c_y_0 := K_y.out.c0; have c_y_1 := K_y.out.c1; have c_y_2 := K_y.out.c2; have c_r_0 := K_r.out.c0; have c_r_1 := K_r.out.c1; have c_r_2 := K_r.out.c2; have f_o_0 := K_o.out.f 0; have f_o_1 := K_o.out.f 1; have f_o_2 := K_o.out.f 2)
  | fail)
     refine (z7.calls kc A ca la B cb lb s w6 RA.out.row RA.out.cap RB.out.row RB.out.cap FK.out).mono ?_
     rintro e_ w7 ⟨rfl, hd⟩
     have hb := drawn0_below hd
     replace R1 := am_ (R1.out.step hb); replace R2 := am_ (R2.out.step hb); replace RA := am_ (RA.out.step hb); replace RB := am_ (RB.out.step hb); replace K_x := am_ (K_x.out.step hb); replace K_y := am_ (K_y.out.step hb); replace K_r := am_ (K_r.out.step hb); replace K_o := am_ (K_o.out.step hb); replace HB := am_ (zh HB.out hb)
     clear hb hd
     clear c_x_0 c_x_1 c_x_2 c_y_0 c_y_1 c_y_2 c_r_0 c_r_1 c_r_2 r_o_0 r_o_1 r_o_2 f_o_0 f_o_1 f_o_2
     have f_o_0 := K_o.out.f 0
     have f_o_1 := K_o.out.f 1
     have f_o_2 := K_o.out.f 2
     have c_x_0 := K_x.out.c0; have c_x_1 := K_x.out.c1; have c_x_2 := K_x.out.c2; have c_y_0 := K_y.out.c0; have c_y_1 := K_y.out.c1; have c_y_2 := K_y.out.c2; have c_r_0 := K_r.out.c0; have c_r_1 := K_r.out.c1; have c_r_2 := K_r.out.c2
     have r_o_0 := K_o.out.c0
     have r_o_1 := K_o.out.c1
     have r_o_2 := K_o.out.c2
     go_wp2_with fail
     have hs_ := z8 w7 g_o 0 (.bool n2); replace R1 := am_ (R1.out.put K_o.out hs_); replace R2 := am_ (R2.out.put K_o.out hs_); replace RA := am_ (RA.out.put K_o.out hs_); replace RB := am_ (RB.out.put K_o.out hs_); replace K_x := am_ (K_x.out.put hs_ N_o_x.out); replace K_y := am_ (K_y.out.put hs_ N_o_y.out); replace K_r := am_ (K_r.out.put hs_ N_o_r.out); replace HB := am_ (HB.out.grown hs_ HB.out.size (fun k_ hk_ => by cases hk_; exact L_o.out)); replace K_o := am_ (show B3 (w7.setCell ⟨g_o, 0, none⟩ (.bool n2)) g_o n2 none 0 0 E from zaD K_o.out 0 _); clear hs_; generalize w7.setCell ⟨g_o, 0, none⟩ (.bool n2) = w8 at HB R1 R2 RA RB K_x K_y K_r K_o ⊢
     refine (zO.calls kl B cb lb A ca la t _ RB.out.row RB.out.cap RA.out.row RA.out.cap FL.out).mono ?_
     rintro e_ w9 ⟨v0, rfl, h0, hb⟩
     obtain ⟨At, ct, rfl, r_t⟩ := Ru.of_R h0 FU.out FR.out FN.out
     replace R1 := am_ (R1.out.step hb); replace R2 := am_ (R2.out.step hb); replace RA := am_ (RA.out.step hb); replace RB := am_ (RB.out.step hb); replace K_x := am_ (K_x.out.step hb); replace K_y := am_ (K_y.out.step hb); replace K_r := am_ (K_r.out.step hb); replace K_o := am_ (K_o.out.step hb); replace HB := am_ (zh HB.out hb)
     have R_t := am_ r_t
     clear hb h0 r_t
     clear c_x_0 c_x_1 c_x_2 c_y_0 c_y_1 c_y_2 c_r_0 c_r_1 c_r_2 r_o_0 r_o_1 r_o_2 f_o_0 f_o_1 f_o_2
     have f_o_0 := K_o.out.f 0
     have f_o_1 := K_o.out.f 1
     have f_o_2 := K_o.out.f 2
     have c_x_0 := K_x.out.c0; have c_x_1 := K_x.out.c1; have c_x_2 := K_x.out.c2; have c_y_0 := K_y.out.c0; have c_y_1 := K_y.out.c1; have c_y_2 := K_y.out.c2; have c_o_0 := K_o.out.c0; have c_o_1 := K_o.out.c1; have c_o_2 := K_o.out.c2
     by_cases hz : t.length = 0
     ·obtain rfl := List.length_eq_zero_iff.1 hz
      go_wp2_with (first
  | ((with_reducible refine zJ (t := 101) (p := 4) rfl ?_); have hs_ := z8 w9 g_o 1 (.slice At 0 ct); replace R1 := am_ (R1.out.put K_o.out hs_); replace R2 := am_ (R2.out.put K_o.out hs_); replace RA := am_ (RA.out.put K_o.out hs_); replace RB := am_ (RB.out.put K_o.out hs_); replace R_t := am_ (R_t.out.put K_o.out hs_); replace K_x := am_ (K_x.out.put hs_ N_o_x.out); replace K_y := am_ (K_y.out.put hs_ N_o_y.out); replace K_r := am_ (K_r.out.put hs_ N_o_r.out); replace HB := am_ (HB.out.grown hs_ HB.out.size (fun k_ hk_ => by cases hk_; exact L_o.out)); replace K_o := am_ (show B3 (w9.setCell ⟨g_o, 1, none⟩ (.slice At 0 ct)) g_o n2 At 0 ct E from zaD K_o.out 1 _); clear hs_; generalize w9.setCell ⟨g_o, 1, none⟩ (.slice At 0 ct) = w10 at HB R1 R2 RA RB R_t K_x K_y K_r K_o ⊢; refine zD rfl 101 rfl rfl g_r #[.bool false, .slice none 0 0, .int .i64 0] rfl rfl 101 _ K_r.out (za7.trans rfl) rfl (za6 _ _ _ _ _) ?_; intro w11 hw_ hg_; replace R1 := am_ (R1.out.put K_r.out hg_); replace R2 := am_ (R2.out.put K_r.out hg_); replace RA := am_ (RA.out.put K_r.out hg_); replace RB := am_ (RB.out.put K_r.out hg_); replace R_t := am_ (R_t.out.put K_r.out hg_); replace K_x := am_ (K_x.out.put hg_ N_r_x.out); replace K_y := am_ (K_y.out.put hg_ N_r_y.out); replace K_o := am_ (K_o.out.put hg_ N_o_r.out.symm); replace HB := am_ (HB.out.grown hg_ HB.out.size (fun k_ hk_ => by cases hk_; exact L_r.out)); replace K_r := am_ (show B3 w11 g_r false none 0 0 0 from hw_); clear hw_ hg_; have r_r_0 := K_r.out.c0; have r_r_1 := K_r.out.c1; have r_r_2 := K_r.out.c2)
  | fail)
      refine bodyPost_ret (results_cell_row rfl _ _ g_r 101 #[.bool false, .slice none 0 0, .int .i64 0] (0, 0) _ rfl K_r.out Try.underlying101 rfl (by kernel_rfl)) rfl ?_
      exact ⟨false, none, 0, [], 0, by first | done | rfl, Ru.nil _ _, by rw [HT.out, ← FT.out]; simp [nv, sv_zero], .inl rfl, HB.out⟩
     ·have z0 : ((t.length : Int) == 0) = false := beq_eq_false_iff_ne.mpr (by omega)
      have z1 : ¬ (t = []) := fun h_ => hz (by rw [h_]; rfl)
      clear hz
      go_wp2_with (first
  | ((with_reducible refine zJ (t := 101) (p := 4) rfl ?_); have hs_ := z8 w9 g_o 1 (.slice At t.length ct); replace R1 := am_ (R1.out.put K_o.out hs_); replace R2 := am_ (R2.out.put K_o.out hs_); replace RA := am_ (RA.out.put K_o.out hs_); replace RB := am_ (RB.out.put K_o.out hs_); replace R_t := am_ (R_t.out.put K_o.out hs_); replace K_x := am_ (K_x.out.put hs_ N_o_x.out); replace K_y := am_ (K_y.out.put hs_ N_o_y.out); replace K_r := am_ (K_r.out.put hs_ N_o_r.out); replace HB := am_ (HB.out.grown hs_ HB.out.size (fun k_ hk_ => by cases hk_; exact L_o.out)); replace K_o := am_ (show B3 (w9.setCell ⟨g_o, 1, none⟩ (.slice At t.length ct)) g_o n2 At t.length ct E from zaD K_o.out 1 _); clear hs_; generalize w9.setCell ⟨g_o, 1, none⟩ (.slice At t.length ct) = w10 at HB R1 R2 RA RB R_t K_x K_y K_r K_o ⊢; refine zD rfl 101 rfl rfl g_r #[.bool n2, .slice At t.length ct, .int .i64 E] rfl rfl 101 _ K_r.out (za7.trans rfl) rfl (za6 _ _ _ _ _) ?_; intro w11 hw_ hg_; replace R1 := am_ (R1.out.put K_r.out hg_); replace R2 := am_ (R2.out.put K_r.out hg_); replace RA := am_ (RA.out.put K_r.out hg_); replace RB := am_ (RB.out.put K_r.out hg_); replace R_t := am_ (R_t.out.put K_r.out hg_); replace K_x := am_ (K_x.out.put hg_ N_r_x.out); replace K_y := am_ (K_y.out.put hg_ N_r_y.out); replace K_o := am_ (K_o.out.put hg_ N_o_r.out.symm); replace HB := am_ (HB.out.grown hg_ HB.out.size (fun k_ hk_ => by cases hk_; exact L_r.out)); replace K_r := am_ (show B3 w11 g_r n2 At t.length ct E from hw_); clear hw_ hg_; have r_r_0 := K_r.out.c0; have r_r_1 := K_r.out.c1; have r_r_2 := K_r.out.c2)
  | fail)
      refine bodyPost_ret (results_cell_row rfl _ _ g_r 101 #[.bool n2, .slice At t.length ct, .int .i64 E] (0, 0) _ rfl K_r.out Try.underlying101 rfl (by kernel_rfl)) rfl ?_
      exact ⟨n2, At, ct, t, E, by first | done | rfl, R_t.out, by rw [HT.out, FT.out], .inr rfl, HB.out⟩
end Go.Proofs.Ytlidbaejhmamjaa.NW

namespace Go.Proofs.Ytlidbaejhmamjaa.NW
open Go.RowKit Go.Proofs.YtlidbaejhmamjaaW.PrintWords Go.Proofs.YtlidbaejhmamjaaW.PrintLast Go.Proofs.YtlidbaejhmamjaaW.PrintMore Go.Proofs.Ytlidbaejhmamjaa.PB Go.Proofs.Ytlidbaejhmamjaa.LA Go.Proofs.Ytlidbaejhmamjaa.AC Go.Proofs.Ytlidbaejhmamjaa.LW
set_option linter.unusedVariables false
set_option linter.unusedSimpArgs false
def rminus.T1 : Bool × List (List Nat × List Nat) := (true, [([], []), ([], []), ([1], [1]), ([0, 2, 2], [0, 2]), ([3, 3, 0, 1, 2, 3], [3])])
def rminus.B1 : List Nat := [0, 0, 2, 7, 15]
theorem rminus.tab1 : rtab .any (opsOf Try.f71 1) = rminus.T1 := by kernel_rfl
theorem rminus.bits1 : zaG rminus.T1.2 rminus.B1 = true := by kernel_rfl
set_option maxRecDepth 100000 in
set_option maxHeartbeats 2000000 in
theorem rminus_calls (n1 n2 : Bool) (A1 : Option Addr) (c1 : Nat) (l1 : List Int) (e1 : Int) (A2 : Option Addr) (c2 : Nat) (l2 : List Int) (e2 : Int) (N : Nat) (w : World) (r1 : Ru w A1 c1 l1 N) (r2 : Ru w A2 c2 l2 N) (hN : N ≤ 1000000) (hE : (-100000 ≤ e1 ∧ e1 ≤ 100000) ∧ (-100000 ≤ e2 ∧ e2 ≤ 100000)) :
  Calls Try.prog 71 #[.agg #[.bool n1, .slice A1 l1.length c1, .int .i64 e1], .agg #[.bool n2, .slice A2 l2.length c2, .int .i64 e2]] w fun o w' => ∃ nb A c l e, o = .returned (.agg #[.bool nb, .slice A (l : List Int).length c, .int .i64 e]) ∧ Ru w' A c l (N + 20000) ∧ sv nb (nv l) = sv n1 (nv l1) * 2 ^ (e1 - lvE l1 e1 l2 e2).toNat - sv n2 (nv l2) * 2 ^ (e2 - lvE l1 e1 l2 e2).toNat ∧ Below w.heap.size w w' := by
 have hu101 := Try.underlying101
 have HB := am_ (Below.refl w.heap.size w)
 have R1 := am_ r1
 have R2 := am_ r2
 obtain ⟨E, hE0⟩ : ∃ E, E = lvE l1 e1 l2 e2 := ⟨_, rfl⟩
 rw [← hE0]
 have HE0 := am_ hE0
 obtain ⟨m2, hm⟩ : ∃ m2 : Bool, m2 = if l2.length = 0 then n2 else !n2 := ⟨_, rfl⟩
 have HM := am_ hm
 have HS := am_ (show sv m2 (nv l2) = - sv n2 (nv l2) by
  rw [hm]
  by_cases h : l2.length = 0
  ·rw [List.length_eq_zero_iff.1 h]; simp [nv, sv_zero]
  ·rw [if_neg h, sv_not])
 clear hE0 hm r1 r2
 go_enter Try.func71, Try.ntmps71
 go_wp2_with (first
  | ((with_reducible refine zr (N := 2) rfl ?_); refine zt rfl (N := 2) rfl (cs := #[.bool n1, .slice A1 l1.length c1, .int .i64 e1]) (t := 101) ?hr ?_; (case hr => first | (go_simp; done) | (go_simp; rfl)); intro g_x hg_ w1 hw_ hb_; have L_x := am_ (show w.heap.size ≤ g_x by have := HB.out.size; omega); replace R1 := am_ (R1.out.step hb_); replace R2 := am_ (R2.out.step hb_); replace HB := am_ (zh HB.out hb_); have K_x := am_ (show B3 w1 g_x n1 A1 l1.length c1 e1 from hw_); clear hg_ hw_ hb_)
  | ((with_reducible refine zr (N := 3) rfl ?_); refine zt rfl (N := 3) rfl (cs := #[.bool n2, .slice A2 l2.length c2, .int .i64 e2]) (t := 101) ?hr ?_; (case hr => first | (go_simp; done) | (go_simp; rfl)); intro g_y hg_ w2 hw_ hb_; have N_y_x := am_ (show g_x ≠ g_y by have := K_x.out.lt; omega); have L_y := am_ (show w.heap.size ≤ g_y by have := HB.out.size; omega); replace R1 := am_ (R1.out.step hb_); replace R2 := am_ (R2.out.step hb_); replace K_x := am_ (K_x.out.step hb_); replace HB := am_ (zh HB.out hb_); have K_y := am_ (show B3 w2 g_y n2 A2 l2.length c2 e2 from hw_); clear hg_ hw_ hb_)
  | ((with_reducible refine zr (N := 4) rfl ?_); refine zt rfl (N := 4) rfl (cs := #[.bool false, .slice none 0 0, .int .i64 0]) (t := 101) ?hr ?_; (case hr => first | (go_simp; done) | (go_simp; rfl)); intro g_r hg_ w3 hw_ hb_; have N_r_x := am_ (show g_x ≠ g_r by have := K_x.out.lt; omega); have N_r_y := am_ (show g_y ≠ g_r by have := K_y.out.lt; omega); have L_r := am_ (show w.heap.size ≤ g_r by have := HB.out.size; omega); replace R1 := am_ (R1.out.step hb_); replace R2 := am_ (R2.out.step hb_); replace K_x := am_ (K_x.out.step hb_); replace K_y := am_ (K_y.out.step hb_); replace HB := am_ (zh HB.out hb_); have K_r := am_ (show B3 w3 g_r false none 0 0 0 from hw_); clear hg_ hw_ hb_)
  | fail)
 have hb : Below w3.heap.size w3 w3.drew := zaH (Below.refl _ _)
 replace R1 := am_ (R1.out.step hb); replace R2 := am_ (R2.out.step hb); replace K_x := am_ (K_x.out.step hb); replace K_y := am_ (K_y.out.step hb); replace K_r := am_ (K_r.out.step hb); replace HB := am_ (zh HB.out hb)
 clear hb
 have c_x_0 := K_x.out.c0; have c_x_1 := K_x.out.c1; have c_x_2 := K_x.out.c2; have c_y_0 := K_y.out.c0; have c_y_1 := K_y.out.c1; have c_y_2 := K_y.out.c2; have c_r_0 := K_r.out.c0; have c_r_1 := K_r.out.c1; have c_r_2 := K_r.out.c2
 refine zaY (n := 5) (S := fun w' => w'.cell? ⟨g_x, 0, none⟩ = some (.bool n1) ∧ w'.cell? ⟨g_x, 1, none⟩ = some (.slice A1 l1.length c1) ∧ w'.cell? ⟨g_x, 2, none⟩ = some (.int .i64 e1) ∧ w'.cell? ⟨g_y, 0, none⟩ = some (.bool n2) ∧ w'.cell? ⟨g_y, 1, none⟩ = some (.slice A2 l2.length c2) ∧ w'.cell? ⟨g_y, 2, none⟩ = some (.int .i64 e2)) (ds := [4]) (bl_ 5 0) (by kernel_rfl) rfl rfl ⟨K_x.out.c0, K_x.out.c1, K_x.out.c2, K_y.out.c0, K_y.out.c1, K_y.out.c2⟩ (fun hHeld => ?_); refine zav rminus.tab1 rminus.bits1 (fun HT_ HW_ => ?_)
 generalize w3.drew = w4 at R1 R2 K_x K_y K_r HB hHeld ⊢
 refine zau (i := 0) (N := some 5) (v := ?_) (a' := ?_) (bl_ 5 1) rfl rfl (zR HT_.out HW_.out (by kernel_rfl)) (fun _ _ _ h => h) (Or.inl ⟨by rfl, ?_⟩) hHeld ?_ ?_; rotate_left; (focus (rintro w' ⟨s0, s1, s2, s3, s4, s5⟩; go_simp; first | done | with_reducible rfl)); rotate_left; (focus (simp only [Act.put, sI_, s0_, s1_, zl, zm]; first | done | rfl))
 refine zau (i := 1) (N := some 6) (v := ?_) (a' := ?_) (bl_ 5 3) rfl rfl (zR HT_.out HW_.out (by kernel_rfl)) (fun _ _ _ h => h) (Or.inl ⟨by rfl, ?_⟩) hHeld ?_ ?_; rotate_left; (focus (rintro w' ⟨s0, s1, s2, s3, s4, s5⟩; go_simp; first | done | with_reducible rfl)); rotate_left; (focus (simp only [Act.put, sI_, s0_, s1_, zl, zm]; first | done | rfl))
 refine one_ (i := 2) (N := some 7) (bl_ 5 7) rfl rfl (zae HT_.out (by kernel_rfl)) (by decide) (fun K hK => ?_)
 refine zbc Try.func87 (by kernel_rfl) rfl #[.agg #[.bool n2, .slice A2 l2.length c2, .int .i64 e2]] (by rfl) rfl rfl (by (try simp only [List.map_toArray, List.map_cons, List.map_nil]); first | done | rfl) ?_
 refine (turned_calls n2 A2 l2.length c2 e2 w4).mono ?_
 rw [← HM.out]
 rintro e_ w5 ⟨rfl, hb⟩
 refine ⟨_, rfl, ?_⟩
 replace R1 := am_ (R1.out.step hb); replace R2 := am_ (R2.out.step hb); replace K_x := am_ (K_x.out.step hb); replace K_y := am_ (K_y.out.step hb); replace K_r := am_ (K_r.out.step hb); replace HB := am_ (zh HB.out hb)
 clear hb
 refine hK.out _ _ ⟨K_x.out.c0, K_x.out.c1, K_x.out.c2, K_y.out.c0, K_y.out.c1, K_y.out.c2⟩ (fun hHeld => ?_); clear hK K
 refine zZ (a' := ?_) ?_ ?_; rotate_left; (focus (show Act.put _ (some 7) _ = _; simp only [Act.put, sI_, s0_, s1_, zl, zm]; first | done | rfl))
 refine one_ (i := 3) (N := some 8) (bl_ 5 15) rfl rfl (zae HT_.out (by kernel_rfl)) (by decide) (fun K hK => ?_)
 refine zbc Try.func80 (by kernel_rfl) rfl #[.agg #[.bool n1, .slice A1 l1.length c1, .int .i64 e1], .agg #[.bool m2, .slice A2 l2.length c2, .int .i64 e2]] (by rfl) rfl rfl (by (try simp only [List.map_toArray, List.map_cons, List.map_nil]); first | done | rfl) ?_
 have pc := plus_calls n1 m2 A1 c1 l1 e1 A2 c2 l2 e2 N w5 R1.out R2.out hN hE
 rw [← HE0.out, HS.out] at pc
 refine pc.mono ?_
 clear pc
 rintro e_ w6 ⟨nb, A, c, l, e, rfl, hr, hv, _, hb⟩
 refine ⟨_, rfl, ?_⟩
 replace R1 := am_ (R1.out.step hb); replace R2 := am_ (R2.out.step hb); replace K_x := am_ (K_x.out.step hb); replace K_y := am_ (K_y.out.step hb); replace K_r := am_ (K_r.out.step hb); replace HB := am_ (zh HB.out hb)
 have R_t := am_ hr
 have HV := am_ hv
 clear hb hr hv
 have f_r_0 := K_r.out.f 0
 have f_r_1 := K_r.out.f 1
 have f_r_2 := K_r.out.f 2
 have c_r_0 := K_r.out.c0
 have c_r_1 := K_r.out.c1
 have c_r_2 := K_r.out.c2
 refine hK.out _ _ ⟨K_x.out.c0, K_x.out.c1, K_x.out.c2, K_y.out.c0, K_y.out.c1, K_y.out.c2⟩ (fun hHeld => ?_); clear hK K
 refine zZ (a' := ?_) ?_ ?_; rotate_left; (focus (show Act.put _ (some 8) _ = _; simp only [Act.put, sI_, s0_, s1_, zl, zm]; first | done | rfl))
 refine last_ (i := 4) (N := none) (bl_ 5 31) rfl rfl (zae HT_.out (by kernel_rfl)) (by decide) (fun K hK => ?_)
 refine skip_ (w1 := ?_) (by rfl) rfl ?_ ?_; rotate_left; (focus (go_simp; first | done | rfl))
 refine hK.out _ _ ?_; clear hK K
 refine done_ (zaL HT_.out (by kernel_rfl)) ?_
 clear c_r_0 c_r_1 c_r_2 f_r_0 f_r_1 f_r_2
 have hs_ := z8 w6 g_r 0 (.bool nb); replace R1 := am_ (R1.out.put K_r.out hs_); replace R2 := am_ (R2.out.put K_r.out hs_); replace R_t := am_ (R_t.out.put K_r.out hs_); replace K_x := am_ (K_x.out.put hs_ N_r_x.out); replace K_y := am_ (K_y.out.put hs_ N_r_y.out); replace HB := am_ (HB.out.grown hs_ HB.out.size (fun k_ hk_ => by cases hk_; exact L_r.out)); replace K_r := am_ (show B3 (w6.setCell ⟨g_r, 0, none⟩ (.bool nb)) g_r nb none 0 0 0 from zaD K_r.out 0 _); clear hs_; generalize w6.setCell ⟨g_r, 0, none⟩ (.bool nb) = w7 at HB R1 R2 R_t K_x K_y K_r ⊢
 have hs_ := z8 w7 g_r 1 (.slice A l.length c); replace R1 := am_ (R1.out.put K_r.out hs_); replace R2 := am_ (R2.out.put K_r.out hs_); replace R_t := am_ (R_t.out.put K_r.out hs_); replace K_x := am_ (K_x.out.put hs_ N_r_x.out); replace K_y := am_ (K_y.out.put hs_ N_r_y.out); replace HB := am_ (HB.out.grown hs_ HB.out.size (fun k_ hk_ => by cases hk_; exact L_r.out)); replace K_r := am_ (show B3 (w7.setCell ⟨g_r, 1, none⟩ (.slice A l.length c)) g_r nb A l.length c 0 from zaD K_r.out 1 _); clear hs_; generalize w7.setCell ⟨g_r, 1, none⟩ (.slice A l.length c) = w8 at HB R1 R2 R_t K_x K_y K_r ⊢
 have hs_ := z8 w8 g_r 2 (.int .i64 e); replace R1 := am_ (R1.out.put K_r.out hs_); replace R2 := am_ (R2.out.put K_r.out hs_); replace R_t := am_ (R_t.out.put K_r.out hs_); replace K_x := am_ (K_x.out.put hs_ N_r_x.out); replace K_y := am_ (K_y.out.put hs_ N_r_y.out); replace HB := am_ (HB.out.grown hs_ HB.out.size (fun k_ hk_ => by cases hk_; exact L_r.out)); replace K_r := am_ (show B3 (w8.setCell ⟨g_r, 2, none⟩ (.int .i64 e)) g_r nb A l.length c e from zaD K_r.out 2 _); clear hs_; generalize w8.setCell ⟨g_r, 2, none⟩ (.int .i64 e) = w9 at HB R1 R2 R_t K_x K_y K_r ⊢
 go_wp2_with fail
 refine bodyPost_ret (results_cell_row rfl _ _ g_r 101 #[.bool nb, .slice A l.length c, .int .i64 e] (0, 0) _ rfl K_r.out Try.underlying101 rfl (by kernel_rfl)) rfl ?_
 exact ⟨nb, A, c, l, e, by first | done | rfl, R_t.out, by rw [HV.out, Int.neg_mul]; exact Int.sub_eq_add_neg.symm, HB.out⟩
set_option maxRecDepth 100000 in
set_option maxHeartbeats 2000000 in
theorem rcmp_calls (n1 n2 : Bool) (A1 : Option Addr) (c1 : Nat) (l1 : List Int) (e1 : Int) (A2 : Option Addr) (c2 : Nat) (l2 : List Int) (e2 : Int) (N : Nat) (w : World) (r1 : Ru w A1 c1 l1 N) (r2 : Ru w A2 c2 l2 N) (hN : N ≤ 1000000) (hE : (-100000 ≤ e1 ∧ e1 ≤ 100000) ∧ (-100000 ≤ e2 ∧ e2 ≤ 100000)) :
  Calls Try.prog 48 #[.agg #[.bool n1, .slice A1 l1.length c1, .int .i64 e1], .agg #[.bool n2, .slice A2 l2.length c2, .int .i64 e2]] w fun o w' => o = .returned (.int .i64 (sgnI (sv n1 (nv l1) * 2 ^ (e1 - lvE l1 e1 l2 e2).toNat - sv n2 (nv l2) * 2 ^ (e2 - lvE l1 e1 l2 e2).toNat))) ∧ Below w.heap.size w w' := by
 have hu101 := Try.underlying101
 have HB := am_ (Below.refl w.heap.size w)
 have R1 := am_ r1
 have R2 := am_ r2
 have pc := fun w0 a b => rminus_calls n1 n2 A1 c1 l1 e1 A2 c2 l2 e2 N w0 a b hN hE
 generalize sv n1 (nv l1) * 2 ^ (e1 - lvE l1 e1 l2 e2).toNat - sv n2 (nv l2) * 2 ^ (e2 - lvE l1 e1 l2 e2).toNat = V at *
 clear r1 r2
 have PC := am_ pc
 clear pc
 go_enter Try.func48, Try.ntmps48
 go_wp2_with (first
  | ((with_reducible refine zr (N := 2) rfl ?_); refine zt rfl (N := 2) rfl (cs := #[.bool n1, .slice A1 l1.length c1, .int .i64 e1]) (t := 101) ?hr ?_; (case hr => first | (go_simp; done) | (go_simp; rfl)); intro g_x hg_ w1 hw_ hb_; have L_x := am_ (show w.heap.size ≤ g_x by have := HB.out.size; omega); replace R1 := am_ (R1.out.step hb_); replace R2 := am_ (R2.out.step hb_); replace HB := am_ (zh HB.out hb_); have K_x := am_ (show B3 w1 g_x n1 A1 l1.length c1 e1 from hw_); clear hg_ hw_ hb_)
  | ((with_reducible refine zr (N := 3) rfl ?_); refine zt rfl (N := 3) rfl (cs := #[.bool n2, .slice A2 l2.length c2, .int .i64 e2]) (t := 101) ?hr ?_; (case hr => first | (go_simp; done) | (go_simp; rfl)); intro g_y hg_ w2 hw_ hb_; have N_y_x := am_ (show g_x ≠ g_y by have := K_x.out.lt; omega); have L_y := am_ (show w.heap.size ≤ g_y by have := HB.out.size; omega); replace R1 := am_ (R1.out.step hb_); replace R2 := am_ (R2.out.step hb_); replace K_x := am_ (K_x.out.step hb_); replace HB := am_ (zh HB.out hb_); have K_y := am_ (show B3 w2 g_y n2 A2 l2.length c2 e2 from hw_); clear hg_ hw_ hb_; have c_x_0 := K_x.out.c0; have c_x_1 := K_x.out.c1; have c_x_2 := K_x.out.c2; have c_y_0 := K_y.out.c0; have c_y_1 := K_y.out.c1; have c_y_2 := K_y.out.c2)
  | fail)
 refine (PC.out w2 R1.out R2.out).mono ?_
 rintro o_ w3 ⟨nb, A, c, l, e, rfl, hr, hv, hb⟩
 replace R1 := am_ (R1.out.step hb); replace R2 := am_ (R2.out.step hb); replace K_x := am_ (K_x.out.step hb); replace K_y := am_ (K_y.out.step hb); replace HB := am_ (zh HB.out hb)
 have R_t := am_ hr
 have HV := am_ hv
 clear hb hr hv
 clear c_x_0 c_x_1 c_x_2 c_y_0 c_y_1 c_y_2
 go_wp2_with fail
 have hs : za8.f nb l e = some (sgnI V) := by
  unfold za8.f
  rw [← HV.out]
  by_cases h : (l.length : Int) = 0
  ·rw [if_pos h, List.length_eq_zero_iff.1 (by omega : l.length = 0)]; simp [nv, sv_zero, sgnI_zero]
  ·have := nv_pos R_t.out.u R_t.out.t (by omega)
   rw [if_neg h]
   cases nb
   ·rw [if_neg (by decide), show sv false (nv l) = nv l from rfl, sgnI_pos this]
   ·rw [if_pos rfl, show sv true (nv l) = - nv l from rfl, sgnI_neg (by omega)]
 refine (za8.calls nb A c l e (sgnI V) w3 R_t.out.row R_t.out.cap hs).mono ?_
 rintro o_ w4 ⟨rfl, hb⟩
 replace R1 := am_ (R1.out.step hb); replace R2 := am_ (R2.out.step hb); replace R_t := am_ (R_t.out.step hb); replace K_x := am_ (K_x.out.step hb); replace K_y := am_ (K_y.out.step hb); replace HB := am_ (zh HB.out hb)
 clear hb hs
 go_wp2_with fail
 go_ret
 exact ⟨by first | done | rfl, HB.out⟩
end Go.Proofs.Ytlidbaejhmamjaa.NW

namespace Go.Proofs.Ytlidbaejhmamjaa.PB
open Go.RowKit Go.Proofs.YtlidbaejhmamjaaW.PrintWords Go.Proofs.YtlidbaejhmamjaaW.PrintLast Go.Proofs.YtlidbaejhmamjaaW.PrintMore
attribute [local go_sem] zao zar zaB zaC zaf zag zap zas   -- for this text's walks alone
set_option linter.unusedVariables false
set_option linter.unusedSimpArgs false
def zT.l0 : Nat → Int → List Int → Int → Option (List Int)
 | 0, _, _, _ => none
 | k + 1, x0, x3, x4 => if x4 < x0 then (if x3.length < 17592186044416 then (zT.l0 k x0 (x3 ++ [0]) (wrap64 (x4 + 1))) else (none)) else (some x3)
def zT.f (k : Nat) (a0 : Int) : Option (List Int) := zT.l0 k a0 ([] : List Int) 0
set_option maxHeartbeats 8000000 in
set_option maxRecDepth 100000 in
theorem zT.calls (k : Nat) (a0 : Int) (r : List Int) (w : World) (h : zT.f k a0 = some r) :
  Calls Try.prog 38 #[.int .i64 a0] w fun e w' => ∃ v0_ : Value, e = .returned (v0_) ∧ Kd.R (Kd.int .i64) 3 w' w.heap.size (fun _ => True) v0_ r ∧ Below w.heap.size w w' := by
 have HB := am_ (Below.refl w.heap.size w)
 have H : (zT.l0 k a0 ([] : List Int) 0) = some r := h
 clear h
 have H' := am_ H
 clear H
 go_enter Try.func38, Try.ntmps38
 go_wp2
 go_loopg [3, 4] k (fun kq v3 v4 w' => ∃ (x3_1 : List Int) (x4_1 : Int), v4 = .int .i64 x4_1 ∧ Aside0 (zT.l0 kq a0 x3_1 x4_1 = some r) ∧ Aside0 (kq ≤ k) ∧ Aside0 (Kd.R (Kd.int .i64) 3 w' w.heap.size (fun _ => True) v3 x3_1) ∧ Aside0 (Below w.heap.size w w'))
 case atStart => exact ⟨(([] : List Int)), (0), (by first | rfl | (simp; done) | (simp [*]; done)), H', ⟨Nat.le_refl _⟩, ⟨by first | exact Kd.zaK _ _ _ _ _ | exact Kd.zaP _ _ _ _ _ | exact Kd.zaT _ _ _ _ _ | exact Kd.zaO _ _ _ _ _ | exact Kd.zaS _ _ _ _ _⟩, ⟨by repeat (first | (with_reducible first | exact HB.out | apply zc | apply za | apply zb) | exact HB.out)⟩⟩
 case round =>
  clear H'
  obtain ⟨x3_1, x4_1, rfl, HA, HK1, HO_3, HB⟩ := hrel
  cases gk with
  | zero => exact absurd HA.out (by simp [zT.l0])
  | succ k1 =>
   have H := HA.out
   clear HA
   simp only [zT.l0] at H
   by_cases c2 : x4_1 < a0
   ·rw [if_pos c2] at H
    have c2b0 : decide (x4_1 < a0) = true := decide_eq_true c2
    clear c2
    by_cases c3 : x3_1.length < 17592186044416
    ·rw [if_pos c3] at H
     have LMc3 := am_ c3
     clear c3
     obtain ⟨y123, hy123⟩ : ∃ y_ : List Int, y_ = (x3_1 ++ [0]) := ⟨_, rfl⟩
     replace H : (zT.l0 k1 a0 y123 (wrap64 (x4_1 + 1))) = some r := by first | (rw [hy123]; with_reducible exact H) | (have H2_ := (Option.bind_some _ _).symm.trans H; rw [hy123]; with_reducible exact H2_) | (have H2_ := (Option.bind_some _ _).symm.trans H; with_reducible exact H2_) | with_reducible exact H | (rw [hy123]; exact H) | exact H
     have Ny123 := am_ hy123
     clear hy123
     have H' := am_ H
     clear H
     go_wp2_with (first | ((with_reducible refine gate_builtin (b := .append) (xs := #[.tmp 10, .tmp 11]) rfl ?_); at_builtin; refine Kd.R_append (Kd.int .i64) (w0 := w) w.heap.size rfl (.tmp 10) (.tmp 11) 22 3 (.int .i64 0) 8 rfl Try.underlying22 info3 rfl (by decide) (by omega) u3 x3_1 0 [.int .i64 0] (fun _ => True) (fun _ => False) rfl rfl ?aP (fun _ hk => hk.elim) ?aF ?aO ?aB ?aS ?aL ?_; (case aP => exact rfl); (case aB => exact (by repeat (first | (with_reducible first | exact HB.out | apply zc | apply za | apply zb) | exact HB.out))); (case aF => exact (fun _ _ => trivial)); (case aO => exact (by (with_reducible repeat (first | apply Kd.zw | apply Kd.zu | apply Kd.zA)); exact HO_3.out)); (case aS => exact (zk (by repeat (first | (with_reducible first | exact HB.out | apply zc | apply za | apply zb) | exact HB.out)))); (case aL => have := LMc3.out; omega); intro v124 w4 ho hb hg hat; rw [← Ny123.out] at ho; have n0_ := am_ (hb); have n1_ := am_ (ho); clear HB; clear HO_3; have HB := n0_; have HO125 := n1_; clear n0_ n1_; clear ho hb hg hat))
     go_roundg k1
     case measure => have := HK1.out; omega
     case rel => exact ⟨(y123), (wrap64 (x4_1 + 1)), (by first | rfl | (simp; done) | (simp [*]; done)), H', ⟨by have := HK1.out; omega⟩, ⟨by (with_reducible repeat (first | apply Kd.zw | apply Kd.zu | apply Kd.zA)); exact HO125.out⟩, ⟨by repeat (first | (with_reducible first | exact HB.out | apply zc | apply za | apply zb) | exact HB.out)⟩⟩
    ·rw [if_neg c3] at H
     exact absurd H (by simp)
   ·rw [if_neg c2] at H
    have c2b0 : decide (x4_1 < a0) = false := decide_eq_false c2
    clear c2
    obtain rfl := Option.some.inj H
    go_wp2
    go_ret
    exact ⟨_, by first | rfl | (simp [zq, zp] <;> rfl) | (simp [*, zq, zp] <;> rfl), by (with_reducible repeat (first | apply Kd.zw | apply Kd.zu | apply Kd.zA)); exact HO_3.out, by repeat (first | (with_reducible first | exact HB.out | apply zc | apply za | apply zb) | exact HB.out)⟩
end Go.Proofs.Ytlidbaejhmamjaa.PB

namespace Go.Proofs.Ytlidbaejhmamjaa.PB
open Go.RowKit Go.Proofs.YtlidbaejhmamjaaW.PrintWords Go.Proofs.YtlidbaejhmamjaaW.PrintLast Go.Proofs.YtlidbaejhmamjaaW.PrintMore
attribute [local go_sem] zao zar zaB zaC zaf zag zap zas   -- for this text's walks alone
set_option linter.unusedVariables false
set_option linter.unusedSimpArgs false
def z4.j0 : Nat → Int → Bool → Option (List Int × List Int × Int)
 | 0, _, _ => none
 | k + 1, x0, x9 => if x9 = true then (some (([] : List Int), ([] : List Int), 1)) else ((zT.f k x0).bind fun t127 => ((zT.f k x0).bind fun t130 => (some (t127, t130, 0))))
def z4.f (k : Nat) (a0 : Int) : Option (List Int × List Int × Int) := if a0 < 0 then (z4.j0 k a0 true) else (z4.j0 k a0 (decide (a0 > 256)))
set_option maxHeartbeats 8000000 in
set_option maxRecDepth 100000 in
theorem z4.calls (k : Nat) (a0 : Int) (r1 : List Int) (r2 : List Int) (r3 : Int) (w : World) (h : z4.f k a0 = some (r1, r2, r3)) :
  Calls Try.prog 12 #[.int .i64 a0] w fun e w' => ∃ v0_ v1_ : Value, e = .returned (.tuple #[.agg #[v0_, v1_], .int .i64 r3]) ∧ Kd.R (Kd.int .i64) 3 w' w.heap.size (fun k_ => some k_ ≠ (v1_ : Value).ownBlock) v0_ r1 ∧ Kd.R (Kd.int .i64) 3 w' w.heap.size (fun k_ => some k_ ≠ (v0_ : Value).ownBlock) v1_ r2 ∧ Below w.heap.size w w' := by
 have hu24 := Try.underlying24
 have HB := am_ (Below.refl w.heap.size w)
 have H : (if a0 < 0 then (z4.j0 k a0 true) else (z4.j0 k a0 (decide (a0 > 256)))) = some (r1, r2, r3) := h
 clear h
 have HC2 := am_ H
 clear H
 go_enter Try.func12, Try.ntmps12
 go_upto_region 1 with (first | ((with_reducible refine zr (N := 2) rfl ?_); refine zt ?hg (N := 2) ?hd (cs := #[.slice none 0 0, .slice none 0 0]) (t := 24) ?hr ?_; (case hd => rfl); (case hg => rfl); (case hr => first | (go_simp; done) | (go_simp; rfl)); intro gb126 hg w3 hbox hb; have n0_ := am_ (zh (by repeat (first | (with_reducible first | exact HB.out | apply zc | apply za | apply zb) | exact HB.out)) hb); have n1_ := am_ (hbox); have n2_ := am_ ((by rw [hg]; exact (zk (by repeat (first | (with_reducible first | exact HB.out | apply zc | apply za | apply zb) | exact HB.out))) : w.heap.size ≤ gb126)); have n3_ := am_ ((by rw [hg]; exact (zk (by repeat (first | (with_reducible first | exact HB.out | apply zc | apply za | apply zb) | exact HB.out))) : w.heap.size ≤ gb126)); clear HB; have HB := n0_; have BK126 := n1_; have GW126 := n2_; have GE126 := n3_; clear n0_ n1_ n2_ n3_; clear hb hbox hg))
 (try simp only [Act.put, sI_, s0_, s1_])
 go_cut [9] (fun v9 wc => ∃ (kq : Nat) (x9_1 : Bool), v9 = .bool x9_1 ∧ Aside0 (z4.j0 kq a0 x9_1 = some (r1, r2, r3)) ∧ Aside0 (kq ≤ k) ∧ Aside0 (wc.heap[gb126]? = some (.cells #[(.slice none 0 0), (.slice none 0 0)] 24 (0, 0))) ∧ Aside0 (Below w.heap.size w wc))
 case first =>
  have H := HC2.out
  clear HC2
  by_cases c4 : a0 < 0
  ·rw [if_pos c4] at H
   have c4b0 : decide (a0 < 0) = true := decide_eq_true c4
   clear c4
   (first | rw [c4b0] | (simp only [zl, zm]; rw [c4b0]) | skip)
   have H' := am_ H
   clear H
   go_wp2
   go_meet
   case rel => exact ⟨_, (true), (by first | rfl | (simp; done) | (simp [*]; done)), H', ⟨by first | omega | exact Nat.le_refl _⟩, ⟨by (with_reducible repeat (first | refine ze ?_ _ | refine zg ?_ | refine zd ?_ _)); exact BK126.out⟩, ⟨by repeat (first | (with_reducible first | exact HB.out | apply zc | apply za | apply zb | refine zf ?_ GE126.out) | exact HB.out)⟩⟩
  ·rw [if_neg c4] at H
   have c4b0 : decide (a0 < 0) = false := decide_eq_false c4
   clear c4
   (first | rw [c4b0] | (simp only [zl, zm]; rw [c4b0]) | skip)
   have H' := am_ H
   clear H
   go_wp2
   go_meet
   case rel => exact ⟨_, (decide (a0 > 256)), (by first | rfl | (simp; done) | (simp [*]; done)), H', ⟨by first | omega | exact Nat.le_refl _⟩, ⟨by (with_reducible repeat (first | refine ze ?_ _ | refine zg ?_ | refine zd ?_ _)); exact BK126.out⟩, ⟨by repeat (first | (with_reducible first | exact HB.out | apply zc | apply za | apply zb | refine zf ?_ GE126.out) | exact HB.out)⟩⟩
 case rest =>
  clear HC2
  try clear c1
  try clear p2
  try clear c4
  try clear c4b0
  obtain ⟨kq, x9_1, rfl, HA, HJ1, BK126, HB⟩ := hcut
  cases kq with
  | zero => exact absurd HA.out (by simp [z4.j0])
  | succ kj1 =>
   have H := HA.out
   clear HA
   simp only [z4.j0] at H
   by_cases c5 : x9_1 = true
   ·subst c5
    have H1 : (some (([] : List Int), ([] : List Int), 1)) = some (r1, r2, r3) := by rw [if_pos rfl] at H; exact H
    clear H
    have H := H1
    clear H1
    simp only [Option.some.injEq, Prod.mk.injEq] at H
    obtain ⟨rfl, rfl, rfl⟩ := H
    have hcz6_0 : wc.cell? ⟨gb126, 0, none⟩ = some (.slice none 0 0) := (zj BK126.out 0).trans rfl
    have hcz6_1 : wc.cell? ⟨gb126, 1, none⟩ = some (.slice none 0 0) := (zj BK126.out 1).trans rfl
    have hfz6_0 := zi BK126.out 0
    have hfz6_1 := zi BK126.out 1
    go_wp2
    refine bodyPost_ret (results_ct rfl _ _ gb126 24 #[.slice none 0 0, .slice none 0 0] (0, 0) _ rfl (by (with_reducible repeat (first | refine ze ?_ _ | refine zg ?_ | refine zd ?_ _)); refine zQ (cs := #[.slice none 0 0, .slice none 0 0]) ?_ 1 _ rfl; (with_reducible repeat (first | refine ze ?_ _ | refine zg ?_ | refine zd ?_ _)); refine zQ (cs := #[.slice none 0 0, .slice none 0 0]) ?_ 0 _ rfl; (with_reducible repeat (first | refine ze ?_ _ | refine zg ?_ | refine zd ?_ _)); exact BK126.out) Try.underlying24 rfl (by kernel_rfl)) rfl ?_
    exact ⟨_, _, by first | rfl | (simp [zq, zp] <;> rfl) | (simp [*, zq, zp] <;> rfl), by first | exact Kd.zaK _ _ _ _ _ | exact Kd.zaP _ _ _ _ _ | exact Kd.zaT _ _ _ _ _ | exact Kd.zaO _ _ _ _ _ | exact Kd.zaS _ _ _ _ _, by first | exact Kd.zaK _ _ _ _ _ | exact Kd.zaP _ _ _ _ _ | exact Kd.zaT _ _ _ _ _ | exact Kd.zaO _ _ _ _ _ | exact Kd.zaS _ _ _ _ _, by repeat (first | (with_reducible first | exact HB.out | apply zc | apply za | apply zb | refine zf ?_ GE126.out) | exact HB.out)⟩
   ·replace c5 := Bool.eq_false_iff.mpr c5
    subst c5
    have H1 : ((zT.f kj1 a0).bind fun t127 => ((zT.f kj1 a0).bind fun t130 => (some (t127, t130, 0)))) = some (r1, r2, r3) := by rw [if_neg (show ¬ (false = true) by decide)] at H; exact H
    clear H
    have H := H1
    clear H1
    replace H := Option.bind_eq_some_iff.mp H
    obtain ⟨t127, A70, H⟩ := H
    replace H : ((zT.f kj1 a0).bind fun t130 => (some (t127, t130, 0))) = some (r1, r2, r3) := H
    have A7 := am_ A70
    clear A70
    replace H := Option.bind_eq_some_iff.mp H
    obtain ⟨t130, A80, H⟩ := H
    replace H : (some (t127, t130, 0)) = some (r1, r2, r3) := H
    have A8 := am_ A80
    clear A80
    simp only [Option.some.injEq, Prod.mk.injEq] at H
    obtain ⟨rfl, rfl, rfl⟩ := H
    go_wp2_with (first | ((with_reducible refine zV (f := 38) rfl ?_); refine zaF (some 12) rfl rfl Try.func38 (by kernel_rfl) rfl #[.int .i64 a0] rfl (by (try simp only [List.map_toArray, List.map_cons, List.map_nil]); first | done | rfl | (simp only [List.length_drop, List.length_take]; rfl)) ?_; (with_reducible refine (zT.calls kj1 a0 t127 _ A7.out).mono ?_); rintro e w9 ⟨v128, rfl, ho0, hb⟩; refine ⟨_, rfl, ?_⟩; have n0_ := am_ (Kd.zaw ho0 (zk (by repeat (first | (with_reducible first | exact HB.out | apply zc | apply za | apply zb | refine zf ?_ GE126.out) | exact HB.out)))); have n1_ := am_ (zo (g := gb126) (o := .cells #[.slice none 0 0, .slice none 0 0] 24 (0, 0)) (by (with_reducible repeat (first | refine ze ?_ _ | refine zg ?_ | refine zd ?_ _)); exact BK126.out) hb); have n2_ := am_ (zh (by repeat (first | (with_reducible first | exact HB.out | apply zc | apply za | apply zb | refine zf ?_ GE126.out) | exact HB.out)) hb); clear BK126; clear HB; have HO129 := n0_; have BK126 := n1_; have HB := n2_; clear n0_ n1_ n2_; (try clear hb); (try clear hb2); (try clear hk); (try clear hi); (try clear ho0)) | ((with_reducible refine zV (f := 38) rfl ?_); refine zaF (some 14) rfl rfl Try.func38 (by kernel_rfl) rfl #[.int .i64 a0] rfl (by (try simp only [List.map_toArray, List.map_cons, List.map_nil]); first | done | rfl | (simp only [List.length_drop, List.length_take]; rfl)) ?_; (with_reducible refine (zT.calls kj1 a0 t130 _ A8.out).mono ?_); rintro e w10 ⟨v131, rfl, ho0, hb⟩; refine ⟨_, rfl, ?_⟩; have n0_ := am_ (Kd.R_elder' (by (with_reducible repeat (first | apply Kd.zw | apply Kd.zu | apply Kd.zA)); exact HO129.out) (Kd.R_base ho0) hb); have n1_ := am_ (Kd.zaw (Kd.R_new' ho0 (Kd.R_lt (by (with_reducible repeat (first | apply Kd.zw | apply Kd.zu | apply Kd.zA)); exact HO129.out))) (zk (by repeat (first | (with_reducible first | exact HB.out | apply zc | apply za | apply zb | refine zf ?_ GE126.out) | exact HB.out)))); have n2_ := am_ (zo (g := gb126) (o := .cells #[.slice none 0 0, .slice none 0 0] 24 (0, 0)) (by (with_reducible repeat (first | refine ze ?_ _ | refine zg ?_ | refine zd ?_ _)); exact BK126.out) hb); have n3_ := am_ (zh (by repeat (first | (with_reducible first | exact HB.out | apply zc | apply za | apply zb | refine zf ?_ GE126.out) | exact HB.out)) hb); clear HO129; clear BK126; clear HB; have HO129 := n0_; have HO132 := n1_; have BK126 := n2_; have HB := n3_; clear n0_ n1_ n2_ n3_; (try clear hb); (try clear hb2); (try clear hk); (try clear hi); (try clear ho0); obtain ⟨Ao11, co11, eo11⟩ := Kd.zad HO132.out; subst eo11; obtain ⟨Ao12, co12, eo12⟩ := Kd.zad HO129.out; subst eo12; have hcz13_0 : w10.cell? ⟨gb126, 0, none⟩ = some (.slice none 0 0) := (zj BK126.out 0).trans rfl; have hcz13_1 : w10.cell? ⟨gb126, 1, none⟩ = some (.slice none 0 0) := (zj BK126.out 1).trans rfl; have hfz13_0 := zi BK126.out 0; have hfz13_1 := zi BK126.out 1))
    refine bodyPost_ret (results_ct rfl _ _ gb126 24 #[.slice Ao12 t127.length co12, .slice Ao11 t130.length co11] (0, 0) _ rfl (by (with_reducible repeat (first | refine ze ?_ _ | refine zg ?_ | refine zd ?_ _)); refine zQ (cs := #[.slice Ao12 t127.length co12, .slice none 0 0]) ?_ 1 _ rfl; (with_reducible repeat (first | refine ze ?_ _ | refine zg ?_ | refine zd ?_ _)); refine zQ (cs := #[.slice none 0 0, .slice none 0 0]) ?_ 0 _ rfl; (with_reducible repeat (first | refine ze ?_ _ | refine zg ?_ | refine zd ?_ _)); exact BK126.out) Try.underlying24 rfl (by kernel_rfl)) rfl ?_
    exact ⟨_, _, by first | rfl | (simp [zq, zp] <;> rfl) | (simp [*, zq, zp] <;> rfl), by (with_reducible repeat (first | apply Kd.zw | apply Kd.zu | apply Kd.zA)); exact Kd.zN (Kd.zX (p := ⟨gb126, 1, none⟩) (Kd.zX (p := ⟨gb126, 0, none⟩) (Kd.z5 HO129.out BK126.out (by decide)) (fun _ hk => hk.2) (.slice Ao12 t127.length co12)) (fun _ hk => hk.2) (.slice Ao11 t130.length co11)) (fun _ hk => hk.1.2), by (with_reducible repeat (first | apply Kd.zw | apply Kd.zu | apply Kd.zA)); exact Kd.zN (Kd.zX (p := ⟨gb126, 1, none⟩) (Kd.zX (p := ⟨gb126, 0, none⟩) (Kd.z5 HO132.out BK126.out (by decide)) (fun _ hk => hk.2) (.slice Ao12 t127.length co12)) (fun _ hk => hk.2) (.slice Ao11 t130.length co11)) (fun _ hk => hk.1.2), by repeat (first | (with_reducible first | exact HB.out | apply zc | apply za | apply zb | refine zf ?_ GE126.out) | exact HB.out)⟩
end Go.Proofs.Ytlidbaejhmamjaa.PB
