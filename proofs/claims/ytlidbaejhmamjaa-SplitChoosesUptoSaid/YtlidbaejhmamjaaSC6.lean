/- Part 6 of the proof of SplitChoosesUpto: what the functions below it compute, each shown by a walk or by plain reasoning; no condition of its own. -/
import Derived.Test.YtlidbaejhmamjaaSC5
import Derived.Test.YtlidbaejhmamjaaSC1
import Derived.Test.YtlidbaejhmamjaaSC4
import Derived.Test.YtlidbaejhmamjaaRows
import Derived.Test.YtlidbaejhmamjaaSC3
import Derived.Deep.Slices
set_option linter.unusedVariables false
set_option linter.unusedSimpArgs false
namespace Go.Proofs.Ytlidbaejhmamjaa.TC
open Go.RowKit YtlidbaejhmamjaaW.PrintWords YtlidbaejhmamjaaW.PrintLast YtlidbaejhmamjaaW.PrintMore PB LA AC LW SL NW
set_option maxRecDepth 100000 in
set_option maxHeartbeats 4000000 in
theorem size_n (nb : Bool) (A : Option Addr) (n c : Nat) (e : Int) (w : World) :
  Calls Try.prog 78 #[.agg #[.bool nb, .slice A n c, .int .i64 e]] w fun o w' => o = .returned (.agg #[.bool false, .slice A n c, .int .i64 e]) ∧ Below w.heap.size w w' := by
 have hu101 := Try.underlying101
 have HB := am_ (Below.refl w.heap.size w)
 go_enter Try.func78, Try.ntmps78
 go_wp2_with (first
  | ((with_reducible refine zk (N := 1) rfl ?_); refine zaq 1 (cs := #[.bool nb, .slice A n c, .int .i64 e]) (t := 101) ?_; intro g_x hg_ w1 hw_ hb_; have L_x := am_ (show w.heap.size ≤ g_x by have := HB.out.size; omega); replace HB := am_ (zb HB.out hb_); have K_x := am_ (show B3 w1 g_x nb A n c e from hw_); clear hg_ hw_ hb_)
  | ((with_reducible refine zk (N := 2) rfl ?_); refine zaq 2 (cs := #[.bool false, .slice none 0 0, .int .i64 0]) (t := 101) ?_; intro g_r hg_ w2 hw_ hb_; have N_r_x := am_ (show g_x ≠ g_r by have := K_x.out.lt; omega); have L_r := am_ (show w.heap.size ≤ g_r by have := HB.out.size; omega); replace K_x := am_ (K_x.out.step hb_); replace HB := am_ (zb HB.out hb_); have K_r := am_ (show B3 w2 g_r false none 0 0 0 from hw_); clear hg_ hw_ hb_; have c_x_0 := K_x.out.c0; have c_x_1 := K_x.out.c1; have c_x_2 := K_x.out.c2; have c_r_0 := K_r.out.c0; have c_r_1 := K_r.out.c1; have c_r_2 := K_r.out.c2; have f_x_0 := K_x.out.f 0; have f_x_1 := K_x.out.f 1; have f_x_2 := K_x.out.f 2)
  | ((with_reducible refine zr (t := 101) (p := 2) rfl ?_); have hs_ := NW.zV w2 g_x 0 (.bool false); replace K_r := am_ (K_r.out.put hs_ N_r_x.out.symm); replace HB := am_ (HB.out.grown hs_ HB.out.size (fun k_ hk_ => by cases hk_; exact L_x.out)); replace K_x := am_ (show B3 (w2.setCell ⟨g_x, 0, none⟩ (.bool false)) g_x false A n c e from zaD K_x.out 0 _); clear hs_; generalize w2.setCell ⟨g_x, 0, none⟩ (.bool false) = w3 at HB K_x K_r ⊢; refine zn rfl 101 rfl rfl g_r #[.bool false, .slice A n c, .int .i64 e] rfl rfl 101 _ K_r.out (NW.zav.trans rfl) rfl (zaC _ _ _ _ _) ?_; intro w4 hw_ hg_; replace K_x := am_ (K_x.out.put hg_ N_r_x.out); replace HB := am_ (HB.out.grown hg_ HB.out.size (fun k_ hk_ => by cases hk_; exact L_r.out)); replace K_r := am_ (show B3 w4 g_r false A n c e from hw_); clear hw_ hg_; have r_r_0 := K_r.out.c0; have r_r_1 := K_r.out.c1; have r_r_2 := K_r.out.c2)
  | fail)
 refine bodyPost_ret (results_cell_row rfl _ _ g_r 101 #[.bool false, .slice A n c, .int .i64 e] (0, 0) _ rfl K_r.out Try.underlying101 rfl (by kernel_rfl)) rfl ?_
 exact ⟨by first | done | rfl, HB.out⟩
theorem OfV.ru {w : World} {A : Option Addr} {c u : Nat} {x : S101} (h : OfV u x) (hr : Kd.C (Kd.int .u32) w A x.f1.length x.f1) (hc : x.f1.length ≤ c) {N : Nat} (hN : 2 ≤ N) : Ru w A c x.f1 N := ⟨hr, hc, h.1, h.2.1, Nat.le_trans h.2.2.1 hN⟩
theorem OfV.val {u : Nat} {x : S101} (h : OfV u x) : (fm u = 0 ∧ nv x.f1 = 0) ∨ (x.f0 = fs u ∧ x.f2 = fe u ∧ nv x.f1 = (fm u : Int)) := by
 rcases h.2.2.2.2.1 with h0 | h0
 ·have h4 := h.2.2.2.1
  have e : nv x.f1 = 0 := by rw [List.length_eq_zero_iff.1 h0]; rfl
  rw [e] at h4
  exact .inl ⟨by omega, e⟩
 ·exact .inr ⟨h0.1, h0.2, h.2.2.2.1⟩
/-- A product, in parts of 2^-4000. -/
theorem times_T {u v : Nat} {x y : S101} (hx : OfV u x) (hy : OfV v y) : sv x.f0 (nv x.f1) * sv y.f0 (nv y.f1) * 2 ^ (x.f2 + y.f2 + 4000).toNat = prT u v 0 * 2 ^ 1788 := by
 rcases hx.val with ⟨h1, h2⟩ | ⟨h1, h2, h3⟩
 ·rw [h2, zbd]
  unfold prT
  rw [h1]
  generalize (2 : Int) ^ 1788 = p_
  simp
 ·rcases hy.val with ⟨k1, k2⟩ | ⟨k1, k2, k3⟩
  ·rw [k2, zbd]
   unfold prT
   rw [k1]
   generalize (2 : Int) ^ 1788 = p_
   simp
  ·rw [h1, h2, h3, k1, k2, k3]
   have eu := fe_in u
   have ev := fe_in v
   unfold prT P22
   rw [show (fe u + fe v + 4000).toNat = (fe u + fe v + 0 + 2212).toNat + 1788 by omega, zaE]
   generalize (2 : Int) ^ (fe u + fe v + 0 + 2212).toNat = Q
   generalize (2 : Int) ^ 1788 = R
   rw [← Int.mul_assoc]
   cases fs u <;> cases fs v <;> simp [sv, Int.neg_mul, Int.mul_neg]
theorem bound64 {v : Int} {i : Nat} (h : zaX v ≤ (i : Int) * 2 ^ 4330) (hi : i ≤ 140737488355328) : zaX (v * 2 ^ 1788) < 2 ^ 6400 := by
 rw [absI_mul _ _ (zab _)]
 have h1 : (i : Int) * 2 ^ 4330 ≤ 2 ^ 47 * 2 ^ 4330 := Int.mul_le_mul_of_nonneg_right (by omega) (Int.le_of_lt (zab _))
 rw [← Int.pow_add] at h1
 have h2 : zaX v * 2 ^ 1788 ≤ 2 ^ (47 + 4330) * 2 ^ 1788 := Int.mul_le_mul_of_nonneg_right (Int.le_trans h h1) (Int.le_of_lt (zab _))
 rw [← Int.pow_add] at h2
 have h3 : (2 : Int) ^ (47 + 4330 + 1788) ≤ 2 ^ 6399 := za4 (by decide)
 have h4 : (2 : Int) ^ 6400 = 2 ^ 6399 * 2 := Int.pow_succ 2 6399
 have h5 := zab 6399
 rw [h4]
 generalize (2 : Int) ^ (47 + 4330 + 1788) = Q at *
 generalize (2 : Int) ^ 6399 = R at *
 generalize zaX v * 2 ^ 1788 = S at *
 omega
theorem at_num {w : World} {A : Option Addr} {us : List Nat} {xs : List S101} (h : Kd.C k101 w A xs.length xs) (hn : Nums us xs) (i : Nat) (hi : i < us.length) : ∃ ad A1 c1, A = some ad ∧ w.cell? (ad.add (i * 3)) = some (.bool (zas xs (i : Int)).f0) ∧ w.cell? ⟨(ad.add (i * 3)).block, (ad.add (i * 3)).off + 1, none⟩ = some (.slice A1 (zas xs (i : Int)).f1.length c1) ∧ w.cell? ⟨(ad.add (i * 3)).block, (ad.add (i * 3)).off + 2, none⟩ = some (.int .i64 (zas xs (i : Int)).f2) ∧ OfV (rdn us i) (zas xs (i : Int)) ∧ (∀ N, 2 ≤ N → Ru w A1 c1 (zas xs (i : Int)).f1 N) := by
 obtain ⟨ad, A1, c1, e, h0, h1, h2, h3, h4⟩ := at_T101 h (i : Int) (by omega) (by have := hn.1; omega)
 rw [Int.toNat_natCast] at h0 h1 h2
 have ho := hn.2 i hi
 exact ⟨ad, A1, c1, e, h0, h1, h2, ho, fun N hN => ho.ru h4 h3 hN⟩
def weighs.T5 : Bool × List (List Nat × List Nat) := (true, [([], []), ([], []), ([], []), ([1, 2], [1, 2]), ([3], [3]), ([], []), ([], []), ([5, 6], [5, 6]), ([7], [7]), ([4, 8], [4, 8]), ([0, 9, 9], [0, 9]), ([10, 10, 0, 1, 2, 3, 4, 5, 6, 7, 8, 9, 10], [10])])
def weighs.B5 : List Nat := [0, 0, 0, 6, 14, 0, 0, 96, 224, 510, 1023, 2047]
theorem weighs.tab5 : rtab .any (opsOf Try.f79 5) = weighs.T5 := by kernel_rfl
theorem weighs.bits5 : zat weighs.T5.2 weighs.B5 = true := by kernel_rfl
set_option maxRecDepth 100000 in
set_option maxHeartbeats 4000000 in
theorem weighs_calls (us vs : List Nat) (A : Option Addr) (c : Nat) (xs : List S101) (B : Option Addr) (d : Nat) (ys : List S101) (w : World) (ha : Kd.C k101 w A xs.length xs) (hb : Kd.C k101 w B ys.length ys) (hu : Nums us xs) (hv : Nums vs ys) (hl : vs.length ≤ us.length) (hn : vs.length ≤ 2000000) :
  Calls Try.prog 79 #[.slice A xs.length c, .slice B ys.length d] w fun o w' => ∃ nb C c l e, o = .returned (.agg #[.bool nb, .slice C (l : List Int).length c, .int .i64 e]) ∧ Ru w' C c l 200 ∧ Eb e ∧ NV nb l e = dotN us vs vs.length * 2 ^ 1788 ∧ Below w.heap.size w w' := by
 have hu101 := Try.underlying101
 have HA := am_ ha
 have HB_ := am_ hb
 have HU := am_ hu
 have HV := am_ hv
 have HL := am_ (show vs.length ≤ us.length ∧ vs.length ≤ 2000000 from ⟨hl, hn⟩)
 have LX := am_ hu.1
 have LY := am_ hv.1
 clear ha hb hu hv hl hn
 go_enter Try.func79, Try.ntmps79
 go_wp2_with (first
  | ((with_reducible refine zk (N := 4) rfl ?_); refine zaq 4 (cs := #[.bool false, .slice none 0 0, .int .i64 0]) (t := 101) ?_; intro g4 hg_ w1 hw_ hb_; have HB := am_ hb_; have K4 := am_ (show B3 w1 g4 false none 0 0 0 from hw_); have L4 := am_ (show w.heap.size ≤ g4 by omega); clear hg_ hw_ hb_)
  | ((with_reducible refine zk (N := 5) rfl ?_); refine zaq 5 (cs := #[.bool false, .slice none 0 0, .int .i64 0]) (t := 101) ?_; intro g5 hg_ w2 hw_ hb_; have N45 := am_ (show g4 ≠ g5 by have := K4.out.lt; omega); have L5 := am_ (show w.heap.size ≤ g5 by have := HB.out.size; omega); replace HB := am_ (zb HB.out hb_); replace K4 := am_ (K4.out.step hb_); have K5 := am_ (show B3 w2 g5 false none 0 0 0 from hw_); clear hg_ hw_ hb_)
  | ((with_reducible refine zr (t := 101) (p := 5) rfl ?_); refine zn rfl 101 rfl rfl g5 #[.bool false, .slice none 0 0, .int .i64 0] rfl rfl 101 _ K5.out (NW.zav.trans rfl) rfl (zaC _ _ _ _ _) ?_; intro w3 hw_ hg_; replace HB := am_ (HB.out.grown hg_ HB.out.size (fun k_ hk_ => by cases hk_; exact L5.out)); replace K4 := am_ (K4.out.put hg_ N45.out); replace K5 := am_ (show B3 w3 g5 false none 0 0 0 from hw_); clear hw_ hg_)
  | fail)
 go_loopg [6] vs.length (fun m v6 wr => ∃ (i : Nat) (nb : Bool) (C : Option Addr) (cc : Nat) (l : List Int) (e : Int), v6 = .int .i64 (i : Int) ∧ Aside0 (i + m = vs.length) ∧ Aside0 (B3 wr g5 nb C l.length cc e) ∧ Aside0 (B3 wr g4 false none 0 0 0) ∧ Aside0 (Ru wr C cc l 200) ∧ Aside0 (Eb e ∧ NV nb l e = dotN us vs i * 2 ^ 1788) ∧ Aside0 (Below w.heap.size w wr))
 case atStart => exact ⟨0, false, none, 0, [], 0, rfl, ⟨by omega⟩, K5, K4, ⟨Ru.nil _ _⟩, ⟨⟨by decide, by decide⟩, by rw [NV_nil]; exact (Int.zero_mul _).symm⟩, HB⟩
 case round =>
  clear K5 K4 HB
  obtain ⟨i, nb, C, cc, l, e, rfl, hm, K5, K4, RC, EV, HB⟩ := hrel
  by_cases hx : i < vs.length
  ·have HX := am_ hx
   have p1 := eq_true (show i < ys.length by have := LY.out; omega)
   have p2 := eq_true (show (i : Int) < (ys.length : Int) by have := LY.out; omega)
   have p3 := eq_true (show (0 : Int) ≤ (i : Int) by omega)
   have p4 := decide_eq_true (show (i : Int) < (ys.length : Int) by have := LY.out; omega)
   have p5 := eq_true (show i < xs.length by have := LX.out; have := HL.out.1; omega)
   have p6 := eq_true (show (i : Int) < (xs.length : Int) by have := LX.out; have := HL.out.1; omega)
   obtain ⟨aa, A1, c1, eaa, ca0, ca1, ca2, oa, ra⟩ := at_num HA.out HU.out i (by have := HL.out.1; omega)
   cases eaa
   obtain ⟨ab, A2, c2, eab, cb0, cb1, cb2, ob, rb⟩ := at_num HB_.out HV.out i hx
   cases eab
   have OA := am_ oa
   have OB := am_ ob
   have RA := am_ (ra 90 (by decide))
   have RB := am_ (rb 90 (by decide))
   have TT := am_ (times_T oa ob)
   have DB := am_ (bound64 (dotN_bound us vs (i + 1)) (by have := HL.out.2; omega))
   have DS := am_ (show dotN us vs (i + 1) = dotN us vs i + prT (rdn us i) (rdn vs i) 0 from rfl)
   have HC := am_ (show ∀ w0 : World, Below w.heap.size w w0 → w0.cell? (aa.add (i * 3)) = some (.bool (zas xs (i : Int)).f0) ∧ w0.cell? ⟨(aa.add (i * 3)).block, (aa.add (i * 3)).off + 1, none⟩ = some (.slice A1 (zas xs (i : Int)).f1.length c1) ∧ w0.cell? ⟨(aa.add (i * 3)).block, (aa.add (i * 3)).off + 2, none⟩ = some (.int .i64 (zas xs (i : Int)).f2) ∧ w0.cell? (ab.add (i * 3)) = some (.bool (zas ys (i : Int)).f0) ∧ w0.cell? ⟨(ab.add (i * 3)).block, (ab.add (i * 3)).off + 1, none⟩ = some (.slice A2 (zas ys (i : Int)).f1.length c2) ∧ w0.cell? ⟨(ab.add (i * 3)).block, (ab.add (i * 3)).off + 2, none⟩ = some (.int .i64 (zas ys (i : Int)).f2) from fun W hW => ⟨zu hW ca0, zu hW ca1, zu hW ca2, zu hW cb0, zu hW cb1, zu hW cb2⟩)
   clear hx oa ob ra rb ca0 ca1 ca2 cb0 cb1 cb2
   generalize zas xs (i : Int) = x at *
   generalize zas ys (i : Int) = y at *
   generalize prT (rdn us i) (rdn vs i) 0 = pr at *
   go_wp2_with fail
   have hb_ : Below wr.heap.size wr wr.drew := zR (Below.refl _ _)
   replace HB := am_ (zb HB.out hb_)
   replace K5 := am_ (K5.out.step hb_)
   replace K4 := am_ (K4.out.step hb_)
   replace RC := am_ (RC.out.step hb_)
   clear hb_
   refine zay (n := 12) (S := fun w' => w'.cell? ⟨g5, 0, none⟩ = some (.bool nb) ∧ w'.cell? ⟨g5, 1, none⟩ = some (.slice C l.length cc) ∧ w'.cell? ⟨g5, 2, none⟩ = some (.int .i64 e) ∧ w'.cell? (aa.add (i * 3)) = some (.bool x.f0) ∧ w'.cell? ⟨(aa.add (i * 3)).block, (aa.add (i * 3)).off + 1, none⟩ = some (.slice A1 x.f1.length c1) ∧ w'.cell? ⟨(aa.add (i * 3)).block, (aa.add (i * 3)).off + 2, none⟩ = some (.int .i64 x.f2) ∧ w'.cell? (ab.add (i * 3)) = some (.bool y.f0) ∧ w'.cell? ⟨(ab.add (i * 3)).block, (ab.add (i * 3)).off + 1, none⟩ = some (.slice A2 y.f1.length c2) ∧ w'.cell? ⟨(ab.add (i * 3)).block, (ab.add (i * 3)).off + 2, none⟩ = some (.int .i64 y.f2)) (ds := [11]) (bl_ 12 0) (by kernel_rfl) rfl rfl ⟨K5.out.c0, K5.out.c1, K5.out.c2, (HC.out _ HB.out).1, (HC.out _ HB.out).2.1, (HC.out _ HB.out).2.2.1, (HC.out _ HB.out).2.2.2.1, (HC.out _ HB.out).2.2.2.2.1, (HC.out _ HB.out).2.2.2.2.2⟩ (fun hHeld => ?_); refine zT weighs.tab5 weighs.bits5 (fun HT_ HW_ => ?_)
   generalize wr.drew = v0 at HB K5 K4 RC hHeld ⊢
   refine pu_ HT_ 1 15 (bl_ 12 2) ?_
   refine pu_ HT_ 2 16 (bl_ 12 6) ?_
   refine pu_ HT_ 3 17 (bl_ 12 14) ?_
   refine pu_ HT_ 5 19 (bl_ 12 46) ?_
   refine pu_ HT_ 6 20 (bl_ 12 110) ?_
   refine pu_ HT_ 7 21 (bl_ 12 238) ?_
   refine tk_ HT_ HW_ hHeld 0 14 (bl_ 12 239) ?_
   refine tk_ HT_ HW_ hHeld 4 18 (bl_ 12 255) ?_
   refine tk_ HT_ HW_ hHeld 8 22 (bl_ 12 511) ?_
   refine on_ HT_ 9 (some 23) (bl_ 12 1023) fun K hK => ?_
   refine goes_ Try.func95 (by kernel_rfl) rfl #[.agg #[.bool x.f0, .slice A1 x.f1.length c1, .int .i64 x.f2], .agg #[.bool y.f0, .slice A2 y.f1.length c2, .int .i64 y.f2]] (by rfl) rfl rfl (by (try simp only [List.map_toArray, List.map_cons, List.map_nil]); first | done | rfl) ?_
   refine (times_v x.f0 y.f0 A1 c1 x.f1 x.f2 A2 c2 y.f1 y.f2 v0 (RA.out.step HB.out) (RB.out.step HB.out) ⟨by have := OA.out.2.2.2.2.2; omega, by have := OA.out.2.2.2.2.2; omega⟩ ⟨by have := OB.out.2.2.2.2.2; omega, by have := OB.out.2.2.2.2.2; omega⟩).mono ?_
   rintro o_ v1 ⟨nt, At, ct, lt, et, rfl, rt, eb, vt, hb_⟩
   refine ⟨_, rfl, ?_⟩
   have RT := am_ rt
   have ET := am_ eb
   have VT := am_ (vt.trans TT.out)
   replace HB := am_ (zb HB.out hb_)
   replace K5 := am_ (K5.out.step hb_)
   replace K4 := am_ (K4.out.step hb_)
   replace RC := am_ (RC.out.step hb_)
   clear rt eb vt hb_
   refine hK.out _ _ ⟨K5.out.c0, K5.out.c1, K5.out.c2, (HC.out _ HB.out).1, (HC.out _ HB.out).2.1, (HC.out _ HB.out).2.2.1, (HC.out _ HB.out).2.2.2.1, (HC.out _ HB.out).2.2.2.2.1, (HC.out _ HB.out).2.2.2.2.2⟩ (fun hHeld => ?_); clear hK K
   refine nm_ ?_
   refine on_ HT_ 10 (some 24) (bl_ 12 2047) fun K hK => ?_
   refine goes_ Try.func80 (by kernel_rfl) rfl #[.agg #[.bool nb, .slice C l.length cc, .int .i64 e], .agg #[.bool nt, .slice At lt.length ct, .int .i64 et]] (by rfl) rfl rfl (by (try simp only [List.map_toArray, List.map_cons, List.map_nil]); first | done | rfl) ?_
   have SV := am_ (show NV nb l e + NV nt lt et = dotN us vs (i + 1) * 2 ^ 1788 by rw [EV.out.2, VT.out, DS.out, Int.add_mul])
   refine (plus_v nb nt C cc l e At ct lt et v1 RC.out RT.out EV.out.1 ET.out (by rw [SV.out]; exact DB.out)).mono ?_
   rintro o_ v2 ⟨n2, Ap, cp, lp, ep, rfl, rp, eb, vp, hb_⟩
   refine ⟨_, rfl, ?_⟩
   have RP := am_ rp
   have EP := am_ (And.intro eb (vp.trans SV.out))
   replace HB := am_ (zb HB.out hb_)
   replace K5 := am_ (K5.out.step hb_)
   replace K4 := am_ (K4.out.step hb_)
   clear rp eb vp hb_ RC
   refine hK.out _ _ ⟨K5.out.c0, K5.out.c1, K5.out.c2, (HC.out _ HB.out).1, (HC.out _ HB.out).2.1, (HC.out _ HB.out).2.2.1, (HC.out _ HB.out).2.2.2.1, (HC.out _ HB.out).2.2.2.2.1, (HC.out _ HB.out).2.2.2.2.2⟩ (fun hHeld => ?_); clear hK K
   refine nm_ ?_
   refine last_ (i := 11) (N := none) (bl_ 12 4095) rfl rfl (one_of HT_.out (by kernel_rfl)) (by decide) (fun K hK => ?_)
   refine za9 (by rfl) 101 rfl rfl g5 #[.bool n2, .slice Ap lp.length cp, .int .i64 ep] rfl rfl 101 _ K5.out (NW.zav.trans rfl) rfl (zaC _ _ _ _ _) ?_
   intro v3 hw_ hg_
   replace HB := am_ (HB.out.grown hg_ HB.out.size (fun k_ hk_ => by cases hk_; exact L5.out))
   replace K4 := am_ (K4.out.put hg_ N45.out)
   replace RP := am_ (RP.out.put K5.out hg_)
   replace K5 := am_ (show B3 v3 g5 n2 Ap lp.length cp ep from hw_)
   clear hw_ hg_
   refine hK.out _ _ ?_; clear hK K
   refine zaP (zao HT_.out (by kernel_rfl)) ?_
   clear hHeld
   go_wp2_with fail
   go_roundg (gk - 1)
   case measure => have := hm.out; have := HX.out; omega
   case rel => exact ⟨i + 1, n2, Ap, cp, lp, ep, by first | rfl | (rw [w64 _ (by omega) (by have := HX.out; have := HL.out.2; omega)]; rfl), ⟨by have := hm.out; have := HX.out; omega⟩, K5, K4, RP, EP, HB⟩
  ·have p1 := eq_false (show ¬ i < ys.length by have := LY.out; omega)
   have p2 := eq_false (show ¬ (i : Int) < (ys.length : Int) by have := LY.out; omega)
   have p4 := decide_eq_false (show ¬ (i : Int) < (ys.length : Int) by have := LY.out; omega)
   have HE := am_ (show i = vs.length by have := hm.out; omega)
   clear hx hm
   have e0 := K5.out.c0
   have e1 := K5.out.c1
   have e2 := K5.out.c2
   go_wp2_with (first
  | ((with_reducible refine zr (t := 101) (p := 4) rfl ?_); refine zn rfl 101 rfl rfl g4 #[.bool nb, .slice C l.length cc, .int .i64 e] rfl rfl 101 _ K4.out (NW.zav.trans rfl) rfl (zaC _ _ _ _ _) ?_; intro w9 hw_ hg_; replace HB := am_ (HB.out.grown hg_ HB.out.size (fun k_ hk_ => by cases hk_; exact L4.out)); replace RC := am_ (RC.out.put K4.out hg_); replace K4 := am_ hw_; clear hw_ hg_)
  | fail)
   refine bodyPost_ret (results_cell_row rfl _ _ g4 101 #[.bool nb, .slice C l.length cc, .int .i64 e] (0, 0) _ rfl K4.out Try.underlying101 rfl (by kernel_rfl)) rfl ?_
   exact ⟨nb, C, cc, l, e, by first | done | rfl, RC.out, EV.out.1, by rw [← HE.out]; exact EV.out.2, HB.out⟩
theorem zaO : (Try.prog.info? 145).map (·.size) = some 5 := by kernel_rfl
def kN : Kd (List S101) := Kd.slice 101 k101
structure Rl where
 n : Int
 b1 : Option Addr
 m1 : Nat
 d1 : Nat
 b2 : Option Addr
 m2 : Nat
 d2 : Nat
 b3 : Option Addr
 m3 : Nat
 d3 : Nat
 b4 : Option Addr
 m4 : Nat
 d4 : Nat
def rlc (r : Rl) : Array Value := #[.int .i64 r.n, .slice r.b1 r.m1 r.d1, .slice r.b2 r.m2 r.d2, .slice r.b3 r.m3 r.d3, .slice r.b4 r.m4 r.d4]
/-- The columns' numbers. -/
def Cols (uss : List (List Nat)) (k : Nat) (xss : List (List S101)) : Prop := xss.length = k ∧ ∀ i, i < k → Nums (rdl uss i) (rd_L7 xss (i : Int))
theorem rd7_app (xs : List (List S101)) (x : List S101) (i : Nat) (h : i < xs.length) : rd_L7 (xs ++ [x]) (i : Int) = rd_L7 xs (i : Int) := by
 unfold rd_L7
 rw [Int.toNat_natCast, List.getD_eq_getElem?_getD, List.getD_eq_getElem?_getD, List.getElem?_append_left h]
theorem rd7_last (xs : List (List S101)) (x : List S101) : rd_L7 (xs ++ [x]) ((xs.length : Nat) : Int) = x := by
 unfold rd_L7
 rw [Int.toNat_natCast, List.getD_eq_getElem?_getD, List.getElem?_append_right (Nat.le_refl _), Nat.sub_self]
 rfl
theorem Cols.snoc {uss : List (List Nat)} {k : Nat} {xss : List (List S101)} {x : List S101} (h : Cols uss k xss) (hx : Nums (rdl uss k) x) : Cols uss (k + 1) (xss ++ [x]) := by
 refine ⟨by rw [List.length_append, h.1]; rfl, fun j hj => ?_⟩
 by_cases e : j = k
 ·subst e
  have := rd7_last xss x
  rw [h.1] at this
  rw [this]
  exact hx
 ·rw [rd7_app xss x j (by have := h.1; omega)]
  exact h.2 j (by omega)
theorem ltz_num (u : Nat) (hu : u < 18446744073709551616) (h : fo u = true) : ltz u = (fs u && decide (fm u ≠ 0)) := by
 have e0 : fnum 0 = some (false, 0, -1074) := by decide
 unfold fo at h
 cases hf : fnum u with
 | none => rw [hf] at h; cases h
 | some r =>
  obtain ⟨s, m, e⟩ := r
  obtain ⟨g0, g1, g2, g3⟩ := of_fnum hf
  have f2 := fe_in u
  rw [g1, g2]
  rw [g3] at f2
  show (Ieee.Datum.order (Ieee.double.read u) (Ieee.double.read 0) == some Ordering.lt) = _
  rw [read_num u hu, read_num 0 (by decide), hf, e0]
  simp only [Ieee.Datum.order]
  rw [show min e (-1074) = -1074 by omega]
  have hz : Ieee.signed false 0 ((-1074 : Int) - -1074).toNat = 0 := by decide
  rw [hz]
  have hp : 0 < 2 ^ (e - -1074).toNat := Nat.pow_pos (by decide)
  have hs : Ieee.signed s m (e - -1074).toNat = if s = true then -((m * 2 ^ (e - -1074).toNat : Nat) : Int) else ((m * 2 ^ (e - -1074).toNat : Nat) : Int) := by
   unfold Ieee.signed
   rw [Nat.shiftLeft_eq]
  rw [hs]
  have hm : m ≠ 0 → 0 < m * 2 ^ (e - -1074).toNat := fun h0 => Nat.mul_pos (by omega) hp
  have hm0 : m = 0 → m * 2 ^ (e - -1074).toNat = 0 := fun h0 => by rw [h0, Nat.zero_mul]
  generalize m * 2 ^ (e - -1074).toNat = q at *
  cases s with
  | false =>
   rw [if_neg (by decide), Bool.false_and, beq_eq_false_iff_ne]
   intro hc
   have := Int.compare_eq_lt.1 (Option.some.inj hc)
   omega
  | true =>
   rw [if_pos rfl, Bool.true_and]
   by_cases h0 : m = 0
   ·rw [decide_eq_false (by omega), beq_eq_false_iff_ne]
    intro hc
    have := Int.compare_eq_lt.1 (Option.some.inj hc)
    have := hm0 h0
    omega
   ·rw [decide_eq_true h0, show compare (-(q : Int)) 0 = .lt from Int.compare_eq_lt.2 (by have := hm h0; omega)]
    rfl
/-- The sign of a number of some bits. -/
theorem sign_num {u : Nat} {x : S101} (hu : u < 18446744073709551616) (hf : fo u = true) (h : OfV u x) : ∃ s : Int, zaH.f x.f0 x.f1 x.f2 = some s ∧ decide (s < 0) = ltz u := by
 rw [ltz_num u hu hf]
 unfold zaH.f
 by_cases h0 : x.f1.length = 0
 ·have h4 := h.2.2.2.1
  rw [List.length_eq_zero_iff.1 h0] at h4
  have hm : fm u = 0 := by simp only [nv] at h4; omega
  exact ⟨0, if_pos (by omega), by rw [hm]; simp⟩
 ·have hm : fm u ≠ 0 := fun e => by
   have h4 := h.2.2.2.1
   rw [e] at h4
   exact h0 (nv_zero_len h.1 h.2.1 h4)
  rcases h.2.2.2.2.1 with h5 | h5
  ·exact absurd h5 h0
  ·rw [if_neg (by omega), h5.1]
   cases fs u with
   | true => exact ⟨-1, rfl, by rw [decide_eq_true hm]; rfl⟩
   | false => exact ⟨1, rfl, by rfl⟩
def zaL.T18 : Bool × List (List Nat × List Nat) := (true, [([], []), ([0], [0]), ([], []), ([1, 2], [1, 2]), ([3], [3]), ([4], [4]), ([5], [5]), ([6], [6]), ([7, 6], [6, 7]), ([6], [6]), ([8, 9, 6], [6, 8, 9]), ([10, 6], [6, 10]), ([11, 6], [6, 11]), ([6, 12], [6, 12]), ([13, 6], [13]), ([14], [14]), ([15, 14], [14, 15]), ([16, 14, 14], [14, 16]), ([17], [17]), ([18, 17], [17, 18]), ([17], [17]), ([20, 17], [17, 20]), ([19, 21, 17], [17, 19, 21]), ([22, 17], [17, 22]), ([17], [17]), ([24, 17], [17, 24]), ([17], [17]), ([25, 26, 17], [17, 25, 26]), ([27, 17], [17, 27]), ([23, 28, 17], [17, 23, 28]), ([17, 29, 14], [14, 17, 29]), ([14, 30], [14, 30])])
def zaL.B18 : List Nat := [0, 1, 0, 7, 15, 31, 63, 127, 255, 127, 1023, 2047, 4095, 8191, 16383, 32767, 65535, 131071, 262143, 524287, 262143, 1310719, 4194303, 8388607, 262143, 17039359, 262143, 117702655, 251920383, 536870911, 1073741823, 2147483647]
theorem zaL.tab18 : rtab .any (opsOf Try.f77 18) = zaL.T18 := by kernel_rfl
theorem zaL.bits18 : zat zaL.T18.2 zaL.B18 = true := by kernel_rfl
def zaL.T20 : Bool × List (List Nat × List Nat) := (true, [([], []), ([0], [0]), ([], []), ([1, 2], [1, 2]), ([3], [3]), ([], []), ([5], [5]), ([4, 6], [4, 6]), ([7], [7]), ([8], [8]), ([8], [8]), ([9, 7, 0, 1, 2, 3, 4, 5, 6, 7, 8, 9], [9]), ([10, 11, 0, 1, 2, 3, 4, 5, 6, 7, 8, 9, 10, 11], [10])])
def zaL.B20 : List Nat := [0, 1, 0, 7, 15, 0, 32, 127, 255, 511, 511, 1023, 4095]
theorem zaL.tab20 : rtab .any (opsOf Try.f77 20) = zaL.T20 := by kernel_rfl
theorem zaL.bits20 : zat zaL.T20.2 zaL.B20 = true := by kernel_rfl
def zaL.T23 : Bool × List (List Nat × List Nat) := (true, [([], []), ([0], [0]), ([], []), ([2], [2]), ([], []), ([3, 4], [3, 4]), ([5], [5]), ([6], [6]), ([1, 7], [1, 7]), ([0, 1, 2, 3, 4, 5, 6, 7, 8], []), ([9, 8, 8, 0, 1, 2, 3, 4, 5, 6, 7, 8], [8, 9])])
def zaL.B23 : List Nat := [0, 1, 0, 4, 0, 28, 60, 124, 255, 511, 1023]
theorem zaL.tab23 : rtab .any (opsOf Try.f77 23) = zaL.T23 := by kernel_rfl
theorem zaL.bits23 : zat zaL.T23.2 zaL.B23 = true := by kernel_rfl
set_option maxRecDepth 100000 in
set_option maxHeartbeats 4000000 in
theorem reals_calls (z : Zn) (h : Zh) (w : World) (hr : Ur w z h) (hf : Zf z) (hs : ∀ n, n = z.C.length ∨ n = z.ids.length ∨ n = z.G.length ∨ n = z.R.length → n ≤ 2000000) (hg : ∀ us, us ∈ z.G → us.length ≤ 2000000) :
  Calls Try.prog 77 #[.agg (uc z h)] w fun e w' => ∃ r, e = .returned (.tuple #[.agg (rlc r), .bool (goodB z)]) ∧ (goodB z = true → ∃ xss, r.m3 = (xss : List (List S101)).length ∧ kN.C w' r.b3 xss.length xss ∧ Cols z.G z.G.length xss) ∧ Below w.heap.size w w' := by
 obtain ⟨z1, z2, z3, z4, z5, z6⟩ := z
 obtain ⟨a1, k1, a2, k2, a3, k3, a4, k4⟩ := h
 have hu74 := Try.underlying74
 have hu145 := Try.underlying145
 have hu101 := Try.underlying101
 have Q1 := am_ (show Kd.C (Kd.int .u64) w a1 (ku z2).length (ku z2) ∧ (ku z2).length ≤ k1 from ⟨hr.r1, hr.k1⟩)
 have Q2 := am_ (show Rd w a2 k2 z3 from hr.r2)
 have Q3 := am_ (show dU.C w a3 (z4.map ku).length (z4.map ku) from hr.r3)
 have Q4 := am_ (show Kd.C (Kd.int .u64) w a4 (ku z5).length (ku z5) ∧ (ku z5).length ≤ k4 from ⟨hr.r4, hr.k4⟩)
 have W2 := am_ (show Wf z2 from hf.C)
 have W4 := am_ (show ∀ us, us ∈ z4 → Wf us from hf.G)
 have W5 := am_ (show Wf z5 from hf.R)
 have S2 := am_ (show z2.length ≤ 2000000 from hs _ (.inl rfl))
 have S3 := am_ (show z3.length ≤ 2000000 from hs _ (.inr (.inl rfl)))
 have S4 := am_ (show z4.length ≤ 2000000 from hs _ (.inr (.inr (.inl rfl))))
 have S5 := am_ (show z5.length ≤ 2000000 from hs _ (.inr (.inr (.inr rfl))))
 have SG := am_ (show ∀ us, us ∈ z4 → us.length ≤ 2000000 from hg)
 show Calls Try.prog 77 #[.agg #[.int .i64 z1, .slice a1 (ku z2).length k1, .slice a2 z3.length k2, .slice a3 (z4.map ku).length k3, .slice a4 (ku z5).length k4, .bool z6]] w fun e w' => ∃ r, e = .returned (.tuple #[.agg (rlc r), .bool (goodB ⟨z1, z2, z3, z4, z5, z6⟩)]) ∧ (goodB ⟨z1, z2, z3, z4, z5, z6⟩ = true → ∃ xss, r.m3 = (xss : List (List S101)).length ∧ kN.C w' r.b3 xss.length xss ∧ Cols z4 z4.length xss) ∧ Below w.heap.size w w'
 clear hr hf hs hg
 obtain ⟨l2, hl2⟩ : ∃ l, l = ku z2 := ⟨_, rfl⟩
 obtain ⟨l4, hl4⟩ : ∃ l, l = z4.map ku := ⟨_, rfl⟩
 obtain ⟨l5, hl5⟩ : ∃ l, l = ku z5 := ⟨_, rfl⟩
 rw [← hl2, ← hl4, ← hl5]
 rw [← hl2] at Q1
 rw [← hl4] at Q3
 rw [← hl5] at Q4
 have HL2 := am_ hl2
 have HL4 := am_ hl4
 have HL5 := am_ hl5
 have N4 := am_ (show l4.length = z4.length by rw [hl4, List.length_map])
 clear hl2 hl4 hl5
 obtain ⟨Z, hz⟩ : ∃ Z, Z = (⟨z1, z2, z3, z4, z5, z6⟩ : Zn) := ⟨_, rfl⟩
 rw [← hz]
 have HZ := am_ hz
 clear hz
 generalize hb : goodB Z = b
 have HBV := am_ hb
 clear hb
 go_enter Try.func77, Try.ntmps77
 cases z6
 ·by_cases h1 : z1 < 1
  ·have q1 := eq_true h1
   have q2 := decide_eq_true h1
   have N1 := am_ h1
   clear h1
   go_wp2_with (first
  | ((with_reducible refine zk (N := 1) rfl ?_); refine zaq 1 (cs := #[.int .i64 z1, .slice a1 l2.length k1, .slice a2 z3.length k2, .slice a3 l4.length k3, .slice a4 l5.length k4, .bool false]) (t := 74) ?_; intro g1 hg_ w1 hw_ hb_; have HB := am_ hb_; have K1 := am_ hw_; have L1 := am_ (show w.heap.size ≤ g1 by omega); clear hg_ hw_ hb_)
  | ((with_reducible refine zk (N := 2) rfl ?_); refine zaq 2 (cs := #[.int .i64 0, .slice none 0 0, .slice none 0 0, .slice none 0 0, .slice none 0 0]) (t := 145) ?_; intro g2 hg_ w2 hw_ hb_; have N12 := am_ (show g1 ≠ g2 by have := zaa K1.out; omega); have L2 := am_ (show w.heap.size ≤ g2 by have := HB.out.size; omega); replace HB := am_ (zb HB.out hb_); replace K1 := am_ (zh K1.out hb_); have K2 := am_ hw_; clear hg_ hw_ hb_; have c0 : w2.cell? ⟨g1, 0, none⟩ = some (.int .i64 z1) := (za K1.out 0).trans rfl; have c1 : w2.cell? ⟨g1, 1, none⟩ = some (.slice a1 l2.length k1) := (za K1.out 1).trans rfl; have c2 : w2.cell? ⟨g1, 2, none⟩ = some (.slice a2 z3.length k2) := (za K1.out 2).trans rfl; have c3 : w2.cell? ⟨g1, 3, none⟩ = some (.slice a3 l4.length k3) := (za K1.out 3).trans rfl; have c4 : w2.cell? ⟨g1, 4, none⟩ = some (.slice a4 l5.length k4) := (za K1.out 4).trans rfl; have c5 : w2.cell? ⟨g1, 5, none⟩ = some (.bool false) := (za K1.out 5).trans rfl)
  | ((with_reducible refine zr (t := 145) (p := 2) rfl ?_); refine zn rfl 145 rfl rfl g2 #[.int .i64 0, .slice none 0 0, .slice none 0 0, .slice none 0 0, .slice none 0 0] rfl rfl 145 _ K2.out (zaO.trans rfl) rfl (by simp [Value.oneCell']) ?_; intro wf hw_ hg_; replace HB := am_ (HB.out.grown hg_ HB.out.size (fun k_ hk_ => by cases hk_; exact L2.out)); replace K2 := am_ hw_; clear hw_ hg_)
  | fail)
   refine bodyPost_ret (zaj rfl _ _ g2 145 #[.int .i64 0, .slice none 0 0, .slice none 0 0, .slice none 0 0, .slice none 0 0] (0, 0) _ rfl K2.out Try.underlying145 rfl (by kernel_rfl)) rfl ?_
   have hbv_ : b = false := by rw [← HBV.out, zU (fun h_ => by rw [HZ.out] at h_; have := h_.2.1.1; have := N1.out; simp only at *; omega)]
   exact ⟨⟨0, none, 0, 0, none, 0, 0, none, 0, 0, none, 0, 0⟩, by rw [hbv_]; first | done | rfl, (fun h_ => by rw [hbv_] at h_; cases h_), HB.out⟩
  ·have q1 := eq_false h1
   have q2 := decide_eq_false h1
   by_cases h2 : 256 < z1
   ·have q3 := eq_true h2
    have q4 := decide_eq_true h2
    have N2 := am_ h2
    clear h1 h2
    go_wp2_with (first
  | ((with_reducible refine zk (N := 1) rfl ?_); refine zaq 1 (cs := #[.int .i64 z1, .slice a1 l2.length k1, .slice a2 z3.length k2, .slice a3 l4.length k3, .slice a4 l5.length k4, .bool false]) (t := 74) ?_; intro g1 hg_ w1 hw_ hb_; have HB := am_ hb_; have K1 := am_ hw_; have L1 := am_ (show w.heap.size ≤ g1 by omega); clear hg_ hw_ hb_)
  | ((with_reducible refine zk (N := 2) rfl ?_); refine zaq 2 (cs := #[.int .i64 0, .slice none 0 0, .slice none 0 0, .slice none 0 0, .slice none 0 0]) (t := 145) ?_; intro g2 hg_ w2 hw_ hb_; have N12 := am_ (show g1 ≠ g2 by have := zaa K1.out; omega); have L2 := am_ (show w.heap.size ≤ g2 by have := HB.out.size; omega); replace HB := am_ (zb HB.out hb_); replace K1 := am_ (zh K1.out hb_); have K2 := am_ hw_; clear hg_ hw_ hb_; have c0 : w2.cell? ⟨g1, 0, none⟩ = some (.int .i64 z1) := (za K1.out 0).trans rfl; have c1 : w2.cell? ⟨g1, 1, none⟩ = some (.slice a1 l2.length k1) := (za K1.out 1).trans rfl; have c2 : w2.cell? ⟨g1, 2, none⟩ = some (.slice a2 z3.length k2) := (za K1.out 2).trans rfl; have c3 : w2.cell? ⟨g1, 3, none⟩ = some (.slice a3 l4.length k3) := (za K1.out 3).trans rfl; have c4 : w2.cell? ⟨g1, 4, none⟩ = some (.slice a4 l5.length k4) := (za K1.out 4).trans rfl; have c5 : w2.cell? ⟨g1, 5, none⟩ = some (.bool false) := (za K1.out 5).trans rfl)
  | ((with_reducible refine zr (t := 145) (p := 2) rfl ?_); refine zn rfl 145 rfl rfl g2 #[.int .i64 0, .slice none 0 0, .slice none 0 0, .slice none 0 0, .slice none 0 0] rfl rfl 145 _ K2.out (zaO.trans rfl) rfl (by simp [Value.oneCell']) ?_; intro wf hw_ hg_; replace HB := am_ (HB.out.grown hg_ HB.out.size (fun k_ hk_ => by cases hk_; exact L2.out)); replace K2 := am_ hw_; clear hw_ hg_)
  | fail)
    refine bodyPost_ret (zaj rfl _ _ g2 145 #[.int .i64 0, .slice none 0 0, .slice none 0 0, .slice none 0 0, .slice none 0 0] (0, 0) _ rfl K2.out Try.underlying145 rfl (by kernel_rfl)) rfl ?_
    have hbv_ : b = false := by rw [← HBV.out, zU (fun h_ => by rw [HZ.out] at h_; have := h_.2.1.2; have := N2.out; simp only at *; omega)]
    exact ⟨⟨0, none, 0, 0, none, 0, 0, none, 0, 0, none, 0, 0⟩, by rw [hbv_]; first | done | rfl, (fun h_ => by rw [hbv_] at h_; cases h_), HB.out⟩
   ·have q3 := eq_false h2
    have q4 := decide_eq_false h2
    have N2 := am_ (show 1 ≤ z1 ∧ z1 ≤ 256 by omega)
    clear h1 h2
    by_cases hl : z3.length = l4.length
    ·have q5 : ((z3.length : Int) != (l4.length : Int)) = false := by rw [hl]; exact bne_self_eq_false _
     have NL := am_ (show z3.length = z4.length by have := N4.out; omega)
     have NLL := am_ hl
     clear hl
     go_wp2_with (first
  | ((with_reducible refine zk (N := 1) rfl ?_); refine zaq 1 (cs := #[.int .i64 z1, .slice a1 l2.length k1, .slice a2 z3.length k2, .slice a3 l4.length k3, .slice a4 l5.length k4, .bool false]) (t := 74) ?_; intro g1 hg_ w1 hw_ hb_; have HB := am_ hb_; have K1 := am_ hw_; have L1 := am_ (show w.heap.size ≤ g1 by omega); clear hg_ hw_ hb_)
  | ((with_reducible refine zk (N := 2) rfl ?_); refine zaq 2 (cs := #[.int .i64 0, .slice none 0 0, .slice none 0 0, .slice none 0 0, .slice none 0 0]) (t := 145) ?_; intro g2 hg_ w2 hw_ hb_; have N12 := am_ (show g1 ≠ g2 by have := zaa K1.out; omega); have L2 := am_ (show w.heap.size ≤ g2 by have := HB.out.size; omega); replace HB := am_ (zb HB.out hb_); replace K1 := am_ (zh K1.out hb_); have K2 := am_ hw_; clear hg_ hw_ hb_; have c0 : w2.cell? ⟨g1, 0, none⟩ = some (.int .i64 z1) := (za K1.out 0).trans rfl; have c1 : w2.cell? ⟨g1, 1, none⟩ = some (.slice a1 l2.length k1) := (za K1.out 1).trans rfl; have c2 : w2.cell? ⟨g1, 2, none⟩ = some (.slice a2 z3.length k2) := (za K1.out 2).trans rfl; have c3 : w2.cell? ⟨g1, 3, none⟩ = some (.slice a3 l4.length k3) := (za K1.out 3).trans rfl; have c4 : w2.cell? ⟨g1, 4, none⟩ = some (.slice a4 l5.length k4) := (za K1.out 4).trans rfl; have c5 : w2.cell? ⟨g1, 5, none⟩ = some (.bool false) := (za K1.out 5).trans rfl)
  | ((with_reducible refine zk (N := 4) rfl ?_); refine zaq 4 (cs := #[.int .i64 0, .slice none 0 0, .slice none 0 0, .slice none 0 0, .slice none 0 0]) (t := 145) ?_; intro g4 hg_ w3 hw_ hb_; have N4_ := am_ (show g1 ≠ g4 ∧ g2 ≠ g4 by have := zaa K1.out; have := zaa K2.out; omega); have L4 := am_ (show w.heap.size ≤ g4 by have := HB.out.size; omega); replace HB := am_ (zb HB.out hb_); replace K1 := am_ (zh K1.out hb_); replace K2 := am_ (zh K2.out hb_); have K4 := am_ hw_; clear hg_ hw_ hb_ c0 c1 c2 c3 c4 c5)
  | ((with_reducible refine zr (t := 145) (p := 4) rfl ?_); refine zn rfl 145 rfl rfl g4 #[.int .i64 z1, .slice none 0 0, .slice none 0 0, .slice none 0 0, .slice none 0 0] rfl rfl 145 _ K4.out (zaO.trans rfl) rfl (by simp [Value.oneCell']) ?_; intro w4 hw_ hg_; replace HB := am_ (HB.out.grown hg_ HB.out.size (fun k_ hk_ => by cases hk_; exact L4.out)); replace K4 := am_ hw_; replace K1 := am_ (zx hg_ K1.out (fun e => N4_.out.1 (Option.some.inj e))); replace K2 := am_ (zx hg_ K2.out (fun e => N4_.out.2 (Option.some.inj e))); clear hw_ hg_; have c0 : w4.cell? ⟨g1, 0, none⟩ = some (.int .i64 z1) := (za K1.out 0).trans rfl; have c1 : w4.cell? ⟨g1, 1, none⟩ = some (.slice a1 l2.length k1) := (za K1.out 1).trans rfl; have c2 : w4.cell? ⟨g1, 2, none⟩ = some (.slice a2 z3.length k2) := (za K1.out 2).trans rfl; have c3 : w4.cell? ⟨g1, 3, none⟩ = some (.slice a3 l4.length k3) := (za K1.out 3).trans rfl; have c4 : w4.cell? ⟨g1, 4, none⟩ = some (.slice a4 l5.length k4) := (za K1.out 4).trans rfl; have c5 : w4.cell? ⟨g1, 5, none⟩ = some (.bool false) := (za K1.out 5).trans rfl)
  | fail)
     have nc := numbers_calls z2 z1 a1 k1 w4 (by rw [← HL2.out]; exact Kd.zB Q1.out.1 HB.out) (by rw [← HL2.out]; exact Q1.out.2) W2.out S2.out
     rw [← HL2.out] at nc
     refine nc.mono ?_
     clear nc
     rintro e_ w5 ⟨B1, d1, xs1, rfl, _, _, hb_⟩
     replace HB := am_ (zb HB.out hb_)
     replace K1 := am_ (zh K1.out hb_)
     replace K2 := am_ (zh K2.out hb_)
     replace K4 := am_ (zh K4.out hb_)
     clear hb_ c0 c1 c2 c3 c4 c5
     have c0 : w5.cell? ⟨g1, 0, none⟩ = some (.int .i64 z1) := (za K1.out 0).trans rfl
     have c1 : w5.cell? ⟨g1, 1, none⟩ = some (.slice a1 l2.length k1) := (za K1.out 1).trans rfl
     have c2 : w5.cell? ⟨g1, 2, none⟩ = some (.slice a2 z3.length k2) := (za K1.out 2).trans rfl
     have c3 : w5.cell? ⟨g1, 3, none⟩ = some (.slice a3 l4.length k3) := (za K1.out 3).trans rfl
     have c4 : w5.cell? ⟨g1, 4, none⟩ = some (.slice a4 l5.length k4) := (za K1.out 4).trans rfl
     have c5 : w5.cell? ⟨g1, 5, none⟩ = some (.bool false) := (za K1.out 5).trans rfl
     go_wp2_with fail
     have nc := numbers_calls z5 z1 a4 k4 w5 (by rw [← HL5.out]; exact Kd.zB Q4.out.1 HB.out) (by rw [← HL5.out]; exact Q4.out.2) W5.out S5.out
     rw [← HL5.out] at nc
     refine nc.mono ?_
     clear nc
     rintro e_ w6 ⟨B4, d4, xs4, rfl, hs4, hn4, hb_⟩
     replace HB := am_ (zb HB.out hb_)
     replace K1 := am_ (zh K1.out hb_)
     replace K2 := am_ (zh K2.out hb_)
     replace K4 := am_ (zh K4.out hb_)
     have RS4 := am_ (Kd.S_R hs4)
     clear hb_ hs4 c0 c1 c2 c3 c4 c5
     have c0 : w6.cell? ⟨g1, 0, none⟩ = some (.int .i64 z1) := (za K1.out 0).trans rfl
     have c1 : w6.cell? ⟨g1, 1, none⟩ = some (.slice a1 l2.length k1) := (za K1.out 1).trans rfl
     have c2 : w6.cell? ⟨g1, 2, none⟩ = some (.slice a2 z3.length k2) := (za K1.out 2).trans rfl
     have c3 : w6.cell? ⟨g1, 3, none⟩ = some (.slice a3 l4.length k3) := (za K1.out 3).trans rfl
     have c4 : w6.cell? ⟨g1, 4, none⟩ = some (.slice a4 l5.length k4) := (za K1.out 4).trans rfl
     have c5 : w6.cell? ⟨g1, 5, none⟩ = some (.bool false) := (za K1.out 5).trans rfl
     cases hr1 : rowB z2 z1
     ·have HR1 := am_ hr1
      clear hr1 hn4
      go_wp2_with (first
  | ((with_reducible refine zr (t := 145) (p := 2) rfl ?_); refine zn rfl 145 rfl rfl g2 #[.int .i64 0, .slice none 0 0, .slice none 0 0, .slice none 0 0, .slice none 0 0] rfl rfl 145 _ K2.out (zaO.trans rfl) rfl (by simp [Value.oneCell']) ?_; intro wf hw_ hg_; replace HB := am_ (HB.out.grown hg_ HB.out.size (fun k_ hk_ => by cases hk_; exact L2.out)); replace K2 := am_ hw_; clear hw_ hg_)
  | fail)
      refine bodyPost_ret (zaj rfl _ _ g2 145 #[.int .i64 0, .slice none 0 0, .slice none 0 0, .slice none 0 0, .slice none 0 0] (0, 0) _ rfl K2.out Try.underlying145 rfl (by kernel_rfl)) rfl ?_
      have hbv_ : b = false := by rw [← HBV.out, zU (fun h_ => by rw [HZ.out] at h_; have h5_ := h_.2.2.1; rw [HR1.out] at h5_; cases h5_)]
      exact ⟨⟨0, none, 0, 0, none, 0, 0, none, 0, 0, none, 0, 0⟩, by rw [hbv_]; first | done | rfl, (fun h_ => by rw [hbv_] at h_; cases h_), HB.out⟩
     ·have HR1 := am_ hr1
      clear hr1
      cases hr2 : rowB z5 z1
      ·have HR2 := am_ hr2
       clear hr2 hn4
       go_wp2_with (first
  | ((with_reducible refine zr (t := 145) (p := 2) rfl ?_); refine zn rfl 145 rfl rfl g2 #[.int .i64 0, .slice none 0 0, .slice none 0 0, .slice none 0 0, .slice none 0 0] rfl rfl 145 _ K2.out (zaO.trans rfl) rfl (by simp [Value.oneCell']) ?_; intro wf hw_ hg_; replace HB := am_ (HB.out.grown hg_ HB.out.size (fun k_ hk_ => by cases hk_; exact L2.out)); replace K2 := am_ hw_; clear hw_ hg_)
  | fail)
       refine bodyPost_ret (zaj rfl _ _ g2 145 #[.int .i64 0, .slice none 0 0, .slice none 0 0, .slice none 0 0, .slice none 0 0] (0, 0) _ rfl K2.out Try.underlying145 rfl (by kernel_rfl)) rfl ?_
       have hbv_ : b = false := by rw [← HBV.out, zU (fun h_ => by rw [HZ.out] at h_; have h5_ := h_.2.2.2.1; rw [HR2.out] at h5_; cases h5_)]
       exact ⟨⟨0, none, 0, 0, none, 0, 0, none, 0, 0, none, 0, 0⟩, by rw [hbv_]; first | done | rfl, (fun h_ => by rw [hbv_] at h_; cases h_), HB.out⟩
      ·have HR2 := am_ hr2
       have NS4 := am_ (hn4 hr2)
       have RI2 := am_ (rowB_iff hr2)
       clear hr2 hn4
       have e0 : w6.cell? ⟨g4, 1, none⟩ = some (.slice none 0 0) := (za K4.out 1).trans rfl
       have f0 := zd K4.out 1
       have e4 : w6.cell? ⟨g4, 4, none⟩ = some (.slice none 0 0) := (za K4.out 4).trans rfl
       have f4 := zd K4.out 4
       go_wp2_with fail
       have hs_ := World.grownBy.trans (NW.zV w6 g4 1 (.slice B1 xs1.length d1)) (NW.zV _ g4 4 (.slice B4 xs4.length d4))
       have K4_ := am_ (show ((w6.setCell ⟨g4, 1, none⟩ (.slice B1 xs1.length d1)).setCell ⟨g4, 4, none⟩ (.slice B4 xs4.length d4)).heap[g4]? = some (.cells #[.int .i64 z1, .slice B1 xs1.length d1, .slice none 0 0, .slice none 0 0, .slice B4 xs4.length d4] 145 (0, 0)) from zaD (zaD K4.out 1 _) 4 _)
       replace RS4 := am_ (Kd.zQ (r_put RS4.out K4.out (by decide) hs_)).2.2
       replace HB := am_ (HB.out.grown hs_ HB.out.size (fun k_ hk_ => by cases hk_; exact L4.out))
       replace K1 := am_ (zx hs_ K1.out (fun e => N4_.out.1 (Option.some.inj e)))
       replace K2 := am_ (zx hs_ K2.out (fun e => N4_.out.2 (Option.some.inj e)))
       replace K4 := K4_
       clear K4_ e0 f0 e4 f4 c0 c1 c2 c3 c4 c5 hs_
       generalize (w6.setCell ⟨g4, 1, none⟩ (.slice B1 xs1.length d1)).setCell ⟨g4, 4, none⟩ (.slice B4 xs4.length d4) = w7 at HB K1 K2 K4 RS4 ⊢
       go_loopg [9] z5.length (fun m v9 wr => ∃ (i : Nat), v9 = .int .i64 (i : Int) ∧ Aside0 (i + m = z5.length) ∧ Aside0 ((z5.take i).all (fun u => !ltz u) = true) ∧ Aside0 (Below w7.heap.size w7 wr))
       case atStart => exact ⟨0, rfl, ⟨by omega⟩, ⟨rfl⟩, ⟨Below.refl _ _⟩⟩
       case round =>
        obtain ⟨i, rfl, hm, HT, HL⟩ := hrel
        replace HB := am_ (zb HB.out HL.out)
        replace K1 := am_ (zh K1.out HL.out)
        replace K2 := am_ (zh K2.out HL.out)
        replace K4 := am_ (zh K4.out HL.out)
        replace RS4 := am_ (Kd.zB RS4.out HL.out)
        have c0 : wr.cell? ⟨g1, 0, none⟩ = some (.int .i64 z1) := (za K1.out 0).trans rfl
        have c1 : wr.cell? ⟨g1, 1, none⟩ = some (.slice a1 l2.length k1) := (za K1.out 1).trans rfl
        have c2 : wr.cell? ⟨g1, 2, none⟩ = some (.slice a2 z3.length k2) := (za K1.out 2).trans rfl
        have c3 : wr.cell? ⟨g1, 3, none⟩ = some (.slice a3 l4.length k3) := (za K1.out 3).trans rfl
        have c4 : wr.cell? ⟨g1, 4, none⟩ = some (.slice a4 l5.length k4) := (za K1.out 4).trans rfl
        have c5 : wr.cell? ⟨g1, 5, none⟩ = some (.bool false) := (za K1.out 5).trans rfl
        by_cases hx : i < z5.length
        ·have HX := am_ hx
         have p2 := eq_true (show (i : Int) < z1 by have := RI2.out.2; omega)
         have p4 := decide_eq_true (show (i : Int) < z1 by have := RI2.out.2; omega)
         have p3 := eq_true (show (0 : Int) ≤ (i : Int) by omega)
         have p5 := eq_true (show i < xs4.length by have := NS4.out.1; omega)
         have p6 := eq_true (show (i : Int) < (xs4.length : Int) by have := NS4.out.1; omega)
         obtain ⟨ad, A1, cc1, ead, x0, x1, x2, ox, rx⟩ := at_num RS4.out NS4.out i hx
         cases ead
         obtain ⟨sg, hsg, hls⟩ := sign_num (wf_rdn W5.out i) (RI2.out.1 i hx) ox
         have RX := am_ (rx 2 (Nat.le_refl 2))
         have SGN := am_ hsg
         have HQ := am_ (fun h => all_step (f := fun u => !ltz u) HT.out hx h)
         have HFN := am_ (fun h => all_not (f := fun u => !ltz u) hx h)
         clear hx ox rx hsg
         generalize zas xs4 (i : Int) = x at *
         generalize ltz (rdn z5 i) = bz at *
         go_wp2_with fail
         refine (zaH.calls x.f0 A1 cc1 x.f1 x.f2 sg wr RX.out.row RX.out.cap SGN.out).mono ?_
         rintro e_ w8 ⟨rfl, hb_⟩
         cases bz
         ·have h8 := of_decide_eq_false hls
          have h9 := eq_false h8
          have HZ1 := am_ (HQ.out rfl)
          replace HL := am_ (zb HL.out hb_)
          clear h8 hb_
          go_wp2_with fail
          go_roundg (gk - 1)
          case measure => have := hm.out; have := HX.out; omega
          case rel => exact ⟨i + 1, by first | rfl | (rw [w64 _ (by omega) (by have := HX.out; have := S5.out; omega)]; rfl), ⟨by have := hm.out; have := HX.out; omega⟩, HZ1, HL⟩
         ·have h8 := of_decide_eq_true hls
          have h9 := eq_true h8
          have HZ1 := am_ (HFN.out rfl)
          have HB8 := am_ hb_
          replace HB := am_ (zb HB.out HB8.out)
          replace K2 := am_ (zh K2.out HB8.out)
          clear h8 hb_
          go_wp2_with (first
  | ((with_reducible refine zr (t := 145) (p := 2) rfl ?_); refine zn rfl 145 rfl rfl g2 #[.int .i64 0, .slice none 0 0, .slice none 0 0, .slice none 0 0, .slice none 0 0] rfl rfl 145 _ K2.out (zaO.trans rfl) rfl (by simp [Value.oneCell']) ?_; intro wf hw_ hg_; replace HB := am_ (HB.out.grown hg_ HB.out.size (fun k_ hk_ => by cases hk_; exact L2.out)); replace K2 := am_ hw_; clear hw_ hg_)
  | fail)
          refine bodyPost_ret (zaj rfl _ _ g2 145 #[.int .i64 0, .slice none 0 0, .slice none 0 0, .slice none 0 0, .slice none 0 0] (0, 0) _ rfl K2.out Try.underlying145 rfl (by kernel_rfl)) rfl ?_
          have hbv_ : b = false := by rw [← HBV.out, zU (fun h_ => by rw [HZ.out] at h_; have h5_ := h_.2.2.2.2.2.1; rw [HZ1.out] at h5_; cases h5_)]
          exact ⟨⟨0, none, 0, 0, none, 0, 0, none, 0, 0, none, 0, 0⟩, by rw [hbv_]; first | done | rfl, (fun h_ => by rw [hbv_] at h_; cases h_), HB.out⟩
        ·have p2 := eq_false (show ¬ (i : Int) < z1 by have := RI2.out.2; omega)
         have p4 := decide_eq_false (show ¬ (i : Int) < z1 by have := RI2.out.2; omega)
         have N6 := am_ (show z5.all (fun u => !ltz u) = true by have h := HT.out; rwa [List.take_of_length_le (show z5.length ≤ i by omega)] at h)
         clear hx hm HT
         go_wp2_with fail
         clear c0 c1 c2 c3 c4 c5
         clear HL RS4 NS4
         go_loopg [10] z3.length (fun m v10 wr => ∃ (k : Nat) (Bi : Option Addr) (di : Nat) (Bg : Option Addr) (dg : Nat) (xss : List (List S101)), v10 = .int .i64 (k : Int) ∧ Aside0 (k + m = z3.length) ∧ Aside0 (∀ j, j < k → IdOk ⟨z1, z2, z3, z4, z5, false⟩ j) ∧ Aside0 (wr.heap[g4]? = some (.cells #[.int .i64 z1, .slice B1 xs1.length d1, .slice Bi k di, .slice Bg k dg, .slice B4 xs4.length d4] 145 (0, 0))) ∧ Aside0 (Kd.R (Kd.int .i64) 3 wr w.heap.size (fun _ => True) (.slice Bi k di) (z3.take k)) ∧ Aside0 (Kd.R kN 140 wr w.heap.size (fun _ => True) (.slice Bg k dg) xss) ∧ Aside0 (Cols z4 k xss) ∧ Aside0 (wr.heap[g1]? = some (.cells #[.int .i64 z1, .slice a1 l2.length k1, .slice a2 z3.length k2, .slice a3 l4.length k3, .slice a4 l5.length k4, .bool false] 74 (0, 0))) ∧ Aside0 (wr.heap[g2]? = some (.cells #[.int .i64 0, .slice none 0 0, .slice none 0 0, .slice none 0 0, .slice none 0 0] 145 (0, 0))) ∧ Aside0 (Below w.heap.size w wr))
         case atStart => exact ⟨0, none, 0, none, 0, [], rfl, ⟨by omega⟩, ⟨fun j hj => by omega⟩, K4, ⟨Kd.zaY _ _ _ _ _⟩, ⟨Kd.zaY _ _ _ _ _⟩, ⟨⟨rfl, fun i hi => by omega⟩⟩, K1, K2, HB⟩
         case round =>
          clear K4 K1 K2 HB
          obtain ⟨k, Bi, di, Bg, dg, xss, rfl, hm, HA2, K4, R_i, R_g, CO, K1, K2, HB⟩ := hrel
          by_cases hx : k < z3.length
          ·have HK := am_ hx
           have p2 := eq_true (show (k : Int) < (z3.length : Int) by omega)
           have p4 := decide_eq_true (show (k : Int) < (z3.length : Int) by omega)
           have p3 := eq_true hx
           have p5 := eq_true (show (0 : Int) ≤ (k : Int) by omega)
           have p6 := eq_true (show k < l4.length by have := NLL.out; omega)
           have p7 := eq_true (show (k : Int) < (l4.length : Int) by have := NLL.out; omega)
           obtain ⟨ai, eai, hci0⟩ := Kd.z8 (Q2.out.step HB.out).row (k : Int) (by omega) (by omega)
           cases eai
           rw [Int.toNat_natCast] at hci0
           obtain ⟨ag, Ak, ck, eag, hcg0, hlk, hrk⟩ := at_L6 (Kd.zB Q3.out HB.out) (k : Int) (by omega) (by have := NLL.out; omega)
           cases eag
           rw [Int.toNat_natCast] at hcg0
           have HUS := am_ (show rd_L6 l4 (k : Int) = ku (rdl z4 k) by rw [HL4.out]; unfold rd_L6 rdl; rw [Int.toNat_natCast, List.getD_eq_getElem?_getD, List.getD_eq_getElem?_getD, List.getElem?_map]; cases z4[k]? <;> rfl)
           rw [HUS.out] at hcg0 hlk hrk
           have HGK := am_ (And.intro hrk hlk)
           have HGW := am_ (wf_rdl W4.out k)
           have HGL := am_ (SG.out _ (List.mem_of_getElem? (rdl_get (show k < z4.length by have := NL.out; omega))))
           have HID := am_ (show IdOk ⟨z1, z2, z3, z4, z5, false⟩ k ↔ (0 ≤ rd z3 (k : Int) ∧ rd z3 (k : Int) ≤ 1073741824) ∧ (0 < k → rd z3 ((k - 1 : Nat) : Int) < rd z3 (k : Int)) ∧ rowB (rdl z4 k) z1 = true from Iff.rfl)
           have HB0 := am_ (show Good ⟨z1, z2, z3, z4, z5, false⟩ → IdOk ⟨z1, z2, z3, z4, z5, false⟩ k from fun h => h.2.2.2.2.2.2 k HK.out)
           have HQ := am_ (show IdOk ⟨z1, z2, z3, z4, z5, false⟩ k → ∀ j, j < k + 1 → IdOk ⟨z1, z2, z3, z4, z5, false⟩ j from fun h j hj => by
            by_cases e : j = k
            ·subst e; exact h
            ·exact HA2.out j (by omega))
           have TK := am_ (show z3.take (k + 1) = z3.take k ++ [rd z3 (k : Int)] by rw [take_one z3 k (rd z3 (k : Int)) (by rw [List.getElem?_eq_getElem HK.out, rd_nat z3 k HK.out])])
           have LK := am_ (show (z3.take k).length = k by rw [List.length_take]; have := HK.out; omega)
           have CS := am_ (fun x hx => CO.out.snoc (x := x) hx)
           have LXS := am_ CO.out.1
           clear CO HA2 hlk hrk hx
           have HS := am_ (show ∀ w' : World, Below wr.heap.size wr w' → w'.cell? ⟨g1, 0, none⟩ = some (.int .i64 z1) ∧ w'.cell? ⟨g1, 2, none⟩ = some (.slice (some ai) z3.length k2) ∧ w'.cell? ⟨g1, 3, none⟩ = some (.slice (some ag) l4.length k3) ∧ w'.cell? (ai.add k) = some (.int .i64 (rd z3 (k : Int))) ∧ w'.cell? (ag.add k) = some (.slice Ak (ku (rdl z4 k)).length ck) from fun W hW => ⟨(za (zh K1.out hW) 0).trans rfl, (za (zh K1.out hW) 2).trans rfl, (za (zh K1.out hW) 3).trans rfl, zu hW hci0, zu hW hcg0⟩)
           clear hci0 hcg0
           by_cases hk0 : k = 0
           ·have HK0 := am_ hk0
            have p8 := eq_false (show ¬ (0 : Int) < (k : Int) by omega)
            have p9 := decide_eq_false (show ¬ (0 : Int) < (k : Int) by omega)
            have p8n := eq_false (show ¬ 0 < k by omega)
            have p9n := decide_eq_false (show ¬ 0 < k by omega)
            clear hk0
            generalize rd z3 (k : Int) = idk at *
            generalize rdl z4 k = us at *
            by_cases i1 : idk < 0
            ·have x1 := eq_true i1
             have x2 := decide_eq_true i1
             have HBAD := am_ (show ¬ ((0 ≤ idk ∧ idk ≤ 1073741824) ∧ (0 < k → rd z3 ((k - 1 : Nat) : Int) < idk) ∧ rowB us z1 = true) from fun h_ => by have := h_.1.1; omega)
             clear i1
             have cc0 := (HS.out _ (Below.refl wr.heap.size wr)).1
             have cc2 := (HS.out _ (Below.refl wr.heap.size wr)).2.1
             have cc3 := (HS.out _ (Below.refl wr.heap.size wr)).2.2.1
             have cci := (HS.out _ (Below.refl wr.heap.size wr)).2.2.2.1
             have ccg := (HS.out _ (Below.refl wr.heap.size wr)).2.2.2.2
             go_wp2_with fail
             have W3 := am_ (zR (Below.refl wr.heap.size wr))
             have hb_ := W3.out
             replace HB := am_ (zb HB.out hb_)
             replace K1 := am_ (zh K1.out hb_)
             replace K2 := am_ (zh K2.out hb_)
             replace K4 := am_ (zh K4.out hb_)
             replace R_i := am_ (Kd.zI R_i.out hb_)
             replace R_g := am_ (Kd.zI R_g.out hb_)
             clear hb_ cc0 cc2 cc3 cci ccg
             refine zay (n := 32) (S := fun w' => w'.cell? ⟨g1, 0, none⟩ = some (.int .i64 z1) ∧ w'.cell? ⟨g1, 2, none⟩ = some (.slice (some ai) z3.length k2) ∧ w'.cell? ⟨g1, 3, none⟩ = some (.slice (some ag) l4.length k3) ∧ w'.cell? (ai.add k) = some (.int .i64 (idk)) ∧ w'.cell? (ag.add k) = some (.slice Ak (ku (us)).length ck)) (ds := []) (bl_ 32 0) (by kernel_rfl) rfl rfl ⟨(HS.out _ W3.out).1, (HS.out _ W3.out).2.1, (HS.out _ W3.out).2.2.1, (HS.out _ W3.out).2.2.2.1, (HS.out _ W3.out).2.2.2.2⟩ (fun hHeld => ?_); refine zT zaL.tab18 zaL.bits18 (fun HT_ HW_ => ?_)
             generalize wr.drew = v0 at W3 HB K1 K2 K4 R_i R_g hHeld ⊢
             refine pu_ HT_ 0 85 (bl_ 32 1) ?_
             refine pu_ HT_ 2 87 (bl_ 32 5) ?_
             refine tk_ HT_ HW_ hHeld 1 86 (bl_ 32 7) ?_
             refine pu_ HT_ 3 88 (bl_ 32 15) ?_
             refine tk_ HT_ HW_ hHeld 4 89 (bl_ 32 31) ?_
             refine pu_ HT_ 5 90 (bl_ 32 63) ?_
             refine pu_ HT_ 6 91 (bl_ 32 127) ?_
             refine ps_ HT_ 7 92 (bl_ 32 255) ?_
             refine ps_ HT_ 8 93 (bl_ 32 511) ?_
             refine ps_ HT_ 9 94 (bl_ 32 1023) ?_
             refine ps_ HT_ 10 95 (bl_ 32 2047) ?_
             refine ps_ HT_ 11 96 (bl_ 32 4095) ?_
             refine ps_ HT_ 12 97 (bl_ 32 8191) ?_
             refine pu_ HT_ 13 98 (bl_ 32 16383) ?_
             refine pu_ HT_ 14 99 (bl_ 32 32767) ?_
             refine ps_ HT_ 15 100 (bl_ 32 65535) ?_
             refine ps_ HT_ 16 101 (bl_ 32 131071) ?_
             refine ps_ HT_ 17 102 (bl_ 32 262143) ?_
             refine ps_ HT_ 18 103 (bl_ 32 524287) ?_
             refine ps_ HT_ 19 104 (bl_ 32 1048575) ?_
             refine ps_ HT_ 20 105 (bl_ 32 2097151) ?_
             refine ps_ HT_ 21 106 (bl_ 32 4194303) ?_
             refine ps_ HT_ 22 107 (bl_ 32 8388607) ?_
             refine ps_ HT_ 23 108 (bl_ 32 16777215) ?_
             refine ps_ HT_ 24 109 (bl_ 32 33554431) ?_
             refine ps_ HT_ 25 110 (bl_ 32 67108863) ?_
             refine ps_ HT_ 26 111 (bl_ 32 134217727) ?_
             refine ps_ HT_ 27 112 (bl_ 32 268435455) ?_
             refine ps_ HT_ 28 113 (bl_ 32 536870911) ?_
             refine ps_ HT_ 29 114 (bl_ 32 1073741823) ?_
             refine ps_ HT_ 30 115 (bl_ 32 2147483647) ?_
             refine pu_ HT_ 31 116 (bl_ 32 4294967295) ?_
             refine zaP (zao HT_.out (by kernel_rfl)) ?_
             clear hHeld
             go_wp2_with (first
  | ((with_reducible refine zr (t := 145) (p := 2) rfl ?_); refine zn rfl 145 rfl rfl g2 #[.int .i64 0, .slice none 0 0, .slice none 0 0, .slice none 0 0, .slice none 0 0] rfl rfl 145 _ K2.out (zaO.trans rfl) rfl (by simp [Value.oneCell']) ?_; intro wf hw_ hg_; replace HB := am_ (HB.out.grown hg_ HB.out.size (fun k_ hk_ => by cases hk_; exact L2.out)); replace K2 := am_ hw_; clear hw_ hg_)
  | fail)
             refine bodyPost_ret (zaj rfl _ _ g2 145 #[.int .i64 0, .slice none 0 0, .slice none 0 0, .slice none 0 0, .slice none 0 0] (0, 0) _ rfl K2.out Try.underlying145 rfl (by kernel_rfl)) rfl ?_
             have hbv_ : b = false := by rw [← HBV.out, zU (fun h_ => by rw [HZ.out] at h_; exact HBAD.out (HID.out.1 (HB0.out h_)))]
             exact ⟨⟨0, none, 0, 0, none, 0, 0, none, 0, 0, none, 0, 0⟩, by rw [hbv_]; first | done | rfl, (fun h_ => by rw [hbv_] at h_; cases h_), HB.out⟩
            ·have x1 := eq_false i1
             have x2 := decide_eq_false i1
             by_cases i2 : 1073741824 < idk
             ·have x3 := eq_true i2
              have x4 := decide_eq_true i2
              have HBAD := am_ (show ¬ ((0 ≤ idk ∧ idk ≤ 1073741824) ∧ (0 < k → rd z3 ((k - 1 : Nat) : Int) < idk) ∧ rowB us z1 = true) from fun h_ => by have := h_.1.2; omega)
              clear i1 i2
              have cc0 := (HS.out _ (Below.refl wr.heap.size wr)).1
              have cc2 := (HS.out _ (Below.refl wr.heap.size wr)).2.1
              have cc3 := (HS.out _ (Below.refl wr.heap.size wr)).2.2.1
              have cci := (HS.out _ (Below.refl wr.heap.size wr)).2.2.2.1
              have ccg := (HS.out _ (Below.refl wr.heap.size wr)).2.2.2.2
              go_wp2_with fail
              have W3 := am_ (zR (Below.refl wr.heap.size wr))
              have hb_ := W3.out
              replace HB := am_ (zb HB.out hb_)
              replace K1 := am_ (zh K1.out hb_)
              replace K2 := am_ (zh K2.out hb_)
              replace K4 := am_ (zh K4.out hb_)
              replace R_i := am_ (Kd.zI R_i.out hb_)
              replace R_g := am_ (Kd.zI R_g.out hb_)
              clear hb_ cc0 cc2 cc3 cci ccg
              refine zay (n := 32) (S := fun w' => w'.cell? ⟨g1, 0, none⟩ = some (.int .i64 z1) ∧ w'.cell? ⟨g1, 2, none⟩ = some (.slice (some ai) z3.length k2) ∧ w'.cell? ⟨g1, 3, none⟩ = some (.slice (some ag) l4.length k3) ∧ w'.cell? (ai.add k) = some (.int .i64 (idk)) ∧ w'.cell? (ag.add k) = some (.slice Ak (ku (us)).length ck)) (ds := []) (bl_ 32 0) (by kernel_rfl) rfl rfl ⟨(HS.out _ W3.out).1, (HS.out _ W3.out).2.1, (HS.out _ W3.out).2.2.1, (HS.out _ W3.out).2.2.2.1, (HS.out _ W3.out).2.2.2.2⟩ (fun hHeld => ?_); refine zT zaL.tab18 zaL.bits18 (fun HT_ HW_ => ?_)
              generalize wr.drew = v0 at W3 HB K1 K2 K4 R_i R_g hHeld ⊢
              refine pu_ HT_ 0 85 (bl_ 32 1) ?_
              refine pu_ HT_ 2 87 (bl_ 32 5) ?_
              refine tk_ HT_ HW_ hHeld 1 86 (bl_ 32 7) ?_
              refine pu_ HT_ 3 88 (bl_ 32 15) ?_
              refine tk_ HT_ HW_ hHeld 4 89 (bl_ 32 31) ?_
              refine pu_ HT_ 5 90 (bl_ 32 63) ?_
              refine pu_ HT_ 6 91 (bl_ 32 127) ?_
              refine pu_ HT_ 7 92 (bl_ 32 255) ?_
              refine pu_ HT_ 9 94 (bl_ 32 767) ?_
              refine tk_ HT_ HW_ hHeld 8 93 (bl_ 32 1023) ?_
              refine pu_ HT_ 10 95 (bl_ 32 2047) ?_
              refine tk_ HT_ HW_ hHeld 11 96 (bl_ 32 4095) ?_
              refine pu_ HT_ 12 97 (bl_ 32 8191) ?_
              refine pu_ HT_ 13 98 (bl_ 32 16383) ?_
              refine pu_ HT_ 14 99 (bl_ 32 32767) ?_
              refine ps_ HT_ 15 100 (bl_ 32 65535) ?_
              refine ps_ HT_ 16 101 (bl_ 32 131071) ?_
              refine ps_ HT_ 17 102 (bl_ 32 262143) ?_
              refine ps_ HT_ 18 103 (bl_ 32 524287) ?_
              refine ps_ HT_ 19 104 (bl_ 32 1048575) ?_
              refine ps_ HT_ 20 105 (bl_ 32 2097151) ?_
              refine ps_ HT_ 21 106 (bl_ 32 4194303) ?_
              refine ps_ HT_ 22 107 (bl_ 32 8388607) ?_
              refine ps_ HT_ 23 108 (bl_ 32 16777215) ?_
              refine ps_ HT_ 24 109 (bl_ 32 33554431) ?_
              refine ps_ HT_ 25 110 (bl_ 32 67108863) ?_
              refine ps_ HT_ 26 111 (bl_ 32 134217727) ?_
              refine ps_ HT_ 27 112 (bl_ 32 268435455) ?_
              refine ps_ HT_ 28 113 (bl_ 32 536870911) ?_
              refine ps_ HT_ 29 114 (bl_ 32 1073741823) ?_
              refine ps_ HT_ 30 115 (bl_ 32 2147483647) ?_
              refine pu_ HT_ 31 116 (bl_ 32 4294967295) ?_
              refine zaP (zao HT_.out (by kernel_rfl)) ?_
              clear hHeld
              go_wp2_with (first
  | ((with_reducible refine zr (t := 145) (p := 2) rfl ?_); refine zn rfl 145 rfl rfl g2 #[.int .i64 0, .slice none 0 0, .slice none 0 0, .slice none 0 0, .slice none 0 0] rfl rfl 145 _ K2.out (zaO.trans rfl) rfl (by simp [Value.oneCell']) ?_; intro wf hw_ hg_; replace HB := am_ (HB.out.grown hg_ HB.out.size (fun k_ hk_ => by cases hk_; exact L2.out)); replace K2 := am_ hw_; clear hw_ hg_)
  | fail)
              refine bodyPost_ret (zaj rfl _ _ g2 145 #[.int .i64 0, .slice none 0 0, .slice none 0 0, .slice none 0 0, .slice none 0 0] (0, 0) _ rfl K2.out Try.underlying145 rfl (by kernel_rfl)) rfl ?_
              have hbv_ : b = false := by rw [← HBV.out, zU (fun h_ => by rw [HZ.out] at h_; exact HBAD.out (HID.out.1 (HB0.out h_)))]
              exact ⟨⟨0, none, 0, 0, none, 0, 0, none, 0, 0, none, 0, 0⟩, by rw [hbv_]; first | done | rfl, (fun h_ => by rw [hbv_] at h_; cases h_), HB.out⟩
             ·have x3 := eq_false i2
              have x4 := decide_eq_false i2
              have I0 := am_ (show 0 ≤ idk ∧ idk ≤ 1073741824 by omega)
              clear i1 i2
              have I1 := am_ (show 0 < k → rd z3 ((k - 1 : Nat) : Int) < idk from fun h_ => absurd HK0.out (by omega))
              have cc0 := (HS.out _ (Below.refl wr.heap.size wr)).1
              have cc2 := (HS.out _ (Below.refl wr.heap.size wr)).2.1
              have cc3 := (HS.out _ (Below.refl wr.heap.size wr)).2.2.1
              have cci := (HS.out _ (Below.refl wr.heap.size wr)).2.2.2.1
              have ccg := (HS.out _ (Below.refl wr.heap.size wr)).2.2.2.2
              go_wp2_with fail
              have W3 := am_ (zR (Below.refl wr.heap.size wr))
              have hb_ := W3.out
              replace HB := am_ (zb HB.out hb_)
              replace K1 := am_ (zh K1.out hb_)
              replace K2 := am_ (zh K2.out hb_)
              replace K4 := am_ (zh K4.out hb_)
              replace R_i := am_ (Kd.zI R_i.out hb_)
              replace R_g := am_ (Kd.zI R_g.out hb_)
              clear hb_ cc0 cc2 cc3 cci ccg
              refine zay (n := 32) (S := fun w' => w'.cell? ⟨g1, 0, none⟩ = some (.int .i64 z1) ∧ w'.cell? ⟨g1, 2, none⟩ = some (.slice (some ai) z3.length k2) ∧ w'.cell? ⟨g1, 3, none⟩ = some (.slice (some ag) l4.length k3) ∧ w'.cell? (ai.add k) = some (.int .i64 (idk)) ∧ w'.cell? (ag.add k) = some (.slice Ak (ku (us)).length ck)) (ds := []) (bl_ 32 0) (by kernel_rfl) rfl rfl ⟨(HS.out _ W3.out).1, (HS.out _ W3.out).2.1, (HS.out _ W3.out).2.2.1, (HS.out _ W3.out).2.2.2.1, (HS.out _ W3.out).2.2.2.2⟩ (fun hHeld => ?_); refine zT zaL.tab18 zaL.bits18 (fun HT_ HW_ => ?_)
              generalize wr.drew = v0 at W3 HB K1 K2 K4 R_i R_g hHeld ⊢
              refine pu_ HT_ 0 85 (bl_ 32 1) ?_
              refine pu_ HT_ 2 87 (bl_ 32 5) ?_
              refine tk_ HT_ HW_ hHeld 1 86 (bl_ 32 7) ?_
              refine pu_ HT_ 3 88 (bl_ 32 15) ?_
              refine tk_ HT_ HW_ hHeld 4 89 (bl_ 32 31) ?_
              refine pu_ HT_ 5 90 (bl_ 32 63) ?_
              refine pu_ HT_ 6 91 (bl_ 32 127) ?_
              refine pu_ HT_ 7 92 (bl_ 32 255) ?_
              refine pu_ HT_ 9 94 (bl_ 32 767) ?_
              refine tk_ HT_ HW_ hHeld 8 93 (bl_ 32 1023) ?_
              refine pu_ HT_ 10 95 (bl_ 32 2047) ?_
              refine tk_ HT_ HW_ hHeld 11 96 (bl_ 32 4095) ?_
              refine pu_ HT_ 12 97 (bl_ 32 8191) ?_
              refine pu_ HT_ 13 98 (bl_ 32 16383) ?_
              refine pu_ HT_ 14 99 (bl_ 32 32767) ?_
              refine pu_ HT_ 15 100 (bl_ 32 65535) ?_
              refine pu_ HT_ 16 101 (bl_ 32 131071) ?_
              refine pu_ HT_ 17 102 (bl_ 32 262143) ?_
              refine ps_ HT_ 18 103 (bl_ 32 524287) ?_
              refine ps_ HT_ 19 104 (bl_ 32 1048575) ?_
              refine ps_ HT_ 20 105 (bl_ 32 2097151) ?_
              refine ps_ HT_ 21 106 (bl_ 32 4194303) ?_
              refine ps_ HT_ 22 107 (bl_ 32 8388607) ?_
              refine ps_ HT_ 23 108 (bl_ 32 16777215) ?_
              refine ps_ HT_ 24 109 (bl_ 32 33554431) ?_
              refine ps_ HT_ 25 110 (bl_ 32 67108863) ?_
              refine ps_ HT_ 26 111 (bl_ 32 134217727) ?_
              refine ps_ HT_ 27 112 (bl_ 32 268435455) ?_
              refine ps_ HT_ 28 113 (bl_ 32 536870911) ?_
              refine ps_ HT_ 29 114 (bl_ 32 1073741823) ?_
              refine pu_ HT_ 30 115 (bl_ 32 2147483647) ?_
              refine pu_ HT_ 31 116 (bl_ 32 4294967295) ?_
              refine zaP (zao HT_.out (by kernel_rfl)) ?_
              clear hHeld
              have cc0 := (HS.out _ W3.out).1
              have cc2 := (HS.out _ W3.out).2.1
              have cc3 := (HS.out _ W3.out).2.2.1
              have cci := (HS.out _ W3.out).2.2.2.1
              have ccg := (HS.out _ W3.out).2.2.2.2
              go_wp2_with fail
              clear cc0 cc2 cc3 cci ccg
              have hb_ : Below v0.heap.size v0 v0.drew := zR (Below.refl _ _)
              replace W3 := am_ (zb W3.out hb_)
              replace HB := am_ (zb HB.out hb_)
              replace K1 := am_ (zh K1.out hb_)
              replace K2 := am_ (zh K2.out hb_)
              replace K4 := am_ (zh K4.out hb_)
              replace R_i := am_ (Kd.zI R_i.out hb_)
              replace R_g := am_ (Kd.zI R_g.out hb_)
              clear hb_
              refine zay (n := 13) (S := fun w' => w'.cell? ⟨g1, 0, none⟩ = some (.int .i64 z1) ∧ w'.cell? ⟨g1, 2, none⟩ = some (.slice (some ai) z3.length k2) ∧ w'.cell? ⟨g1, 3, none⟩ = some (.slice (some ag) l4.length k3) ∧ w'.cell? (ai.add k) = some (.int .i64 (idk)) ∧ w'.cell? (ag.add k) = some (.slice Ak (ku (us)).length ck)) (ds := []) (bl_ 13 0) (by kernel_rfl) rfl rfl ⟨(HS.out _ W3.out).1, (HS.out _ W3.out).2.1, (HS.out _ W3.out).2.2.1, (HS.out _ W3.out).2.2.2.1, (HS.out _ W3.out).2.2.2.2⟩ (fun hHeld => ?_); refine zT zaL.tab20 zaL.bits20 (fun HT_ HW_ => ?_)
              generalize v0.drew = v1 at W3 HB K1 K2 K4 R_i R_g hHeld ⊢
              refine pu_ HT_ 0 119 (bl_ 13 1) ?_
              refine pu_ HT_ 2 121 (bl_ 13 5) ?_
              refine pu_ HT_ 5 124 (bl_ 13 37) ?_
              refine tk_ HT_ HW_ hHeld 1 120 (bl_ 13 39) ?_
              refine pu_ HT_ 3 122 (bl_ 13 47) ?_
              refine tk_ HT_ HW_ hHeld 4 123 (bl_ 13 63) ?_
              refine tk_ HT_ HW_ hHeld 6 125 (bl_ 13 127) ?_
              refine on_ HT_ 7 (some 126) (bl_ 13 255) fun K hK => ?_
              refine goes_ Try.func94 (by kernel_rfl) rfl #[.slice Ak (ku us).length ck, .int .i64 z1] (by rfl) rfl rfl (by (try simp only [List.map_toArray, List.map_cons, List.map_nil]); first | done | rfl) ?_
              refine (numbers_calls us z1 Ak ck v1 (Kd.zB HGK.out.1 W3.out) HGK.out.2 HGW.out HGL.out).mono ?_
              rintro e_ v2 ⟨Bx, dx, xs, rfl, hsx, hnx, hb_⟩
              refine ⟨_, rfl, ?_⟩
              have MX := am_ (show kN.M v2 w.heap.size (fun k_ => True ∧ some k_ ≠ (Value.slice Bg k dg).ownBlock) xs [.slice Bx xs.length dx] from ⟨_, rfl, Kd.zag (Kd.R_new (Kd.S_R hsx) (Kd.R_own R_g.out).choose_spec) HB.out.size⟩)
              have HNX := am_ hnx
              replace W3 := am_ (zb W3.out hb_)
              replace HB := am_ (zb HB.out hb_)
              replace K1 := am_ (zh K1.out hb_)
              replace K2 := am_ (zh K2.out hb_)
              replace K4 := am_ (zh K4.out hb_)
              replace R_i := am_ (Kd.zI R_i.out hb_)
              replace R_g := am_ (Kd.zI R_g.out hb_)
              clear hb_ hsx hnx
              refine hK.out _ _ ⟨(HS.out _ W3.out).1, (HS.out _ W3.out).2.1, (HS.out _ W3.out).2.2.1, (HS.out _ W3.out).2.2.2.1, (HS.out _ W3.out).2.2.2.2⟩ (fun hHeld => ?_); clear hK K
              refine nm_ ?_
              refine pu_ HT_ 8 118 (bl_ 13 511) ?_
              refine pu_ HT_ 9 127 (bl_ 13 1023) ?_
              refine pu_ HT_ 10 128 (bl_ 13 2047) ?_
              refine pu_ HT_ 11 11 (bl_ 13 4095) ?_
              refine pu_ HT_ 12 12 (bl_ 13 8191) ?_
              refine zaP (zao HT_.out (by kernel_rfl)) ?_
              clear hHeld
              cases hrb : rowB us z1
              ·have HBAD := am_ (show ¬ ((0 ≤ idk ∧ idk ≤ 1073741824) ∧ (0 < k → rd z3 ((k - 1 : Nat) : Int) < idk) ∧ rowB us z1 = true) from fun h_ => by rw [hrb] at h_; cases h_.2.2)
               clear hrb
               go_wp2_with (first
  | ((with_reducible refine zr (t := 145) (p := 2) rfl ?_); refine zn rfl 145 rfl rfl g2 #[.int .i64 0, .slice none 0 0, .slice none 0 0, .slice none 0 0, .slice none 0 0] rfl rfl 145 _ K2.out (zaO.trans rfl) rfl (by simp [Value.oneCell']) ?_; intro wf hw_ hg_; replace HB := am_ (HB.out.grown hg_ HB.out.size (fun k_ hk_ => by cases hk_; exact L2.out)); replace K2 := am_ hw_; clear hw_ hg_)
  | fail)
               refine bodyPost_ret (zaj rfl _ _ g2 145 #[.int .i64 0, .slice none 0 0, .slice none 0 0, .slice none 0 0, .slice none 0 0] (0, 0) _ rfl K2.out Try.underlying145 rfl (by kernel_rfl)) rfl ?_
               have hbv_ : b = false := by rw [← HBV.out, zU (fun h_ => by rw [HZ.out] at h_; exact HBAD.out (HID.out.1 (HB0.out h_)))]
               exact ⟨⟨0, none, 0, 0, none, 0, 0, none, 0, 0, none, 0, 0⟩, by rw [hbv_]; first | done | rfl, (fun h_ => by rw [hbv_] at h_; cases h_), HB.out⟩
              ·have HOK := am_ (And.intro I0.out (And.intro I1.out hrb))
               have CX := am_ (CS.out xs (HNX.out hrb))
               clear hrb
               go_wp2_with fail
               have hb_ : Below v2.heap.size v2 v2.drew := zR (Below.refl _ _)
               replace W3 := am_ (zb W3.out hb_)
               replace MX := am_ (Kd.M_below MX.out hb_)
               replace HB := am_ (zb HB.out hb_)
               replace K1 := am_ (zh K1.out hb_)
               replace K2 := am_ (zh K2.out hb_)
               replace K4 := am_ (zh K4.out hb_)
               replace R_i := am_ (Kd.zI R_i.out hb_)
               replace R_g := am_ (Kd.zI R_g.out hb_)
               clear hb_
               refine zay (n := 11) (S := fun w' => w'.cell? ⟨g1, 0, none⟩ = some (.int .i64 z1) ∧ w'.cell? ⟨g1, 2, none⟩ = some (.slice (some ai) z3.length k2) ∧ w'.cell? ⟨g1, 3, none⟩ = some (.slice (some ag) l4.length k3) ∧ w'.cell? (ai.add k) = some (.int .i64 (idk)) ∧ w'.cell? (ag.add k) = some (.slice Ak (ku (us)).length ck) ∧ w'.cell? ⟨g4, 2, none⟩ = some (.slice Bi k di)) (ds := [8, 10]) (bl_ 11 0) (by kernel_rfl) rfl rfl ⟨(HS.out _ W3.out).1, (HS.out _ W3.out).2.1, (HS.out _ W3.out).2.2.1, (HS.out _ W3.out).2.2.2.1, (HS.out _ W3.out).2.2.2.2, (za K4.out 2).trans rfl⟩ (fun hHeld => ?_); refine zT zaL.tab23 zaL.bits23 (fun HT_ HW_ => ?_)
               generalize v2.drew = v3 at W3 MX HB K1 K2 K4 R_i R_g hHeld ⊢
               refine pu_ HT_ 0 132 (bl_ 11 1) ?_
               refine pu_ HT_ 2 134 (bl_ 11 5) ?_
               refine pu_ HT_ 4 136 (bl_ 11 21) ?_
               refine tk_ HT_ HW_ hHeld 1 133 (bl_ 11 23) ?_
               refine tk_ HT_ HW_ hHeld 3 135 (bl_ 11 31) ?_
               refine pu_ HT_ 5 137 (bl_ 11 63) ?_
               refine tk_ HT_ HW_ hHeld 6 138 (bl_ 11 127) ?_
               refine on_ HT_ 7 (some 139) (bl_ 11 255) fun K hK => ?_
               refine value_ (w1 := v3.alloc (.cells #[.int .i64 idk] 3)) (v := .slice (some ⟨v3.heap.size, 0, none⟩) 1 1) (by rfl) rfl (by go_simp; first | done | rfl) ?_
               refine hK.out _ _ ⟨zu (zj (Below.refl v3.heap.size v3) _) ((HS.out _ W3.out).1), zu (zj (Below.refl v3.heap.size v3) _) ((HS.out _ W3.out).2.1), zu (zj (Below.refl v3.heap.size v3) _) ((HS.out _ W3.out).2.2.1), zu (zj (Below.refl v3.heap.size v3) _) ((HS.out _ W3.out).2.2.2.1), zu (zj (Below.refl v3.heap.size v3) _) ((HS.out _ W3.out).2.2.2.2), zu (zj (Below.refl v3.heap.size v3) _) ((za K4.out 2).trans rfl)⟩ (fun hHeld => ?_); clear hK K
               refine nm_ ?_
               refine last_ (i := 8) (N := some 140) (bl_ 11 511) rfl rfl (one_of HT_.out (by kernel_rfl)) (by decide) (fun K hK => ?_)
               refine Kd.R_append_step (Kd.int .i64) (W := v3) (w0 := w) w.heap.size (by rfl) _ _ 22 3 (.int .i64 0) 8 rfl Try.underlying22 info22c rfl (by decide) (by decide) (.slice Bi k di) (z3.take k) idk [.int .i64 idk] (fun _ => True) (fun k_ => True ∧ some k_ ≠ (Value.slice Bi k di).ownBlock) rfl rfl rfl (fun _ hk => hk) (fun _ _ => trivial) R_i.out HB.out HB.out.size (by rw [LK.out]; have := HK.out; have := S3.out; omega) ?_
               intro vv1 v4 hr3 hb3 hg3 _
               have ne1_ := Kd.R_ne R_i.out K1.out (by decide)
               have ne2_ := Kd.R_ne R_i.out K2.out (by decide)
               have ne4_ := Kd.R_ne R_i.out K4.out (by decide)
               have hty_ : ∀ k_, (Value.slice Bi k di).ownBlock = some k_ → ∃ cells, v3.heap[k_]? = some (.cells cells 3 (0, 0)) := Kd.R_typed R_i.out
               replace MX := am_ (show kN.M v4 w.heap.size (fun k_ => True ∧ some k_ ≠ (Value.slice Bg k dg).ownBlock) xs [.slice Bx xs.length dx] from MX.out.elim fun vx hvx => ⟨vx, hvx.1, Kd.R_over' hvx.2 hty_ (by decide) hg3⟩)
               replace R_g := am_ (Kd.R_over' R_g.out hty_ (by decide) hg3)
               replace K1 := am_ (zx hg3 K1.out ne1_)
               replace K2 := am_ (zx hg3 K2.out ne2_)
               replace K4 := am_ (zx hg3 K4.out ne4_)
               replace HB := am_ hb3
               have hl_ : (z3.take k ++ [idk]).length = k + 1 := by rw [List.length_append, LK.out]; rfl
               obtain ⟨Bi2, di2, rfl⟩ := Kd.zY hr3
               rw [hl_] at hr3 ⊢
               replace R_i := am_ hr3
               clear hr3 hb3 hg3 ne1_ ne2_ ne4_ hty_ hl_
               have c42 : v4.cell? ⟨g4, 2, none⟩ = some (.slice Bi k di) := (za K4.out 2).trans rfl
               have f42 := zd K4.out 2
               refine hK.out _ _ ?_; clear hK K
               refine nm_ ?_
               refine pu_ HT_ 9 141 (bl_ 11 1023) ?_
               refine last_ (i := 10) (N := none) (bl_ 11 2047) rfl rfl (one_of HT_.out (by kernel_rfl)) (by decide) (fun K hK => ?_)
               refine skip_ (w1 := ?_) (by rfl) rfl ?_ ?_; rotate_left; (focus (go_simp; first | done | rfl))
               refine hK.out _ _ ?_; clear hK K
               refine zaP (zao HT_.out (by kernel_rfl)) ?_
               clear hHeld c42 f42
               have hs_ := NW.zV v4 g4 2 (.slice Bi2 (k + 1) di2)
               have K4__ := am_ (show (v4.setCell ⟨g4, 2, none⟩ (.slice Bi2 (k + 1) di2)).heap[g4]? = some (.cells #[.int .i64 z1, .slice B1 xs1.length d1, .slice Bi2 (k + 1) di2, .slice Bg k dg, .slice B4 xs4.length d4] 145 (0, 0)) from zaD K4.out 2 _)
               replace R_i := am_ (r_put R_i.out K4.out (by decide) hs_)
               replace R_g := am_ (r_put R_g.out K4.out (by decide) hs_)
               replace MX := am_ (show kN.M (v4.setCell ⟨g4, 2, none⟩ (.slice Bi2 (k + 1) di2)) w.heap.size (fun k_ => True ∧ some k_ ≠ (Value.slice Bg k dg).ownBlock) xs [.slice Bx xs.length dx] from MX.out.elim fun vx hvx => ⟨vx, hvx.1, r_put hvx.2 K4.out (by decide) hs_⟩)
               replace HB := am_ (HB.out.grown hs_ HB.out.size (fun k_ hk_ => by cases hk_; exact L4.out))
               replace K1 := am_ (zx hs_ K1.out (fun e => N4_.out.1 (Option.some.inj e)))
               replace K2 := am_ (zx hs_ K2.out (fun e => N4_.out.2 (Option.some.inj e)))
               replace K4 := K4__
               clear K4__ hs_
               generalize v4.setCell ⟨g4, 2, none⟩ (.slice Bi2 (k + 1) di2) = v5 at HB K1 K2 K4 R_i R_g MX ⊢
               have c43 : v5.cell? ⟨g4, 3, none⟩ = some (.slice Bg k dg) := (za K4.out 3).trans rfl
               go_wp2_with (first
  | ((with_reducible refine zk (N := 146) rfl ?_); refine Kd.R_append kN (W := v5) (w0 := w) w.heap.size rfl _ _ 143 140 (.slice none 0 0) 24 rfl Try.underlying143 info140 rfl (by decide) (by decide) (.slice Bg k dg) xss xs [.slice Bx xs.length dx] (fun _ => True) _ rfl rfl MX.out (fun _ hk => hk) (fun _ _ => trivial) R_g.out HB.out HB.out.size (by rw [LXS.out]; have := HK.out; have := S3.out; omega) ?_; intro vv1 v6 hr3 hb3 hg3 _; have ne1_ := Kd.R_ne R_g.out K1.out (by decide); have ne2_ := Kd.R_ne R_g.out K2.out (by decide); have ne4_ := Kd.R_ne R_g.out K4.out (by decide); have hty_ : ∀ k_, (Value.slice Bg k dg).ownBlock = some k_ → ∃ cells, v5.heap[k_]? = some (.cells cells 140 (0, 0)) := Kd.R_typed R_g.out; replace R_i := am_ (Kd.R_over' R_i.out hty_ (by decide) hg3); replace K1 := am_ (zx hg3 K1.out ne1_); replace K2 := am_ (zx hg3 K2.out ne2_); replace K4 := am_ (zx hg3 K4.out ne4_); replace HB := am_ hb3; have hl_ : (xss ++ [xs]).length = k + 1 := (by rw [List.length_append, LXS.out]; rfl); obtain ⟨Bg2, dg2, rfl⟩ := Kd.zY hr3; rw [hl_] at hr3 ⊢; replace R_g := am_ hr3; clear hr3 hb3 hg3 ne1_ ne2_ ne4_ hty_ hl_ MX c43; have c43 : v6.cell? ⟨g4, 3, none⟩ = some (.slice Bg k dg) := (za K4.out 3).trans rfl; have f43 := zd K4.out 3)
  | fail)
               try clear c43
               try clear f43
               have hs_ := NW.zV v6 g4 3 (.slice Bg2 (k + 1) dg2)
               have K4__ := am_ (show (v6.setCell ⟨g4, 3, none⟩ (.slice Bg2 (k + 1) dg2)).heap[g4]? = some (.cells #[.int .i64 z1, .slice B1 xs1.length d1, .slice Bi2 (k + 1) di2, .slice Bg2 (k + 1) dg2, .slice B4 xs4.length d4] 145 (0, 0)) from zaD K4.out 3 _)
               replace R_i := am_ (r_put R_i.out K4.out (by decide) hs_)
               replace R_g := am_ (r_put R_g.out K4.out (by decide) hs_)
               replace HB := am_ (HB.out.grown hs_ HB.out.size (fun k_ hk_ => by cases hk_; exact L4.out))
               replace K1 := am_ (zx hs_ K1.out (fun e => N4_.out.1 (Option.some.inj e)))
               replace K2 := am_ (zx hs_ K2.out (fun e => N4_.out.2 (Option.some.inj e)))
               replace K4 := K4__
               clear K4__ hs_
               generalize v6.setCell ⟨g4, 3, none⟩ (.slice Bg2 (k + 1) dg2) = v7 at HB K1 K2 K4 R_i R_g ⊢
               go_roundg (gk - 1)
               case measure => have := hm.out; have := HK.out; omega
               case rel => exact ⟨k + 1, Bi2, di2, Bg2, dg2, xss ++ [xs], by first | rfl | (rw [w64 _ (by omega) (by have := HK.out; have := S3.out; omega)]; rfl), ⟨by have := hm.out; have := HK.out; omega⟩, ⟨HQ.out (HID.out.2 HOK.out)⟩, K4, ⟨by rw [TK.out]; exact R_i.out⟩, R_g, CX, K1, K2, HB⟩
           ·obtain ⟨p, hp⟩ : ∃ p : Nat, k = p + 1 := ⟨k - 1, by omega⟩
            have HP := am_ hp
            have p8 := eq_true (show (0 : Int) < (k : Int) by omega)
            have p9 := decide_eq_true (show (0 : Int) < (k : Int) by omega)
            have p8n := eq_true (show 0 < k by omega)
            have p9n := decide_eq_true (show 0 < k by omega)
            have pw : wrap64 ((k : Int) - 1) = (p : Int) := by rw [w64 _ (by omega) (by have := HK.out; have := S3.out; omega)]; omega
            have pp1 := eq_true (show p < z3.length by have := HK.out; omega)
            have pp2 := eq_true (show (p : Int) < (z3.length : Int) by have := HK.out; omega)
            have pp3 := eq_true (show (0 : Int) ≤ (p : Int) by omega)
            obtain ⟨ap, eap, hcp⟩ := Kd.z8 (Q2.out.step HB.out).row (p : Int) (by omega) (by have := HK.out; omega)
            cases eap
            rw [Int.toNat_natCast] at hcp
            have HPP := am_ (show ∀ w' : World, Below wr.heap.size wr w' → w'.cell? (ai.add p) = some (.int .i64 (rd z3 (p : Int))) from fun W hW => zu hW hcp)
            rw [show k - 1 = p by omega] at HID
            clear hcp hp hk0
            generalize rd z3 (p : Int) = idp at *
            generalize rd z3 (k : Int) = idk at *
            generalize rdl z4 k = us at *
            by_cases i1 : idk < 0
            ·have x1 := eq_true i1
             have x2 := decide_eq_true i1
             have HBAD := am_ (show ¬ ((0 ≤ idk ∧ idk ≤ 1073741824) ∧ (0 < k → idp < idk) ∧ rowB us z1 = true) from fun h_ => by have := h_.1.1; omega)
             clear i1
             have cc0 := (HS.out _ (Below.refl wr.heap.size wr)).1
             have cc2 := (HS.out _ (Below.refl wr.heap.size wr)).2.1
             have cc3 := (HS.out _ (Below.refl wr.heap.size wr)).2.2.1
             have cci := (HS.out _ (Below.refl wr.heap.size wr)).2.2.2.1
             have ccg := (HS.out _ (Below.refl wr.heap.size wr)).2.2.2.2
             have ccp := HPP.out _ (Below.refl wr.heap.size wr)
             go_wp2_with fail
             have W3 := am_ (zR (Below.refl wr.heap.size wr))
             have hb_ := W3.out
             replace HB := am_ (zb HB.out hb_)
             replace K1 := am_ (zh K1.out hb_)
             replace K2 := am_ (zh K2.out hb_)
             replace K4 := am_ (zh K4.out hb_)
             replace R_i := am_ (Kd.zI R_i.out hb_)
             replace R_g := am_ (Kd.zI R_g.out hb_)
             clear hb_ cc0 cc2 cc3 cci ccg ccp
             refine zay (n := 32) (S := fun w' => w'.cell? ⟨g1, 0, none⟩ = some (.int .i64 z1) ∧ w'.cell? ⟨g1, 2, none⟩ = some (.slice (some ai) z3.length k2) ∧ w'.cell? ⟨g1, 3, none⟩ = some (.slice (some ag) l4.length k3) ∧ w'.cell? (ai.add k) = some (.int .i64 (idk)) ∧ w'.cell? (ag.add k) = some (.slice Ak (ku (us)).length ck) ∧ w'.cell? (ai.add p) = some (.int .i64 idp)) (ds := []) (bl_ 32 0) (by kernel_rfl) rfl rfl ⟨(HS.out _ W3.out).1, (HS.out _ W3.out).2.1, (HS.out _ W3.out).2.2.1, (HS.out _ W3.out).2.2.2.1, (HS.out _ W3.out).2.2.2.2, HPP.out _ W3.out⟩ (fun hHeld => ?_); refine zT zaL.tab18 zaL.bits18 (fun HT_ HW_ => ?_)
             generalize wr.drew = v0 at W3 HB K1 K2 K4 R_i R_g hHeld ⊢
             refine pu_ HT_ 0 85 (bl_ 32 1) ?_
             refine pu_ HT_ 2 87 (bl_ 32 5) ?_
             refine tk_ HT_ HW_ hHeld 1 86 (bl_ 32 7) ?_
             refine pu_ HT_ 3 88 (bl_ 32 15) ?_
             refine tk_ HT_ HW_ hHeld 4 89 (bl_ 32 31) ?_
             refine pu_ HT_ 5 90 (bl_ 32 63) ?_
             refine pu_ HT_ 6 91 (bl_ 32 127) ?_
             refine ps_ HT_ 7 92 (bl_ 32 255) ?_
             refine ps_ HT_ 8 93 (bl_ 32 511) ?_
             refine ps_ HT_ 9 94 (bl_ 32 1023) ?_
             refine ps_ HT_ 10 95 (bl_ 32 2047) ?_
             refine ps_ HT_ 11 96 (bl_ 32 4095) ?_
             refine ps_ HT_ 12 97 (bl_ 32 8191) ?_
             refine pu_ HT_ 13 98 (bl_ 32 16383) ?_
             refine pu_ HT_ 14 99 (bl_ 32 32767) ?_
             refine ps_ HT_ 15 100 (bl_ 32 65535) ?_
             refine ps_ HT_ 16 101 (bl_ 32 131071) ?_
             refine ps_ HT_ 17 102 (bl_ 32 262143) ?_
             refine ps_ HT_ 18 103 (bl_ 32 524287) ?_
             refine ps_ HT_ 19 104 (bl_ 32 1048575) ?_
             refine ps_ HT_ 20 105 (bl_ 32 2097151) ?_
             refine ps_ HT_ 21 106 (bl_ 32 4194303) ?_
             refine ps_ HT_ 22 107 (bl_ 32 8388607) ?_
             refine ps_ HT_ 23 108 (bl_ 32 16777215) ?_
             refine ps_ HT_ 24 109 (bl_ 32 33554431) ?_
             refine ps_ HT_ 25 110 (bl_ 32 67108863) ?_
             refine ps_ HT_ 26 111 (bl_ 32 134217727) ?_
             refine ps_ HT_ 27 112 (bl_ 32 268435455) ?_
             refine ps_ HT_ 28 113 (bl_ 32 536870911) ?_
             refine ps_ HT_ 29 114 (bl_ 32 1073741823) ?_
             refine ps_ HT_ 30 115 (bl_ 32 2147483647) ?_
             refine pu_ HT_ 31 116 (bl_ 32 4294967295) ?_
             refine zaP (zao HT_.out (by kernel_rfl)) ?_
             clear hHeld
             go_wp2_with (first
  | ((with_reducible refine zr (t := 145) (p := 2) rfl ?_); refine zn rfl 145 rfl rfl g2 #[.int .i64 0, .slice none 0 0, .slice none 0 0, .slice none 0 0, .slice none 0 0] rfl rfl 145 _ K2.out (zaO.trans rfl) rfl (by simp [Value.oneCell']) ?_; intro wf hw_ hg_; replace HB := am_ (HB.out.grown hg_ HB.out.size (fun k_ hk_ => by cases hk_; exact L2.out)); replace K2 := am_ hw_; clear hw_ hg_)
  | fail)
             refine bodyPost_ret (zaj rfl _ _ g2 145 #[.int .i64 0, .slice none 0 0, .slice none 0 0, .slice none 0 0, .slice none 0 0] (0, 0) _ rfl K2.out Try.underlying145 rfl (by kernel_rfl)) rfl ?_
             have hbv_ : b = false := by rw [← HBV.out, zU (fun h_ => by rw [HZ.out] at h_; exact HBAD.out (HID.out.1 (HB0.out h_)))]
             exact ⟨⟨0, none, 0, 0, none, 0, 0, none, 0, 0, none, 0, 0⟩, by rw [hbv_]; first | done | rfl, (fun h_ => by rw [hbv_] at h_; cases h_), HB.out⟩
            ·have x1 := eq_false i1
             have x2 := decide_eq_false i1
             by_cases i2 : 1073741824 < idk
             ·have x3 := eq_true i2
              have x4 := decide_eq_true i2
              have HBAD := am_ (show ¬ ((0 ≤ idk ∧ idk ≤ 1073741824) ∧ (0 < k → idp < idk) ∧ rowB us z1 = true) from fun h_ => by have := h_.1.2; omega)
              clear i1 i2
              have cc0 := (HS.out _ (Below.refl wr.heap.size wr)).1
              have cc2 := (HS.out _ (Below.refl wr.heap.size wr)).2.1
              have cc3 := (HS.out _ (Below.refl wr.heap.size wr)).2.2.1
              have cci := (HS.out _ (Below.refl wr.heap.size wr)).2.2.2.1
              have ccg := (HS.out _ (Below.refl wr.heap.size wr)).2.2.2.2
              have ccp := HPP.out _ (Below.refl wr.heap.size wr)
              go_wp2_with fail
              have W3 := am_ (zR (Below.refl wr.heap.size wr))
              have hb_ := W3.out
              replace HB := am_ (zb HB.out hb_)
              replace K1 := am_ (zh K1.out hb_)
              replace K2 := am_ (zh K2.out hb_)
              replace K4 := am_ (zh K4.out hb_)
              replace R_i := am_ (Kd.zI R_i.out hb_)
              replace R_g := am_ (Kd.zI R_g.out hb_)
              clear hb_ cc0 cc2 cc3 cci ccg ccp
              refine zay (n := 32) (S := fun w' => w'.cell? ⟨g1, 0, none⟩ = some (.int .i64 z1) ∧ w'.cell? ⟨g1, 2, none⟩ = some (.slice (some ai) z3.length k2) ∧ w'.cell? ⟨g1, 3, none⟩ = some (.slice (some ag) l4.length k3) ∧ w'.cell? (ai.add k) = some (.int .i64 (idk)) ∧ w'.cell? (ag.add k) = some (.slice Ak (ku (us)).length ck) ∧ w'.cell? (ai.add p) = some (.int .i64 idp)) (ds := []) (bl_ 32 0) (by kernel_rfl) rfl rfl ⟨(HS.out _ W3.out).1, (HS.out _ W3.out).2.1, (HS.out _ W3.out).2.2.1, (HS.out _ W3.out).2.2.2.1, (HS.out _ W3.out).2.2.2.2, HPP.out _ W3.out⟩ (fun hHeld => ?_); refine zT zaL.tab18 zaL.bits18 (fun HT_ HW_ => ?_)
              generalize wr.drew = v0 at W3 HB K1 K2 K4 R_i R_g hHeld ⊢
              refine pu_ HT_ 0 85 (bl_ 32 1) ?_
              refine pu_ HT_ 2 87 (bl_ 32 5) ?_
              refine tk_ HT_ HW_ hHeld 1 86 (bl_ 32 7) ?_
              refine pu_ HT_ 3 88 (bl_ 32 15) ?_
              refine tk_ HT_ HW_ hHeld 4 89 (bl_ 32 31) ?_
              refine pu_ HT_ 5 90 (bl_ 32 63) ?_
              refine pu_ HT_ 6 91 (bl_ 32 127) ?_
              refine pu_ HT_ 7 92 (bl_ 32 255) ?_
              refine pu_ HT_ 9 94 (bl_ 32 767) ?_
              refine tk_ HT_ HW_ hHeld 8 93 (bl_ 32 1023) ?_
              refine pu_ HT_ 10 95 (bl_ 32 2047) ?_
              refine tk_ HT_ HW_ hHeld 11 96 (bl_ 32 4095) ?_
              refine pu_ HT_ 12 97 (bl_ 32 8191) ?_
              refine pu_ HT_ 13 98 (bl_ 32 16383) ?_
              refine pu_ HT_ 14 99 (bl_ 32 32767) ?_
              refine ps_ HT_ 15 100 (bl_ 32 65535) ?_
              refine ps_ HT_ 16 101 (bl_ 32 131071) ?_
              refine ps_ HT_ 17 102 (bl_ 32 262143) ?_
              refine ps_ HT_ 18 103 (bl_ 32 524287) ?_
              refine ps_ HT_ 19 104 (bl_ 32 1048575) ?_
              refine ps_ HT_ 20 105 (bl_ 32 2097151) ?_
              refine ps_ HT_ 21 106 (bl_ 32 4194303) ?_
              refine ps_ HT_ 22 107 (bl_ 32 8388607) ?_
              refine ps_ HT_ 23 108 (bl_ 32 16777215) ?_
              refine ps_ HT_ 24 109 (bl_ 32 33554431) ?_
              refine ps_ HT_ 25 110 (bl_ 32 67108863) ?_
              refine ps_ HT_ 26 111 (bl_ 32 134217727) ?_
              refine ps_ HT_ 27 112 (bl_ 32 268435455) ?_
              refine ps_ HT_ 28 113 (bl_ 32 536870911) ?_
              refine ps_ HT_ 29 114 (bl_ 32 1073741823) ?_
              refine ps_ HT_ 30 115 (bl_ 32 2147483647) ?_
              refine pu_ HT_ 31 116 (bl_ 32 4294967295) ?_
              refine zaP (zao HT_.out (by kernel_rfl)) ?_
              clear hHeld
              go_wp2_with (first
  | ((with_reducible refine zr (t := 145) (p := 2) rfl ?_); refine zn rfl 145 rfl rfl g2 #[.int .i64 0, .slice none 0 0, .slice none 0 0, .slice none 0 0, .slice none 0 0] rfl rfl 145 _ K2.out (zaO.trans rfl) rfl (by simp [Value.oneCell']) ?_; intro wf hw_ hg_; replace HB := am_ (HB.out.grown hg_ HB.out.size (fun k_ hk_ => by cases hk_; exact L2.out)); replace K2 := am_ hw_; clear hw_ hg_)
  | fail)
              refine bodyPost_ret (zaj rfl _ _ g2 145 #[.int .i64 0, .slice none 0 0, .slice none 0 0, .slice none 0 0, .slice none 0 0] (0, 0) _ rfl K2.out Try.underlying145 rfl (by kernel_rfl)) rfl ?_
              have hbv_ : b = false := by rw [← HBV.out, zU (fun h_ => by rw [HZ.out] at h_; exact HBAD.out (HID.out.1 (HB0.out h_)))]
              exact ⟨⟨0, none, 0, 0, none, 0, 0, none, 0, 0, none, 0, 0⟩, by rw [hbv_]; first | done | rfl, (fun h_ => by rw [hbv_] at h_; cases h_), HB.out⟩
             ·have x3 := eq_false i2
              have x4 := decide_eq_false i2
              have I0 := am_ (show 0 ≤ idk ∧ idk ≤ 1073741824 by omega)
              clear i1 i2
              by_cases i3 : idk ≤ idp
              ·have x5 := eq_true i3
               have x6 := decide_eq_true i3
               have x7 := decide_eq_true (show idp ≥ idk from i3)
               have HBAD := am_ (show ¬ ((0 ≤ idk ∧ idk ≤ 1073741824) ∧ (0 < k → idp < idk) ∧ rowB us z1 = true) from fun h_ => by have := h_.2.1 (by have := HP.out; omega); omega)
               clear i3
               have cc0 := (HS.out _ (Below.refl wr.heap.size wr)).1
               have cc2 := (HS.out _ (Below.refl wr.heap.size wr)).2.1
               have cc3 := (HS.out _ (Below.refl wr.heap.size wr)).2.2.1
               have cci := (HS.out _ (Below.refl wr.heap.size wr)).2.2.2.1
               have ccg := (HS.out _ (Below.refl wr.heap.size wr)).2.2.2.2
               have ccp := HPP.out _ (Below.refl wr.heap.size wr)
               go_wp2_with fail
               have W3 := am_ (zR (Below.refl wr.heap.size wr))
               have hb_ := W3.out
               replace HB := am_ (zb HB.out hb_)
               replace K1 := am_ (zh K1.out hb_)
               replace K2 := am_ (zh K2.out hb_)
               replace K4 := am_ (zh K4.out hb_)
               replace R_i := am_ (Kd.zI R_i.out hb_)
               replace R_g := am_ (Kd.zI R_g.out hb_)
               clear hb_ cc0 cc2 cc3 cci ccg ccp
               refine zay (n := 32) (S := fun w' => w'.cell? ⟨g1, 0, none⟩ = some (.int .i64 z1) ∧ w'.cell? ⟨g1, 2, none⟩ = some (.slice (some ai) z3.length k2) ∧ w'.cell? ⟨g1, 3, none⟩ = some (.slice (some ag) l4.length k3) ∧ w'.cell? (ai.add k) = some (.int .i64 (idk)) ∧ w'.cell? (ag.add k) = some (.slice Ak (ku (us)).length ck) ∧ w'.cell? (ai.add p) = some (.int .i64 idp)) (ds := []) (bl_ 32 0) (by kernel_rfl) rfl rfl ⟨(HS.out _ W3.out).1, (HS.out _ W3.out).2.1, (HS.out _ W3.out).2.2.1, (HS.out _ W3.out).2.2.2.1, (HS.out _ W3.out).2.2.2.2, HPP.out _ W3.out⟩ (fun hHeld => ?_); refine zT zaL.tab18 zaL.bits18 (fun HT_ HW_ => ?_)
               generalize wr.drew = v0 at W3 HB K1 K2 K4 R_i R_g hHeld ⊢
               refine pu_ HT_ 0 85 (bl_ 32 1) ?_
               refine pu_ HT_ 2 87 (bl_ 32 5) ?_
               refine tk_ HT_ HW_ hHeld 1 86 (bl_ 32 7) ?_
               refine pu_ HT_ 3 88 (bl_ 32 15) ?_
               refine tk_ HT_ HW_ hHeld 4 89 (bl_ 32 31) ?_
               refine pu_ HT_ 5 90 (bl_ 32 63) ?_
               refine pu_ HT_ 6 91 (bl_ 32 127) ?_
               refine pu_ HT_ 7 92 (bl_ 32 255) ?_
               refine pu_ HT_ 9 94 (bl_ 32 767) ?_
               refine tk_ HT_ HW_ hHeld 8 93 (bl_ 32 1023) ?_
               refine pu_ HT_ 10 95 (bl_ 32 2047) ?_
               refine tk_ HT_ HW_ hHeld 11 96 (bl_ 32 4095) ?_
               refine pu_ HT_ 12 97 (bl_ 32 8191) ?_
               refine pu_ HT_ 13 98 (bl_ 32 16383) ?_
               refine pu_ HT_ 14 99 (bl_ 32 32767) ?_
               refine pu_ HT_ 15 100 (bl_ 32 65535) ?_
               refine pu_ HT_ 16 101 (bl_ 32 131071) ?_
               refine pu_ HT_ 17 102 (bl_ 32 262143) ?_
               refine pu_ HT_ 18 103 (bl_ 32 524287) ?_
               refine pu_ HT_ 20 105 (bl_ 32 1572863) ?_
               refine pu_ HT_ 21 106 (bl_ 32 3670015) ?_
               refine pu_ HT_ 24 109 (bl_ 32 20447231) ?_
               refine pu_ HT_ 26 111 (bl_ 32 87556095) ?_
               refine tk_ HT_ HW_ hHeld 19 104 (bl_ 32 88080383) ?_
               refine pu_ HT_ 22 107 (bl_ 32 92274687) ?_
               refine tk_ HT_ HW_ hHeld 23 108 (bl_ 32 100663295) ?_
               refine tk_ HT_ HW_ hHeld 25 110 (bl_ 32 134217727) ?_
               refine pu_ HT_ 27 112 (bl_ 32 268435455) ?_
               refine tk_ HT_ HW_ hHeld 28 113 (bl_ 32 536870911) ?_
               refine pu_ HT_ 29 114 (bl_ 32 1073741823) ?_
               refine pu_ HT_ 30 115 (bl_ 32 2147483647) ?_
               refine pu_ HT_ 31 116 (bl_ 32 4294967295) ?_
               refine zaP (zao HT_.out (by kernel_rfl)) ?_
               clear hHeld
               go_wp2_with (first
  | ((with_reducible refine zr (t := 145) (p := 2) rfl ?_); refine zn rfl 145 rfl rfl g2 #[.int .i64 0, .slice none 0 0, .slice none 0 0, .slice none 0 0, .slice none 0 0] rfl rfl 145 _ K2.out (zaO.trans rfl) rfl (by simp [Value.oneCell']) ?_; intro wf hw_ hg_; replace HB := am_ (HB.out.grown hg_ HB.out.size (fun k_ hk_ => by cases hk_; exact L2.out)); replace K2 := am_ hw_; clear hw_ hg_)
  | fail)
               refine bodyPost_ret (zaj rfl _ _ g2 145 #[.int .i64 0, .slice none 0 0, .slice none 0 0, .slice none 0 0, .slice none 0 0] (0, 0) _ rfl K2.out Try.underlying145 rfl (by kernel_rfl)) rfl ?_
               have hbv_ : b = false := by rw [← HBV.out, zU (fun h_ => by rw [HZ.out] at h_; exact HBAD.out (HID.out.1 (HB0.out h_)))]
               exact ⟨⟨0, none, 0, 0, none, 0, 0, none, 0, 0, none, 0, 0⟩, by rw [hbv_]; first | done | rfl, (fun h_ => by rw [hbv_] at h_; cases h_), HB.out⟩
              ·have x5 := eq_false i3
               have x6 := decide_eq_false i3
               have x7 := decide_eq_false (show ¬ idp ≥ idk from i3)
               have I1 := am_ (show 0 < k → idp < idk from fun _ => by omega)
               clear i3
               have cc0 := (HS.out _ (Below.refl wr.heap.size wr)).1
               have cc2 := (HS.out _ (Below.refl wr.heap.size wr)).2.1
               have cc3 := (HS.out _ (Below.refl wr.heap.size wr)).2.2.1
               have cci := (HS.out _ (Below.refl wr.heap.size wr)).2.2.2.1
               have ccg := (HS.out _ (Below.refl wr.heap.size wr)).2.2.2.2
               have ccp := HPP.out _ (Below.refl wr.heap.size wr)
               go_wp2_with fail
               have W3 := am_ (zR (Below.refl wr.heap.size wr))
               have hb_ := W3.out
               replace HB := am_ (zb HB.out hb_)
               replace K1 := am_ (zh K1.out hb_)
               replace K2 := am_ (zh K2.out hb_)
               replace K4 := am_ (zh K4.out hb_)
               replace R_i := am_ (Kd.zI R_i.out hb_)
               replace R_g := am_ (Kd.zI R_g.out hb_)
               clear hb_ cc0 cc2 cc3 cci ccg ccp
               refine zay (n := 32) (S := fun w' => w'.cell? ⟨g1, 0, none⟩ = some (.int .i64 z1) ∧ w'.cell? ⟨g1, 2, none⟩ = some (.slice (some ai) z3.length k2) ∧ w'.cell? ⟨g1, 3, none⟩ = some (.slice (some ag) l4.length k3) ∧ w'.cell? (ai.add k) = some (.int .i64 (idk)) ∧ w'.cell? (ag.add k) = some (.slice Ak (ku (us)).length ck) ∧ w'.cell? (ai.add p) = some (.int .i64 idp)) (ds := []) (bl_ 32 0) (by kernel_rfl) rfl rfl ⟨(HS.out _ W3.out).1, (HS.out _ W3.out).2.1, (HS.out _ W3.out).2.2.1, (HS.out _ W3.out).2.2.2.1, (HS.out _ W3.out).2.2.2.2, HPP.out _ W3.out⟩ (fun hHeld => ?_); refine zT zaL.tab18 zaL.bits18 (fun HT_ HW_ => ?_)
               generalize wr.drew = v0 at W3 HB K1 K2 K4 R_i R_g hHeld ⊢
               refine pu_ HT_ 0 85 (bl_ 32 1) ?_
               refine pu_ HT_ 2 87 (bl_ 32 5) ?_
               refine tk_ HT_ HW_ hHeld 1 86 (bl_ 32 7) ?_
               refine pu_ HT_ 3 88 (bl_ 32 15) ?_
               refine tk_ HT_ HW_ hHeld 4 89 (bl_ 32 31) ?_
               refine pu_ HT_ 5 90 (bl_ 32 63) ?_
               refine pu_ HT_ 6 91 (bl_ 32 127) ?_
               refine pu_ HT_ 7 92 (bl_ 32 255) ?_
               refine pu_ HT_ 9 94 (bl_ 32 767) ?_
               refine tk_ HT_ HW_ hHeld 8 93 (bl_ 32 1023) ?_
               refine pu_ HT_ 10 95 (bl_ 32 2047) ?_
               refine tk_ HT_ HW_ hHeld 11 96 (bl_ 32 4095) ?_
               refine pu_ HT_ 12 97 (bl_ 32 8191) ?_
               refine pu_ HT_ 13 98 (bl_ 32 16383) ?_
               refine pu_ HT_ 14 99 (bl_ 32 32767) ?_
               refine pu_ HT_ 15 100 (bl_ 32 65535) ?_
               refine pu_ HT_ 16 101 (bl_ 32 131071) ?_
               refine pu_ HT_ 17 102 (bl_ 32 262143) ?_
               refine pu_ HT_ 18 103 (bl_ 32 524287) ?_
               refine pu_ HT_ 20 105 (bl_ 32 1572863) ?_
               refine pu_ HT_ 21 106 (bl_ 32 3670015) ?_
               refine pu_ HT_ 24 109 (bl_ 32 20447231) ?_
               refine pu_ HT_ 26 111 (bl_ 32 87556095) ?_
               refine tk_ HT_ HW_ hHeld 19 104 (bl_ 32 88080383) ?_
               refine pu_ HT_ 22 107 (bl_ 32 92274687) ?_
               refine tk_ HT_ HW_ hHeld 23 108 (bl_ 32 100663295) ?_
               refine tk_ HT_ HW_ hHeld 25 110 (bl_ 32 134217727) ?_
               refine pu_ HT_ 27 112 (bl_ 32 268435455) ?_
               refine tk_ HT_ HW_ hHeld 28 113 (bl_ 32 536870911) ?_
               refine pu_ HT_ 29 114 (bl_ 32 1073741823) ?_
               refine pu_ HT_ 30 115 (bl_ 32 2147483647) ?_
               refine pu_ HT_ 31 116 (bl_ 32 4294967295) ?_
               refine zaP (zao HT_.out (by kernel_rfl)) ?_
               clear hHeld
               have cc0 := (HS.out _ W3.out).1
               have cc2 := (HS.out _ W3.out).2.1
               have cc3 := (HS.out _ W3.out).2.2.1
               have cci := (HS.out _ W3.out).2.2.2.1
               have ccg := (HS.out _ W3.out).2.2.2.2
               go_wp2_with fail
               clear cc0 cc2 cc3 cci ccg
               have hb_ : Below v0.heap.size v0 v0.drew := zR (Below.refl _ _)
               replace W3 := am_ (zb W3.out hb_)
               replace HB := am_ (zb HB.out hb_)
               replace K1 := am_ (zh K1.out hb_)
               replace K2 := am_ (zh K2.out hb_)
               replace K4 := am_ (zh K4.out hb_)
               replace R_i := am_ (Kd.zI R_i.out hb_)
               replace R_g := am_ (Kd.zI R_g.out hb_)
               clear hb_
               refine zay (n := 13) (S := fun w' => w'.cell? ⟨g1, 0, none⟩ = some (.int .i64 z1) ∧ w'.cell? ⟨g1, 2, none⟩ = some (.slice (some ai) z3.length k2) ∧ w'.cell? ⟨g1, 3, none⟩ = some (.slice (some ag) l4.length k3) ∧ w'.cell? (ai.add k) = some (.int .i64 (idk)) ∧ w'.cell? (ag.add k) = some (.slice Ak (ku (us)).length ck)) (ds := []) (bl_ 13 0) (by kernel_rfl) rfl rfl ⟨(HS.out _ W3.out).1, (HS.out _ W3.out).2.1, (HS.out _ W3.out).2.2.1, (HS.out _ W3.out).2.2.2.1, (HS.out _ W3.out).2.2.2.2⟩ (fun hHeld => ?_); refine zT zaL.tab20 zaL.bits20 (fun HT_ HW_ => ?_)
               generalize v0.drew = v1 at W3 HB K1 K2 K4 R_i R_g hHeld ⊢
               refine pu_ HT_ 0 119 (bl_ 13 1) ?_
               refine pu_ HT_ 2 121 (bl_ 13 5) ?_
               refine pu_ HT_ 5 124 (bl_ 13 37) ?_
               refine tk_ HT_ HW_ hHeld 1 120 (bl_ 13 39) ?_
               refine pu_ HT_ 3 122 (bl_ 13 47) ?_
               refine tk_ HT_ HW_ hHeld 4 123 (bl_ 13 63) ?_
               refine tk_ HT_ HW_ hHeld 6 125 (bl_ 13 127) ?_
               refine on_ HT_ 7 (some 126) (bl_ 13 255) fun K hK => ?_
               refine goes_ Try.func94 (by kernel_rfl) rfl #[.slice Ak (ku us).length ck, .int .i64 z1] (by rfl) rfl rfl (by (try simp only [List.map_toArray, List.map_cons, List.map_nil]); first | done | rfl) ?_
               refine (numbers_calls us z1 Ak ck v1 (Kd.zB HGK.out.1 W3.out) HGK.out.2 HGW.out HGL.out).mono ?_
               rintro e_ v2 ⟨Bx, dx, xs, rfl, hsx, hnx, hb_⟩
               refine ⟨_, rfl, ?_⟩
               have MX := am_ (show kN.M v2 w.heap.size (fun k_ => True ∧ some k_ ≠ (Value.slice Bg k dg).ownBlock) xs [.slice Bx xs.length dx] from ⟨_, rfl, Kd.zag (Kd.R_new (Kd.S_R hsx) (Kd.R_own R_g.out).choose_spec) HB.out.size⟩)
               have HNX := am_ hnx
               replace W3 := am_ (zb W3.out hb_)
               replace HB := am_ (zb HB.out hb_)
               replace K1 := am_ (zh K1.out hb_)
               replace K2 := am_ (zh K2.out hb_)
               replace K4 := am_ (zh K4.out hb_)
               replace R_i := am_ (Kd.zI R_i.out hb_)
               replace R_g := am_ (Kd.zI R_g.out hb_)
               clear hb_ hsx hnx
               refine hK.out _ _ ⟨(HS.out _ W3.out).1, (HS.out _ W3.out).2.1, (HS.out _ W3.out).2.2.1, (HS.out _ W3.out).2.2.2.1, (HS.out _ W3.out).2.2.2.2⟩ (fun hHeld => ?_); clear hK K
               refine nm_ ?_
               refine pu_ HT_ 8 118 (bl_ 13 511) ?_
               refine pu_ HT_ 9 127 (bl_ 13 1023) ?_
               refine pu_ HT_ 10 128 (bl_ 13 2047) ?_
               refine pu_ HT_ 11 11 (bl_ 13 4095) ?_
               refine pu_ HT_ 12 12 (bl_ 13 8191) ?_
               refine zaP (zao HT_.out (by kernel_rfl)) ?_
               clear hHeld
               cases hrb : rowB us z1
               ·have HBAD := am_ (show ¬ ((0 ≤ idk ∧ idk ≤ 1073741824) ∧ (0 < k → idp < idk) ∧ rowB us z1 = true) from fun h_ => by rw [hrb] at h_; cases h_.2.2)
                clear hrb
                go_wp2_with (first
  | ((with_reducible refine zr (t := 145) (p := 2) rfl ?_); refine zn rfl 145 rfl rfl g2 #[.int .i64 0, .slice none 0 0, .slice none 0 0, .slice none 0 0, .slice none 0 0] rfl rfl 145 _ K2.out (zaO.trans rfl) rfl (by simp [Value.oneCell']) ?_; intro wf hw_ hg_; replace HB := am_ (HB.out.grown hg_ HB.out.size (fun k_ hk_ => by cases hk_; exact L2.out)); replace K2 := am_ hw_; clear hw_ hg_)
  | fail)
                refine bodyPost_ret (zaj rfl _ _ g2 145 #[.int .i64 0, .slice none 0 0, .slice none 0 0, .slice none 0 0, .slice none 0 0] (0, 0) _ rfl K2.out Try.underlying145 rfl (by kernel_rfl)) rfl ?_
                have hbv_ : b = false := by rw [← HBV.out, zU (fun h_ => by rw [HZ.out] at h_; exact HBAD.out (HID.out.1 (HB0.out h_)))]
                exact ⟨⟨0, none, 0, 0, none, 0, 0, none, 0, 0, none, 0, 0⟩, by rw [hbv_]; first | done | rfl, (fun h_ => by rw [hbv_] at h_; cases h_), HB.out⟩
               ·have HOK := am_ (And.intro I0.out (And.intro I1.out hrb))
                have CX := am_ (CS.out xs (HNX.out hrb))
                clear hrb
                go_wp2_with fail
                have hb_ : Below v2.heap.size v2 v2.drew := zR (Below.refl _ _)
                replace W3 := am_ (zb W3.out hb_)
                replace MX := am_ (Kd.M_below MX.out hb_)
                replace HB := am_ (zb HB.out hb_)
                replace K1 := am_ (zh K1.out hb_)
                replace K2 := am_ (zh K2.out hb_)
                replace K4 := am_ (zh K4.out hb_)
                replace R_i := am_ (Kd.zI R_i.out hb_)
                replace R_g := am_ (Kd.zI R_g.out hb_)
                clear hb_
                refine zay (n := 11) (S := fun w' => w'.cell? ⟨g1, 0, none⟩ = some (.int .i64 z1) ∧ w'.cell? ⟨g1, 2, none⟩ = some (.slice (some ai) z3.length k2) ∧ w'.cell? ⟨g1, 3, none⟩ = some (.slice (some ag) l4.length k3) ∧ w'.cell? (ai.add k) = some (.int .i64 (idk)) ∧ w'.cell? (ag.add k) = some (.slice Ak (ku (us)).length ck) ∧ w'.cell? ⟨g4, 2, none⟩ = some (.slice Bi k di)) (ds := [8, 10]) (bl_ 11 0) (by kernel_rfl) rfl rfl ⟨(HS.out _ W3.out).1, (HS.out _ W3.out).2.1, (HS.out _ W3.out).2.2.1, (HS.out _ W3.out).2.2.2.1, (HS.out _ W3.out).2.2.2.2, (za K4.out 2).trans rfl⟩ (fun hHeld => ?_); refine zT zaL.tab23 zaL.bits23 (fun HT_ HW_ => ?_)
                generalize v2.drew = v3 at W3 MX HB K1 K2 K4 R_i R_g hHeld ⊢
                refine pu_ HT_ 0 132 (bl_ 11 1) ?_
                refine pu_ HT_ 2 134 (bl_ 11 5) ?_
                refine pu_ HT_ 4 136 (bl_ 11 21) ?_
                refine tk_ HT_ HW_ hHeld 1 133 (bl_ 11 23) ?_
                refine tk_ HT_ HW_ hHeld 3 135 (bl_ 11 31) ?_
                refine pu_ HT_ 5 137 (bl_ 11 63) ?_
                refine tk_ HT_ HW_ hHeld 6 138 (bl_ 11 127) ?_
                refine on_ HT_ 7 (some 139) (bl_ 11 255) fun K hK => ?_
                refine value_ (w1 := v3.alloc (.cells #[.int .i64 idk] 3)) (v := .slice (some ⟨v3.heap.size, 0, none⟩) 1 1) (by rfl) rfl (by go_simp; first | done | rfl) ?_
                refine hK.out _ _ ⟨zu (zj (Below.refl v3.heap.size v3) _) ((HS.out _ W3.out).1), zu (zj (Below.refl v3.heap.size v3) _) ((HS.out _ W3.out).2.1), zu (zj (Below.refl v3.heap.size v3) _) ((HS.out _ W3.out).2.2.1), zu (zj (Below.refl v3.heap.size v3) _) ((HS.out _ W3.out).2.2.2.1), zu (zj (Below.refl v3.heap.size v3) _) ((HS.out _ W3.out).2.2.2.2), zu (zj (Below.refl v3.heap.size v3) _) ((za K4.out 2).trans rfl)⟩ (fun hHeld => ?_); clear hK K
                refine nm_ ?_
                refine last_ (i := 8) (N := some 140) (bl_ 11 511) rfl rfl (one_of HT_.out (by kernel_rfl)) (by decide) (fun K hK => ?_)
                refine Kd.R_append_step (Kd.int .i64) (W := v3) (w0 := w) w.heap.size (by rfl) _ _ 22 3 (.int .i64 0) 8 rfl Try.underlying22 info22c rfl (by decide) (by decide) (.slice Bi k di) (z3.take k) idk [.int .i64 idk] (fun _ => True) (fun k_ => True ∧ some k_ ≠ (Value.slice Bi k di).ownBlock) rfl rfl rfl (fun _ hk => hk) (fun _ _ => trivial) R_i.out HB.out HB.out.size (by rw [LK.out]; have := HK.out; have := S3.out; omega) ?_
                intro vv1 v4 hr3 hb3 hg3 _
                have ne1_ := Kd.R_ne R_i.out K1.out (by decide)
                have ne2_ := Kd.R_ne R_i.out K2.out (by decide)
                have ne4_ := Kd.R_ne R_i.out K4.out (by decide)
                have hty_ : ∀ k_, (Value.slice Bi k di).ownBlock = some k_ → ∃ cells, v3.heap[k_]? = some (.cells cells 3 (0, 0)) := Kd.R_typed R_i.out
                replace MX := am_ (show kN.M v4 w.heap.size (fun k_ => True ∧ some k_ ≠ (Value.slice Bg k dg).ownBlock) xs [.slice Bx xs.length dx] from MX.out.elim fun vx hvx => ⟨vx, hvx.1, Kd.R_over' hvx.2 hty_ (by decide) hg3⟩)
                replace R_g := am_ (Kd.R_over' R_g.out hty_ (by decide) hg3)
                replace K1 := am_ (zx hg3 K1.out ne1_)
                replace K2 := am_ (zx hg3 K2.out ne2_)
                replace K4 := am_ (zx hg3 K4.out ne4_)
                replace HB := am_ hb3
                have hl_ : (z3.take k ++ [idk]).length = k + 1 := by rw [List.length_append, LK.out]; rfl
                obtain ⟨Bi2, di2, rfl⟩ := Kd.zY hr3
                rw [hl_] at hr3 ⊢
                replace R_i := am_ hr3
                clear hr3 hb3 hg3 ne1_ ne2_ ne4_ hty_ hl_
                have c42 : v4.cell? ⟨g4, 2, none⟩ = some (.slice Bi k di) := (za K4.out 2).trans rfl
                have f42 := zd K4.out 2
                refine hK.out _ _ ?_; clear hK K
                refine nm_ ?_
                refine pu_ HT_ 9 141 (bl_ 11 1023) ?_
                refine last_ (i := 10) (N := none) (bl_ 11 2047) rfl rfl (one_of HT_.out (by kernel_rfl)) (by decide) (fun K hK => ?_)
                refine skip_ (w1 := ?_) (by rfl) rfl ?_ ?_; rotate_left; (focus (go_simp; first | done | rfl))
                refine hK.out _ _ ?_; clear hK K
                refine zaP (zao HT_.out (by kernel_rfl)) ?_
                clear hHeld c42 f42
                have hs_ := NW.zV v4 g4 2 (.slice Bi2 (k + 1) di2)
                have K4__ := am_ (show (v4.setCell ⟨g4, 2, none⟩ (.slice Bi2 (k + 1) di2)).heap[g4]? = some (.cells #[.int .i64 z1, .slice B1 xs1.length d1, .slice Bi2 (k + 1) di2, .slice Bg k dg, .slice B4 xs4.length d4] 145 (0, 0)) from zaD K4.out 2 _)
                replace R_i := am_ (r_put R_i.out K4.out (by decide) hs_)
                replace R_g := am_ (r_put R_g.out K4.out (by decide) hs_)
                replace MX := am_ (show kN.M (v4.setCell ⟨g4, 2, none⟩ (.slice Bi2 (k + 1) di2)) w.heap.size (fun k_ => True ∧ some k_ ≠ (Value.slice Bg k dg).ownBlock) xs [.slice Bx xs.length dx] from MX.out.elim fun vx hvx => ⟨vx, hvx.1, r_put hvx.2 K4.out (by decide) hs_⟩)
                replace HB := am_ (HB.out.grown hs_ HB.out.size (fun k_ hk_ => by cases hk_; exact L4.out))
                replace K1 := am_ (zx hs_ K1.out (fun e => N4_.out.1 (Option.some.inj e)))
                replace K2 := am_ (zx hs_ K2.out (fun e => N4_.out.2 (Option.some.inj e)))
                replace K4 := K4__
                clear K4__ hs_
                generalize v4.setCell ⟨g4, 2, none⟩ (.slice Bi2 (k + 1) di2) = v5 at HB K1 K2 K4 R_i R_g MX ⊢
                have c43 : v5.cell? ⟨g4, 3, none⟩ = some (.slice Bg k dg) := (za K4.out 3).trans rfl
                go_wp2_with (first
  | ((with_reducible refine zk (N := 146) rfl ?_); refine Kd.R_append kN (W := v5) (w0 := w) w.heap.size rfl _ _ 143 140 (.slice none 0 0) 24 rfl Try.underlying143 info140 rfl (by decide) (by decide) (.slice Bg k dg) xss xs [.slice Bx xs.length dx] (fun _ => True) _ rfl rfl MX.out (fun _ hk => hk) (fun _ _ => trivial) R_g.out HB.out HB.out.size (by rw [LXS.out]; have := HK.out; have := S3.out; omega) ?_; intro vv1 v6 hr3 hb3 hg3 _; have ne1_ := Kd.R_ne R_g.out K1.out (by decide); have ne2_ := Kd.R_ne R_g.out K2.out (by decide); have ne4_ := Kd.R_ne R_g.out K4.out (by decide); have hty_ : ∀ k_, (Value.slice Bg k dg).ownBlock = some k_ → ∃ cells, v5.heap[k_]? = some (.cells cells 140 (0, 0)) := Kd.R_typed R_g.out; replace R_i := am_ (Kd.R_over' R_i.out hty_ (by decide) hg3); replace K1 := am_ (zx hg3 K1.out ne1_); replace K2 := am_ (zx hg3 K2.out ne2_); replace K4 := am_ (zx hg3 K4.out ne4_); replace HB := am_ hb3; have hl_ : (xss ++ [xs]).length = k + 1 := (by rw [List.length_append, LXS.out]; rfl); obtain ⟨Bg2, dg2, rfl⟩ := Kd.zY hr3; rw [hl_] at hr3 ⊢; replace R_g := am_ hr3; clear hr3 hb3 hg3 ne1_ ne2_ ne4_ hty_ hl_ MX c43; have c43 : v6.cell? ⟨g4, 3, none⟩ = some (.slice Bg k dg) := (za K4.out 3).trans rfl; have f43 := zd K4.out 3)
  | fail)
                try clear c43
                try clear f43
                have hs_ := NW.zV v6 g4 3 (.slice Bg2 (k + 1) dg2)
                have K4__ := am_ (show (v6.setCell ⟨g4, 3, none⟩ (.slice Bg2 (k + 1) dg2)).heap[g4]? = some (.cells #[.int .i64 z1, .slice B1 xs1.length d1, .slice Bi2 (k + 1) di2, .slice Bg2 (k + 1) dg2, .slice B4 xs4.length d4] 145 (0, 0)) from zaD K4.out 3 _)
                replace R_i := am_ (r_put R_i.out K4.out (by decide) hs_)
                replace R_g := am_ (r_put R_g.out K4.out (by decide) hs_)
                replace HB := am_ (HB.out.grown hs_ HB.out.size (fun k_ hk_ => by cases hk_; exact L4.out))
                replace K1 := am_ (zx hs_ K1.out (fun e => N4_.out.1 (Option.some.inj e)))
                replace K2 := am_ (zx hs_ K2.out (fun e => N4_.out.2 (Option.some.inj e)))
                replace K4 := K4__
                clear K4__ hs_
                generalize v6.setCell ⟨g4, 3, none⟩ (.slice Bg2 (k + 1) dg2) = v7 at HB K1 K2 K4 R_i R_g ⊢
                go_roundg (gk - 1)
                case measure => have := hm.out; have := HK.out; omega
                case rel => exact ⟨k + 1, Bi2, di2, Bg2, dg2, xss ++ [xs], by first | rfl | (rw [w64 _ (by omega) (by have := HK.out; have := S3.out; omega)]; rfl), ⟨by have := hm.out; have := HK.out; omega⟩, ⟨HQ.out (HID.out.2 HOK.out)⟩, K4, ⟨by rw [TK.out]; exact R_i.out⟩, R_g, CX, K1, K2, HB⟩
          ·have p2 := eq_false (show ¬ (k : Int) < (z3.length : Int) by omega)
           have p4 := decide_eq_false (show ¬ (k : Int) < (z3.length : Int) by omega)
           obtain rfl : k = z3.length := by have := hm.out; omega
           have N7 := am_ (show ∀ j, j < z3.length → IdOk ⟨z1, z2, z3, z4, z5, false⟩ j from HA2.out)
           clear hx hm HA2
           have c0 : wr.cell? ⟨g1, 0, none⟩ = some (.int .i64 z1) := (za K1.out 0).trans rfl
           have c1 : wr.cell? ⟨g1, 1, none⟩ = some (.slice a1 l2.length k1) := (za K1.out 1).trans rfl
           have c2 : wr.cell? ⟨g1, 2, none⟩ = some (.slice a2 z3.length k2) := (za K1.out 2).trans rfl
           have c3 : wr.cell? ⟨g1, 3, none⟩ = some (.slice a3 l4.length k3) := (za K1.out 3).trans rfl
           have c4 : wr.cell? ⟨g1, 4, none⟩ = some (.slice a4 l5.length k4) := (za K1.out 4).trans rfl
           have c5 : wr.cell? ⟨g1, 5, none⟩ = some (.bool false) := (za K1.out 5).trans rfl
           have e0 : wr.cell? ⟨g4, 0, none⟩ = some (.int .i64 z1) := (za K4.out 0).trans rfl
           have e1 : wr.cell? ⟨g4, 1, none⟩ = some (.slice B1 xs1.length d1) := (za K4.out 1).trans rfl
           have e2 : wr.cell? ⟨g4, 2, none⟩ = some (.slice Bi z3.length di) := (za K4.out 2).trans rfl
           have e3 : wr.cell? ⟨g4, 3, none⟩ = some (.slice Bg z3.length dg) := (za K4.out 3).trans rfl
           have e4 : wr.cell? ⟨g4, 4, none⟩ = some (.slice B4 xs4.length d4) := (za K4.out 4).trans rfl
           go_wp2_with (first
  | ((with_reducible refine zr (t := 145) (p := 2) rfl ?_); refine zn rfl 145 rfl rfl g2 #[.int .i64 z1, .slice B1 xs1.length d1, .slice Bi z3.length di, .slice Bg z3.length dg, .slice B4 xs4.length d4] rfl rfl 145 _ K2.out (zaO.trans rfl) rfl (by simp [Value.oneCell']) ?_; intro wf hw_ hg_; replace R_g := am_ (r_put R_g.out K2.out (by decide) hg_); replace HB := am_ (HB.out.grown hg_ HB.out.size (fun k_ hk_ => by cases hk_; exact L2.out)); replace K2 := am_ hw_; clear hw_ hg_)
  | fail)
           refine bodyPost_ret (zaj rfl _ _ g2 145 #[.int .i64 z1, .slice B1 xs1.length d1, .slice Bi z3.length di, .slice Bg z3.length dg, .slice B4 xs4.length d4] (0, 0) _ rfl K2.out Try.underlying145 rfl (by kernel_rfl)) rfl ?_
           have hbv_ : b = true := by rw [← HBV.out, goodB_true (by rw [HZ.out]; exact ⟨rfl, N2.out, HR1.out, HR2.out, NL.out, N6.out, N7.out⟩)]
           have yg := Kd.zQ R_g.out
           exact ⟨⟨z1, B1, xs1.length, d1, Bi, z3.length, di, Bg, z3.length, dg, B4, xs4.length, d4⟩, by rw [hbv_]; first | done | rfl, (fun _ => ⟨xss, yg.1, yg.2.2, by rw [← NL.out]; exact CO.out⟩), HB.out⟩
    ·have q5 : ((z3.length : Int) != (l4.length : Int)) = true := by rw [bne_iff_ne]; omega
     have NLL := am_ hl
     clear hl
     go_wp2_with (first
  | ((with_reducible refine zk (N := 1) rfl ?_); refine zaq 1 (cs := #[.int .i64 z1, .slice a1 l2.length k1, .slice a2 z3.length k2, .slice a3 l4.length k3, .slice a4 l5.length k4, .bool false]) (t := 74) ?_; intro g1 hg_ w1 hw_ hb_; have HB := am_ hb_; have K1 := am_ hw_; have L1 := am_ (show w.heap.size ≤ g1 by omega); clear hg_ hw_ hb_)
  | ((with_reducible refine zk (N := 2) rfl ?_); refine zaq 2 (cs := #[.int .i64 0, .slice none 0 0, .slice none 0 0, .slice none 0 0, .slice none 0 0]) (t := 145) ?_; intro g2 hg_ w2 hw_ hb_; have N12 := am_ (show g1 ≠ g2 by have := zaa K1.out; omega); have L2 := am_ (show w.heap.size ≤ g2 by have := HB.out.size; omega); replace HB := am_ (zb HB.out hb_); replace K1 := am_ (zh K1.out hb_); have K2 := am_ hw_; clear hg_ hw_ hb_; have c0 : w2.cell? ⟨g1, 0, none⟩ = some (.int .i64 z1) := (za K1.out 0).trans rfl; have c1 : w2.cell? ⟨g1, 1, none⟩ = some (.slice a1 l2.length k1) := (za K1.out 1).trans rfl; have c2 : w2.cell? ⟨g1, 2, none⟩ = some (.slice a2 z3.length k2) := (za K1.out 2).trans rfl; have c3 : w2.cell? ⟨g1, 3, none⟩ = some (.slice a3 l4.length k3) := (za K1.out 3).trans rfl; have c4 : w2.cell? ⟨g1, 4, none⟩ = some (.slice a4 l5.length k4) := (za K1.out 4).trans rfl; have c5 : w2.cell? ⟨g1, 5, none⟩ = some (.bool false) := (za K1.out 5).trans rfl)
  | ((with_reducible refine zr (t := 145) (p := 2) rfl ?_); refine zn rfl 145 rfl rfl g2 #[.int .i64 0, .slice none 0 0, .slice none 0 0, .slice none 0 0, .slice none 0 0] rfl rfl 145 _ K2.out (zaO.trans rfl) rfl (by simp [Value.oneCell']) ?_; intro wf hw_ hg_; replace HB := am_ (HB.out.grown hg_ HB.out.size (fun k_ hk_ => by cases hk_; exact L2.out)); replace K2 := am_ hw_; clear hw_ hg_)
  | fail)
     refine bodyPost_ret (zaj rfl _ _ g2 145 #[.int .i64 0, .slice none 0 0, .slice none 0 0, .slice none 0 0, .slice none 0 0] (0, 0) _ rfl K2.out Try.underlying145 rfl (by kernel_rfl)) rfl ?_
     have hbv_ : b = false := by rw [← HBV.out, zU (fun h_ => by rw [HZ.out] at h_; have h5_ := h_.2.2.2.2.1; exact NLL.out (h5_.trans N4.out.symm))]
     exact ⟨⟨0, none, 0, 0, none, 0, 0, none, 0, 0, none, 0, 0⟩, by rw [hbv_]; first | done | rfl, (fun h_ => by rw [hbv_] at h_; cases h_), HB.out⟩
 ·skip
  go_wp2_with (first
  | ((with_reducible refine zk (N := 1) rfl ?_); refine zaq 1 (cs := #[.int .i64 z1, .slice a1 l2.length k1, .slice a2 z3.length k2, .slice a3 l4.length k3, .slice a4 l5.length k4, .bool true]) (t := 74) ?_; intro g1 hg_ w1 hw_ hb_; have HB := am_ hb_; have K1 := am_ hw_; have L1 := am_ (show w.heap.size ≤ g1 by omega); clear hg_ hw_ hb_)
  | ((with_reducible refine zk (N := 2) rfl ?_); refine zaq 2 (cs := #[.int .i64 0, .slice none 0 0, .slice none 0 0, .slice none 0 0, .slice none 0 0]) (t := 145) ?_; intro g2 hg_ w2 hw_ hb_; have N12 := am_ (show g1 ≠ g2 by have := zaa K1.out; omega); have L2 := am_ (show w.heap.size ≤ g2 by have := HB.out.size; omega); replace HB := am_ (zb HB.out hb_); replace K1 := am_ (zh K1.out hb_); have K2 := am_ hw_; clear hg_ hw_ hb_; have c0 : w2.cell? ⟨g1, 0, none⟩ = some (.int .i64 z1) := (za K1.out 0).trans rfl; have c1 : w2.cell? ⟨g1, 1, none⟩ = some (.slice a1 l2.length k1) := (za K1.out 1).trans rfl; have c2 : w2.cell? ⟨g1, 2, none⟩ = some (.slice a2 z3.length k2) := (za K1.out 2).trans rfl; have c3 : w2.cell? ⟨g1, 3, none⟩ = some (.slice a3 l4.length k3) := (za K1.out 3).trans rfl; have c4 : w2.cell? ⟨g1, 4, none⟩ = some (.slice a4 l5.length k4) := (za K1.out 4).trans rfl; have c5 : w2.cell? ⟨g1, 5, none⟩ = some (.bool true) := (za K1.out 5).trans rfl)
  | ((with_reducible refine zr (t := 145) (p := 2) rfl ?_); refine zn rfl 145 rfl rfl g2 #[.int .i64 0, .slice none 0 0, .slice none 0 0, .slice none 0 0, .slice none 0 0] rfl rfl 145 _ K2.out (zaO.trans rfl) rfl (by simp [Value.oneCell']) ?_; intro wf hw_ hg_; replace HB := am_ (HB.out.grown hg_ HB.out.size (fun k_ hk_ => by cases hk_; exact L2.out)); replace K2 := am_ hw_; clear hw_ hg_)
  | fail)
  refine bodyPost_ret (zaj rfl _ _ g2 145 #[.int .i64 0, .slice none 0 0, .slice none 0 0, .slice none 0 0, .slice none 0 0] (0, 0) _ rfl K2.out Try.underlying145 rfl (by kernel_rfl)) rfl ?_
  have hbv_ : b = false := by rw [← HBV.out, zU (fun h_ => by rw [HZ.out] at h_; have h5_ := h_.1; cases h5_)]
  exact ⟨⟨0, none, 0, 0, none, 0, 0, none, 0, 0, none, 0, 0⟩, by rw [hbv_]; first | done | rfl, (fun h_ => by rw [hbv_] at h_; cases h_), HB.out⟩
theorem NV_size {nb : Bool} {l : List Int} {e : Int} (hu : U32 l) : NV false l e = zaX (NV nb l e) := by
 unfold NV
 have h := (nv_bound l hu).1
 have hp := zab (e + 4000).toNat
 rw [absI_mul _ _ hp, absI_sv _ _ h]
 rfl
theorem absI_scale (x : Int) : zaX (x * 2 ^ 1788) = zaX x * 2 ^ 1788 := absI_mul _ _ (zab _)
/-- One value against another, both in smaller parts. -/
theorem sgn_scale (x y : Int) : (0 < sgnI (x * 2 ^ 1788 - y * 2 ^ 1788)) ↔ y < x := by
 rw [← Int.sub_mul]
 have hp := zab 1788
 generalize (2 : Int) ^ 1788 = p at *
 rcases Int.lt_trichotomy (x - y) 0 with h | h | h
 ·rw [sgnI_neg (Int.mul_neg_of_neg_of_pos h hp)]; omega
 ·rw [h, Int.zero_mul, sgnI_zero rfl]; omega
 ·rw [sgnI_pos (Int.mul_pos h hp)]; omega
theorem pk_step {L : List (Int × Int)} {x : Int × Int} : pk (L ++ [x]) = if (pk L).2 < x.2 then x else pk L := by rw [pk_app]; rfl
set_option maxRecDepth 100000 in
set_option maxHeartbeats 4000000 in
theorem margin_calls (z : Zn) (h : Zh) (A : Option Addr) (c : Nat) (a : List Nat) (k : Int) (w : World) (hr : Ur w z h) (hf : Zf z) (hs : ∀ n, n = z.C.length ∨ n = z.ids.length ∨ n = z.G.length ∨ n = z.R.length → n ≤ 2000000) (hg : ∀ us, us ∈ z.G → us.length ≤ 2000000) (ha : Kd.C (Kd.int .u64) w A (ku a).length (ku a)) (hac : (ku a).length ≤ c) (hwa : Wf a) (hn : a.length ≤ 2000000) :
  Calls Try.prog 54 #[.agg (uc z h), .slice A (ku a).length c, .int .i64 k] w fun e w' => e = .returned (.int .i64 (pk (seenV z a k)).1) ∧ Below w.heap.size w w' := by
 have rcs := fun w1 (r : Ur w1 z h) => reals_calls z h w1 r hf hs hg
 have HRC := am_ rcs
 clear rcs
 obtain ⟨Z, hz⟩ : ∃ Z, Z = z := ⟨_, rfl⟩
 obtain ⟨H, hh⟩ : ∃ H, H = h := ⟨_, rfl⟩
 have HR := am_ hr
 obtain ⟨z1, z2, z3, z4, z5, z6⟩ := z
 obtain ⟨a1, k1, a2, k2, a3, k3, a4, k4⟩ := h
 have hu74 := Try.underlying74
 have hu145 := Try.underlying145
 have hu101 := Try.underlying101
 have WF := am_ hf
 have Q2 := am_ (show Rd w a2 k2 z3 from hr.r2)
 have S3 := am_ (show z3.length ≤ 2000000 from hs _ (.inr (.inl rfl)))
 have SG := am_ (show ∀ us, us ∈ z4 → us.length ≤ 2000000 from hg)
 have QA := am_ (And.intro ha hac)
 have WA := am_ hwa
 have NA := am_ hn
 rw [← hz, ← hh] at HRC HR
 rw [← hz] at WF
 rw [← hz, ← hh]
 clear hr hf hs hg ha hac hwa hn
 obtain ⟨l2, hl2⟩ : ∃ l, l = ku z2 := ⟨_, rfl⟩
 obtain ⟨l4, hl4⟩ : ∃ l, l = z4.map ku := ⟨_, rfl⟩
 obtain ⟨l5, hl5⟩ : ∃ l, l = ku z5 := ⟨_, rfl⟩
 obtain ⟨la, hla⟩ : ∃ l, l = ku a := ⟨_, rfl⟩
 have hv : uc Z H = #[.int .i64 z1, .slice a1 l2.length k1, .slice a2 z3.length k2, .slice a3 l4.length k3, .slice a4 l5.length k4, .bool z6] := by rw [hz, hh, hl2, hl4, hl5]; rfl
 have HV := am_ hv
 have HZ := am_ hz
 have HLA := am_ hla
 have LA := am_ (show la.length = a.length by rw [hla, zaB])
 rw [hv, ← hla]
 rw [← hla] at QA
 clear hv hz hh hl2 hl4 hl5 hla
 generalize hb : (pk (seenV Z a k)).1 = res
 have RES := am_ hb
 clear hb
 go_enter Try.func54, Try.ntmps54
 go_wp2_with (first
  | ((with_reducible refine zk (N := 3) rfl ?_); refine zaq 3 (cs := #[.int .i64 z1, .slice a1 l2.length k1, .slice a2 z3.length k2, .slice a3 l4.length k3, .slice a4 l5.length k4, .bool z6]) (t := 74) ?_; intro g3 hg_ w1 hw_ hb_; have HB := am_ hb_; have K3 := am_ hw_; have L3 := am_ (show w.heap.size ≤ g3 by omega); clear hg_ hw_ hb_)
  | fail)
 have ec := exact_calls a A c w1 (by rw [← HLA.out]; exact Kd.zB QA.out.1 HB.out) (by rw [← HLA.out]; exact QA.out.2) WA.out NA.out
 rw [← HLA.out] at ec
 refine ec.mono ?_
 clear ec
 rintro e_ w2 ⟨Bx, dx, xs, rfl, hsx, hnx, hb_⟩
 have XS := am_ (Kd.S_reads' hsx).2.2
 have NX := am_ hnx
 replace HB := am_ (zb HB.out hb_)
 replace K3 := am_ (zh K3.out hb_)
 clear hsx hnx hb_
 have c0 : w2.cell? ⟨g3, 0, none⟩ = some (.int .i64 z1) := (za K3.out 0).trans rfl
 have c1 : w2.cell? ⟨g3, 1, none⟩ = some (.slice a1 l2.length k1) := (za K3.out 1).trans rfl
 have c2 : w2.cell? ⟨g3, 2, none⟩ = some (.slice a2 z3.length k2) := (za K3.out 2).trans rfl
 have c3 : w2.cell? ⟨g3, 3, none⟩ = some (.slice a3 l4.length k3) := (za K3.out 3).trans rfl
 have c4 : w2.cell? ⟨g3, 4, none⟩ = some (.slice a4 l5.length k4) := (za K3.out 4).trans rfl
 have c5 : w2.cell? ⟨g3, 5, none⟩ = some (.bool z6) := (za K3.out 5).trans rfl
 go_wp2_with fail
 have rc := HRC.out w2 (HR.out.step HB.out)
 rw [HV.out] at rc
 refine rc.mono ?_
 clear rc
 rintro e_ w3 ⟨⟨n0, B1, m1, d1, B2, m2, d2, B3_, m3, d3, B4, m4, d4⟩, rfl, hcols, hb_⟩
 have CO := am_ hcols
 replace XS := am_ (Kd.zB XS.out hb_)
 replace HB := am_ (zb HB.out hb_)
 replace K3 := am_ (zh K3.out hb_)
 clear hcols hb_ c0 c1 c2 c3 c4 c5
 rw [show rlc ⟨n0, B1, m1, d1, B2, m2, d2, B3_, m3, d3, B4, m4, d4⟩ = #[.int .i64 n0, .slice B1 m1 d1, .slice B2 m2 d2, .slice B3_ m3 d3, .slice B4 m4 d4] from rfl]
 have c0 : w3.cell? ⟨g3, 0, none⟩ = some (.int .i64 z1) := (za K3.out 0).trans rfl
 have c1 : w3.cell? ⟨g3, 1, none⟩ = some (.slice a1 l2.length k1) := (za K3.out 1).trans rfl
 have c2 : w3.cell? ⟨g3, 2, none⟩ = some (.slice a2 z3.length k2) := (za K3.out 2).trans rfl
 have c3 : w3.cell? ⟨g3, 3, none⟩ = some (.slice a3 l4.length k3) := (za K3.out 3).trans rfl
 have c4 : w3.cell? ⟨g3, 4, none⟩ = some (.slice a4 l5.length k4) := (za K3.out 4).trans rfl
 have c5 : w3.cell? ⟨g3, 5, none⟩ = some (.bool z6) := (za K3.out 5).trans rfl
 by_cases hG : goodB Z = true
 ·have GG := am_ (goodB_iff.1 hG)
  have HG1 := am_ hG
  rw [hG]
  have CO2 := CO.out hG
  clear hG
  obtain rfl : z6 = false := by have := GG.out.1; rw [HZ.out] at this; exact this
  have N1 := am_ (show 1 ≤ z1 ∧ z1 ≤ 256 by have := GG.out.2.1; rw [HZ.out] at this; exact this)
  obtain ⟨xss, hm3, hxs, hco⟩ := CO2
  have hm3 : m3 = xss.length := hm3
  subst hm3
  have XSS := am_ hxs
  have COL := am_ (show Cols z4 z4.length xss by have h := hco; rw [HZ.out] at h; exact h)
  clear hxs hco CO
  by_cases hl : (la.length : Int) = z1 + 1
  ·have hw1 : wrap64 (z1 + 1) = z1 + 1 := w64 _ (by have := N1.out; omega) (by have := N1.out; omega)
   have q1 : ((la.length : Int) != z1 + 1) = false := bne_eq_false_iff_eq.mpr hl
   have HL := am_ (show (a.length : Int) = z1 + 1 by have := LA.out; omega)
   clear hl
   cases hall : a.all fo
   ·have HAL := am_ hall
    clear hall
    go_wp2_with (first
  | ((with_reducible refine zk (N := 9) rfl ?_); refine zaq 9 (cs := #[.int .i64 0, .slice none 0 0, .slice none 0 0, .slice none 0 0, .slice none 0 0]) (t := 145) ?_; intro g9 hg_ w4 hw_ hb_; have N39 := am_ (show g3 ≠ g9 by have := zaa K3.out; omega); have L9 := am_ (show w.heap.size ≤ g9 by have := HB.out.size; omega); have LW := am_ (show w3.heap.size ≤ g9 by omega); have B34 := am_ hb_; replace HB := am_ (zb HB.out hb_); replace K3 := am_ (zh K3.out hb_); have K9 := am_ hw_; clear hg_ hw_ hb_ c0 c1 c2 c3 c4 c5)
  | ((with_reducible refine zr (t := 145) (p := 9) rfl ?_); refine zn rfl 145 rfl rfl g9 #[.int .i64 n0, .slice B1 m1 d1, .slice B2 m2 d2, .slice B3_ xss.length d3, .slice B4 m4 d4] rfl rfl 145 _ K9.out (zaO.trans rfl) rfl (by simp [Value.oneCell']) ?_; intro w5 hw_ hg_; replace HB := am_ (HB.out.grown hg_ HB.out.size (fun k_ hk_ => by cases hk_; exact L9.out)); replace B34 := am_ (B34.out.grown hg_ B34.out.size (fun k_ hk_ => by cases hk_; exact LW.out)); replace K9 := am_ hw_; replace K3 := am_ (zx hg_ K3.out (fun e => N39.out (Option.some.inj e))); clear hw_ hg_; have c0 : w5.cell? ⟨g3, 0, none⟩ = some (.int .i64 z1) := (za K3.out 0).trans rfl; have c1 : w5.cell? ⟨g3, 1, none⟩ = some (.slice a1 l2.length k1) := (za K3.out 1).trans rfl; have c2 : w5.cell? ⟨g3, 2, none⟩ = some (.slice a2 z3.length k2) := (za K3.out 2).trans rfl; have c3 : w5.cell? ⟨g3, 3, none⟩ = some (.slice a3 l4.length k3) := (za K3.out 3).trans rfl; have c4 : w5.cell? ⟨g3, 4, none⟩ = some (.slice a4 l5.length k4) := (za K3.out 4).trans rfl; have c5 : w5.cell? ⟨g3, 5, none⟩ = some (.bool false) := (za K3.out 5).trans rfl)
  | fail)
    go_ret
    exact ⟨by rw [← RES.out]; unfold seenV; rw [if_neg (by rw [HAL.out, Bool.and_false]; decide)]; rfl, HB.out⟩
   ·have HAL := am_ hall
    have NXS := am_ (NX.out hall)
    clear hall
    go_wp2_with (first
  | ((with_reducible refine zk (N := 9) rfl ?_); refine zaq 9 (cs := #[.int .i64 0, .slice none 0 0, .slice none 0 0, .slice none 0 0, .slice none 0 0]) (t := 145) ?_; intro g9 hg_ w4 hw_ hb_; have N39 := am_ (show g3 ≠ g9 by have := zaa K3.out; omega); have L9 := am_ (show w.heap.size ≤ g9 by have := HB.out.size; omega); have LW := am_ (show w3.heap.size ≤ g9 by omega); have B34 := am_ hb_; replace HB := am_ (zb HB.out hb_); replace K3 := am_ (zh K3.out hb_); have K9 := am_ hw_; clear hg_ hw_ hb_ c0 c1 c2 c3 c4 c5)
  | ((with_reducible refine zr (t := 145) (p := 9) rfl ?_); refine zn rfl 145 rfl rfl g9 #[.int .i64 n0, .slice B1 m1 d1, .slice B2 m2 d2, .slice B3_ xss.length d3, .slice B4 m4 d4] rfl rfl 145 _ K9.out (zaO.trans rfl) rfl (by simp [Value.oneCell']) ?_; intro w5 hw_ hg_; replace HB := am_ (HB.out.grown hg_ HB.out.size (fun k_ hk_ => by cases hk_; exact L9.out)); replace B34 := am_ (B34.out.grown hg_ B34.out.size (fun k_ hk_ => by cases hk_; exact LW.out)); replace K9 := am_ hw_; replace K3 := am_ (zx hg_ K3.out (fun e => N39.out (Option.some.inj e))); clear hw_ hg_; have c0 : w5.cell? ⟨g3, 0, none⟩ = some (.int .i64 z1) := (za K3.out 0).trans rfl; have c1 : w5.cell? ⟨g3, 1, none⟩ = some (.slice a1 l2.length k1) := (za K3.out 1).trans rfl; have c2 : w5.cell? ⟨g3, 2, none⟩ = some (.slice a2 z3.length k2) := (za K3.out 2).trans rfl; have c3 : w5.cell? ⟨g3, 3, none⟩ = some (.slice a3 l4.length k3) := (za K3.out 3).trans rfl; have c4 : w5.cell? ⟨g3, 4, none⟩ = some (.slice a4 l5.length k4) := (za K3.out 4).trans rfl; have c5 : w5.cell? ⟨g3, 5, none⟩ = some (.bool false) := (za K3.out 5).trans rfl)
  | ((with_reducible refine zk (N := 12) rfl ?_); refine zaq 12 (cs := #[.bool false, .slice none 0 0, .int .i64 0]) (t := 101) ?_; intro g12 hg_ w6 hw_ hb_; have N3 := am_ (show g3 ≠ g12 ∧ g9 ≠ g12 by have := zaa K3.out; have := zaa K9.out; omega); have L12 := am_ (show w.heap.size ≤ g12 by have := HB.out.size; omega); have LW12 := am_ (show w3.heap.size ≤ g12 by have := B34.out.size; omega); replace HB := am_ (zb HB.out hb_); replace B34 := am_ (zb B34.out hb_); replace K3 := am_ (zh K3.out hb_); replace K9 := am_ (zh K9.out hb_); have K12 := am_ (show B3 w6 g12 false none 0 0 0 from hw_); clear hg_ hw_ hb_ c0 c1 c2 c3 c4 c5)
  | ((with_reducible refine zr (t := 101) (p := 12) rfl ?_); refine zn rfl 101 rfl rfl g12 #[.bool false, .slice none 0 0, .int .i64 0] rfl rfl 101 _ K12.out (NW.zav.trans rfl) rfl (zaC _ _ _ _ _) ?_; intro w7 hw_ hg_; replace HB := am_ (HB.out.grown hg_ HB.out.size (fun k_ hk_ => by cases hk_; exact L12.out)); replace B34 := am_ (B34.out.grown hg_ B34.out.size (fun k_ hk_ => by cases hk_; exact LW12.out)); replace K3 := am_ (zx hg_ K3.out (fun e => N3.out.1 (Option.some.inj e))); replace K9 := am_ (zx hg_ K9.out (fun e => N3.out.2 (Option.some.inj e))); replace K12 := am_ (show B3 w7 g12 false none 0 0 0 from hw_); clear hw_ hg_)
  | fail)
    replace K12 := am_ (show B3 w7 g12 false none ([] : List Int).length 0 0 from K12.out)
    clear hw1 q1
    go_loopg [11, 13] z3.length (fun m v11 v13 wr => ∃ (i : Nat) (nb : Bool) (C : Option Addr) (cc : Nat) (l : List Int) (e : Int), v11 = .int .i64 (pk (colsN Z a k i)).1 ∧ v13 = .int .i64 (i : Int) ∧ Aside0 (i + m = z3.length) ∧ Aside0 (B3 wr g12 nb C l.length cc e) ∧ Aside0 (Ru wr C cc l 200) ∧ Aside0 (Eb e ∧ NV nb l e = (pk (colsN Z a k i)).2 * 2 ^ 1788) ∧ Aside0 (wr.heap[g3]? = some (.cells #[.int .i64 z1, .slice a1 l2.length k1, .slice a2 z3.length k2, .slice a3 l4.length k3, .slice a4 l5.length k4, .bool false] 74 (0, 0))) ∧ Aside0 (wr.heap[g9]? = some (.cells #[.int .i64 n0, .slice B1 m1 d1, .slice B2 m2 d2, .slice B3_ xss.length d3, .slice B4 m4 d4] 145 (0, 0))) ∧ Aside0 (Below w3.heap.size w3 wr) ∧ Aside0 (Below w.heap.size w wr))
    case atStart => exact ⟨0, false, none, 0, [], 0, rfl, rfl, ⟨by omega⟩, K12, ⟨Ru.nil _ _⟩, ⟨⟨by decide, by decide⟩, by rw [NV_nil]; exact (Int.zero_mul _).symm⟩, K3, K9, B34, HB⟩
    case round =>
     clear K12 K3 K9 B34 HB
     obtain ⟨i, nb, C, cc, l, e, rfl, rfl, hm, K12, RC, EV, K3, K9, B34, HB⟩ := hrel
     have c0 : wr.cell? ⟨g3, 0, none⟩ = some (.int .i64 z1) := (za K3.out 0).trans rfl
     have c1 : wr.cell? ⟨g3, 1, none⟩ = some (.slice a1 l2.length k1) := (za K3.out 1).trans rfl
     have c2 : wr.cell? ⟨g3, 2, none⟩ = some (.slice a2 z3.length k2) := (za K3.out 2).trans rfl
     have c3 : wr.cell? ⟨g3, 3, none⟩ = some (.slice a3 l4.length k3) := (za K3.out 3).trans rfl
     have c4 : wr.cell? ⟨g3, 4, none⟩ = some (.slice a4 l5.length k4) := (za K3.out 4).trans rfl
     have c5 : wr.cell? ⟨g3, 5, none⟩ = some (.bool false) := (za K3.out 5).trans rfl
     by_cases hx : i < z3.length
     ·have HX := am_ hx
      have EI := am_ (show Z.ids = z3 by rw [HZ.out])
      have EG := am_ (show Z.G = z4 by rw [HZ.out])
      have EN := am_ (show Z.N = z1 by rw [HZ.out])
      have NG := am_ (show z3.length = z4.length by have h := GG.out.2.2.2.2.1; rwa [EI.out, EG.out] at h)
      have p2 := eq_true (show (i : Int) < (z3.length : Int) by omega)
      have p4 := decide_eq_true (show (i : Int) < (z3.length : Int) by omega)
      have p3 := eq_true hx
      have p5 := eq_true (show (0 : Int) ≤ (i : Int) by omega)
      have p6 := eq_true (show i < xss.length by have := COL.out.1; have := NG.out; omega)
      have p7 := eq_true (show (i : Int) < (xss.length : Int) by have := COL.out.1; have := NG.out; omega)
      obtain ⟨ai, eai, hci⟩ := Kd.z8 (Q2.out.step HB.out).row (i : Int) (by omega) (by omega)
      cases eai
      rw [Int.toNat_natCast] at hci
      obtain ⟨ag, Ak, ck, eag, hcg, _, hrk⟩ := at_L7 (Kd.zB XSS.out B34.out) (i : Int) (by omega) (by have := COL.out.1; have := NG.out; omega)
      cases eag
      rw [Int.toNat_natCast] at hcg
      have HCI3 := am_ (show ∀ w0 : World, Below w.heap.size w w0 → w0.cell? (ai.add i) = some (.int .i64 (rd z3 (i : Int))) from fun W hW => by obtain ⟨ai2, e2, h2⟩ := Kd.z8 (Q2.out.step hW).row (i : Int) (by omega) (by omega); cases e2; rwa [Int.toNat_natCast] at h2)
      have HGI := am_ hrk
      have HNI := am_ (COL.out.2 i (by have := NG.out; omega))
      have HROW := am_ (show ((rdl z4 i).length : Int) = z1 by have h := (rowB_iff (GG.out.2.2.2.2.2.2 i (by rw [EI.out]; exact hx)).2.2).2; rwa [EG.out, EN.out] at h)
      have HCOL := am_ (show colsN Z a k (i + 1) = colsN Z a k i ++ (if rd z3 (i : Int) < k then [(rd z3 (i : Int), zaX (dotN a (rdl z4 i) (rdl z4 i).length))] else []) by show colsN Z a k i ++ _ = _; rw [EI.out, EG.out])
      have e9 : wr.cell? ⟨g9, 3, none⟩ = some (.slice (some ag) xss.length d3) := (za K9.out 3).trans rfl
      clear hx hrk hci
      generalize rd z3 (i : Int) = id at *
      generalize rdl z4 i = us at *
      generalize rd_L7 xss (i : Int) = ys at *
      generalize hL : colsN Z a k i = L at *
      have HCL := am_ hL
      clear hL
      go_wp2_with fail
      have XSr := Kd.zB XS.out B34.out
      refine (weighs_calls a us Bx dx xs Ak ck ys wr XSr HGI.out NXS.out HNI.out (by have := HROW.out; have := HL.out; omega) (by have := HROW.out; have := N1.out; omega)).mono ?_
      clear XSr
      rintro e_ w8 ⟨nw, Aw, cw, lw, ew, rfl, rw_, ebw, vw, hb_⟩
      have RW := am_ rw_
      have EW := am_ ebw
      have VW := am_ vw
      replace HB := am_ (zb HB.out hb_)
      replace B34 := am_ (zb B34.out hb_)
      replace K3 := am_ (zh K3.out hb_)
      replace K9 := am_ (zh K9.out hb_)
      replace K12 := am_ (K12.out.step hb_)
      replace RC := am_ (RC.out.step hb_)
      clear rw_ ebw vw hb_ hcg e9 c0 c1 c2 c3 c4 c5
      go_wp2_with fail
      refine (size_n nw Aw lw.length cw ew w8).mono ?_
      rintro e_ w9 ⟨rfl, hb_⟩
      replace HB := am_ (zb HB.out hb_)
      replace B34 := am_ (zb B34.out hb_)
      replace K3 := am_ (zh K3.out hb_)
      replace K9 := am_ (zh K9.out hb_)
      replace K12 := am_ (K12.out.step hb_)
      replace RC := am_ (RC.out.step hb_)
      replace RW := am_ (RW.out.step hb_)
      clear hb_
      have VS := am_ (show NV false lw ew = zaX (dotN a us us.length) * 2 ^ 1788 by rw [NV_size (nb := nw) RW.out.u, VW.out, absI_scale])
      by_cases hk : id < k
      ·have k1_ := eq_true hk
       have k2_ := decide_eq_true hk
       have HK := am_ hk
       clear hk
       go_wp2_with (first
  | ((with_reducible refine zk (N := 14) rfl ?_); refine zaq 14 (cs := #[.bool false, .slice none 0 0, .int .i64 0]) (t := 101) ?_; intro g14 hg_ w10 hw_ hb_; have NX14 := am_ (show g3 ≠ g14 ∧ g9 ≠ g14 ∧ g12 ≠ g14 by have := zaa K3.out; have := zaa K9.out; have := K12.out.lt; omega); have L14 := am_ (show w.heap.size ≤ g14 ∧ w3.heap.size ≤ g14 by have := HB.out.size; have := B34.out.size; omega); replace HB := am_ (zb HB.out hb_); replace B34 := am_ (zb B34.out hb_); replace K3 := am_ (zh K3.out hb_); replace K9 := am_ (zh K9.out hb_); replace K12 := am_ (K12.out.step hb_); replace RC := am_ (RC.out.step hb_); replace RW := am_ (RW.out.step hb_); have K14 := am_ (show B3 w10 g14 false none 0 0 0 from hw_); clear hg_ hw_ hb_)
  | ((with_reducible refine zr (t := 101) (p := 14) rfl ?_); refine zn rfl 101 rfl rfl g14 #[.bool false, .slice Aw lw.length cw, .int .i64 ew] rfl rfl 101 _ K14.out (NW.zav.trans rfl) rfl (zaC _ _ _ _ _) ?_; intro w11 hw_ hg_; replace HB := am_ (HB.out.grown hg_ HB.out.size (fun k_ hk_ => by cases hk_; exact L14.out.1)); replace B34 := am_ (B34.out.grown hg_ B34.out.size (fun k_ hk_ => by cases hk_; exact L14.out.2)); replace K3 := am_ (zx hg_ K3.out (fun e => NX14.out.1 (Option.some.inj e))); replace K9 := am_ (zx hg_ K9.out (fun e => NX14.out.2.1 (Option.some.inj e))); replace K12 := am_ (K12.out.put hg_ NX14.out.2.2); replace RC := am_ (RC.out.put K14.out hg_); replace RW := am_ (RW.out.put K14.out hg_); replace K14 := am_ (show B3 w11 g14 false Aw lw.length cw ew from hw_); clear hw_ hg_; have c0 : w11.cell? ⟨g3, 0, none⟩ = some (.int .i64 z1) := (za K3.out 0).trans rfl; have c1 : w11.cell? ⟨g3, 1, none⟩ = some (.slice a1 l2.length k1) := (za K3.out 1).trans rfl; have c2 : w11.cell? ⟨g3, 2, none⟩ = some (.slice (some ai) z3.length k2) := (za K3.out 2).trans rfl; have c3 : w11.cell? ⟨g3, 3, none⟩ = some (.slice a3 l4.length k3) := (za K3.out 3).trans rfl; have c4 : w11.cell? ⟨g3, 4, none⟩ = some (.slice a4 l5.length k4) := (za K3.out 4).trans rfl; have c5 : w11.cell? ⟨g3, 5, none⟩ = some (.bool false) := (za K3.out 5).trans rfl; have hci := HCI3.out w11 HB.out; have x0 := K14.out.c0; have x1 := K14.out.c1; have x2 := K14.out.c2; have y0 := K12.out.c0; have y1 := K12.out.c1; have y2 := K12.out.c2)
  | fail)
       have cc_ := cmp_v false nb Aw cw lw ew C cc l e w11 RW.out RC.out EW.out EV.out.1
       rw [VS.out, EV.out.2] at cc_
       generalize hsg : sgnI (zaX (dotN a us us.length) * 2 ^ 1788 - (pk L).2 * 2 ^ 1788) = sg at *
       have SGN := am_ (show 0 < sg ↔ (pk L).2 < zaX (dotN a us us.length) by rw [← hsg]; exact sgn_scale _ _)
       clear hsg
       refine cc_.mono ?_
       clear cc_
       rintro e_ w12 ⟨rfl, hb_⟩
       replace HB := am_ (zb HB.out hb_)
       replace B34 := am_ (zb B34.out hb_)
       replace K3 := am_ (zh K3.out hb_)
       replace K9 := am_ (zh K9.out hb_)
       replace K12 := am_ (K12.out.step hb_)
       replace RC := am_ (RC.out.step hb_)
       replace RW := am_ (RW.out.step hb_)
       replace K14 := am_ (K14.out.step hb_)
       clear hb_ hci x0 x1 x2 y0 y1 y2 c0 c1 c2 c3 c4 c5
       by_cases hsp : 0 < sg
       ·have s1 := eq_true hsp
        have s2 := decide_eq_true hsp
        have HPK := am_ (show pk (colsN Z a k (i + 1)) = (id, zaX (dotN a us us.length)) by rw [HCOL.out, if_pos HK.out, pk_step, if_pos (SGN.out.1 hsp)])
        clear hsp
        have c0 : w12.cell? ⟨g3, 0, none⟩ = some (.int .i64 z1) := (za K3.out 0).trans rfl
        have c1 : w12.cell? ⟨g3, 1, none⟩ = some (.slice a1 l2.length k1) := (za K3.out 1).trans rfl
        have c2 : w12.cell? ⟨g3, 2, none⟩ = some (.slice (some ai) z3.length k2) := (za K3.out 2).trans rfl
        have c3 : w12.cell? ⟨g3, 3, none⟩ = some (.slice a3 l4.length k3) := (za K3.out 3).trans rfl
        have c4 : w12.cell? ⟨g3, 4, none⟩ = some (.slice a4 l5.length k4) := (za K3.out 4).trans rfl
        have c5 : w12.cell? ⟨g3, 5, none⟩ = some (.bool false) := (za K3.out 5).trans rfl
        have hci := HCI3.out w12 HB.out
        have x0 := K14.out.c0
        have x1 := K14.out.c1
        have x2 := K14.out.c2
        go_wp2_with (first
  | ((with_reducible refine zr (t := 101) (p := 12) rfl ?_); refine zn rfl 101 rfl rfl g12 #[.bool false, .slice Aw lw.length cw, .int .i64 ew] rfl rfl 101 _ K12.out (NW.zav.trans rfl) rfl (zaC _ _ _ _ _) ?_; intro w13 hw_ hg_; replace HB := am_ (HB.out.grown hg_ HB.out.size (fun k_ hk_ => by cases hk_; exact L12.out)); replace B34 := am_ (B34.out.grown hg_ B34.out.size (fun k_ hk_ => by cases hk_; exact LW12.out)); replace K3 := am_ (zx hg_ K3.out (fun e => N3.out.1 (Option.some.inj e))); replace K9 := am_ (zx hg_ K9.out (fun e => N3.out.2 (Option.some.inj e))); replace RW := am_ (RW.out.put K12.out hg_); replace K12 := am_ (show B3 w13 g12 false Aw lw.length cw ew from hw_); clear hw_ hg_)
  | fail)
        go_roundg (gk - 1)
        case measure => have := hm.out; have := HX.out; omega
        case rel => exact ⟨i + 1, false, Aw, cw, lw, ew, by rw [HPK.out], by first | rfl | (rw [w64 _ (by omega) (by have := HX.out; have := S3.out; omega)]; rfl), ⟨by have := hm.out; have := HX.out; omega⟩, K12, RW, ⟨EW.out, by rw [VS.out, HPK.out]⟩, K3, K9, B34, HB⟩
       ·have s1 := eq_false hsp
        have s2 := decide_eq_false hsp
        have HPK := am_ (show pk (colsN Z a k (i + 1)) = pk L by rw [HCOL.out, if_pos HK.out, pk_step, if_neg (fun h => hsp (SGN.out.2 h))])
        clear hsp
        go_wp2_with fail
        go_roundg (gk - 1)
        case measure => have := hm.out; have := HX.out; omega
        case rel => exact ⟨i + 1, nb, C, cc, l, e, by rw [HPK.out], by first | rfl | (rw [w64 _ (by omega) (by have := HX.out; have := S3.out; omega)]; rfl), ⟨by have := hm.out; have := HX.out; omega⟩, K12, RC, ⟨EV.out.1, by rw [EV.out.2, HPK.out]⟩, K3, K9, B34, HB⟩
      ·have k1_ := eq_false hk
       have k2_ := decide_eq_false hk
       have HPK := am_ (show pk (colsN Z a k (i + 1)) = pk L by rw [HCOL.out, if_neg hk, List.append_nil])
       clear hk
       go_wp2_with (first
  | ((with_reducible refine zk (N := 14) rfl ?_); refine zaq 14 (cs := #[.bool false, .slice none 0 0, .int .i64 0]) (t := 101) ?_; intro g14 hg_ w10 hw_ hb_; have NX14 := am_ (show g3 ≠ g14 ∧ g9 ≠ g14 ∧ g12 ≠ g14 by have := zaa K3.out; have := zaa K9.out; have := K12.out.lt; omega); have L14 := am_ (show w.heap.size ≤ g14 ∧ w3.heap.size ≤ g14 by have := HB.out.size; have := B34.out.size; omega); replace HB := am_ (zb HB.out hb_); replace B34 := am_ (zb B34.out hb_); replace K3 := am_ (zh K3.out hb_); replace K9 := am_ (zh K9.out hb_); replace K12 := am_ (K12.out.step hb_); replace RC := am_ (RC.out.step hb_); replace RW := am_ (RW.out.step hb_); have K14 := am_ (show B3 w10 g14 false none 0 0 0 from hw_); clear hg_ hw_ hb_)
  | ((with_reducible refine zr (t := 101) (p := 14) rfl ?_); refine zn rfl 101 rfl rfl g14 #[.bool false, .slice Aw lw.length cw, .int .i64 ew] rfl rfl 101 _ K14.out (NW.zav.trans rfl) rfl (zaC _ _ _ _ _) ?_; intro w11 hw_ hg_; replace HB := am_ (HB.out.grown hg_ HB.out.size (fun k_ hk_ => by cases hk_; exact L14.out.1)); replace B34 := am_ (B34.out.grown hg_ B34.out.size (fun k_ hk_ => by cases hk_; exact L14.out.2)); replace K3 := am_ (zx hg_ K3.out (fun e => NX14.out.1 (Option.some.inj e))); replace K9 := am_ (zx hg_ K9.out (fun e => NX14.out.2.1 (Option.some.inj e))); replace K12 := am_ (K12.out.put hg_ NX14.out.2.2); replace RC := am_ (RC.out.put K14.out hg_); replace RW := am_ (RW.out.put K14.out hg_); replace K14 := am_ (show B3 w11 g14 false Aw lw.length cw ew from hw_); clear hw_ hg_; have c0 : w11.cell? ⟨g3, 0, none⟩ = some (.int .i64 z1) := (za K3.out 0).trans rfl; have c1 : w11.cell? ⟨g3, 1, none⟩ = some (.slice a1 l2.length k1) := (za K3.out 1).trans rfl; have c2 : w11.cell? ⟨g3, 2, none⟩ = some (.slice (some ai) z3.length k2) := (za K3.out 2).trans rfl; have c3 : w11.cell? ⟨g3, 3, none⟩ = some (.slice a3 l4.length k3) := (za K3.out 3).trans rfl; have c4 : w11.cell? ⟨g3, 4, none⟩ = some (.slice a4 l5.length k4) := (za K3.out 4).trans rfl; have c5 : w11.cell? ⟨g3, 5, none⟩ = some (.bool false) := (za K3.out 5).trans rfl; have hci := HCI3.out w11 HB.out; have x0 := K14.out.c0; have x1 := K14.out.c1; have x2 := K14.out.c2; have y0 := K12.out.c0; have y1 := K12.out.c1; have y2 := K12.out.c2)
  | fail)
       go_roundg (gk - 1)
       case measure => have := hm.out; have := HX.out; omega
       case rel => exact ⟨i + 1, nb, C, cc, l, e, by rw [HPK.out], by first | rfl | (rw [w64 _ (by omega) (by have := HX.out; have := S3.out; omega)]; rfl), ⟨by have := hm.out; have := HX.out; omega⟩, K12, RC, ⟨EV.out.1, by rw [EV.out.2, HPK.out]⟩, K3, K9, B34, HB⟩
     ·have p2 := eq_false (show ¬ (i : Int) < (z3.length : Int) by omega)
      have p4 := decide_eq_false (show ¬ (i : Int) < (z3.length : Int) by omega)
      obtain rfl : i = z3.length := by have := hm.out; omega
      have QR := am_ (show res = (pk (colsN Z a k z3.length)).1 by rw [← RES.out]; unfold seenV; rw [if_pos (by rw [HG1.out, HAL.out, show Z.N = z1 by rw [HZ.out], decide_eq_true HL.out]; rfl), show Z.ids = z3 by rw [HZ.out]])
      clear hx hm
      generalize (pk (colsN Z a k z3.length)).1 = rr at *
      go_wp2_with fail
      go_ret
      exact ⟨by rw [QR.out]; first | done | rfl, HB.out⟩
  ·have hw1 : wrap64 (z1 + 1) = z1 + 1 := w64 _ (by have := N1.out; omega) (by have := N1.out; omega)
   have q1 : ((la.length : Int) != z1 + 1) = true := by rw [bne_iff_ne]; exact hl
   have HL := am_ (show ¬ (a.length : Int) = z1 + 1 by have := LA.out; omega)
   clear hl
   go_wp2_with (first
  | ((with_reducible refine zk (N := 9) rfl ?_); refine zaq 9 (cs := #[.int .i64 0, .slice none 0 0, .slice none 0 0, .slice none 0 0, .slice none 0 0]) (t := 145) ?_; intro g9 hg_ w4 hw_ hb_; have N39 := am_ (show g3 ≠ g9 by have := zaa K3.out; omega); have L9 := am_ (show w.heap.size ≤ g9 by have := HB.out.size; omega); have LW := am_ (show w3.heap.size ≤ g9 by omega); have B34 := am_ hb_; replace HB := am_ (zb HB.out hb_); replace K3 := am_ (zh K3.out hb_); have K9 := am_ hw_; clear hg_ hw_ hb_ c0 c1 c2 c3 c4 c5)
  | ((with_reducible refine zr (t := 145) (p := 9) rfl ?_); refine zn rfl 145 rfl rfl g9 #[.int .i64 n0, .slice B1 m1 d1, .slice B2 m2 d2, .slice B3_ xss.length d3, .slice B4 m4 d4] rfl rfl 145 _ K9.out (zaO.trans rfl) rfl (by simp [Value.oneCell']) ?_; intro w5 hw_ hg_; replace HB := am_ (HB.out.grown hg_ HB.out.size (fun k_ hk_ => by cases hk_; exact L9.out)); replace B34 := am_ (B34.out.grown hg_ B34.out.size (fun k_ hk_ => by cases hk_; exact LW.out)); replace K9 := am_ hw_; replace K3 := am_ (zx hg_ K3.out (fun e => N39.out (Option.some.inj e))); clear hw_ hg_; have c0 : w5.cell? ⟨g3, 0, none⟩ = some (.int .i64 z1) := (za K3.out 0).trans rfl; have c1 : w5.cell? ⟨g3, 1, none⟩ = some (.slice a1 l2.length k1) := (za K3.out 1).trans rfl; have c2 : w5.cell? ⟨g3, 2, none⟩ = some (.slice a2 z3.length k2) := (za K3.out 2).trans rfl; have c3 : w5.cell? ⟨g3, 3, none⟩ = some (.slice a3 l4.length k3) := (za K3.out 3).trans rfl; have c4 : w5.cell? ⟨g3, 4, none⟩ = some (.slice a4 l5.length k4) := (za K3.out 4).trans rfl; have c5 : w5.cell? ⟨g3, 5, none⟩ = some (.bool false) := (za K3.out 5).trans rfl)
  | fail)
   go_ret
   exact ⟨by rw [← RES.out]; unfold seenV; rw [if_neg (by rw [show Z.N = z1 by rw [HZ.out], decide_eq_false HL.out, Bool.and_false, Bool.false_and]; decide)]; rfl, HB.out⟩
 ·have HG1 := am_ (show goodB Z = false by simpa using hG)
  rw [HG1.out]
  clear hG CO
  go_wp2_with (first
  | ((with_reducible refine zk (N := 9) rfl ?_); refine zaq 9 (cs := #[.int .i64 0, .slice none 0 0, .slice none 0 0, .slice none 0 0, .slice none 0 0]) (t := 145) ?_; intro g9 hg_ w4 hw_ hb_; have N39 := am_ (show g3 ≠ g9 by have := zaa K3.out; omega); have L9 := am_ (show w.heap.size ≤ g9 by have := HB.out.size; omega); have LW := am_ (show w3.heap.size ≤ g9 by omega); have B34 := am_ hb_; replace HB := am_ (zb HB.out hb_); replace K3 := am_ (zh K3.out hb_); have K9 := am_ hw_; clear hg_ hw_ hb_ c0 c1 c2 c3 c4 c5)
  | ((with_reducible refine zr (t := 145) (p := 9) rfl ?_); refine zn rfl 145 rfl rfl g9 #[.int .i64 n0, .slice B1 m1 d1, .slice B2 m2 d2, .slice B3_ m3 d3, .slice B4 m4 d4] rfl rfl 145 _ K9.out (zaO.trans rfl) rfl (by simp [Value.oneCell']) ?_; intro w5 hw_ hg_; replace HB := am_ (HB.out.grown hg_ HB.out.size (fun k_ hk_ => by cases hk_; exact L9.out)); replace B34 := am_ (B34.out.grown hg_ B34.out.size (fun k_ hk_ => by cases hk_; exact LW.out)); replace K9 := am_ hw_; replace K3 := am_ (zx hg_ K3.out (fun e => N39.out (Option.some.inj e))); clear hw_ hg_; have c0 : w5.cell? ⟨g3, 0, none⟩ = some (.int .i64 z1) := (za K3.out 0).trans rfl; have c1 : w5.cell? ⟨g3, 1, none⟩ = some (.slice a1 l2.length k1) := (za K3.out 1).trans rfl; have c2 : w5.cell? ⟨g3, 2, none⟩ = some (.slice a2 z3.length k2) := (za K3.out 2).trans rfl; have c3 : w5.cell? ⟨g3, 3, none⟩ = some (.slice a3 l4.length k3) := (za K3.out 3).trans rfl; have c4 : w5.cell? ⟨g3, 4, none⟩ = some (.slice a4 l5.length k4) := (za K3.out 4).trans rfl; have c5 : w5.cell? ⟨g3, 5, none⟩ = some (.bool z6) := (za K3.out 5).trans rfl)
  | fail)
  go_ret
  exact ⟨by rw [← RES.out]; unfold seenV; rw [if_neg (by rw [HG1.out, Bool.false_and, Bool.false_and]; decide)]; rfl, HB.out⟩
theorem plus_w (n1 n2 : Bool) (A1 : Option Addr) (c1 : Nat) (l1 : List Int) (e1 : Int) (A2 : Option Addr) (c2 : Nat) (l2 : List Int) (e2 : Int) (w : World) (r1 : Ru w A1 c1 l1 200) (r2 : Ru w A2 c2 l2 200) (h1 : Eb e1 ∧ -1074 ≤ e1) (h2 : Eb e2 ∧ -1074 ≤ e2) (hb : zaX (NV n1 l1 e1 + NV n2 l2 e2) < 2 ^ 6400) :
  Calls Try.prog 80 #[.agg #[.bool n1, .slice A1 l1.length c1, .int .i64 e1], .agg #[.bool n2, .slice A2 l2.length c2, .int .i64 e2]] w fun o w' => ∃ nb A c l e, o = .returned (.agg #[.bool nb, .slice A (l : List Int).length c, .int .i64 e]) ∧ Ru w' A c l 200 ∧ (Eb e ∧ -1074 ≤ e) ∧ NV nb l e = NV n1 l1 e1 + NV n2 l2 e2 ∧ Below w.heap.size w w' := by
 obtain ⟨h1, m1⟩ := h1
 obtain ⟨h2, m2⟩ := h2
 refine (plus_calls n1 n2 A1 c1 l1 e1 A2 c2 l2 e2 200 w r1 r2 (by decide) ⟨⟨by have := h1.1; omega, by have := h1.2; omega⟩, by have := h2.1; omega, by have := h2.2; omega⟩).mono ?_
 rintro o w' ⟨nb, A, c, l, e, rfl, hr, hv, he, hbl⟩
 obtain ⟨q1, q2, q3⟩ := lvE_le l1 e1 l2 e2
 have hE : -1074 ≤ lvE l1 e1 l2 e2 ∧ lvE l1 e1 l2 e2 ≤ 3000 := by
  have := h1.2; have := h2.2
  rcases q3 with q | q <;> omega
 have heb : Eb e ∧ -1074 ≤ e := by
  rcases he with he | he
  ·rw [he.2]; exact ⟨⟨by decide, by decide⟩, by decide⟩
  ·rw [he]; exact ⟨⟨by omega, hE.2⟩, hE.1⟩
 have hval : NV nb l e = NV n1 l1 e1 + NV n2 l2 e2 := by
  have t1 := to_unit n1 l1 e1 _ (by omega) q1
  have t2 := to_unit n2 l2 e2 _ (by omega) q2
  have t3 : sv nb (nv l) * 2 ^ (lvE l1 e1 l2 e2 + 4000).toNat = NV n1 l1 e1 + NV n2 l2 e2 := by rw [hv, Int.add_mul, t1, t2]
  rcases he with he | he
  ·rw [← t3, List.length_eq_zero_iff.1 he.1, NV_nil, show nv [] = 0 from rfl, zbd, Int.zero_mul]
  ·rw [← t3, he]; rfl
 refine ⟨nb, A, c, l, e, rfl, ⟨hr.row, hr.cap, hr.u, hr.t, ?_⟩, heb, hval, hbl⟩
 have := len_of hr.u hr.t heb.1 5400 (by rw [hval]; exact hb)
 omega
theorem szT_NV {u : Nat} {x : S101} (h : OfV u x) : NV false x.f1 x.f2 = szT u 0 * 2 ^ 1788 := by
 rcases h.val with ⟨h1, h2⟩ | ⟨h1, h2, h3⟩
 ·unfold NV szT
  rw [h2, zbd, h1]
  generalize (2 : Int) ^ 1788 = p_
  simp
 ·unfold NV szT P22
  rw [h2, h3]
  have eu := fe_in u
  rw [show (fe u + 4000).toNat = (fe u - 0 + 2212).toNat + 1788 by omega, zaE, ← Int.mul_assoc]
  rfl
theorem szT_lev (u : Nat) (lev : Int) (h0 : 0 ≤ lev) (h8 : lev ≤ 8) : szT u lev * 2 ^ lev.toNat = szT u 0 := by
 have eu := fe_in u
 unfold szT P22
 rw [Int.mul_assoc, ← zaE, show (fe u - lev + 2212).toNat + lev.toNat = (fe u - 0 + 2212).toNat by omega]
theorem sizeT_lev (us : List Nat) (lev : Int) (h0 : 0 ≤ lev) (h8 : lev ≤ 8) : ∀ i, zbc us lev i * 2 ^ lev.toNat = zbc us 0 i
 | 0 => by simp [zbc]
 | i + 1 => by
  show (zbc us lev i + szT (rdn us i) lev) * 2 ^ lev.toNat = zbc us 0 i + szT (rdn us i) 0
  rw [Int.add_mul, sizeT_lev us lev h0 h8 i, szT_lev _ lev h0 h8]
/-- A sum, moved by a level. -/
theorem NV_moved {nb : Bool} {l : List Int} {e lev : Int} {us : List Nat} {i : Nat} (h0 : 0 ≤ lev) (h8 : lev ≤ 8) (he : Eb e ∧ -1074 ≤ e) (h : NV nb l e = zbc us 0 i * 2 ^ 1788) :
  NV nb l (if l.length = 0 then e else wrap64 (e + wrap64 (-lev))) = zbc us lev i * 2 ^ 1788 ∧ Eb (if l.length = 0 then e else wrap64 (e + wrap64 (-lev))) := by
 have w1 : wrap64 (-lev) = -lev := w64 _ (by omega) (by omega)
 have hs := sizeT_lev us lev h0 h8 i
 have hp := zab lev.toNat
 have hp2 := zab 1788
 have b1 := he.1.1
 have b2 := he.1.2
 by_cases hl : l.length = 0
 ·rw [if_pos hl]
  refine ⟨?_, he.1⟩
  rw [List.length_eq_zero_iff.1 hl, NV_nil] at h ⊢
  have hz : zbc us 0 i = 0 := by
   rcases Int.mul_eq_zero.1 h.symm with h | h
   ·exact h
   ·omega
  rw [hz] at hs
  rcases Int.mul_eq_zero.1 hs with h | h
  ·rw [h, Int.zero_mul]
  ·omega
 ·rw [if_neg hl, w1, w64 _ (by omega) (by omega)]
  refine ⟨?_, by omega, by omega⟩
  have e1 : NV nb l (e + -lev) * 2 ^ lev.toNat = NV nb l e := by
   unfold NV
   rw [Int.mul_assoc, ← zaE, show (e + -lev + 4000).toNat + lev.toNat = (e + 4000).toNat by omega]
  have e2 : NV nb l (e + -lev) * 2 ^ lev.toNat = zbc us lev i * 2 ^ 1788 * 2 ^ lev.toNat := by
   rw [e1, h, ← hs, Int.mul_assoc, Int.mul_assoc, Int.mul_comm (2 ^ lev.toNat)]
  exact Int.eq_of_mul_eq_mul_right (by omega) e2
def bys.T13 : Bool × List (List Nat × List Nat) := (true, [([], []), ([], []), ([], []), ([1, 2], [1, 2]), ([3], [3]), ([4], [4]), ([0, 5, 5], [0, 5]), ([6, 6, 0, 1, 2, 3, 4, 5, 6], [6])])
def bys.B13 : List Nat := [0, 0, 0, 6, 14, 30, 63, 127]
theorem bys.tab13 : rtab .any (opsOf Try.f55 13) = bys.T13 := by kernel_rfl
theorem bys.bits13 : zat bys.T13.2 bys.B13 = true := by kernel_rfl
def bys.T14 : Bool × List (List Nat × List Nat) := (true, [([], []), ([], []), ([1], [1]), ([], []), ([2, 3], [2, 3]), ([4], [4]), ([5], [5]), ([0, 6], [0, 6]), ([7, 7, 0, 1, 2, 3, 4, 5, 6, 7], [7])])
def bys.B14 : List Nat := [0, 0, 2, 0, 14, 30, 62, 127, 255]
theorem bys.tab14 : rtab .any (opsOf Try.f55 14) = bys.T14 := by kernel_rfl
theorem bys.bits14 : zat bys.T14.2 bys.B14 = true := by kernel_rfl
set_option maxRecDepth 100000 in
set_option maxHeartbeats 4000000 in
theorem bysize_calls (G : List (List Nat)) (Bg : Option Addr) (d : Nat) (A0 : Option Addr) (c0 : Nat) (lv : List Int) (A1 : Option Addr) (c1 : Nat) (at_ : List Int) (w : World) (hg : dU.C w Bg (G.map ku).length (G.map ku)) (hw : ∀ us, us ∈ G → Wf us ∧ us.length ≤ 2000000) (r0 : Rd w A0 c0 lv) (hk : chkE lv at_ G.length = 0) :
  Calls Try.prog 55 #[.slice Bg (G.map ku).length d, .agg #[.slice A0 lv.length c0, .slice A1 at_.length c1]] w fun e w' => e = .returned (.int .i64 (if (G.all fun us => us.all fo) = true then (pk (zbg G lv G.length)).1 else -1)) ∧ Below w.heap.size w w' := by
 have hu24 := Try.underlying24
 have hu101 := Try.underlying101
 obtain ⟨lg, hlg⟩ : ∃ l, l = G.map ku := ⟨_, rfl⟩
 rw [← hlg] at hg ⊢
 have HLG := am_ hlg
 have LG := am_ (show lg.length = G.length by rw [hlg, List.length_map])
 have QG := am_ hg
 have HW := am_ hw
 have R0 := am_ r0
 have CHK := am_ (chk_all hk)
 have LEN := am_ (show lv.length = G.length ∧ G.length ≤ 256 by have h1 := CHK.out.1; have h2 := CHK.out.2.1; omega)
 clear hlg hg hw r0 hk
 generalize hres : (if (G.all fun us => us.all fo) = true then (pk (zbg G lv G.length)).1 else -1) = res
 have RES := am_ hres
 clear hres
 go_enter Try.func55, Try.ntmps55
 go_wp2_with (first
  | ((with_reducible refine zk (N := 3) rfl ?_); refine zaq 3 (cs := #[.slice A0 lv.length c0, .slice A1 at_.length c1]) (t := 24) ?_; intro g3 hg_ w1 hw_ hb_; have HB := am_ hb_; have K3 := am_ (show w1.heap[g3]? = some (.cells #[.slice A0 lv.length c0, .slice A1 at_.length c1] 24 (0, 0)) from hw_); have L3 := am_ (show w.heap.size ≤ g3 by omega); clear hg_ hw_ hb_)
  | ((with_reducible refine zk (N := 6) rfl ?_); refine zaq 6 (cs := #[.bool false, .slice none 0 0, .int .i64 0]) (t := 101) ?_; intro g6 hg_ w2 hw_ hb_; have N36 := am_ (show g3 ≠ g6 by have := zaa K3.out; omega); have L6 := am_ (show w.heap.size ≤ g6 by have := HB.out.size; omega); replace HB := am_ (zb HB.out hb_); replace K3 := am_ (zh K3.out hb_); have K6 := am_ (show B3 w2 g6 false none 0 0 0 from hw_); clear hg_ hw_ hb_)
  | ((with_reducible refine zr (t := 101) (p := 6) rfl ?_); refine zn rfl 101 rfl rfl g6 #[.bool false, .slice none 0 0, .int .i64 0] rfl rfl 101 _ K6.out (NW.zav.trans rfl) rfl (zaC _ _ _ _ _) ?_; intro w3 hw_ hg_; replace HB := am_ (HB.out.grown hg_ HB.out.size (fun k_ hk_ => by cases hk_; exact L6.out)); replace K3 := am_ (zx hg_ K3.out (fun e => N36.out (Option.some.inj e))); replace K6 := am_ (show B3 w3 g6 false none 0 0 0 from hw_); clear hw_ hg_)
  | fail)
 go_loopg [5, 7] lg.length (fun m v5 v7 wr => ∃ (n : Nat) (nb : Bool) (C : Option Addr) (cc : Nat) (l : List Int) (e : Int), v5 = .int .i64 (pk (zbg G lv n)).1 ∧ v7 = .int .i64 (n : Int) ∧ Aside0 (n + m = lg.length) ∧ Aside0 (B3 wr g6 nb C l.length cc e) ∧ Aside0 (Ru wr C cc l 200) ∧ Aside0 (Eb e ∧ NV nb l e = (pk (zbg G lv n)).2 * 2 ^ 1788) ∧ Aside0 (((G.take n).all fun us => us.all fo) = true) ∧ Aside0 (wr.heap[g3]? = some (.cells #[.slice A0 lv.length c0, .slice A1 at_.length c1] 24 (0, 0))) ∧ Aside0 (Below w.heap.size w wr))
 case atStart => exact ⟨0, false, none, 0, [], 0, rfl, rfl, ⟨by omega⟩, K6, ⟨Ru.nil _ _⟩, ⟨⟨by decide, by decide⟩, by rw [NV_nil]; exact (Int.zero_mul _).symm⟩, ⟨rfl⟩, K3, HB⟩
 case round =>
  clear K6 K3 HB
  obtain ⟨n, nb, C, cc, l, e, rfl, rfl, hm, K6, RC, EV, HT, K3, HB⟩ := hrel
  by_cases hx : n < G.length
  ·have HX := am_ hx
   have p2 := eq_true (show (n : Int) < (lg.length : Int) by have := LG.out; omega)
   have p4 := decide_eq_true (show (n : Int) < (lg.length : Int) by have := LG.out; omega)
   have p3 := eq_true (show n < lg.length by have := LG.out; omega)
   have p5 := eq_true (show (0 : Int) ≤ (n : Int) by omega)
   have p6 := eq_true (show n < lv.length by have := LEN.out; omega)
   have p7 := eq_true (show (n : Int) < (lv.length : Int) by have := LEN.out; omega)
   obtain ⟨ag, Ak, ck, eag, hcg, hlk, hrk⟩ := at_L6 (Kd.zB QG.out HB.out) (n : Int) (by omega) (by have := LG.out; omega)
   cases eag
   rw [Int.toNat_natCast] at hcg
   have HUS := am_ (show rd_L6 lg (n : Int) = ku (rdl G n) by rw [HLG.out]; unfold rd_L6 rdl; rw [Int.toNat_natCast, List.getD_eq_getElem?_getD, List.getD_eq_getElem?_getD, List.getElem?_map]; cases G[n]? <;> rfl)
   rw [HUS.out] at hcg hlk hrk
   have HGK := am_ (And.intro hrk hlk)
   have HGW := am_ (HW.out _ (List.mem_of_getElem? (rdl_get hx)))
   have FIT := am_ (CHK.out.2.2.2 n (by have := LEN.out; omega))
   have HCL := am_ (show ∃ al, A0 = some al ∧ ∀ w0 : World, Below w.heap.size w w0 → w0.cell? (al.add n) = some (.int .i64 (rd lv (n : Int))) from by obtain ⟨al, e1, h1⟩ := Kd.z8 R0.out.row (n : Int) (by omega) (by have := LEN.out; omega); exact ⟨al, e1, fun W hW => by rw [Int.toNat_natCast] at h1; exact zu hW h1⟩)
   obtain ⟨al, eal, hcl⟩ := HCL.out
   cases eal
   have HCL2 := am_ hcl
   clear hcl HCL
   have HCOL := am_ (show zbg G lv (n + 1) = zbg G lv n ++ [((n : Int), zbc (rdl G n) (rd lv (n : Int)) (rdl G n).length)] from rfl)
   have HAL := am_ (fun h => alll_step (f := fun us => us.all fo) HT.out hx h)
   have HNO := am_ (fun h => alll_not (f := fun us => us.all fo) hx h)
   clear hx hrk hlk HUS
   generalize rdl G n = us at *
   generalize rd lv (n : Int) = lev at *
   generalize hL : zbg G lv n = L at *
   have HCLL := am_ hL
   clear hL
   go_wp2_with fail
   refine (exact_calls us Ak ck wr HGK.out.1 HGK.out.2 HGW.out.1 HGW.out.2).mono ?_
   rintro e_ w4 ⟨Bx, dx, xs, rfl, hsx, hnx, hb_⟩
   replace HB := am_ (zb HB.out hb_)
   replace K3 := am_ (zh K3.out hb_)
   replace K6 := am_ (K6.out.step hb_)
   replace RC := am_ (RC.out.step hb_)
   have XS := am_ (Kd.S_reads' hsx).2.2
   clear hsx hb_ hcg
   cases hall : us.all fo
   ·have HN2 := am_ (HNO.out hall)
    clear hall hnx
    go_wp2_with fail
    go_ret
    exact ⟨by rw [← RES.out, if_neg (by rw [HN2.out]; decide)]; first | done | rfl, HB.out⟩
   ·have NXS := am_ (hnx hall)
    have HA2 := am_ (HAL.out hall)
    clear hall hnx
    have HSX := am_ (show w4.heap.size = w4.heap.size from rfl)
    have XS0 := XS
    have BX := am_ (Below.refl w4.heap.size w4)
    go_wp2_with (first
  | ((with_reducible refine zk (N := 10) rfl ?_); refine zaq 10 (cs := #[.bool false, .slice none 0 0, .int .i64 0]) (t := 101) ?_; intro g10 hg_ w5 hw_ hb_; have NX := am_ (show g3 ≠ g10 ∧ g6 ≠ g10 by have := zaa K3.out; have := K6.out.lt; omega); have L10 := am_ (show w.heap.size ≤ g10 by have := HB.out.size; omega); replace HB := am_ (zb HB.out hb_); replace K3 := am_ (zh K3.out hb_); replace K6 := am_ (K6.out.step hb_); replace RC := am_ (RC.out.step hb_); replace XS := am_ (Kd.zB XS.out hb_); have K10 := am_ (show B3 w5 g10 false none 0 0 0 from hw_); have NSZ := am_ (Nat.le_of_eq hg_.symm); have WX := am_ hg_; replace BX := am_ (zb BX.out hb_); clear hg_ hw_ hb_)
  | ((with_reducible refine zr (t := 101) (p := 10) rfl ?_); refine zn rfl 101 rfl rfl g10 #[.bool false, .slice none 0 0, .int .i64 0] rfl rfl 101 _ K10.out (NW.zav.trans rfl) rfl (zaC _ _ _ _ _) ?_; intro w6 hw_ hg_; replace HB := am_ (HB.out.grown hg_ HB.out.size (fun k_ hk_ => by cases hk_; exact L10.out)); replace BX := am_ (BX.out.grown hg_ BX.out.size (fun k_ hk_ => by cases hk_; exact NSZ.out)); replace K3 := am_ (zx hg_ K3.out (fun e => NX.out.1 (Option.some.inj e))); replace K6 := am_ (K6.out.put hg_ NX.out.2); replace RC := am_ (RC.out.put K10.out hg_); replace K10 := am_ (show B3 w6 g10 false none 0 0 0 from hw_); clear hw_ hg_)
  | fail)
    clear XS WX HSX
    go_loopg [11] us.length (fun m v11 wr => ∃ (i : Nat) (nbi : Bool) (Ci : Option Addr) (cci : Nat) (li : List Int) (ei : Int), v11 = .int .i64 (i : Int) ∧ Aside0 (i + m = us.length) ∧ Aside0 (B3 wr g10 nbi Ci li.length cci ei) ∧ Aside0 (Ru wr Ci cci li 200) ∧ Aside0 ((Eb ei ∧ -1074 ≤ ei) ∧ NV nbi li ei = zbc us 0 i * 2 ^ 1788) ∧ Aside0 (B3 wr g6 nb C l.length cc e) ∧ Aside0 (Ru wr C cc l 200) ∧ Aside0 (wr.heap[g3]? = some (.cells #[.slice (some al) lv.length c0, .slice A1 at_.length c1] 24 (0, 0))) ∧ Aside0 (Below w4.heap.size w4 wr) ∧ Aside0 (Below w.heap.size w wr))
    case atStart => exact ⟨0, false, none, 0, [], 0, rfl, ⟨by omega⟩, K10, ⟨Ru.nil _ _⟩, ⟨⟨⟨by decide, by decide⟩, by decide⟩, by rw [NV_nil]; exact (Int.zero_mul _).symm⟩, K6, RC, K3, BX, HB⟩
    case round =>
     clear K10 K6 RC K3 BX HB
     obtain ⟨i, nbi, Ci, cci, li, ei, rfl, hmi, K10, RI, EI, K6, RC, K3, BX, HB⟩ := hrel
     by_cases hx : i < us.length
     ·have HXI := am_ hx
      have i1 := eq_true (show i < xs.length by have := NXS.out.1; omega)
      have i2 := eq_true (show (i : Int) < (xs.length : Int) by have := NXS.out.1; omega)
      have i4 := decide_eq_true (show (i : Int) < (xs.length : Int) by have := NXS.out.1; omega)
      have i3 := eq_true (show (0 : Int) ≤ (i : Int) by omega)
      obtain ⟨ax, Ax, cx, eax, x0, x1, x2, ox, rx⟩ := at_num XS0.out NXS.out i hx
      cases eax
      have OX := am_ ox
      have RX := am_ (rx 200 (by decide))
      have SZ := am_ (szT_NV ox)
      have DB := am_ (bound64 (sizeT_bound us 0 (Int.le_refl 0) (i + 1)) (by have := HGW.out.2; omega))
      have DS := am_ (show zbc us 0 (i + 1) = zbc us 0 i + szT (rdn us i) 0 from rfl)
      have HC := am_ (show ∀ w0 : World, Below w4.heap.size w4 w0 → w0.cell? (ax.add (i * 3)) = some (.bool (zas xs (i : Int)).f0) ∧ w0.cell? ⟨(ax.add (i * 3)).block, (ax.add (i * 3)).off + 1, none⟩ = some (.slice Ax (zas xs (i : Int)).f1.length cx) ∧ w0.cell? ⟨(ax.add (i * 3)).block, (ax.add (i * 3)).off + 2, none⟩ = some (.int .i64 (zas xs (i : Int)).f2) from fun W hW => ⟨zu hW x0, zu hW x1, zu hW x2⟩)
      clear hx ox rx x0 x1 x2
      generalize zas xs (i : Int) = x at *
      generalize szT (rdn us i) 0 = pr at *
      go_wp2_with fail
      have hb_ : Below wr.heap.size wr wr.drew := zR (Below.refl _ _)
      replace HB := am_ (zb HB.out hb_)
      replace BX := am_ (zb BX.out hb_)
      replace K3 := am_ (zh K3.out hb_)
      replace K6 := am_ (K6.out.step hb_)
      replace RC := am_ (RC.out.step hb_)
      replace K10 := am_ (K10.out.step hb_)
      replace RI := am_ (RI.out.step hb_)
      clear hb_
      refine zay (n := 8) (S := fun w' => w'.cell? ⟨g10, 0, none⟩ = some (.bool nbi) ∧ w'.cell? ⟨g10, 1, none⟩ = some (.slice Ci li.length cci) ∧ w'.cell? ⟨g10, 2, none⟩ = some (.int .i64 ei) ∧ w'.cell? (ax.add (i * 3)) = some (.bool x.f0) ∧ w'.cell? ⟨(ax.add (i * 3)).block, (ax.add (i * 3)).off + 1, none⟩ = some (.slice Ax x.f1.length cx) ∧ w'.cell? ⟨(ax.add (i * 3)).block, (ax.add (i * 3)).off + 2, none⟩ = some (.int .i64 x.f2)) (ds := [7]) (bl_ 8 0) (by kernel_rfl) rfl rfl ⟨K10.out.c0, K10.out.c1, K10.out.c2, (HC.out _ BX.out).1, (HC.out _ BX.out).2.1, (HC.out _ BX.out).2.2⟩ (fun hHeld => ?_); refine zT bys.tab13 bys.bits13 (fun HT_ HW_ => ?_)
      generalize wr.drew = v0 at HB BX K3 K6 RC K10 RI hHeld ⊢
      refine pu_ HT_ 1 37 (bl_ 8 2) ?_
      refine pu_ HT_ 2 38 (bl_ 8 6) ?_
      refine pu_ HT_ 3 39 (bl_ 8 14) ?_
      refine tk_ HT_ HW_ hHeld 0 36 (bl_ 8 15) ?_
      refine tk_ HT_ HW_ hHeld 4 40 (bl_ 8 31) ?_
      refine on_ HT_ 5 (some 41) (bl_ 8 63) fun K hK => ?_
      refine goes_ Try.func78 (by kernel_rfl) rfl #[.agg #[.bool x.f0, .slice Ax x.f1.length cx, .int .i64 x.f2]] (by rfl) rfl rfl (by (try simp only [List.map_toArray, List.map_cons, List.map_nil]); first | done | rfl) ?_
      refine (size_n x.f0 Ax x.f1.length cx x.f2 v0).mono ?_
      rintro o_ v1 ⟨rfl, hb_⟩
      refine ⟨_, rfl, ?_⟩
      replace HB := am_ (zb HB.out hb_)
      replace BX := am_ (zb BX.out hb_)
      replace K3 := am_ (zh K3.out hb_)
      replace K6 := am_ (K6.out.step hb_)
      replace RC := am_ (RC.out.step hb_)
      replace K10 := am_ (K10.out.step hb_)
      replace RI := am_ (RI.out.step hb_)
      clear hb_
      refine hK.out _ _ ⟨K10.out.c0, K10.out.c1, K10.out.c2, (HC.out _ BX.out).1, (HC.out _ BX.out).2.1, (HC.out _ BX.out).2.2⟩ (fun hHeld => ?_); clear hK K
      refine nm_ ?_
      refine on_ HT_ 6 (some 42) (bl_ 8 127) fun K hK => ?_
      refine goes_ Try.func80 (by kernel_rfl) rfl #[.agg #[.bool nbi, .slice Ci li.length cci, .int .i64 ei], .agg #[.bool false, .slice Ax x.f1.length cx, .int .i64 x.f2]] (by rfl) rfl rfl (by (try simp only [List.map_toArray, List.map_cons, List.map_nil]); first | done | rfl) ?_
      have SV := am_ (show NV nbi li ei + NV false x.f1 x.f2 = zbc us 0 (i + 1) * 2 ^ 1788 by rw [EI.out.2, SZ.out, DS.out, Int.add_mul])
      refine (plus_w nbi false Ci cci li ei Ax cx x.f1 x.f2 v1 RI.out (RX.out.step BX.out) EI.out.1 ⟨⟨by have := OX.out.2.2.2.2.2; omega, by have := OX.out.2.2.2.2.2; omega⟩, OX.out.2.2.2.2.2.1⟩ (by rw [SV.out]; exact DB.out)).mono ?_
      rintro o_ v2 ⟨n2, Ap, cp, lp, ep, rfl, rp, eb, vp, hb_⟩
      refine ⟨_, rfl, ?_⟩
      have RP := am_ rp
      have EP := am_ (And.intro eb (vp.trans SV.out))
      replace HB := am_ (zb HB.out hb_)
      replace BX := am_ (zb BX.out hb_)
      replace K3 := am_ (zh K3.out hb_)
      replace K6 := am_ (K6.out.step hb_)
      replace RC := am_ (RC.out.step hb_)
      replace K10 := am_ (K10.out.step hb_)
      clear rp eb vp hb_ RI
      refine hK.out _ _ ⟨K10.out.c0, K10.out.c1, K10.out.c2, (HC.out _ BX.out).1, (HC.out _ BX.out).2.1, (HC.out _ BX.out).2.2⟩ (fun hHeld => ?_); clear hK K
      refine nm_ ?_
      refine last_ (i := 7) (N := none) (bl_ 8 255) rfl rfl (one_of HT_.out (by kernel_rfl)) (by decide) (fun K hK => ?_)
      refine za9 (by rfl) 101 rfl rfl g10 #[.bool n2, .slice Ap lp.length cp, .int .i64 ep] rfl rfl 101 _ K10.out (NW.zav.trans rfl) rfl (zaC _ _ _ _ _) ?_
      intro v3 hw_ hg_
      replace HB := am_ (HB.out.grown hg_ HB.out.size (fun k_ hk_ => by cases hk_; exact L10.out))
      replace BX := am_ (BX.out.grown hg_ BX.out.size (fun k_ hk_ => by cases hk_; exact NSZ.out))
      replace K3 := am_ (zx hg_ K3.out (fun e => NX.out.1 (Option.some.inj e)))
      replace K6 := am_ (K6.out.put hg_ NX.out.2)
      replace RC := am_ (RC.out.put K10.out hg_)
      replace RP := am_ (RP.out.put K10.out hg_)
      replace K10 := am_ (show B3 v3 g10 n2 Ap lp.length cp ep from hw_)
      clear hw_ hg_
      refine hK.out _ _ ?_; clear hK K
      refine zaP (zao HT_.out (by kernel_rfl)) ?_
      clear hHeld
      go_wp2_with fail
      go_roundg (gk - 1)
      case measure => have := hmi.out; have := HXI.out; omega
      case rel => exact ⟨i + 1, n2, Ap, cp, lp, ep, by first | rfl | (rw [w64 _ (by omega) (by have := HXI.out; have := HGW.out.2; omega)]; rfl), ⟨by have := hmi.out; have := HXI.out; omega⟩, K10, RP, EP, K6, RC, K3, BX, HB⟩
     ·have i1 := eq_false (show ¬ i < xs.length by have := NXS.out.1; omega)
      have i2 := eq_false (show ¬ (i : Int) < (xs.length : Int) by have := NXS.out.1; omega)
      have i4 := decide_eq_false (show ¬ (i : Int) < (xs.length : Int) by have := NXS.out.1; omega)
      obtain rfl : i = us.length := by have := hmi.out; omega
      clear hx hmi
      go_wp2_with fail
      have hb_ : Below wr.heap.size wr wr.drew := zR (Below.refl _ _)
      replace HB := am_ (zb HB.out hb_)
      replace BX := am_ (zb BX.out hb_)
      replace K3 := am_ (zh K3.out hb_)
      replace K6 := am_ (K6.out.step hb_)
      replace RC := am_ (RC.out.step hb_)
      replace K10 := am_ (K10.out.step hb_)
      replace RI := am_ (RI.out.step hb_)
      clear hb_
      refine zay (n := 9) (S := fun w' => w'.cell? ⟨g10, 0, none⟩ = some (.bool nbi) ∧ w'.cell? ⟨g10, 1, none⟩ = some (.slice Ci li.length cci) ∧ w'.cell? ⟨g10, 2, none⟩ = some (.int .i64 ei) ∧ w'.cell? ⟨g3, 0, none⟩ = some (.slice (some al) lv.length c0) ∧ w'.cell? (al.add n) = some (.int .i64 lev)) (ds := [8]) (bl_ 9 0) (by kernel_rfl) rfl rfl ⟨K10.out.c0, K10.out.c1, K10.out.c2, (za K3.out 0).trans rfl, HCL2.out _ HB.out⟩ (fun hHeld => ?_); refine zT bys.tab14 bys.bits14 (fun HT_ HW_ => ?_)
      generalize wr.drew = v0 at HB BX K3 K6 RC K10 RI hHeld ⊢
      refine pu_ HT_ 1 44 (bl_ 9 2) ?_
      refine pu_ HT_ 3 46 (bl_ 9 10) ?_
      refine tk_ HT_ HW_ hHeld 0 43 (bl_ 9 11) ?_
      refine tk_ HT_ HW_ hHeld 2 45 (bl_ 9 15) ?_
      refine pu_ HT_ 4 47 (bl_ 9 31) ?_
      refine tk_ HT_ HW_ hHeld 5 48 (bl_ 9 63) ?_
      refine pu_ HT_ 6 49 (bl_ 9 127) ?_
      refine on_ HT_ 7 (some 50) (bl_ 9 255) fun K hK => ?_
      refine goes_ Try.func46 (by kernel_rfl) rfl #[.agg #[.bool nbi, .slice Ci li.length cci, .int .i64 ei], .int .i64 (wrap64 (-lev))] (by rfl) rfl rfl (by (try simp only [List.map_toArray, List.map_cons, List.map_nil]); first | done | rfl) ?_
      have MV := am_ (NV_moved FIT.out.1 FIT.out.2.1 EI.out.1 EI.out.2)
      have mc := moved_calls nbi Ci li.length cci ei (wrap64 (-lev)) v0
      generalize (if li.length = 0 then ei else wrap64 (ei + wrap64 (-lev))) = em at *
      refine mc.mono ?_
      clear mc
      rintro o_ v1 ⟨rfl, hb_⟩
      refine ⟨_, rfl, ?_⟩
      replace HB := am_ (zb HB.out hb_)
      replace BX := am_ (zb BX.out hb_)
      replace K3 := am_ (zh K3.out hb_)
      replace K6 := am_ (K6.out.step hb_)
      replace RC := am_ (RC.out.step hb_)
      replace K10 := am_ (K10.out.step hb_)
      replace RI := am_ (RI.out.step hb_)
      clear hb_
      refine hK.out _ _ ⟨K10.out.c0, K10.out.c1, K10.out.c2, (za K3.out 0).trans rfl, HCL2.out _ HB.out⟩ (fun hHeld => ?_); clear hK K
      refine nm_ ?_
      refine last_ (i := 8) (N := none) (bl_ 9 511) rfl rfl (one_of HT_.out (by kernel_rfl)) (by decide) (fun K hK => ?_)
      refine za9 (by rfl) 101 rfl rfl g10 #[.bool nbi, .slice Ci li.length cci, .int .i64 em] rfl rfl 101 _ K10.out (NW.zav.trans rfl) rfl (zaC _ _ _ _ _) ?_
      intro v3 hw_ hg_
      replace HB := am_ (HB.out.grown hg_ HB.out.size (fun k_ hk_ => by cases hk_; exact L10.out))
      replace K3 := am_ (zx hg_ K3.out (fun e => NX.out.1 (Option.some.inj e)))
      replace K6 := am_ (K6.out.put hg_ NX.out.2)
      replace RC := am_ (RC.out.put K10.out hg_)
      replace RI := am_ (RI.out.put K10.out hg_)
      replace K10 := am_ (show B3 v3 g10 nbi Ci li.length cci em from hw_)
      clear hw_ hg_ BX
      refine hK.out _ _ ?_; clear hK K
      refine zaP (zao HT_.out (by kernel_rfl)) ?_
      clear hHeld
      have x0 := K10.out.c0
      have x1 := K10.out.c1
      have x2 := K10.out.c2
      have y0 := K6.out.c0
      have y1 := K6.out.c1
      have y2 := K6.out.c2
      go_wp2_with fail
      have cc_ := cmp_v nbi nb Ci cci li em C cc l e v3 RI.out RC.out MV.out.2 EV.out.1
      rw [MV.out.1, EV.out.2] at cc_
      generalize hsg : sgnI (zbc us lev us.length * 2 ^ 1788 - (pk L).2 * 2 ^ 1788) = sg at *
      have SGN := am_ (show 0 < sg ↔ (pk L).2 < zbc us lev us.length by rw [← hsg]; exact sgn_scale _ _)
      clear hsg
      refine cc_.mono ?_
      clear cc_
      rintro e_ w12 ⟨rfl, hb_⟩
      replace HB := am_ (zb HB.out hb_)
      replace K3 := am_ (zh K3.out hb_)
      replace K6 := am_ (K6.out.step hb_)
      replace RC := am_ (RC.out.step hb_)
      replace K10 := am_ (K10.out.step hb_)
      replace RI := am_ (RI.out.step hb_)
      clear hb_ x0 x1 x2 y0 y1 y2
      by_cases hsp : 0 < sg
      ·have s1 := eq_true hsp
       have s2 := decide_eq_true hsp
       have HPK := am_ (show pk (zbg G lv (n + 1)) = ((n : Int), zbc us lev us.length) by rw [HCOL.out, pk_step, if_pos (SGN.out.1 hsp)])
       clear hsp
       have x0 := K10.out.c0
       have x1 := K10.out.c1
       have x2 := K10.out.c2
       go_wp2_with (first
  | ((with_reducible refine zr (t := 101) (p := 6) rfl ?_); refine zn rfl 101 rfl rfl g6 #[.bool nbi, .slice Ci li.length cci, .int .i64 em] rfl rfl 101 _ K6.out (NW.zav.trans rfl) rfl (zaC _ _ _ _ _) ?_; intro w13 hw_ hg_; replace HB := am_ (HB.out.grown hg_ HB.out.size (fun k_ hk_ => by cases hk_; exact L6.out)); replace K3 := am_ (zx hg_ K3.out (fun e => N36.out (Option.some.inj e))); replace RI := am_ (RI.out.put K6.out hg_); replace K6 := am_ (show B3 w13 g6 nbi Ci li.length cci em from hw_); clear hw_ hg_)
  | fail)
       go_roundg (lg.length - n - 1)
       case measure => have := hm.out; have := HX.out; have := LG.out; omega
       case rel => exact ⟨n + 1, nbi, Ci, cci, li, em, by rw [HPK.out], by first | rfl | (rw [w64 _ (by omega) (by have := HX.out; have := LEN.out; omega)]; rfl), ⟨by have := hm.out; have := HX.out; have := LG.out; omega⟩, K6, RI, ⟨MV.out.2, by rw [MV.out.1, HPK.out]⟩, HA2, K3, HB⟩
      ·have s1 := eq_false hsp
       have s2 := decide_eq_false hsp
       have HPK := am_ (show pk (zbg G lv (n + 1)) = pk L by rw [HCOL.out, pk_step, if_neg (fun h => hsp (SGN.out.2 h))])
       clear hsp
       go_wp2_with fail
       go_roundg (lg.length - n - 1)
       case measure => have := hm.out; have := HX.out; have := LG.out; omega
       case rel => exact ⟨n + 1, nb, C, cc, l, e, by rw [HPK.out], by first | rfl | (rw [w64 _ (by omega) (by have := HX.out; have := LEN.out; omega)]; rfl), ⟨by have := hm.out; have := HX.out; have := LG.out; omega⟩, K6, RC, ⟨EV.out.1, by rw [EV.out.2, HPK.out]⟩, HA2, K3, HB⟩
  ·have p2 := eq_false (show ¬ (n : Int) < (lg.length : Int) by have := LG.out; omega)
   have p4 := decide_eq_false (show ¬ (n : Int) < (lg.length : Int) by have := LG.out; omega)
   obtain rfl : n = G.length := by have := hm.out; have := LG.out; omega
   have QR := am_ (show res = (pk (zbg G lv G.length)).1 by rw [← RES.out, if_pos (by have h := HT.out; rwa [List.take_length] at h)])
   clear hx hm
   generalize (pk (zbg G lv G.length)).1 = rr at *
   go_wp2_with fail
   go_ret
   exact ⟨by rw [QR.out]; first | done | rfl, HB.out⟩
/-- Small: what the second form asks for. -/
structure Small (z : Zn) : Prop where
 l : ∀ n, n = z.C.length ∨ n = z.ids.length ∨ n = z.G.length ∨ n = z.R.length → n ≤ 2000000
 g : ∀ us, us ∈ z.G → us.length ≤ 2000000
set_option maxRecDepth 100000 in
set_option maxHeartbeats 4000000 in
theorem rchoose_calls (z : Zn) (h : Zh) (A : Option Addr) (c : Nat) (a : List Nat) (G : List (List Nat)) (Bg : Option Addr) (d : Nat) (A0 : Option Addr) (c0 : Nat) (lv : List Int) (A1 : Option Addr) (c1 : Nat) (at_ : List Int) (w : World)
  (hr : Ur w z h) (hf : Zf z) (hs : Small z) (ha : Kd.C (Kd.int .u64) w A (ku a).length (ku a)) (hac : (ku a).length ≤ c) (hwa : Wf a) (hn : a.length ≤ 2000000) (hg : dU.C w Bg (G.map ku).length (G.map ku)) (hw : ∀ us, us ∈ G → Wf us ∧ us.length ≤ 2000000) (r0 : Rd w A0 c0 lv) (r1 : Rd w A1 c1 at_) :
  Calls Try.prog 30 #[.agg (uc z h), .slice A (ku a).length c, .slice Bg (G.map ku).length d, .agg #[.slice A0 lv.length c0, .slice A1 at_.length c1]] w fun e w' => e = .returned (.int .i64 (chooseV z a G lv at_)) ∧ Below w.heap.size w w' := by
 have mc := fun k w1 (r : Ur w1 z h) (q : Kd.C (Kd.int .u64) w1 A (ku a).length (ku a)) => margin_calls z h A c a k w1 r hf hs.l hs.g q hac hwa hn
 have MC := am_ mc
 clear mc
 have sc := fun w1 (q : dU.C w1 Bg (G.map ku).length (G.map ku)) (r : Rd w1 A0 c0 lv) (hk : chkE lv at_ G.length = 0) => bysize_calls G Bg d A0 c0 lv A1 c1 at_ w1 q hw r hk
 have SC := am_ sc
 clear sc
 obtain ⟨lg, hlg⟩ : ∃ l, l = G.map ku := ⟨_, rfl⟩
 obtain ⟨la, hla⟩ : ∃ l, l = ku a := ⟨_, rfl⟩
 rw [← hlg] at hg SC ⊢
 rw [← hla] at ha MC ⊢
 have LG := am_ (show lg.length = G.length by rw [hlg, List.length_map])
 have HR := am_ hr
 have QA := am_ ha
 have QG := am_ hg
 have R0 := am_ r0
 have R1 := am_ r1
 clear hr hf hs ha hac hwa hn hg hw r0 r1 hlg hla
 have hu74 := Try.underlying74
 have hu24 := Try.underlying24
 generalize hres : chooseV z a G lv at_ = res
 have RES := am_ hres
 clear hres
 obtain ⟨Z, hz⟩ : ∃ Z, Z = z := ⟨_, rfl⟩
 obtain ⟨H, hh⟩ : ∃ H, H = h := ⟨_, rfl⟩
 obtain ⟨z1, z2, z3, z4, z5, z6⟩ := z
 obtain ⟨a1, k1, a2, k2, a3, k3, a4, k4⟩ := h
 rw [← hz, ← hh] at MC HR
 rw [← hz] at RES
 rw [← hz, ← hh]
 obtain ⟨l2, hl2⟩ : ∃ l, l = ku z2 := ⟨_, rfl⟩
 obtain ⟨l4, hl4⟩ : ∃ l, l = z4.map ku := ⟨_, rfl⟩
 obtain ⟨l5, hl5⟩ : ∃ l, l = ku z5 := ⟨_, rfl⟩
 have hv : uc Z H = #[.int .i64 z1, .slice a1 l2.length k1, .slice a2 z3.length k2, .slice a3 l4.length k3, .slice a4 l5.length k4, .bool z6] := by rw [hz, hh, hl2, hl4, hl5]; rfl
 have HV := am_ hv
 rw [hv]
 rw [hv] at MC
 clear hv hz hh hl2 hl4 hl5
 go_enter Try.func30, Try.ntmps30
 go_wp2_with (first
  | ((with_reducible refine zk (N := 4) rfl ?_); refine zaq 4 (cs := #[.int .i64 z1, .slice a1 l2.length k1, .slice a2 z3.length k2, .slice a3 l4.length k3, .slice a4 l5.length k4, .bool z6]) (t := 74) ?_; intro g4 hg_ w1 hw_ hb_; have HB := am_ hb_; have K4 := am_ hw_; clear hg_ hw_ hb_)
  | ((with_reducible refine zk (N := 7) rfl ?_); refine zaq 7 (cs := #[.slice A0 lv.length c0, .slice A1 at_.length c1]) (t := 24) ?_; intro g7 hg_ w2 hw_ hb_; replace HB := am_ (zb HB.out hb_); replace K4 := am_ (zh K4.out hb_); have K7 := am_ hw_; clear hg_ hw_ hb_; have r0 : w2.cell? ⟨g7, 0, none⟩ = some (.slice A0 lv.length c0) := (za K7.out 0).trans rfl; have r1 : w2.cell? ⟨g7, 1, none⟩ = some (.slice A1 at_.length c1) := (za K7.out 1).trans rfl)
  | fail)
 refine (rcheck_c (lg.length : Int) w2 (R0.out.step HB.out) (R1.out.step HB.out)).mono ?_
 rintro e_ w3 ⟨rfl, hb_⟩
 replace HB := am_ (zb HB.out hb_)
 replace K4 := am_ (zh K4.out hb_)
 replace K7 := am_ (zh K7.out hb_)
 clear hb_ r0 r1
 generalize hcr : chkE lv at_ (lg.length : Int) = cr
 have hcr2 : chkE lv at_ (G.length : Int) = cr := by rw [← hcr, LG.out]
 by_cases hcz : cr = 0
 ·subst hcz
  have CHK := am_ hcr2
  clear hcr hcr2
  have q0 : w3.cell? ⟨g4, 0, none⟩ = some (.int .i64 z1) := (za K4.out 0).trans rfl
  have q1 : w3.cell? ⟨g4, 1, none⟩ = some (.slice a1 l2.length k1) := (za K4.out 1).trans rfl
  have q2 : w3.cell? ⟨g4, 2, none⟩ = some (.slice a2 z3.length k2) := (za K4.out 2).trans rfl
  have q3 : w3.cell? ⟨g4, 3, none⟩ = some (.slice a3 l4.length k3) := (za K4.out 3).trans rfl
  have q4 : w3.cell? ⟨g4, 4, none⟩ = some (.slice a4 l5.length k4) := (za K4.out 4).trans rfl
  have q5 : w3.cell? ⟨g4, 5, none⟩ = some (.bool z6) := (za K4.out 5).trans rfl
  go_wp2_with fail
  refine (MC.out (lg.length : Int) w3 (HR.out.step HB.out) (Kd.zB QA.out HB.out)).mono ?_
  rintro e_ w4 ⟨rfl, hb_⟩
  replace HB := am_ (zb HB.out hb_)
  replace K4 := am_ (zh K4.out hb_)
  replace K7 := am_ (zh K7.out hb_)
  clear hb_ q0 q1 q2 q3 q4 q5
  generalize hs : (pk (seenV Z a (lg.length : Int))).1 = s
  have HS := am_ (show (pk (seenV Z a (G.length : Int))).1 = s by rw [← hs, LG.out])
  clear hs
  by_cases h0 : 0 ≤ s
  ·have s1 := eq_false (show ¬ s < 0 by omega)
   have s2 := decide_eq_false (show ¬ s < 0 by omega)
   have QS := am_ (show res = s by rw [← RES.out]; unfold chooseV; rw [if_pos CHK.out, HS.out, if_pos h0])
   clear h0
   go_wp2_with fail
   go_ret
   exact ⟨by rw [QS.out]; first | done | rfl, HB.out⟩
  ·have s1 := eq_true (show s < 0 by omega)
   have s2 := decide_eq_true (show s < 0 by omega)
   have QS := am_ (show res = if (G.all fun us => us.all fo) = true then (pk (zbg G lv G.length)).1 else -1 by rw [← RES.out]; unfold chooseV; rw [if_pos CHK.out, HS.out, if_neg h0])
   clear h0
   have r0 : w4.cell? ⟨g7, 0, none⟩ = some (.slice A0 lv.length c0) := (za K7.out 0).trans rfl
   have r1 : w4.cell? ⟨g7, 1, none⟩ = some (.slice A1 at_.length c1) := (za K7.out 1).trans rfl
   go_wp2_with fail
   have sc := SC.out w4 (Kd.zB QG.out HB.out) (R0.out.step HB.out) CHK.out
   rw [← QS.out] at sc
   refine sc.mono ?_
   clear sc
   rintro e_ w5 ⟨rfl, hb_⟩
   replace HB := am_ (zb HB.out hb_)
   replace K4 := am_ (zh K4.out hb_)
   replace K7 := am_ (zh K7.out hb_)
   clear hb_ r0 r1
   go_wp2_with fail
   go_ret
   exact ⟨rfl, HB.out⟩
 ·have hzb : (cr != 0) = true := by rw [bne_iff_ne]; exact hcz
  have QZ := am_ (show res = -1 by rw [← RES.out]; unfold chooseV; rw [if_neg (by rw [hcr2]; exact hcz)])
  clear hcz hcr hcr2
  go_wp2_with fail
  go_ret
  exact ⟨by rw [QZ.out]; first | done | rfl, HB.out⟩
structure Psm (p : Pn) : Prop where
 g : ∀ us, us ∈ p.G → us.length ≤ 2000000
 s : Ps p
structure Pf (p : Pn) : Prop where
 G : ∀ us, us ∈ p.G → Wf us
def chooses.T2 : Bool × List (List Nat × List Nat) := (true, [([], []), ([], []), ([], []), ([], []), ([0, 1, 2, 3], [0, 1, 2, 3]), ([], []), ([5, 4], [5]), ([], []), ([7, 6], [7]), ([], []), ([9], [9]), ([], []), ([6, 8, 10, 11, 8], [6, 8, 10, 11]), ([4, 12], [4, 12]), ([13, 12], [13]), ([14, 14], [14]), ([14, 15], [14, 15]), ([16, 15, 0, 1, 2, 3, 4, 5, 6, 7, 8, 9, 10, 11, 12, 13, 14, 15, 16], [16])])
def chooses.B2 : List Nat := [0, 0, 0, 0, 15, 0, 63, 0, 255, 0, 512, 0, 4095, 8191, 16383, 32767, 65535, 131071]
theorem chooses.tab2 : rtab .any (opsOf Try.f9 2) = chooses.T2 := by kernel_rfl
theorem chooses.bits2 : zat chooses.T2.2 chooses.B2 = true := by kernel_rfl
set_option maxRecDepth 100000 in
set_option maxHeartbeats 4000000 in
theorem chooses_calls (z : Zn) (h : Zh) (A : Option Addr) (c : Nat) (a : List Nat) (p : Pn) (q : Ph) (A0 : Option Addr) (c0 : Nat) (lv : List Int) (A1 : Option Addr) (c1 : Nat) (at_ : List Int) (w : World)
  (hr : Zr w z h) (hf : Zf z) (hs : Small z) (hzs : Zs z) (ha : kf.C w A a.length a) (hwa : Wf a) (hn : a.length ≤ 2000000) (hp : Pr w p q) (hpf : Pf p) (hps : Psm p) (r0 : Rd w A0 c0 lv) (r1 : Rd w A1 c1 at_) :
  Calls Try.prog 9 #[.agg (zc z h), .slice A a.length c, .agg (pcv p q), .agg #[.slice A0 lv.length c0, .slice A1 at_.length c1]] w fun e w' => e = .returned (.bool true) ∧ Below w.heap.size w w' := by
 have cc := fun w1 (x1 : Zr w1 z h) (x2 : kf.C w1 A a.length a) (x3 : Pr w1 p q) (x4 : Rd w1 A0 c0 lv) (x5 : Rd w1 A1 c1 at_) => choose_calls z h A c a p q A0 c0 lv A1 c1 at_ w1 x1 hf x2 hwa (by omega) x3 (fun us hu => ⟨hpf.G us hu, by have := hps.g us hu; omega⟩) x4 x5
 have oc := fun w1 (x1 : Zr w1 z h) => of_calls z h w1 x1 hzs
 have pc := fun w1 (x1 : Pr w1 p q) => ofprop_calls p q w1 x1 hps.s
 have bc := fun w1 (x1 : kf.C w1 A a.length a) => za0 A c a w1 x1 (by omega)
 have dc := fun hq A2 c2 Bg d2 w1 (x1 : Ur w1 z hq) (x2 : Kd.C (Kd.int .u64) w1 A2 (ku a).length (ku a)) (x3 : (ku a).length ≤ c2) (x4 : dU.C w1 Bg (p.G.map ku).length (p.G.map ku)) (x5 : Rd w1 A0 c0 lv) (x6 : Rd w1 A1 c1 at_) => rchoose_calls z hq A2 c2 a p.G Bg d2 A0 c0 lv A1 c1 at_ w1 x1 hf hs x2 x3 hwa hn x4 (fun us hu => ⟨hpf.G us hu, hps.g us hu⟩) x5 x6
 have CC := am_ cc
 have OC := am_ oc
 have PC_ := am_ pc
 have BC := am_ bc
 have DC := am_ dc
 clear cc oc pc bc dc hf hs hzs hwa hn hpf hps
 have HR := am_ hr
 have QA := am_ ha
 have HP := am_ hp
 have R0 := am_ r0
 have R1 := am_ r1
 clear hr ha hp r0 r1
 have hu63 := Try.underlying63
 have hu65 := Try.underlying65
 have hu24 := Try.underlying24
 have hu69 := Try.underlying69
 have hu74 := Try.underlying74
 obtain ⟨Z, hz⟩ : ∃ Z, Z = z := ⟨_, rfl⟩
 obtain ⟨H, hh⟩ : ∃ H, H = h := ⟨_, rfl⟩
 obtain ⟨Y, hy⟩ : ∃ Y, Y = p := ⟨_, rfl⟩
 obtain ⟨X, hx⟩ : ∃ X, X = q := ⟨_, rfl⟩
 obtain ⟨z1, z2, z3, z4, z5, z6⟩ := z
 obtain ⟨a1, k1, a2, k2, a3, k3, a4, k4⟩ := h
 obtain ⟨y1, y2, y3, y4, y5, y6, y7⟩ := p
 obtain ⟨b1, l1, b2, l2, b4, l4⟩ := q
 rw [← hz, ← hh, ← hy, ← hx] at CC
 rw [← hz, ← hh] at OC HR
 rw [← hy, ← hx] at PC_ HP
 rw [← hz, ← hy] at DC
 rw [← hz, ← hh, ← hy, ← hx]
 have hv : zc Z H = #[.int .i64 z1, .slice a1 z2.length k1, .slice a2 z3.length k2, .slice a3 z4.length k3, .slice a4 z5.length k4, .bool z6] := by rw [hz, hh]; rfl
 have hv2 : pcv Y X = #[.slice b1 y1.length l1, .slice b2 y2.length l2, .int .i64 y3, .slice b4 y4.length l4, .int .i64 y5, .int .i64 y6, .int .i64 y7] := by rw [hy, hx]; rfl
 rw [hv, hv2]
 rw [hv, hv2] at CC
 rw [hv] at OC
 rw [hv2] at PC_
 have hq3 : Y.T = y3 ∧ Y.K = y5 ∧ Y.D = y6 ∧ Y.O = y7 := by rw [hy]; exact ⟨rfl, rfl, rfl, rfl⟩
 have HQ3 := am_ hq3
 clear hv hv2 hz hh hy hx hq3
 generalize chooseV Z a Y.G lv at_ = res at *
 go_enter Try.func9, Try.ntmps9
 go_wp2_with (first
  | ((with_reducible refine zk (N := 4) rfl ?_); refine zaq 4 (cs := #[.int .i64 z1, .slice a1 z2.length k1, .slice a2 z3.length k2, .slice a3 z4.length k3, .slice a4 z5.length k4, .bool z6]) (t := 63) ?_; intro g4 hg_ w1 hw_ hb_; have HB := am_ hb_; have K4 := am_ hw_; clear hg_ hw_ hb_)
  | ((with_reducible refine zk (N := 6) rfl ?_); refine zaq 6 (cs := #[.slice b1 y1.length l1, .slice b2 y2.length l2, .int .i64 y3, .slice b4 y4.length l4, .int .i64 y5, .int .i64 y6, .int .i64 y7]) (t := 65) ?_; intro g6 hg_ w2 hw_ hb_; replace HB := am_ (zb HB.out hb_); replace K4 := am_ (zh K4.out hb_); have K6 := am_ hw_; clear hg_ hw_ hb_)
  | ((with_reducible refine zk (N := 7) rfl ?_); refine zaq 7 (cs := #[.slice A0 lv.length c0, .slice A1 at_.length c1]) (t := 24) ?_; intro g7 hg_ w3 hw_ hb_; replace HB := am_ (zb HB.out hb_); replace K4 := am_ (zh K4.out hb_); replace K6 := am_ (zh K6.out hb_); have K7 := am_ hw_; clear hg_ hw_ hb_; have p0 : w3.cell? ⟨g6, 0, none⟩ = some (.slice b1 y1.length l1) := (za K6.out 0).trans rfl; have p1 : w3.cell? ⟨g6, 1, none⟩ = some (.slice b2 y2.length l2) := (za K6.out 1).trans rfl; have p2 : w3.cell? ⟨g6, 2, none⟩ = some (.int .i64 y3) := (za K6.out 2).trans rfl; have p3 : w3.cell? ⟨g6, 3, none⟩ = some (.slice b4 y4.length l4) := (za K6.out 3).trans rfl; have p4 : w3.cell? ⟨g6, 4, none⟩ = some (.int .i64 y5) := (za K6.out 4).trans rfl; have p5 : w3.cell? ⟨g6, 5, none⟩ = some (.int .i64 y6) := (za K6.out 5).trans rfl; have p6 : w3.cell? ⟨g6, 6, none⟩ = some (.int .i64 y7) := (za K6.out 6).trans rfl)
  | fail)
 refine (PC_.out w3 (HP.out.step HB.out)).mono ?_
 rintro e_ w4 ⟨⟨e1, f1, e2, f2, e4, f4⟩, rfl, hq, hb_⟩
 have HQ := am_ (show dU.C w4 e2 (Y.G.map ku).length (Y.G.map ku) from hq.r2)
 replace HB := am_ (zb HB.out hb_)
 replace K4 := am_ (zh K4.out hb_)
 replace K6 := am_ (zh K6.out hb_)
 replace K7 := am_ (zh K7.out hb_)
 clear hb_ hq p0 p1 p2 p3 p4 p5 p6
 obtain ⟨m1, hm1⟩ : ∃ m, m = (ku Y.C).length := ⟨_, rfl⟩
 obtain ⟨m2, hm2⟩ : ∃ m, m = (Y.G.map ku).length := ⟨_, rfl⟩
 obtain ⟨m4, hm4⟩ : ∃ m, m = (Y.L.map ku).length := ⟨_, rfl⟩
 rw [show qcv Y ⟨e1, f1, e2, f2, e4, f4⟩ = #[.slice e1 m1 f1, .slice e2 m2 f2, .int .i64 y3, .slice e4 m4 f4, .int .i64 y5, .int .i64 y6, .int .i64 y7] by rw [hm1, hm2, hm4, ← HQ3.out.1, ← HQ3.out.2.1, ← HQ3.out.2.2.1, ← HQ3.out.2.2.2]; rfl]
 have HM2 := am_ hm2
 clear hm1 hm2 hm4
 go_wp2_with (first
  | ((with_reducible refine zk (N := 9) rfl ?_); refine zaq 9 (cs := #[.slice none 0 0, .slice none 0 0, .int .i64 0, .slice none 0 0, .int .i64 0, .int .i64 0, .int .i64 0]) (t := 69) ?_; intro g9 hg_ w5 hw_ hb_; have NN := am_ (show g4 ≠ g9 ∧ g6 ≠ g9 ∧ g7 ≠ g9 by have := zaa K4.out; have := zaa K6.out; have := zaa K7.out; omega); have L9 := am_ (show w.heap.size ≤ g9 by have := HB.out.size; omega); have LQ := am_ (show w4.heap.size ≤ g9 by omega); have BQ := am_ hb_; replace HB := am_ (zb HB.out hb_); replace K4 := am_ (zh K4.out hb_); replace K6 := am_ (zh K6.out hb_); replace K7 := am_ (zh K7.out hb_); have K9 := am_ hw_; clear hg_ hw_ hb_)
  | ((with_reducible refine zr (t := 69) (p := 9) rfl ?_); refine zn rfl 69 rfl rfl g9 #[.slice e1 m1 f1, .slice e2 m2 f2, .int .i64 y3, .slice e4 m4 f4, .int .i64 y5, .int .i64 y6, .int .i64 y7] rfl rfl 69 _ K9.out (info69.trans rfl) rfl (by simp [Value.oneCell']) ?_; intro w6 hw_ hg_; replace HB := am_ (HB.out.grown hg_ HB.out.size (fun k_ hk_ => by cases hk_; exact L9.out)); replace BQ := am_ (BQ.out.grown hg_ BQ.out.size (fun k_ hk_ => by cases hk_; exact LQ.out)); replace K9 := am_ hw_; replace K4 := am_ (zx hg_ K4.out (fun e => NN.out.1 (Option.some.inj e))); replace K6 := am_ (zx hg_ K6.out (fun e => NN.out.2.1 (Option.some.inj e))); replace K7 := am_ (zx hg_ K7.out (fun e => NN.out.2.2 (Option.some.inj e))); clear hw_ hg_)
  | fail)
 replace HQ := am_ (Kd.zB HQ.out BQ.out)
 have hb_ : Below w6.heap.size w6 w6.drew := zR (Below.refl _ _)
 replace HB := am_ (show Below w.heap.size w w6.drew from zb HB.out hb_)
 replace K4 := am_ (show w6.drew.heap[g4]? = some (.cells #[.int .i64 z1, .slice a1 z2.length k1, .slice a2 z3.length k2, .slice a3 z4.length k3, .slice a4 z5.length k4, .bool z6] 63 (0, 0)) from zh K4.out hb_)
 replace K6 := am_ (show w6.drew.heap[g6]? = some (.cells #[.slice b1 y1.length l1, .slice b2 y2.length l2, .int .i64 y3, .slice b4 y4.length l4, .int .i64 y5, .int .i64 y6, .int .i64 y7] 65 (0, 0)) from zh K6.out hb_)
 replace K7 := am_ (show w6.drew.heap[g7]? = some (.cells #[.slice A0 lv.length c0, .slice A1 at_.length c1] 24 (0, 0)) from zh K7.out hb_)
 replace K9 := am_ (show w6.drew.heap[g9]? = some (.cells #[.slice e1 m1 f1, .slice e2 m2 f2, .int .i64 y3, .slice e4 m4 f4, .int .i64 y5, .int .i64 y6, .int .i64 y7] 69 (0, 0)) from zh K9.out hb_)
 replace HQ := am_ (show dU.C w6.drew e2 (Y.G.map ku).length (Y.G.map ku) from Kd.zB HQ.out hb_)
 clear hb_
 refine zay (n := 18) (S := fun w' => w'.cell? ⟨g4, 0, none⟩ = some (.int .i64 z1) ∧ w'.cell? ⟨g4, 1, none⟩ = some (.slice a1 z2.length k1) ∧ w'.cell? ⟨g4, 2, none⟩ = some (.slice a2 z3.length k2) ∧ w'.cell? ⟨g4, 3, none⟩ = some (.slice a3 z4.length k3) ∧ w'.cell? ⟨g4, 4, none⟩ = some (.slice a4 z5.length k4) ∧ w'.cell? ⟨g4, 5, none⟩ = some (.bool z6) ∧ w'.cell? ⟨g6, 0, none⟩ = some (.slice b1 y1.length l1) ∧ w'.cell? ⟨g6, 1, none⟩ = some (.slice b2 y2.length l2) ∧ w'.cell? ⟨g6, 2, none⟩ = some (.int .i64 y3) ∧ w'.cell? ⟨g6, 3, none⟩ = some (.slice b4 y4.length l4) ∧ w'.cell? ⟨g6, 4, none⟩ = some (.int .i64 y5) ∧ w'.cell? ⟨g6, 5, none⟩ = some (.int .i64 y6) ∧ w'.cell? ⟨g6, 6, none⟩ = some (.int .i64 y7) ∧ w'.cell? ⟨g7, 0, none⟩ = some (.slice A0 lv.length c0) ∧ w'.cell? ⟨g7, 1, none⟩ = some (.slice A1 at_.length c1) ∧ w'.cell? ⟨g9, 0, none⟩ = some (.slice e1 m1 f1) ∧ w'.cell? ⟨g9, 1, none⟩ = some (.slice e2 m2 f2) ∧ w'.cell? ⟨g9, 2, none⟩ = some (.int .i64 y3) ∧ w'.cell? ⟨g9, 3, none⟩ = some (.slice e4 m4 f4) ∧ w'.cell? ⟨g9, 4, none⟩ = some (.int .i64 y5) ∧ w'.cell? ⟨g9, 5, none⟩ = some (.int .i64 y6) ∧ w'.cell? ⟨g9, 6, none⟩ = some (.int .i64 y7)) (ds := []) (bl_ 18 0) (by kernel_rfl) rfl rfl ⟨(za K4.out 0).trans rfl, (za K4.out 1).trans rfl, (za K4.out 2).trans rfl, (za K4.out 3).trans rfl, (za K4.out 4).trans rfl, (za K4.out 5).trans rfl, (za K6.out 0).trans rfl, (za K6.out 1).trans rfl, (za K6.out 2).trans rfl, (za K6.out 3).trans rfl, (za K6.out 4).trans rfl, (za K6.out 5).trans rfl, (za K6.out 6).trans rfl, (za K7.out 0).trans rfl, (za K7.out 1).trans rfl, (za K9.out 0).trans rfl, (za K9.out 1).trans rfl, (za K9.out 2).trans rfl, (za K9.out 3).trans rfl, (za K9.out 4).trans rfl, (za K9.out 5).trans rfl, (za K9.out 6).trans rfl⟩ (fun hHeld => ?_); refine zT chooses.tab2 chooses.bits2 (fun HT_ HW_ => ?_)
 generalize w6.drew = v0 at HB K4 K6 K7 K9 HQ hHeld ⊢
 refine pu_ HT_ 1 13 (bl_ 18 2) ?_
 refine pu_ HT_ 7 19 (bl_ 18 130) ?_
 refine pu_ HT_ 9 21 (bl_ 18 642) ?_
 refine tk_ HT_ HW_ hHeld 0 12 (bl_ 18 643) ?_
 refine tk_ HT_ HW_ hHeld 2 14 (bl_ 18 647) ?_
 refine tk_ HT_ HW_ hHeld 3 15 (bl_ 18 655) ?_
 refine tk_ HT_ HW_ hHeld 5 17 (bl_ 18 687) ?_
 refine tk_ HT_ HW_ hHeld 10 22 (bl_ 18 1711) ?_
 refine tk_ HT_ HW_ hHeld 11 23 (bl_ 18 3759) ?_
 refine join_ (σ := Zh × Option Addr × Nat) 5 (bl_ 18 8191) (fun s_ => [(12, .agg #[.int .i64 z1, .slice a1 z2.length k1, .slice a2 z3.length k2, .slice a3 z4.length k3, .slice a4 z5.length k4, .bool z6]), (13, .slice A a.length c), (14, .agg #[.slice b1 y1.length l1, .slice b2 y2.length l2, .int .i64 y3, .slice b4 y4.length l4, .int .i64 y5, .int .i64 y6, .int .i64 y7]), (15, .agg #[.slice A0 lv.length c0, .slice A1 at_.length c1]), (16, .int .i64 res), (17, .agg #[.int .i64 z1, .slice a1 z2.length k1, .slice a2 z3.length k2, .slice a3 z4.length k3, .slice a4 z5.length k4, .bool z6]), (18, .agg (uc Z s_.1)), (19, .slice A a.length c), (20, .slice s_.2.1 a.length s_.2.2), (21, .pointer (some ⟨g9, 1, none⟩)), (22, .slice e2 m2 f2), (23, .agg #[.slice A0 lv.length c0, .slice A1 at_.length c1]), (24, .int .i64 res)]) (fun s_ w' => (w'.cell? ⟨g4, 0, none⟩ = some (.int .i64 z1) ∧ w'.cell? ⟨g4, 1, none⟩ = some (.slice a1 z2.length k1) ∧ w'.cell? ⟨g4, 2, none⟩ = some (.slice a2 z3.length k2) ∧ w'.cell? ⟨g4, 3, none⟩ = some (.slice a3 z4.length k3) ∧ w'.cell? ⟨g4, 4, none⟩ = some (.slice a4 z5.length k4) ∧ w'.cell? ⟨g4, 5, none⟩ = some (.bool z6) ∧ w'.cell? ⟨g6, 0, none⟩ = some (.slice b1 y1.length l1) ∧ w'.cell? ⟨g6, 1, none⟩ = some (.slice b2 y2.length l2) ∧ w'.cell? ⟨g6, 2, none⟩ = some (.int .i64 y3) ∧ w'.cell? ⟨g6, 3, none⟩ = some (.slice b4 y4.length l4) ∧ w'.cell? ⟨g6, 4, none⟩ = some (.int .i64 y5) ∧ w'.cell? ⟨g6, 5, none⟩ = some (.int .i64 y6) ∧ w'.cell? ⟨g6, 6, none⟩ = some (.int .i64 y7) ∧ w'.cell? ⟨g7, 0, none⟩ = some (.slice A0 lv.length c0) ∧ w'.cell? ⟨g7, 1, none⟩ = some (.slice A1 at_.length c1) ∧ w'.cell? ⟨g9, 0, none⟩ = some (.slice e1 m1 f1) ∧ w'.cell? ⟨g9, 1, none⟩ = some (.slice e2 m2 f2) ∧ w'.cell? ⟨g9, 2, none⟩ = some (.int .i64 y3) ∧ w'.cell? ⟨g9, 3, none⟩ = some (.slice e4 m4 f4) ∧ w'.cell? ⟨g9, 4, none⟩ = some (.int .i64 y5) ∧ w'.cell? ⟨g9, 5, none⟩ = some (.int .i64 y6) ∧ w'.cell? ⟨g9, 6, none⟩ = some (.int .i64 y7)) ∧ (Below w.heap.size w w') ∧ (w'.heap[g4]? = some (.cells #[.int .i64 z1, .slice a1 z2.length k1, .slice a2 z3.length k2, .slice a3 z4.length k3, .slice a4 z5.length k4, .bool z6] 63 (0, 0))) ∧ (w'.heap[g6]? = some (.cells #[.slice b1 y1.length l1, .slice b2 y2.length l2, .int .i64 y3, .slice b4 y4.length l4, .int .i64 y5, .int .i64 y6, .int .i64 y7] 65 (0, 0))) ∧ (w'.heap[g7]? = some (.cells #[.slice A0 lv.length c0, .slice A1 at_.length c1] 24 (0, 0))) ∧ (w'.heap[g9]? = some (.cells #[.slice e1 m1 f1, .slice e2 m2 f2, .int .i64 y3, .slice e4 m4 f4, .int .i64 y5, .int .i64 y6, .int .i64 y7] 69 (0, 0))) ∧ (dU.C w' e2 (Y.G.map ku).length (Y.G.map ku)) ∧ (Ur w' Z s_.1) ∧ ((ku a).length ≤ s_.2.2 ∧ Kd.C (Kd.int .u64) w' s_.2.1 (ku a).length (ku a))) ?_ ?_
 rotate_left
 ·intro hJ
  refine on_ HT_ 4 (some 16) (bl_ 18 3775) fun K hK => ?_
  refine goes_ Try.func29 (by kernel_rfl) rfl #[.agg #[.int .i64 z1, .slice a1 z2.length k1, .slice a2 z3.length k2, .slice a3 z4.length k3, .slice a4 z5.length k4, .bool z6], .slice A a.length c, .agg #[.slice b1 y1.length l1, .slice b2 y2.length l2, .int .i64 y3, .slice b4 y4.length l4, .int .i64 y5, .int .i64 y6, .int .i64 y7], .agg #[.slice A0 lv.length c0, .slice A1 at_.length c1]] (by rfl) rfl rfl (by (try simp only [List.map_toArray, List.map_cons, List.map_nil]); first | done | rfl) ?_
  refine (CC.out v0 (HR.out.step HB.out) (Kd.zB QA.out HB.out) (HP.out.step HB.out) (R0.out.step HB.out) (R1.out.step HB.out)).mono ?_
  rintro e_ v1 ⟨rfl, hb_⟩
  refine ⟨_, rfl, ?_⟩
  replace HB := am_ (show Below w.heap.size w v1 from zb HB.out hb_)
  replace K4 := am_ (show v1.heap[g4]? = some (.cells #[.int .i64 z1, .slice a1 z2.length k1, .slice a2 z3.length k2, .slice a3 z4.length k3, .slice a4 z5.length k4, .bool z6] 63 (0, 0)) from zh K4.out hb_)
  replace K6 := am_ (show v1.heap[g6]? = some (.cells #[.slice b1 y1.length l1, .slice b2 y2.length l2, .int .i64 y3, .slice b4 y4.length l4, .int .i64 y5, .int .i64 y6, .int .i64 y7] 65 (0, 0)) from zh K6.out hb_)
  replace K7 := am_ (show v1.heap[g7]? = some (.cells #[.slice A0 lv.length c0, .slice A1 at_.length c1] 24 (0, 0)) from zh K7.out hb_)
  replace K9 := am_ (show v1.heap[g9]? = some (.cells #[.slice e1 m1 f1, .slice e2 m2 f2, .int .i64 y3, .slice e4 m4 f4, .int .i64 y5, .int .i64 y6, .int .i64 y7] 69 (0, 0)) from zh K9.out hb_)
  replace HQ := am_ (show dU.C v1 e2 (Y.G.map ku).length (Y.G.map ku) from Kd.zB HQ.out hb_)
  clear hb_
  refine hK.out _ _ ⟨(za K4.out 0).trans rfl, (za K4.out 1).trans rfl, (za K4.out 2).trans rfl, (za K4.out 3).trans rfl, (za K4.out 4).trans rfl, (za K4.out 5).trans rfl, (za K6.out 0).trans rfl, (za K6.out 1).trans rfl, (za K6.out 2).trans rfl, (za K6.out 3).trans rfl, (za K6.out 4).trans rfl, (za K6.out 5).trans rfl, (za K6.out 6).trans rfl, (za K7.out 0).trans rfl, (za K7.out 1).trans rfl, (za K9.out 0).trans rfl, (za K9.out 1).trans rfl, (za K9.out 2).trans rfl, (za K9.out 3).trans rfl, (za K9.out 4).trans rfl, (za K9.out 5).trans rfl, (za K9.out 6).trans rfl⟩ (fun hHeld => ?_); clear hK K
  refine nm_ ?_
  refine on_ HT_ 6 (some 18) (bl_ 18 3839) fun K hK => ?_
  refine goes_ Try.func31 (by kernel_rfl) rfl #[.agg #[.int .i64 z1, .slice a1 z2.length k1, .slice a2 z3.length k2, .slice a3 z4.length k3, .slice a4 z5.length k4, .bool z6]] (by rfl) rfl rfl (by (try simp only [List.map_toArray, List.map_cons, List.map_nil]); first | done | rfl) ?_
  refine (OC.out v1 (HR.out.step HB.out)).mono ?_
  rintro e_ v2 ⟨hq, rfl, hur, hb_⟩
  refine ⟨_, rfl, ?_⟩
  have RU := am_ hur
  replace HB := am_ (show Below w.heap.size w v2 from zb HB.out hb_)
  replace K4 := am_ (show v2.heap[g4]? = some (.cells #[.int .i64 z1, .slice a1 z2.length k1, .slice a2 z3.length k2, .slice a3 z4.length k3, .slice a4 z5.length k4, .bool z6] 63 (0, 0)) from zh K4.out hb_)
  replace K6 := am_ (show v2.heap[g6]? = some (.cells #[.slice b1 y1.length l1, .slice b2 y2.length l2, .int .i64 y3, .slice b4 y4.length l4, .int .i64 y5, .int .i64 y6, .int .i64 y7] 65 (0, 0)) from zh K6.out hb_)
  replace K7 := am_ (show v2.heap[g7]? = some (.cells #[.slice A0 lv.length c0, .slice A1 at_.length c1] 24 (0, 0)) from zh K7.out hb_)
  replace K9 := am_ (show v2.heap[g9]? = some (.cells #[.slice e1 m1 f1, .slice e2 m2 f2, .int .i64 y3, .slice e4 m4 f4, .int .i64 y5, .int .i64 y6, .int .i64 y7] 69 (0, 0)) from zh K9.out hb_)
  replace HQ := am_ (show dU.C v2 e2 (Y.G.map ku).length (Y.G.map ku) from Kd.zB HQ.out hb_)
  clear hb_ hur
  refine hK.out _ _ ⟨(za K4.out 0).trans rfl, (za K4.out 1).trans rfl, (za K4.out 2).trans rfl, (za K4.out 3).trans rfl, (za K4.out 4).trans rfl, (za K4.out 5).trans rfl, (za K6.out 0).trans rfl, (za K6.out 1).trans rfl, (za K6.out 2).trans rfl, (za K6.out 3).trans rfl, (za K6.out 4).trans rfl, (za K6.out 5).trans rfl, (za K6.out 6).trans rfl, (za K7.out 0).trans rfl, (za K7.out 1).trans rfl, (za K9.out 0).trans rfl, (za K9.out 1).trans rfl, (za K9.out 2).trans rfl, (za K9.out 3).trans rfl, (za K9.out 4).trans rfl, (za K9.out 5).trans rfl, (za K9.out 6).trans rfl⟩ (fun hHeld => ?_); clear hK K
  refine nm_ ?_
  refine on_ HT_ 8 (some 20) (bl_ 18 4095) fun K hK => ?_
  refine goes_ Try.func32 (by kernel_rfl) rfl #[.slice A a.length c] (by rfl) rfl rfl (by (try simp only [List.map_toArray, List.map_cons, List.map_nil]); first | done | rfl) ?_
  refine (BC.out v2 (Kd.zB QA.out HB.out)).mono ?_
  rintro e_ v3 ⟨Ba, da, rfl, hra, hb_⟩
  refine ⟨_, rfl, ?_⟩
  have RA := am_ (Kd.zQ (show Kd.R (Kd.int .u64) 114 v3 v2.heap.size (fun _ => True) (.slice Ba (ku a).length da) (ku a) by rw [zaB]; exact hra)).2
  replace HB := am_ (show Below w.heap.size w v3 from zb HB.out hb_)
  replace K4 := am_ (show v3.heap[g4]? = some (.cells #[.int .i64 z1, .slice a1 z2.length k1, .slice a2 z3.length k2, .slice a3 z4.length k3, .slice a4 z5.length k4, .bool z6] 63 (0, 0)) from zh K4.out hb_)
  replace K6 := am_ (show v3.heap[g6]? = some (.cells #[.slice b1 y1.length l1, .slice b2 y2.length l2, .int .i64 y3, .slice b4 y4.length l4, .int .i64 y5, .int .i64 y6, .int .i64 y7] 65 (0, 0)) from zh K6.out hb_)
  replace K7 := am_ (show v3.heap[g7]? = some (.cells #[.slice A0 lv.length c0, .slice A1 at_.length c1] 24 (0, 0)) from zh K7.out hb_)
  replace K9 := am_ (show v3.heap[g9]? = some (.cells #[.slice e1 m1 f1, .slice e2 m2 f2, .int .i64 y3, .slice e4 m4 f4, .int .i64 y5, .int .i64 y6, .int .i64 y7] 69 (0, 0)) from zh K9.out hb_)
  replace HQ := am_ (show dU.C v3 e2 (Y.G.map ku).length (Y.G.map ku) from Kd.zB HQ.out hb_)
  replace RU := am_ (show Ur v3 Z hq from RU.out.step hb_)
  clear hb_ hra
  refine hK.out _ _ ⟨(za K4.out 0).trans rfl, (za K4.out 1).trans rfl, (za K4.out 2).trans rfl, (za K4.out 3).trans rfl, (za K4.out 4).trans rfl, (za K4.out 5).trans rfl, (za K6.out 0).trans rfl, (za K6.out 1).trans rfl, (za K6.out 2).trans rfl, (za K6.out 3).trans rfl, (za K6.out 4).trans rfl, (za K6.out 5).trans rfl, (za K6.out 6).trans rfl, (za K7.out 0).trans rfl, (za K7.out 1).trans rfl, (za K9.out 0).trans rfl, (za K9.out 1).trans rfl, (za K9.out 2).trans rfl, (za K9.out 3).trans rfl, (za K9.out 4).trans rfl, (za K9.out 5).trans rfl, (za K9.out 6).trans rfl⟩ (fun hHeld => ?_); clear hK K
  refine nm_ ?_
  refine on_ HT_ 12 (some 24) (bl_ 18 8191) fun K hK => ?_
  refine goes_ Try.func30 (by kernel_rfl) rfl #[.agg (uc Z hq), .slice Ba a.length da, .slice e2 m2 f2, .agg #[.slice A0 lv.length c0, .slice A1 at_.length c1]] (by rfl) rfl rfl (by (try simp only [List.map_toArray, List.map_cons, List.map_nil]); first | done | rfl) ?_
  have dc_ := DC.out hq Ba da e2 f2 v3 RU.out RA.out.2 RA.out.1 HQ.out (R0.out.step HB.out) (R1.out.step HB.out)
  rw [zaB, ← HM2.out] at dc_
  refine dc_.mono ?_
  clear dc_
  rintro e_ v4 ⟨rfl, hb_⟩
  refine ⟨_, rfl, ?_⟩
  replace HB := am_ (show Below w.heap.size w v4 from zb HB.out hb_)
  replace K4 := am_ (show v4.heap[g4]? = some (.cells #[.int .i64 z1, .slice a1 z2.length k1, .slice a2 z3.length k2, .slice a3 z4.length k3, .slice a4 z5.length k4, .bool z6] 63 (0, 0)) from zh K4.out hb_)
  replace K6 := am_ (show v4.heap[g6]? = some (.cells #[.slice b1 y1.length l1, .slice b2 y2.length l2, .int .i64 y3, .slice b4 y4.length l4, .int .i64 y5, .int .i64 y6, .int .i64 y7] 65 (0, 0)) from zh K6.out hb_)
  replace K7 := am_ (show v4.heap[g7]? = some (.cells #[.slice A0 lv.length c0, .slice A1 at_.length c1] 24 (0, 0)) from zh K7.out hb_)
  replace K9 := am_ (show v4.heap[g9]? = some (.cells #[.slice e1 m1 f1, .slice e2 m2 f2, .int .i64 y3, .slice e4 m4 f4, .int .i64 y5, .int .i64 y6, .int .i64 y7] 69 (0, 0)) from zh K9.out hb_)
  replace HQ := am_ (show dU.C v4 e2 (Y.G.map ku).length (Y.G.map ku) from Kd.zB HQ.out hb_)
  replace RU := am_ (show Ur v4 Z hq from RU.out.step hb_)
  replace RA := am_ (show (ku a).length ≤ da ∧ Kd.C (Kd.int .u64) v4 Ba (ku a).length (ku a) from ⟨RA.out.1, Kd.zB RA.out.2 hb_⟩)
  clear hb_
  refine hK.out _ _ ⟨(za K4.out 0).trans rfl, (za K4.out 1).trans rfl, (za K4.out 2).trans rfl, (za K4.out 3).trans rfl, (za K4.out 4).trans rfl, (za K4.out 5).trans rfl, (za K6.out 0).trans rfl, (za K6.out 1).trans rfl, (za K6.out 2).trans rfl, (za K6.out 3).trans rfl, (za K6.out 4).trans rfl, (za K6.out 5).trans rfl, (za K6.out 6).trans rfl, (za K7.out 0).trans rfl, (za K7.out 1).trans rfl, (za K9.out 0).trans rfl, (za K9.out 1).trans rfl, (za K9.out 2).trans rfl, (za K9.out 3).trans rfl, (za K9.out 4).trans rfl, (za K9.out 5).trans rfl, (za K9.out 6).trans rfl⟩ (fun hHeld => ?_); clear hK K
  refine nm_ ?_
  exact np_ (hJ (hq, Ba, da) _ ⟨hHeld, HB.out, K4.out, K6.out, K7.out, K9.out, HQ.out, RU.out, RA.out⟩)
 rintro ⟨hq, Ba, da⟩ v1 ⟨hHeld, h0_, h1_, h2_, h3_, h4_, h5_, h6_, h7_⟩
 clear HB K4 K6 K7 K9 HQ
 have HB := am_ (show Below w.heap.size w v1 from h0_)
 have K4 := am_ (show v1.heap[g4]? = some (.cells #[.int .i64 z1, .slice a1 z2.length k1, .slice a2 z3.length k2, .slice a3 z4.length k3, .slice a4 z5.length k4, .bool z6] 63 (0, 0)) from h1_)
 have K6 := am_ (show v1.heap[g6]? = some (.cells #[.slice b1 y1.length l1, .slice b2 y2.length l2, .int .i64 y3, .slice b4 y4.length l4, .int .i64 y5, .int .i64 y6, .int .i64 y7] 65 (0, 0)) from h2_)
 have K7 := am_ (show v1.heap[g7]? = some (.cells #[.slice A0 lv.length c0, .slice A1 at_.length c1] 24 (0, 0)) from h3_)
 have K9 := am_ (show v1.heap[g9]? = some (.cells #[.slice e1 m1 f1, .slice e2 m2 f2, .int .i64 y3, .slice e4 m4 f4, .int .i64 y5, .int .i64 y6, .int .i64 y7] 69 (0, 0)) from h4_)
 have HQ := am_ (show dU.C v1 e2 (Y.G.map ku).length (Y.G.map ku) from h5_)
 have RU := am_ (show Ur v1 Z hq from h6_)
 have RA := am_ (show (ku a).length ≤ da ∧ Kd.C (Kd.int .u64) v1 Ba (ku a).length (ku a) from h7_)
 clear h0_ h1_ h2_ h3_ h4_ h5_ h6_ h7_
 refine norm_ (a' := ?_) ?_ ?_; rotate_left; (focus (simp only [putAll, Act.put, sI_, s0_, s1_]; first | done | rfl))
 refine pu_ HT_ 13 25 (bl_ 18 16383) ?_
 refine pu_ HT_ 14 26 (bl_ 18 32767) ?_
 refine on_ HT_ 15 (some 27) (bl_ 18 65535) fun K hK => ?_
 refine goes_ Try.func14 (by kernel_rfl) rfl #[] (by rfl) rfl rfl (by (try simp only [List.map_toArray, List.map_cons, List.map_nil]); first | done | rfl) ?_
 refine (awake_calls v1).mono ?_
 rintro e_ v2 ⟨rfl, hb_⟩
 refine ⟨_, rfl, ?_⟩
 replace HB := am_ (show Below w.heap.size w v2 from zb HB.out hb_)
 replace K4 := am_ (show v2.heap[g4]? = some (.cells #[.int .i64 z1, .slice a1 z2.length k1, .slice a2 z3.length k2, .slice a3 z4.length k3, .slice a4 z5.length k4, .bool z6] 63 (0, 0)) from zh K4.out hb_)
 replace K6 := am_ (show v2.heap[g6]? = some (.cells #[.slice b1 y1.length l1, .slice b2 y2.length l2, .int .i64 y3, .slice b4 y4.length l4, .int .i64 y5, .int .i64 y6, .int .i64 y7] 65 (0, 0)) from zh K6.out hb_)
 replace K7 := am_ (show v2.heap[g7]? = some (.cells #[.slice A0 lv.length c0, .slice A1 at_.length c1] 24 (0, 0)) from zh K7.out hb_)
 replace K9 := am_ (show v2.heap[g9]? = some (.cells #[.slice e1 m1 f1, .slice e2 m2 f2, .int .i64 y3, .slice e4 m4 f4, .int .i64 y5, .int .i64 y6, .int .i64 y7] 69 (0, 0)) from zh K9.out hb_)
 replace HQ := am_ (show dU.C v2 e2 (Y.G.map ku).length (Y.G.map ku) from Kd.zB HQ.out hb_)
 replace RU := am_ (show Ur v2 Z hq from RU.out.step hb_)
 replace RA := am_ (show (ku a).length ≤ da ∧ Kd.C (Kd.int .u64) v2 Ba (ku a).length (ku a) from ⟨RA.out.1, Kd.zB RA.out.2 hb_⟩)
 clear hb_
 refine hK.out _ _ ⟨(za K4.out 0).trans rfl, (za K4.out 1).trans rfl, (za K4.out 2).trans rfl, (za K4.out 3).trans rfl, (za K4.out 4).trans rfl, (za K4.out 5).trans rfl, (za K6.out 0).trans rfl, (za K6.out 1).trans rfl, (za K6.out 2).trans rfl, (za K6.out 3).trans rfl, (za K6.out 4).trans rfl, (za K6.out 5).trans rfl, (za K6.out 6).trans rfl, (za K7.out 0).trans rfl, (za K7.out 1).trans rfl, (za K9.out 0).trans rfl, (za K9.out 1).trans rfl, (za K9.out 2).trans rfl, (za K9.out 3).trans rfl, (za K9.out 4).trans rfl, (za K9.out 5).trans rfl, (za K9.out 6).trans rfl⟩ (fun hHeld => ?_); clear hK K
 refine nm_ ?_
 refine pu_ HT_ 16 28 (bl_ 18 131071) ?_
 refine pu_ HT_ 17 8 (bl_ 18 262143) ?_
 refine zaP (zao HT_.out (by kernel_rfl)) ?_
 clear hHeld
 go_wp2_with fail
 go_ret
 exact ⟨rfl, HB.out⟩
end Go.Proofs.Ytlidbaejhmamjaa.TC
namespace Go.Proofs.Ytlidbaejhmamjaa.TC
open Go.RowKit Go.ChangeShapes Go.WideShapes YtlidbaejhmamjaaW.PrintWords YtlidbaejhmamjaaW.PrintLast YtlidbaejhmamjaaW.PrintMore PB LA AC LW
theorem bulk_one {H : Type} (d : DataW H) : 1 ≤ Rows.uptoBulk d := by
 cases d with
 | lit l => cases l <;> simp [Rows.uptoBulk]
 | nil => simp [Rows.uptoBulk]
 | ptr d => simp [Rows.uptoBulk]
 | slice elems spare => simp [Rows.uptoBulk]
 | agg parts => simp [Rows.uptoBulk]
 | iface t d => simp [Rows.uptoBulk]
 | map entries => simp [Rows.uptoBulk]
 | held h => simp [Rows.uptoBulk]
theorem bulk_mem {H : Type} {d : DataW H} : ∀ {l : List (DataW H)}, d ∈ l → Rows.uptoBulk d ≤ Rows.uptoBulkAll l
 | [], h => by cases h
 | x :: r, h => by
  simp only [Rows.uptoBulkAll]
  rcases List.mem_cons.1 h with e | e
  ·subst e; omega
  ·have := bulk_mem e; omega
theorem bulk_len {H : Type} : ∀ (l : List (DataW H)), l.length ≤ Rows.uptoBulkAll l
 | [] => by simp [Rows.uptoBulkAll]
 | x :: r => by
  have := bulk_one x
  have := bulk_len r
  simp only [Rows.uptoBulkAll, List.length_cons]
  omega
theorem bulk_slice {H : Type} (elems spare : List (DataW H)) : elems.length + 1 ≤ Rows.uptoBulk (.slice elems spare) ∧ ∀ d, d ∈ elems → Rows.uptoBulk d ≤ Rows.uptoBulk (.slice elems spare) := by
 have h1 := bulk_len elems
 refine ⟨by simp only [Rows.uptoBulk]; omega, fun d hd => ?_⟩
 have := bulk_mem hd
 simp only [Rows.uptoBulk]
 omega
section
variable {H : Type} {enc : TypeId × Value → H} {W : World} {base : Nat} {spare : Nat → Bool} {held : Bool}
theorem trod_f64 {fuel : Nat} {v : Value} {x : DataW H × List MemPlace} (h : DataW.trod enc Try.prog W base spare held fuel 95 [v] = some x) : ∃ b : Nat, v = .float .f64 b ∧ b < 18446744073709551616 := by
 cases fuel with
 | zero => simp [DataW.trod] at h
 | succ n =>
  simp only [DataW.trod, Try.underlying95] at h
  cases v <;> try (simp at h; done)
  rename_i k b
  cases k
  ·simp at h
  ·simp at h
   have hw := h.1
   simp [Lit.wf] at hw
   exact ⟨b, rfl, by omega⟩
theorem floats_of_trod {fuel : Nat} {v : Value} {x : DataW H × List MemPlace} (h : DataW.trod enc Try.prog W base spare held fuel 60 [v] = some x) : ∃ A c us, v = .slice A us.length c ∧ kf.C W A us.length us ∧ Wf us ∧ us.length ≤ c ∧ us.length ≤ Rows.uptoBulk x.1 := by
 rcases Deep.open_slice1 Try.underlying60 (by kernel_rfl) h with ⟨hcs, _⟩ | ⟨a, len, cap, m, n, V, D, Pl, hcs, _, hl, hm, hmm, hx, hcell⟩
 ·obtain rfl := (List.cons.inj hcs).1
  exact ⟨none, 0, [], rfl, Kd.C_nil _ _, fun u hu => by simp at hu, Nat.le_refl _, Nat.zero_le _⟩
 ·obtain rfl := (List.cons.inj hcs).1
  have hlm : len ≤ m := by rw [hmm]; split <;> omega
  have each : ∀ i, i < len → ∃ b : Nat, W.cell? (a.add i) = some (.float .f64 b) ∧ b < 18446744073709551616 := fun i hi => by
   obtain ⟨h0, h1⟩ := hcell i (by omega)
   obtain ⟨b, e, hb⟩ := trod_f64 h1
   exact ⟨b, by rw [h0, e], hb⟩
  obtain ⟨q, hq⟩ := Deep.choose_lt each
  have hlen : ((List.range len).map q).length = len := by simp
  refine ⟨some a, cap, (List.range len).map q, by rw [hlen], ⟨rfl, by rw [hlen]; simp [maxLen] at hm; omega, fun _ => ⟨a, rfl, fun j p hj => ⟨[.float .f64 p], rfl, rfl, fun i u hu => ?_⟩⟩⟩, fun u hu => ?_, by rw [hlen]; exact hl, ?_⟩
  ·cases i with
   | succ i => cases hu
   | zero =>
    obtain rfl := Option.some.inj hu
    have hj2 : j < len := by
     rcases Nat.lt_or_ge j len with h1 | h1
     ·exact h1
     ·rw [List.getElem?_eq_none (by rw [hlen]; exact h1)] at hj; cases hj
    have hp : p = q j := by
     rw [List.getElem?_map, List.getElem?_range hj2] at hj
     exact (Option.some.inj hj).symm
    subst hp
    show W.cell? (a.add (j * 1 + 0)) = _
    rw [Nat.mul_one, Nat.add_zero]
    exact (hq j hj2).1
  ·obtain ⟨i, hi, rfl⟩ := List.mem_map.1 hu
   exact (hq i (List.mem_range.1 hi)).2
  ·rw [hlen, hx]
   have := (bulk_slice ((List.range len).map D) ((List.range (m - len)).map fun j => D (len + j))).1
   rw [List.length_map, List.length_range] at this
   exact Nat.le_trans (Nat.le_succ _) this
theorem frows_of_trod {fuel : Nat} {v : Value} {x : DataW H × List MemPlace} (h : DataW.trod enc Try.prog W base spare held fuel 61 [v] = some x) : ∃ A c uss, v = .slice A uss.length c ∧ kff.C W A uss.length uss ∧ (∀ us, us ∈ uss → Wf us ∧ us.length ≤ Rows.uptoBulk x.1) ∧ uss.length ≤ c ∧ uss.length ≤ Rows.uptoBulk x.1 := by
 rcases Deep.open_slice1 Try.underlying61 (by kernel_rfl) h with ⟨hcs, _⟩ | ⟨a, len, cap, m, n, V, D, Pl, hcs, _, hl, hm, hmm, hx, hcell⟩
 ·obtain rfl := (List.cons.inj hcs).1
  exact ⟨none, 0, [], rfl, Kd.C_nil _ _, fun u hu => by simp at hu, Nat.le_refl _, Nat.zero_le _⟩
 ·obtain rfl := (List.cons.inj hcs).1
  have hlm : len ≤ m := by rw [hmm]; split <;> omega
  have hbs := bulk_slice ((List.range len).map D) ((List.range (m - len)).map fun j => D (len + j))
  have each : ∀ i, i < len → ∃ b : List Nat, (∃ A c, W.cell? (a.add i) = some (.slice A b.length c) ∧ kf.C W A b.length b ∧ b.length ≤ c) ∧ Wf b ∧ b.length ≤ Rows.uptoBulk x.1 := fun i hi => by
   obtain ⟨h0, h1⟩ := hcell i (by omega)
   obtain ⟨A, c, us, e, hk, hw, hc, hb⟩ := floats_of_trod h1
   refine ⟨us, ⟨A, c, by rw [h0, e], hk, hc⟩, hw, ?_⟩
   have := hbs.2 (D i) (List.mem_map.2 ⟨i, List.mem_range.2 hi, rfl⟩)
   rw [hx]
   exact Nat.le_trans hb this
  obtain ⟨q, hq⟩ := Deep.choose_lt each
  have hlen : ((List.range len).map q).length = len := by simp
  refine ⟨some a, cap, (List.range len).map q, by rw [hlen], ⟨rfl, by rw [hlen]; simp [maxLen] at hm; omega, fun _ => ⟨a, rfl, fun j p hj => ?_⟩⟩, fun u hu => ?_, by rw [hlen]; exact hl, ?_⟩
  ·have hj2 : j < len := by
    rcases Nat.lt_or_ge j len with h1 | h1
    ·exact h1
    ·rw [List.getElem?_eq_none (by rw [hlen]; exact h1)] at hj; cases hj
   have hp : p = q j := by
    rw [List.getElem?_map, List.getElem?_range hj2] at hj
    exact (Option.some.inj hj).symm
   subst hp
   obtain ⟨⟨A, c, h0, hk, hc⟩, _, _⟩ := hq j hj2
   refine ⟨[.slice A (q j).length c], rfl, ⟨A, c, rfl, hc, hk⟩, fun i u hu => ?_⟩
   cases i with
   | succ i => cases hu
   | zero =>
    obtain rfl := Option.some.inj hu
    show W.cell? (a.add (j * 1 + 0)) = _
    rw [Nat.mul_one, Nat.add_zero]
    exact h0
  ·obtain ⟨i, hi, rfl⟩ := List.mem_map.1 hu
   exact (hq i (List.mem_range.1 hi)).2
  ·rw [hlen, hx]
   have := hbs.1
   rw [List.length_map, List.length_range] at this
   exact Nat.le_trans (Nat.le_succ _) this
theorem ints_of_trod2 {fuel : Nat} {v : Value} {x : DataW H × List MemPlace} (h : DataW.trod enc Try.prog W base spare held fuel 22 [v] = some x) : ∃ A c xs, v = .slice A xs.length c ∧ Rd W A c xs ∧ I64 xs ∧ xs.length ≤ Rows.uptoBulk x.1 := by
 obtain ⟨A, c, xs, hv, hr, hi⟩ := LW.ints_of_trod h
 refine ⟨A, c, xs, hv, hr, hi, ?_⟩
 rcases Deep.open_slice1 Try.underlying22 (by kernel_rfl) h with ⟨hcs, _⟩ | ⟨a, len, cap, m, n, V, D, Pl, hcs, _, hl, hm, hmm, hx, hcell⟩
 ·obtain hcs := (List.cons.inj hcs).1
  rw [hv] at hcs
  injection hcs with _ e _
  omega
 ·obtain hcs := (List.cons.inj hcs).1
  rw [hv] at hcs
  injection hcs with _ e _
  rw [e, hx]
  have := (bulk_slice ((List.range len).map D) ((List.range (m - len)).map fun j => D (len + j))).1
  rw [List.length_map, List.length_range] at this
  exact Nat.le_trans (Nat.le_succ _) this
theorem int_of_trod {fuel : Nat} {v : Value} {x : DataW H × List MemPlace} (h : DataW.trod enc Try.prog W base spare held fuel 3 [v] = some x) : ∃ n, v = .int .i64 n := by
 obtain ⟨n, hcs, _⟩ := DataW.trod_int Try.underlying3 h
 exact ⟨n, (List.cons.inj hcs).1⟩
theorem bool_of_trod {fuel : Nat} {v : Value} {x : DataW H × List MemPlace} (h : DataW.trod enc Try.prog W base spare held fuel 4 [v] = some x) : ∃ b, v = .bool b := by
 obtain ⟨n, hcs, _⟩ := DataW.trod_bool Try.underlying4 h
 exact ⟨n, (List.cons.inj hcs).1⟩
theorem array6 {α : Type} {cs : Array α} (h : cs.size = 6) : ∃ c0 c1 c2 c3 c4 c5, cs = #[c0, c1, c2, c3, c4, c5] := by
 obtain ⟨l⟩ := cs
 have h : l.length = 6 := h
 rcases l with _ | ⟨c0, l⟩
 ·simp at h
 rcases l with _ | ⟨c1, l⟩
 ·simp at h
 rcases l with _ | ⟨c2, l⟩
 ·simp at h
 rcases l with _ | ⟨c3, l⟩
 ·simp at h
 rcases l with _ | ⟨c4, l⟩
 ·simp at h
 rcases l with _ | ⟨c5, l⟩
 ·simp at h
 rcases l with _ | ⟨c_, l⟩
 ·exact ⟨c0, c1, c2, c3, c4, c5, rfl⟩
 ·simp at h
set_option maxRecDepth 100000 in
theorem open_agg6 {r : Reach} {b0 : Nat} {t : TypeId} {f0 f1 f2 f3 f4 f5 : Field} {v : Value} {d : DataW H} {p : List MemPlace} (hs : Try.prog.underlying t = some (.struct #[f0, f1, f2, f3, f4, f5])) (hone : Deep.oneCellFields Try.prog #[f0, f1, f2, f3, f4, f5] = true) (hC : Try.prog.cellsOf t = 6)
  (hv : Value.okWide Try.prog W r b0 t v) (h : DataW.Trod enc Try.prog W base spare held t v d p) :
  ∃ (v0 v1 v2 v3 v4 v5 : Value) (y0 y1 y2 y3 y4 y5 : DataW H × List MemPlace) (n : Nat), v = .agg #[v0, v1, v2, v3, v4, v5] ∧ d = .agg [y0.1, y1.1, y2.1, y3.1, y4.1, y5.1] ∧ DataW.trod enc Try.prog W base spare held n f0.type [v0] = some y0 ∧ DataW.trod enc Try.prog W base spare held n f1.type [v1] = some y1 ∧ DataW.trod enc Try.prog W base spare held n f2.type [v2] = some y2 ∧ DataW.trod enc Try.prog W base spare held n f3.type [v3] = some y3 ∧ DataW.trod enc Try.prog W base spare held n f4.type [v4] = some y4 ∧ DataW.trod enc Try.prog W base spare held n f5.type [v5] = some y5 := by
 obtain ⟨cs, rfl, hsz⟩ := okWide_struct hs hv
 obtain ⟨c0, c1, c2, c3, c4, c5, rfl⟩ := array6 (hsz.trans hC)
 obtain ⟨fuel, hf⟩ := h
 obtain ⟨xs, n, _, hx, hl, hlen, hfs⟩ := DataW.trod_struct hs hf
 match xs, hlen with
 | [y0, y1, y2, y3, y4, y5], _ =>
  obtain ⟨o0, k0⟩ := Deep.hone_of hone 0 f0 rfl
  obtain ⟨o1, k1⟩ := Deep.hone_of hone 1 f1 rfl
  obtain ⟨o2, k2⟩ := Deep.hone_of hone 2 f2 rfl
  obtain ⟨o3, k3⟩ := Deep.hone_of hone 3 f3 rfl
  obtain ⟨o4, k4⟩ := Deep.hone_of hone 4 f4 rfl
  obtain ⟨o5, k5⟩ := Deep.hone_of hone 5 f5 rfl
  simp only [Prod.mk.injEq] at hx
  have h0 := hfs 0 f0 rfl
  rw [o0, k0] at h0
  have h1 := hfs 1 f1 rfl
  rw [o1, k1] at h1
  have h2 := hfs 2 f2 rfl
  rw [o2, k2] at h2
  have h3 := hfs 3 f3 rfl
  rw [o3, k3] at h3
  have h4 := hfs 4 f4 rfl
  rw [o4, k4] at h4
  have h5 := hfs 5 f5 rfl
  rw [o5, k5] at h5
  exact ⟨c0, c1, c2, c3, c4, c5, y0, y1, y2, y3, y4, y5, n, rfl, hx.1, h0, h1, h2, h3, h4, h5⟩
theorem array7 {α : Type} {cs : Array α} (h : cs.size = 7) : ∃ c0 c1 c2 c3 c4 c5 c6, cs = #[c0, c1, c2, c3, c4, c5, c6] := by
 obtain ⟨l⟩ := cs
 have h : l.length = 7 := h
 rcases l with _ | ⟨c0, l⟩
 ·simp at h
 rcases l with _ | ⟨c1, l⟩
 ·simp at h
 rcases l with _ | ⟨c2, l⟩
 ·simp at h
 rcases l with _ | ⟨c3, l⟩
 ·simp at h
 rcases l with _ | ⟨c4, l⟩
 ·simp at h
 rcases l with _ | ⟨c5, l⟩
 ·simp at h
 rcases l with _ | ⟨c6, l⟩
 ·simp at h
 rcases l with _ | ⟨c_, l⟩
 ·exact ⟨c0, c1, c2, c3, c4, c5, c6, rfl⟩
 ·simp at h
set_option maxRecDepth 100000 in
theorem open_agg7 {r : Reach} {b0 : Nat} {t : TypeId} {f0 f1 f2 f3 f4 f5 f6 : Field} {v : Value} {d : DataW H} {p : List MemPlace} (hs : Try.prog.underlying t = some (.struct #[f0, f1, f2, f3, f4, f5, f6])) (hone : Deep.oneCellFields Try.prog #[f0, f1, f2, f3, f4, f5, f6] = true) (hC : Try.prog.cellsOf t = 7)
  (hv : Value.okWide Try.prog W r b0 t v) (h : DataW.Trod enc Try.prog W base spare held t v d p) :
  ∃ (v0 v1 v2 v3 v4 v5 v6 : Value) (y0 y1 y2 y3 y4 y5 y6 : DataW H × List MemPlace) (n : Nat), v = .agg #[v0, v1, v2, v3, v4, v5, v6] ∧ d = .agg [y0.1, y1.1, y2.1, y3.1, y4.1, y5.1, y6.1] ∧ DataW.trod enc Try.prog W base spare held n f0.type [v0] = some y0 ∧ DataW.trod enc Try.prog W base spare held n f1.type [v1] = some y1 ∧ DataW.trod enc Try.prog W base spare held n f2.type [v2] = some y2 ∧ DataW.trod enc Try.prog W base spare held n f3.type [v3] = some y3 ∧ DataW.trod enc Try.prog W base spare held n f4.type [v4] = some y4 ∧ DataW.trod enc Try.prog W base spare held n f5.type [v5] = some y5 ∧ DataW.trod enc Try.prog W base spare held n f6.type [v6] = some y6 := by
 obtain ⟨cs, rfl, hsz⟩ := okWide_struct hs hv
 obtain ⟨c0, c1, c2, c3, c4, c5, c6, rfl⟩ := array7 (hsz.trans hC)
 obtain ⟨fuel, hf⟩ := h
 obtain ⟨xs, n, _, hx, hl, hlen, hfs⟩ := DataW.trod_struct hs hf
 match xs, hlen with
 | [y0, y1, y2, y3, y4, y5, y6], _ =>
  obtain ⟨o0, k0⟩ := Deep.hone_of hone 0 f0 rfl
  obtain ⟨o1, k1⟩ := Deep.hone_of hone 1 f1 rfl
  obtain ⟨o2, k2⟩ := Deep.hone_of hone 2 f2 rfl
  obtain ⟨o3, k3⟩ := Deep.hone_of hone 3 f3 rfl
  obtain ⟨o4, k4⟩ := Deep.hone_of hone 4 f4 rfl
  obtain ⟨o5, k5⟩ := Deep.hone_of hone 5 f5 rfl
  obtain ⟨o6, k6⟩ := Deep.hone_of hone 6 f6 rfl
  simp only [Prod.mk.injEq] at hx
  have h0 := hfs 0 f0 rfl
  rw [o0, k0] at h0
  have h1 := hfs 1 f1 rfl
  rw [o1, k1] at h1
  have h2 := hfs 2 f2 rfl
  rw [o2, k2] at h2
  have h3 := hfs 3 f3 rfl
  rw [o3, k3] at h3
  have h4 := hfs 4 f4 rfl
  rw [o4, k4] at h4
  have h5 := hfs 5 f5 rfl
  rw [o5, k5] at h5
  have h6 := hfs 6 f6 rfl
  rw [o6, k6] at h6
  exact ⟨c0, c1, c2, c3, c4, c5, c6, y0, y1, y2, y3, y4, y5, y6, n, rfl, hx.1, h0, h1, h2, h3, h4, h5, h6⟩
end
end Go.Proofs.Ytlidbaejhmamjaa.TC
