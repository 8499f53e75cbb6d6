/- Part 6 of the proof of SplitRoomUpto: what the functions below it compute, each shown by a walk or by plain reasoning; no condition of its own. -/
import Derived.Test.YtlidbaejhmamjaaRM5
import Derived.Test.YtlidbaejhmamjaaRM3
import Derived.Test.YtlidbaejhmamjaaRM1
import Derived.Test.YtlidbaejhmamjaaRows
import Derived.Deep.Slices
import Derived.Test.YtlidbaejhmamjaaRM4
set_option linter.unusedVariables false
set_option linter.unusedSimpArgs false
set_option maxHeartbeats 16000000
set_option maxRecDepth 100000
namespace Go.Proofs.Ytlidbaejhmamjaa.TC
open Go.RowKit YtlidbaejhmamjaaW.PrintWords YtlidbaejhmamjaaW.PrintLast YtlidbaejhmamjaaW.PrintMore PB LA AC LW SL NW
theorem zaX : (Try.prog.info? 145).map (·.size) = some 5 := by kernel_rfl
def kN : Kd (List zaU) := Kd.slice 101 k101
structure Rl where
 n : Int
 b1 : Option Addr
 m1 : Nat
 d1 : Nat
 b2 : Option Addr
 m2 : Nat
 d2 : Nat
 b3 : Option Addr
 m3 : Nat
 d3 : Nat
 b4 : Option Addr
 m4 : Nat
 d4 : Nat
def rlc (r : Rl) : Array Value := #[.int .i64 r.n, .slice r.b1 r.m1 r.d1, .slice r.b2 r.m2 r.d2, .slice r.b3 r.m3 r.d3, .slice r.b4 r.m4 r.d4]
/-- The columns' numbers. -/
def Cols (uss : List (List Nat)) (k : Nat) (xss : List (List zaU)) : Prop := xss.length = k ∧ ∀ i, i < k → Nums (rdl uss i) (rd_L7 xss (i : Int))
theorem rd7_app (xs : List (List zaU)) (x : List zaU) (i : Nat) (h : i < xs.length) : rd_L7 (xs ++ [x]) (i : Int) = rd_L7 xs (i : Int) := by
 unfold rd_L7; rw [Int.toNat_natCast, List.getD_eq_getElem?_getD, List.getD_eq_getElem?_getD, List.getElem?_append_left h]
theorem rd7_last (xs : List (List zaU)) (x : List zaU) : rd_L7 (xs ++ [x]) ((xs.length : Nat) : Int) = x := by
 unfold rd_L7; rw [Int.toNat_natCast, List.getD_eq_getElem?_getD, List.getElem?_append_right (Nat.le_refl _), Nat.sub_self]; rfl
theorem Cols.snoc {uss : List (List Nat)} {k : Nat} {xss : List (List zaU)} {x : List zaU} (h : Cols uss k xss) (hx : Nums (rdl uss k) x) : Cols uss (k + 1) (xss ++ [x]) := by
 refine ⟨by rw [List.length_append, h.1]; rfl, fun j hj => ?_⟩
 by_cases e : j = k
 ·subst e; have := rd7_last xss x; rw [h.1] at this; rw [this]; exact hx
 ·rw [rd7_app xss x j (by have := h.1; omega)]; exact h.2 j yO_
theorem ltz_num (u : Nat) (hu : u < 18446744073709551616) (h : fo u = true) : ltz u = (fs u && decide (fm u ≠ 0)) := by
 have e0 : fnum 0 = some (false, 0, -1074) := by decide
 unfold fo at h
 cases hf : fnum u with
 | none => rw [hf] at h; cases h
 | some r =>
  obtain ⟨s, m, e⟩ := r; obtain ⟨g0, g1, g2, g3⟩ := of_fnum hf; have f2 := fe_in u; rw [g1, g2]; rw [g3] at f2
  show (Ieee.Datum.order (Ieee.double.read u) (Ieee.double.read 0) == some Ordering.lt) = _
  rw [read_num u hu, read_num 0 yD_, hf, e0]; simp only [Ieee.Datum.order]; rw [show min e (-1074) = -1074 by omega]; have hz : Ieee.signed false 0 ((-1074 : Int) - -1074).toNat = 0 := by decide
  rw [hz]; have hp : 0 < 2 ^ (e - -1074).toNat := Nat.pow_pos yD_
  have hs : Ieee.signed s m (e - -1074).toNat = if s = true then -((m * 2 ^ (e - -1074).toNat : Nat) : Int) else ((m * 2 ^ (e - -1074).toNat : Nat) : Int) := by
   unfold Ieee.signed; rw [Nat.shiftLeft_eq]
  rw [hs]; have hm : m ≠ 0 → 0 < m * 2 ^ (e - -1074).toNat := fun h0 => Nat.mul_pos yO_ hp
  have hm0 : m = 0 → m * 2 ^ (e - -1074).toNat = 0 := fun h0 => by rw [h0, Nat.zero_mul]
  generalize m * 2 ^ (e - -1074).toNat = q at *
  cases s with
  | false =>
   rw [if_neg yD_, Bool.false_and, beq_eq_false_iff_ne]; intro hc; have := Int.compare_eq_lt.1 (Option.some.inj hc)
   omega
  | true =>
   rw [if_pos rfl, Bool.true_and]
   by_cases h0 : m = 0
   ·rw [decide_eq_false yO_, beq_eq_false_iff_ne]; intro hc; have := Int.compare_eq_lt.1 (Option.some.inj hc); have := hm0 h0
    omega
   ·rw [decide_eq_true h0, show compare (-(q : Int)) 0 = .lt from Int.compare_eq_lt.2 (by have := hm h0; omega)]; rfl
/-- The sign of a number of some bits. -/
theorem sign_num {u : Nat} {x : zaU} (hu : u < 18446744073709551616) (hf : fo u = true) (h : OfV u x) : ∃ s : Int, zaN.f x.f0 x.f1 x.f2 = some s ∧ decide (s < 0) = ltz u := by
 rw [ltz_num u hu hf]; unfold zaN.f
 by_cases h0 : x.f1.length = 0
 ·have h4 := h.2.2.2.1; rw [List.length_eq_zero_iff.1 h0] at h4; have hm : fm u = 0 := by simp only [nv] at h4; omega
  exact ⟨0, if_pos yO_, by rw [hm]; simp⟩
 ·have hm : fm u ≠ 0 := fun e => by
   have h4 := h.2.2.2.1; rw [e] at h4; exact h0 (nv_zero_len h.1 h.2.1 h4)
  rcases h.2.2.2.2.1 with h5 | h5
  ·exact absurd h5 h0
  ·rw [if_neg yO_, h5.1]
   cases fs u with
   | true => exact ⟨-1, rfl, by rw [decide_eq_true hm]; rfl⟩
   | false => exact ⟨1, rfl, by rfl⟩
def zaT.T18 : Bool × List (List Nat × List Nat) := (true, [([], []), ([0], [0]), ([], []), ([1, 2], [1, 2]), ([3], [3]), ([4], [4]), ([5], [5]), ([6], [6]), ([7, 6], [6, 7]), ([6], [6]), ([8, 9, 6], [6, 8, 9]), ([10, 6], [6, 10]), ([11, 6], [6, 11]), ([6, 12], [6, 12]), ([13, 6], [13]), ([14], [14]), ([15, 14], [14, 15]), ([16, 14, 14], [14, 16]), ([17], [17]), ([18, 17], [17, 18]), ([17], [17]), ([20, 17], [17, 20]), ([19, 21, 17], [17, 19, 21]), ([22, 17], [17, 22]), ([17], [17]), ([24, 17], [17, 24]), ([17], [17]), ([25, 26, 17], [17, 25, 26]), ([27, 17], [17, 27]), ([23, 28, 17], [17, 23, 28]), ([17, 29, 14], [14, 17, 29]), ([14, 30], [14, 30])])
def zaT.B18 : List Nat := [0, 1, 0, 7, 15, 31, 63, 127, 255, 127, 1023, 2047, 4095, 8191, 16383, 32767, 65535, 131071, 262143, 524287, 262143, 1310719, 4194303, 8388607, 262143, 17039359, 262143, 117702655, 251920383, 536870911, 1073741823, 2147483647]
theorem zaT.tab18 : zbc .any (opsOf Try.f77 18) = zaT.T18 := by kernel_rfl
theorem zaT.bits18 : zal zaT.T18.2 zaT.B18 = true := by kernel_rfl
def zaT.T20 : Bool × List (List Nat × List Nat) := (true, [([], []), ([0], [0]), ([], []), ([1, 2], [1, 2]), ([3], [3]), ([], []), ([5], [5]), ([4, 6], [4, 6]), ([7], [7]), ([8], [8]), ([8], [8]), ([9, 7, 0, 1, 2, 3, 4, 5, 6, 7, 8, 9], [9]), ([10, 11, 0, 1, 2, 3, 4, 5, 6, 7, 8, 9, 10, 11], [10])])
def zaT.B20 : List Nat := [0, 1, 0, 7, 15, 0, 32, 127, 255, 511, 511, 1023, 4095]
theorem zaT.tab20 : zbc .any (opsOf Try.f77 20) = zaT.T20 := by kernel_rfl
theorem zaT.bits20 : zal zaT.T20.2 zaT.B20 = true := by kernel_rfl
def zaT.T23 : Bool × List (List Nat × List Nat) := (true, [([], []), ([0], [0]), ([], []), ([2], [2]), ([], []), ([3, 4], [3, 4]), ([5], [5]), ([6], [6]), ([1, 7], [1, 7]), ([0, 1, 2, 3, 4, 5, 6, 7, 8], []), ([9, 8, 8, 0, 1, 2, 3, 4, 5, 6, 7, 8], [8, 9])])
def zaT.B23 : List Nat := [0, 1, 0, 4, 0, 28, 60, 124, 255, 511, 1023]
theorem zaT.tab23 : zbc .any (opsOf Try.f77 23) = zaT.T23 := by kernel_rfl
theorem zaT.bits23 : zal zaT.T23.2 zaT.B23 = true := by kernel_rfl
theorem reals_calls (z : Zn) (h : Zh) (w : World) (hr : Ur w z h) (hf : Zf z) (hs : ∀ n, n = z.C.length ∨ n = z.ids.length ∨ n = z.G.length ∨ n = z.R.length → n ≤ 2000000) (hg : ∀ us, us ∈ z.G → us.length ≤ 2000000) :
  Calls Try.prog 77 #[.agg (uc z h)] w fun e w' => ∃ r, e = .returned (.tuple #[.agg (rlc r), .bool (goodB z)]) ∧ (goodB z = true → ∃ xss, r.m3 = (xss : List (List zaU)).length ∧ kN.C w' r.b3 xss.length xss ∧ Cols z.G z.G.length xss) ∧ Below w.heap.size w w' := by
 obtain ⟨z1, z2, z3, z4, z5, z6⟩ := z; obtain ⟨a1, k1, a2, k2, a3, k3, a4, k4⟩ := h; have hu74 := Try.underlying74; have hu145 := Try.underlying145; have hu101 := Try.underlying101; have Q1 := J (show Kd.C (Kd.int .u64) w a1 (ku z2).length (ku z2) ∧ (ku z2).length ≤ k1 from ⟨hr.r1, hr.k1⟩); have Q2 := J (show Rd w a2 k2 z3 from hr.r2); have Q3 := J (show dU.C w a3 (z4.map ku).length (z4.map ku) from hr.r3); have Q4 := J (show Kd.C (Kd.int .u64) w a4 (ku z5).length (ku z5) ∧ (ku z5).length ≤ k4 from ⟨hr.r4, hr.k4⟩); have W2 := J (show Wf z2 from hf.C); have W4 := J (show ∀ us, us ∈ z4 → Wf us from hf.G); have W5 := J (show Wf z5 from hf.R); have S2 := J (show z2.length ≤ 2000000 from hs _ (.inl rfl)); have S3 := J (show z3.length ≤ 2000000 from hs _ (.inr (.inl rfl))); have S4 := J (show z4.length ≤ 2000000 from hs _ (.inr (.inr (.inl rfl)))); have S5 := J (show z5.length ≤ 2000000 from hs _ (.inr (.inr (.inr rfl)))); have SG := J (show ∀ us, us ∈ z4 → us.length ≤ 2000000 from hg)
 show Calls Try.prog 77 #[.agg #[.int .i64 z1, .slice a1 (ku z2).length k1, .slice a2 z3.length k2, .slice a3 (z4.map ku).length k3, .slice a4 (ku z5).length k4, .bool z6]] w fun e w' => ∃ r, e = .returned (.tuple #[.agg (rlc r), .bool (goodB ⟨z1, z2, z3, z4, z5, z6⟩)]) ∧ (goodB ⟨z1, z2, z3, z4, z5, z6⟩ = true → ∃ xss, r.m3 = (xss : List (List zaU)).length ∧ kN.C w' r.b3 xss.length xss ∧ Cols z4 z4.length xss) ∧ Below w.heap.size w w'
 clear hr hf hs hg; obtain ⟨l2, bM⟩ : ∃ l, l = ku z2 := ⟨_, rfl⟩
 obtain ⟨l4, bI⟩ : ∃ l, l = z4.map ku := ⟨_, rfl⟩
 obtain ⟨l5, bN⟩ : ∃ l, l = ku z5 := ⟨_, rfl⟩
 rw [← bM, ← bI, ← bN]; rw [← bM] at Q1; rw [← bI] at Q3; rw [← bN] at Q4; have bQ := J bM; have HL4 := J bI; have bR := J bN; have N4 := J (show l4.length = z4.length by rw [bI, List.length_map]); clear bM bI bN; obtain ⟨Z, hz⟩ : ∃ Z, Z = (⟨z1, z2, z3, z4, z5, z6⟩ : Zn) := ⟨_, rfl⟩
 rw [← hz]; have HZ := J hz; clear hz; generalize hb : goodB Z = b; have HBV := J hb; clear hb; go_enter Try.func77, Try.ntmps77; cases z6
 ·by_cases h1 : z1 < 1
  ·have q1 := eq_true h1; have q2 := decide_eq_true h1; have N1 := J h1; clear h1; go_wp2_with (first
  | ((with_reducible refine zf (N := 1) rfl ?_); refine zah 1 (cs := #[.int .i64 z1, .slice a1 l2.length k1, .slice a2 z3.length k2, .slice a3 l4.length k3, .slice a4 l5.length k4, .bool false]) (t := 74) ?_; intro g1 aD w1 aC aA; have HB := J aA; have K1 := J aC; have L1 := J (show w.heap.size ≤ g1 by omega); clear aD aC aA)
  | ((with_reducible refine zf (N := 2) rfl ?_); refine zah 2 (cs := #[.int .i64 0, .slice none 0 0, .slice none 0 0, .slice none 0 0, .slice none 0 0]) (t := 145) ?_; intro g2 aD w2 aC aA; have bK := J (show g1 ≠ g2 by have := zac K1.o; omega); have L2 := J (show w.heap.size ≤ g2 by have := HB.o.size; omega); replace HB := J (za HB.o aA); replace K1 := J (zd K1.o aA); have K2 := J aC; clear aD aC aA; have c0 := cz_ K1.o 0 rfl; have c1 := cz_ K1.o 1 rfl; have c2 := cz_ K1.o 2 rfl; have c3 := cz_ K1.o 3 rfl; have c4 := cz_ K1.o 4 rfl; have c5 := cz_ K1.o 5 rfl)
  | ((with_reducible refine zj (t := 145) (p := 2) rfl ?_); refine zi rfl 145 rfl rfl g2 #[.int .i64 0, .slice none 0 0, .slice none 0 0, .slice none 0 0, .slice none 0 0] rfl rfl 145 _ K2.o (zaX.trans rfl) rfl (by simp [Value.oneCell']) ?_; intro wf aC aD; replace HB := J (HB.o.grown aD HB.o.size (fun k_ aE => by cases aE; exact L2.o)); replace K2 := J aC; clear aC aD)
  | fail)
   refine bodyPost_ret (zan rfl _ _ g2 145 #[.int .i64 0, .slice none 0 0, .slice none 0 0, .slice none 0 0, .slice none 0 0] (0, 0) _ rfl K2.o Try.underlying145 rfl yK_) rfl ?_; have aB : b = false := by rw [← HBV.o, zW (fun h_ => by rw [HZ.o] at h_; have := h_.2.1.1; have := N1.o; simp only at *; omega)]
   exact ⟨⟨0, none, 0, 0, none, 0, 0, none, 0, 0, none, 0, 0⟩, by rw [aB]; first | done | rfl, (fun h_ => by rw [aB] at h_; cases h_), HB.o⟩
  ·have q1 := eq_false h1; have q2 := decide_eq_false h1
   by_cases h2 : 256 < z1
   ·have q3 := eq_true h2; have q4 := decide_eq_true h2; have N2 := J h2; clear h1 h2; go_wp2_with (first
  | ((with_reducible refine zf (N := 1) rfl ?_); refine zah 1 (cs := #[.int .i64 z1, .slice a1 l2.length k1, .slice a2 z3.length k2, .slice a3 l4.length k3, .slice a4 l5.length k4, .bool false]) (t := 74) ?_; intro g1 aD w1 aC aA; have HB := J aA; have K1 := J aC; have L1 := J (show w.heap.size ≤ g1 by omega); clear aD aC aA)
  | ((with_reducible refine zf (N := 2) rfl ?_); refine zah 2 (cs := #[.int .i64 0, .slice none 0 0, .slice none 0 0, .slice none 0 0, .slice none 0 0]) (t := 145) ?_; intro g2 aD w2 aC aA; have bK := J (show g1 ≠ g2 by have := zac K1.o; omega); have L2 := J (show w.heap.size ≤ g2 by have := HB.o.size; omega); replace HB := J (za HB.o aA); replace K1 := J (zd K1.o aA); have K2 := J aC; clear aD aC aA; have c0 := cz_ K1.o 0 rfl; have c1 := cz_ K1.o 1 rfl; have c2 := cz_ K1.o 2 rfl; have c3 := cz_ K1.o 3 rfl; have c4 := cz_ K1.o 4 rfl; have c5 := cz_ K1.o 5 rfl)
  | ((with_reducible refine zj (t := 145) (p := 2) rfl ?_); refine zi rfl 145 rfl rfl g2 #[.int .i64 0, .slice none 0 0, .slice none 0 0, .slice none 0 0, .slice none 0 0] rfl rfl 145 _ K2.o (zaX.trans rfl) rfl (by simp [Value.oneCell']) ?_; intro wf aC aD; replace HB := J (HB.o.grown aD HB.o.size (fun k_ aE => by cases aE; exact L2.o)); replace K2 := J aC; clear aC aD)
  | fail)
    refine bodyPost_ret (zan rfl _ _ g2 145 #[.int .i64 0, .slice none 0 0, .slice none 0 0, .slice none 0 0, .slice none 0 0] (0, 0) _ rfl K2.o Try.underlying145 rfl yK_) rfl ?_; have aB : b = false := by rw [← HBV.o, zW (fun h_ => by rw [HZ.o] at h_; have := h_.2.1.2; have := N2.o; simp only at *; omega)]
    exact ⟨⟨0, none, 0, 0, none, 0, 0, none, 0, 0, none, 0, 0⟩, by rw [aB]; first | done | rfl, (fun h_ => by rw [aB] at h_; cases h_), HB.o⟩
   ·have q3 := eq_false h2; have q4 := decide_eq_false h2; have N2 := J (show 1 ≤ z1 ∧ z1 ≤ 256 by omega); clear h1 h2
    by_cases hl : z3.length = l4.length
    ·have q5 : ((z3.length : Int) != (l4.length : Int)) = false := by rw [hl]; exact bne_self_eq_false _
     have NL := J (show z3.length = z4.length by have := N4.o; omega); have NLL := J hl; clear hl; go_wp2_with (first
  | ((with_reducible refine zf (N := 1) rfl ?_); refine zah 1 (cs := #[.int .i64 z1, .slice a1 l2.length k1, .slice a2 z3.length k2, .slice a3 l4.length k3, .slice a4 l5.length k4, .bool false]) (t := 74) ?_; intro g1 aD w1 aC aA; have HB := J aA; have K1 := J aC; have L1 := J (show w.heap.size ≤ g1 by omega); clear aD aC aA)
  | ((with_reducible refine zf (N := 2) rfl ?_); refine zah 2 (cs := #[.int .i64 0, .slice none 0 0, .slice none 0 0, .slice none 0 0, .slice none 0 0]) (t := 145) ?_; intro g2 aD w2 aC aA; have bK := J (show g1 ≠ g2 by have := zac K1.o; omega); have L2 := J (show w.heap.size ≤ g2 by have := HB.o.size; omega); replace HB := J (za HB.o aA); replace K1 := J (zd K1.o aA); have K2 := J aC; clear aD aC aA; have c0 := cz_ K1.o 0 rfl; have c1 := cz_ K1.o 1 rfl; have c2 := cz_ K1.o 2 rfl; have c3 := cz_ K1.o 3 rfl; have c4 := cz_ K1.o 4 rfl; have c5 := cz_ K1.o 5 rfl)
  | ((with_reducible refine zf (N := 4) rfl ?_); refine zah 4 (cs := #[.int .i64 0, .slice none 0 0, .slice none 0 0, .slice none 0 0, .slice none 0 0]) (t := 145) ?_; intro g4 aD w3 aC aA; have aU := J (show g1 ≠ g4 ∧ g2 ≠ g4 by have := zac K1.o; have := zac K2.o; omega); have L4 := J (show w.heap.size ≤ g4 by have := HB.o.size; omega); replace HB := J (za HB.o aA); replace K1 := J (zd K1.o aA); replace K2 := J (zd K2.o aA); have K4 := J aC; clear aD aC aA c0 c1 c2 c3 c4 c5)
  | ((with_reducible refine zj (t := 145) (p := 4) rfl ?_); refine zi rfl 145 rfl rfl g4 #[.int .i64 z1, .slice none 0 0, .slice none 0 0, .slice none 0 0, .slice none 0 0] rfl rfl 145 _ K4.o (zaX.trans rfl) rfl (by simp [Value.oneCell']) ?_; intro w4 aC aD; replace HB := J (HB.o.grown aD HB.o.size (fun k_ aE => by cases aE; exact L4.o)); replace K4 := J aC; replace K1 := J (zu aD K1.o (fun e => aU.o.1 (Option.some.inj e))); replace K2 := J (zu aD K2.o (fun e => aU.o.2 (Option.some.inj e))); clear aC aD; have c0 := cz_ K1.o 0 rfl; have c1 := cz_ K1.o 1 rfl; have c2 := cz_ K1.o 2 rfl; have c3 := cz_ K1.o 3 rfl; have c4 := cz_ K1.o 4 rfl; have c5 := cz_ K1.o 5 rfl)
  | fail)
     have nc := numbers_calls z2 z1 a1 k1 w4 (by rw [← bQ.o]; exact Kd.zm Q1.o.1 HB.o) (by rw [← bQ.o]; exact Q1.o.2) W2.o S2.o; rw [← bQ.o] at nc; refine nc.mono ?_; clear nc; rintro e_ w5 ⟨B1, d1, aW, rfl, _, _, aA⟩; replace HB := J (za HB.o aA); replace K1 := J (zd K1.o aA); replace K2 := J (zd K2.o aA); replace K4 := J (zd K4.o aA); clear aA c0 c1 c2 c3 c4 c5; have c0 := cz_ K1.o 0 rfl; have c1 := cz_ K1.o 1 rfl; have c2 := cz_ K1.o 2 rfl; have c3 := cz_ K1.o 3 rfl; have c4 := cz_ K1.o 4 rfl; have c5 := cz_ K1.o 5 rfl; go_wp2_with fail; have nc := numbers_calls z5 z1 a4 k4 w5 (by rw [← bR.o]; exact Kd.zm Q4.o.1 HB.o) (by rw [← bR.o]; exact Q4.o.2) W5.o S5.o; rw [← bR.o] at nc; refine nc.mono ?_; clear nc; rintro e_ w6 ⟨B4, d4, aT, rfl, hs4, bO, aA⟩; replace HB := J (za HB.o aA); replace K1 := J (zd K1.o aA); replace K2 := J (zd K2.o aA); replace K4 := J (zd K4.o aA); have bD := J (Kd.S_R hs4); clear aA hs4 c0 c1 c2 c3 c4 c5; have c0 := cz_ K1.o 0 rfl; have c1 := cz_ K1.o 1 rfl; have c2 := cz_ K1.o 2 rfl; have c3 := cz_ K1.o 3 rfl; have c4 := cz_ K1.o 4 rfl; have c5 := cz_ K1.o 5 rfl
     cases bP : rowB z2 z1
     ·have bS := J bP; clear bP bO; go_wp2_with (first
  | ((with_reducible refine zj (t := 145) (p := 2) rfl ?_); refine zi rfl 145 rfl rfl g2 #[.int .i64 0, .slice none 0 0, .slice none 0 0, .slice none 0 0, .slice none 0 0] rfl rfl 145 _ K2.o (zaX.trans rfl) rfl (by simp [Value.oneCell']) ?_; intro wf aC aD; replace HB := J (HB.o.grown aD HB.o.size (fun k_ aE => by cases aE; exact L2.o)); replace K2 := J aC; clear aC aD)
  | fail)
      refine bodyPost_ret (zan rfl _ _ g2 145 #[.int .i64 0, .slice none 0 0, .slice none 0 0, .slice none 0 0, .slice none 0 0] (0, 0) _ rfl K2.o Try.underlying145 rfl yK_) rfl ?_; have aB : b = false := by rw [← HBV.o, zW (fun h_ => by rw [HZ.o] at h_; have aV := h_.2.2.1; rw [bS.o] at aV; cases aV)]
      exact ⟨⟨0, none, 0, 0, none, 0, 0, none, 0, 0, none, 0, 0⟩, by rw [aB]; first | done | rfl, (fun h_ => by rw [aB] at h_; cases h_), HB.o⟩
     ·have bS := J bP; clear bP
      cases bG : rowB z5 z1
      ·have bT := J bG; clear bG bO; go_wp2_with (first
  | ((with_reducible refine zj (t := 145) (p := 2) rfl ?_); refine zi rfl 145 rfl rfl g2 #[.int .i64 0, .slice none 0 0, .slice none 0 0, .slice none 0 0, .slice none 0 0] rfl rfl 145 _ K2.o (zaX.trans rfl) rfl (by simp [Value.oneCell']) ?_; intro wf aC aD; replace HB := J (HB.o.grown aD HB.o.size (fun k_ aE => by cases aE; exact L2.o)); replace K2 := J aC; clear aC aD)
  | fail)
       refine bodyPost_ret (zan rfl _ _ g2 145 #[.int .i64 0, .slice none 0 0, .slice none 0 0, .slice none 0 0, .slice none 0 0] (0, 0) _ rfl K2.o Try.underlying145 rfl yK_) rfl ?_; have aB : b = false := by rw [← HBV.o, zW (fun h_ => by rw [HZ.o] at h_; have aV := h_.2.2.2.1; rw [bT.o] at aV; cases aV)]
       exact ⟨⟨0, none, 0, 0, none, 0, 0, none, 0, 0, none, 0, 0⟩, by rw [aB]; first | done | rfl, (fun h_ => by rw [aB] at h_; cases h_), HB.o⟩
      ·have bT := J bG; have bL := J (bO bG); have bH := J (rowB_iff bG); clear bG bO; have e0 := cz_ K4.o 1 rfl; have f0 := zb K4.o 1; have e4 := cz_ K4.o 4 rfl; have f4 := zb K4.o 4; go_wp2_with fail; have aG := World.grownBy.trans (NW.zx w6 g4 1 (.slice B1 aW.length d1)) (NW.zx _ g4 4 (.slice B4 aT.length d4)); have K4_ := J (show ((w6.setCell ⟨g4, 1, none⟩ (.slice B1 aW.length d1)).setCell ⟨g4, 4, none⟩ (.slice B4 aT.length d4)).heap[g4]? = some (.cells #[.int .i64 z1, .slice B1 aW.length d1, .slice none 0 0, .slice none 0 0, .slice B4 aT.length d4] 145 (0, 0)) from zav (zav K4.o 1 _) 4 _); replace bD := J (Kd.zK (r_put bD.o K4.o yD_ aG)).2.2; replace HB := J (HB.o.grown aG HB.o.size (fun k_ aE => by cases aE; exact L4.o)); replace K1 := J (zu aG K1.o (fun e => aU.o.1 (Option.some.inj e))); replace K2 := J (zu aG K2.o (fun e => aU.o.2 (Option.some.inj e))); replace K4 := K4_; clear K4_ e0 f0 e4 f4 c0 c1 c2 c3 c4 c5 aG; generalize (w6.setCell ⟨g4, 1, none⟩ (.slice B1 aW.length d1)).setCell ⟨g4, 4, none⟩ (.slice B4 aT.length d4) = w7 at HB K1 K2 K4 bD ⊢
       go_loopg [9] z5.length (fun m v9 wr => ∃ (i : Nat), v9 = .int .i64 (i : Int) ∧ ze (i + m = z5.length) ∧ ze ((z5.take i).all (fun u => !ltz u) = true) ∧ ze (Below w7.heap.size w7 wr))
       case atStart => exact ⟨0, rfl, ⟨by omega⟩, ⟨rfl⟩, ⟨Below.refl _ _⟩⟩
       case round =>
        obtain ⟨i, rfl, hm, HT, HL⟩ := hrel; replace HB := J (za HB.o HL.o); replace K1 := J (zd K1.o HL.o); replace K2 := J (zd K2.o HL.o); replace K4 := J (zd K4.o HL.o); replace bD := J (Kd.zm bD.o HL.o); have c0 := cz_ K1.o 0 rfl; have c1 := cz_ K1.o 1 rfl; have c2 := cz_ K1.o 2 rfl; have c3 := cz_ K1.o 3 rfl; have c4 := cz_ K1.o 4 rfl; have c5 := cz_ K1.o 5 rfl
        by_cases hx : i < z5.length
        ·have HX := J hx; have p2 := eq_true (show (i : Int) < z1 by have := bH.o.2; omega); have p4 := decide_eq_true (show (i : Int) < z1 by have := bH.o.2; omega); have p3 := eq_true (show (0 : Int) ≤ (i : Int) by omega); have p5 := eq_true (show i < aT.length by have := bL.o.1; omega); have p6 := eq_true (show (i : Int) < (aT.length : Int) by have := bL.o.1; omega); obtain ⟨ad, A1, cc1, ead, x0, x1, x2, ox, rx⟩ := at_num bD.o bL.o i hx; cases ead; obtain ⟨sg, hsg, hls⟩ := sign_num (wf_rdn W5.o i) (bH.o.1 i hx) ox; have RX := J (rx 2 (Nat.le_refl 2)); have SGN := J hsg; have HQ := J (fun h => all_step (f := fun u => !ltz u) HT.o hx h); have HFN := J (fun h => all_not (f := fun u => !ltz u) hx h); clear hx ox rx hsg; generalize zay aT (i : Int) = x at *
         generalize ltz (rdn z5 i) = bz at *
         go_wp2_with fail; refine (zaN.calls x.f0 A1 cc1 x.f1 x.f2 sg wr RX.o.row RX.o.cap SGN.o).mono ?_; rintro e_ w8 ⟨rfl, aA⟩; cases bz
         ·have h8 := of_decide_eq_false hls; have h9 := eq_false h8; have bU := J (HQ.o rfl); replace HL := J (za HL.o aA); clear h8 aA; go_wp2_with fail; go_roundg (gk - 1)
          case measure => have := hm.o; have := HX.o; omega
          case rel => exact ⟨i + 1, by first | rfl | (rw [w64 _ yO_ (by have := HX.o; have := S5.o; omega)]; rfl), ⟨by have := hm.o; have := HX.o; omega⟩, bU, HL⟩
         ·have h8 := of_decide_eq_true hls; have h9 := eq_true h8; have bU := J (HFN.o rfl); have HB8 := J aA; replace HB := J (za HB.o HB8.o); replace K2 := J (zd K2.o HB8.o); clear h8 aA; go_wp2_with (first
  | ((with_reducible refine zj (t := 145) (p := 2) rfl ?_); refine zi rfl 145 rfl rfl g2 #[.int .i64 0, .slice none 0 0, .slice none 0 0, .slice none 0 0, .slice none 0 0] rfl rfl 145 _ K2.o (zaX.trans rfl) rfl (by simp [Value.oneCell']) ?_; intro wf aC aD; replace HB := J (HB.o.grown aD HB.o.size (fun k_ aE => by cases aE; exact L2.o)); replace K2 := J aC; clear aC aD)
  | fail)
          refine bodyPost_ret (zan rfl _ _ g2 145 #[.int .i64 0, .slice none 0 0, .slice none 0 0, .slice none 0 0, .slice none 0 0] (0, 0) _ rfl K2.o Try.underlying145 rfl yK_) rfl ?_; have aB : b = false := by rw [← HBV.o, zW (fun h_ => by rw [HZ.o] at h_; have aV := h_.2.2.2.2.2.1; rw [bU.o] at aV; cases aV)]
          exact ⟨⟨0, none, 0, 0, none, 0, 0, none, 0, 0, none, 0, 0⟩, by rw [aB]; first | done | rfl, (fun h_ => by rw [aB] at h_; cases h_), HB.o⟩
        ·have p2 := eq_false (show ¬ (i : Int) < z1 by have := bH.o.2; omega); have p4 := decide_eq_false (show ¬ (i : Int) < z1 by have := bH.o.2; omega); have N6 := J (show z5.all (fun u => !ltz u) = true by have h := HT.o; rwa [List.take_of_length_le (show z5.length ≤ i by omega)] at h); clear hx hm HT; go_wp2_with fail; clear c0 c1 c2 c3 c4 c5; clear HL bD bL
         go_loopg [10] z3.length (fun m v10 wr => ∃ (k : Nat) (Bi : Option Addr) (di : Nat) (Bg : Option Addr) (dg : Nat) (xss : List (List zaU)), v10 = .int .i64 (k : Int) ∧ ze (k + m = z3.length) ∧ ze (∀ j, j < k → IdOk ⟨z1, z2, z3, z4, z5, false⟩ j) ∧ ze (wr.heap[g4]? = some (.cells #[.int .i64 z1, .slice B1 aW.length d1, .slice Bi k di, .slice Bg k dg, .slice B4 aT.length d4] 145 (0, 0))) ∧ ze (Kd.R (Kd.int .i64) 3 wr w.heap.size (fun _ => True) (.slice Bi k di) (z3.take k)) ∧ ze (Kd.R kN 140 wr w.heap.size (fun _ => True) (.slice Bg k dg) xss) ∧ ze (Cols z4 k xss) ∧ ze (wr.heap[g1]? = some (.cells #[.int .i64 z1, .slice a1 l2.length k1, .slice a2 z3.length k2, .slice a3 l4.length k3, .slice a4 l5.length k4, .bool false] 74 (0, 0))) ∧ ze (wr.heap[g2]? = some (.cells #[.int .i64 0, .slice none 0 0, .slice none 0 0, .slice none 0 0, .slice none 0 0] 145 (0, 0))) ∧ ze (Below w.heap.size w wr))
         case atStart => exact ⟨0, none, 0, none, 0, [], rfl, ⟨by omega⟩, ⟨fun j hj => by omega⟩, K4, ⟨Kd.zaI _ _ _ _ _⟩, ⟨Kd.zaI _ _ _ _ _⟩, ⟨⟨rfl, fun i hi => by omega⟩⟩, K1, K2, HB⟩
         case round =>
          clear K4 K1 K2 HB; obtain ⟨k, Bi, di, Bg, dg, xss, rfl, hm, bJ, K4, R_i, R_g, CO, K1, K2, HB⟩ := hrel
          by_cases hx : k < z3.length
          ·have HK := J hx; have p2 := eq_true (show (k : Int) < (z3.length : Int) by omega); have p4 := decide_eq_true (show (k : Int) < (z3.length : Int) by omega); have p3 := eq_true hx; have p5 := eq_true (show (0 : Int) ≤ (k : Int) by omega); have p6 := eq_true (show k < l4.length by have := NLL.o; omega); have p7 := eq_true (show (k : Int) < (l4.length : Int) by have := NLL.o; omega); obtain ⟨ai, eai, bF⟩ := Kd.zQ (Q2.o.step HB.o).row (k : Int) yO_ yO_; cases eai; rw [Int.toNat_natCast] at bF; obtain ⟨ag, Ak, ck, eag, bB, hlk, hrk⟩ := at_L6 (Kd.zm Q3.o HB.o) (k : Int) yO_ (by have := NLL.o; omega); cases eag; rw [Int.toNat_natCast] at bB; have HUS := J (show rd_L6 l4 (k : Int) = ku (rdl z4 k) by rw [HL4.o]; unfold rd_L6 rdl; rw [Int.toNat_natCast, List.getD_eq_getElem?_getD, List.getD_eq_getElem?_getD, List.getElem?_map]; cases z4[k]? <;> rfl); rw [HUS.o] at bB hlk hrk; have HGK := J (And.intro hrk hlk); have HGW := J (wf_rdl W4.o k); have HGL := J (SG.o _ (List.mem_of_getElem? (rdl_get (show k < z4.length by have := NL.o; omega)))); have HID := J (show IdOk ⟨z1, z2, z3, z4, z5, false⟩ k ↔ (0 ≤ rd z3 (k : Int) ∧ rd z3 (k : Int) ≤ 1073741824) ∧ (0 < k → rd z3 ((k - 1 : Nat) : Int) < rd z3 (k : Int)) ∧ rowB (rdl z4 k) z1 = true from Iff.rfl); have bC := J (show Good ⟨z1, z2, z3, z4, z5, false⟩ → IdOk ⟨z1, z2, z3, z4, z5, false⟩ k from fun h => h.2.2.2.2.2.2 k HK.o)
           have HQ := J (show IdOk ⟨z1, z2, z3, z4, z5, false⟩ k → ∀ j, j < k + 1 → IdOk ⟨z1, z2, z3, z4, z5, false⟩ j from fun h j hj => by
            by_cases e : j = k
            ·subst e; exact h
            ·exact bJ.o j yO_)
           have TK := J (show z3.take (k + 1) = z3.take k ++ [rd z3 (k : Int)] by rw [take_one z3 k (rd z3 (k : Int)) (by rw [List.getElem?_eq_getElem HK.o, rd_nat z3 k HK.o])]); have LK := J (show (z3.take k).length = k by rw [List.length_take]; have := HK.o; omega); have CS := J (fun x hx => CO.o.snoc (x := x) hx); have LXS := J CO.o.1; clear CO bJ hlk hrk hx; have HS := J (show ∀ w' : World, Below wr.heap.size wr w' → w'.cell? ⟨g1, 0, none⟩ = some (.int .i64 z1) ∧ w'.cell? ⟨g1, 2, none⟩ = some (.slice (some ai) z3.length k2) ∧ w'.cell? ⟨g1, 3, none⟩ = some (.slice (some ag) l4.length k3) ∧ w'.cell? (ai.add k) = some (.int .i64 (rd z3 (k : Int))) ∧ w'.cell? (ag.add k) = some (.slice Ak (ku (rdl z4 k)).length ck) from fun W hW => ⟨(zg (zd K1.o hW) 0).trans rfl, (zg (zd K1.o hW) 2).trans rfl, (zg (zd K1.o hW) 3).trans rfl, zr hW bF, zr hW bB⟩); clear bF bB
           by_cases bW : k = 0
           ·have HK0 := J bW; have p8 := eq_false (show ¬ (0 : Int) < (k : Int) by omega); have p9 := decide_eq_false (show ¬ (0 : Int) < (k : Int) by omega); have p8n := eq_false (show ¬ 0 < k by omega); have p9n := decide_eq_false (show ¬ 0 < k by omega); clear bW; generalize rd z3 (k : Int) = idk at *
            generalize rdl z4 k = us at *
            by_cases i1 : idk < 0
            ·have x1 := eq_true i1; have x2 := decide_eq_true i1; have HBAD := J (show ¬ ((0 ≤ idk ∧ idk ≤ 1073741824) ∧ (0 < k → rd z3 ((k - 1 : Nat) : Int) < idk) ∧ rowB us z1 = true) from fun h_ => by have := h_.1.1; omega); clear i1; have aO := (HS.o _ (Below.refl wr.heap.size wr)).1; have aP := (HS.o _ (Below.refl wr.heap.size wr)).2.1; have aQ := (HS.o _ (Below.refl wr.heap.size wr)).2.2.1; have cci := (HS.o _ (Below.refl wr.heap.size wr)).2.2.2.1; have ccg := (HS.o _ (Below.refl wr.heap.size wr)).2.2.2.2; go_wp2_with fail; have W3 := J (zU (Below.refl wr.heap.size wr)); have aA := W3.o; replace HB := J (za HB.o aA); replace K1 := J (zd K1.o aA); replace K2 := J (zd K2.o aA); replace K4 := J (zd K4.o aA); replace R_i := J (Kd.zF R_i.o aA); replace R_g := J (Kd.zF R_g.o aA); clear aA aO aP aQ cci ccg; refine zaw (n := 32) (S := fun w' => w'.cell? ⟨g1, 0, none⟩ = some (.int .i64 z1) ∧ w'.cell? ⟨g1, 2, none⟩ = some (.slice (some ai) z3.length k2) ∧ w'.cell? ⟨g1, 3, none⟩ = some (.slice (some ag) l4.length k3) ∧ w'.cell? (ai.add k) = some (.int .i64 (idk)) ∧ w'.cell? (ag.add k) = some (.slice Ak (ku (us)).length ck)) (ds := []) (bl_ 32 0) yK_ rfl rfl ⟨(HS.o _ W3.o).1, (HS.o _ W3.o).2.1, (HS.o _ W3.o).2.2.1, (HS.o _ W3.o).2.2.2.1, (HS.o _ W3.o).2.2.2.2⟩ (fun hHeld => ?_); refine zS zaT.tab18 zaT.bits18 (fun HT_ HW_ => ?_); generalize wr.drew = v0 at W3 HB K1 K2 K4 R_i R_g hHeld ⊢
             refine pu_ 0 ?_; refine pu_ 2 ?_; refine tk_ 1 ?_; refine pu_ 3 ?_; refine tk_ 4 ?_; refine pu_ 5 ?_; refine pu_ 6 ?_; refine ps_ 7 ?_; refine ps_ 8 ?_; refine ps_ 9 ?_; refine ps_ 10 ?_; refine ps_ 11 ?_; refine ps_ 12 ?_; refine pu_ 13 ?_; refine pu_ 14 ?_; refine ps_ 15 ?_; refine ps_ 16 ?_; refine ps_ 17 ?_; refine ps_ 18 ?_; refine ps_ 19 ?_; refine ps_ 20 ?_; refine ps_ 21 ?_; refine ps_ 22 ?_; refine ps_ 23 ?_; refine ps_ 24 ?_; refine ps_ 25 ?_; refine ps_ 26 ?_; refine ps_ 27 ?_; refine ps_ 28 ?_; refine ps_ 29 ?_; refine ps_ 30 ?_; refine pu_ 31 ?_; refine zaL (zad HT_.o yK_) ?_; clear hHeld; go_wp2_with (first
  | ((with_reducible refine zj (t := 145) (p := 2) rfl ?_); refine zi rfl 145 rfl rfl g2 #[.int .i64 0, .slice none 0 0, .slice none 0 0, .slice none 0 0, .slice none 0 0] rfl rfl 145 _ K2.o (zaX.trans rfl) rfl (by simp [Value.oneCell']) ?_; intro wf aC aD; replace HB := J (HB.o.grown aD HB.o.size (fun k_ aE => by cases aE; exact L2.o)); replace K2 := J aC; clear aC aD)
  | fail)
             refine bodyPost_ret (zan rfl _ _ g2 145 #[.int .i64 0, .slice none 0 0, .slice none 0 0, .slice none 0 0, .slice none 0 0] (0, 0) _ rfl K2.o Try.underlying145 rfl yK_) rfl ?_; have aB : b = false := by rw [← HBV.o, zW (fun h_ => by rw [HZ.o] at h_; exact HBAD.o (HID.o.1 (bC.o h_)))]
             exact ⟨⟨0, none, 0, 0, none, 0, 0, none, 0, 0, none, 0, 0⟩, by rw [aB]; first | done | rfl, (fun h_ => by rw [aB] at h_; cases h_), HB.o⟩
            ·have x1 := eq_false i1; have x2 := decide_eq_false i1
             by_cases i2 : 1073741824 < idk
             ·have x3 := eq_true i2; have x4 := decide_eq_true i2; have HBAD := J (show ¬ ((0 ≤ idk ∧ idk ≤ 1073741824) ∧ (0 < k → rd z3 ((k - 1 : Nat) : Int) < idk) ∧ rowB us z1 = true) from fun h_ => by have := h_.1.2; omega); clear i1 i2; have aO := (HS.o _ (Below.refl wr.heap.size wr)).1; have aP := (HS.o _ (Below.refl wr.heap.size wr)).2.1; have aQ := (HS.o _ (Below.refl wr.heap.size wr)).2.2.1; have cci := (HS.o _ (Below.refl wr.heap.size wr)).2.2.2.1; have ccg := (HS.o _ (Below.refl wr.heap.size wr)).2.2.2.2; go_wp2_with fail; have W3 := J (zU (Below.refl wr.heap.size wr)); have aA := W3.o; replace HB := J (za HB.o aA); replace K1 := J (zd K1.o aA); replace K2 := J (zd K2.o aA); replace K4 := J (zd K4.o aA); replace R_i := J (Kd.zF R_i.o aA); replace R_g := J (Kd.zF R_g.o aA); clear aA aO aP aQ cci ccg; refine zaw (n := 32) (S := fun w' => w'.cell? ⟨g1, 0, none⟩ = some (.int .i64 z1) ∧ w'.cell? ⟨g1, 2, none⟩ = some (.slice (some ai) z3.length k2) ∧ w'.cell? ⟨g1, 3, none⟩ = some (.slice (some ag) l4.length k3) ∧ w'.cell? (ai.add k) = some (.int .i64 (idk)) ∧ w'.cell? (ag.add k) = some (.slice Ak (ku (us)).length ck)) (ds := []) (bl_ 32 0) yK_ rfl rfl ⟨(HS.o _ W3.o).1, (HS.o _ W3.o).2.1, (HS.o _ W3.o).2.2.1, (HS.o _ W3.o).2.2.2.1, (HS.o _ W3.o).2.2.2.2⟩ (fun hHeld => ?_); refine zS zaT.tab18 zaT.bits18 (fun HT_ HW_ => ?_); generalize wr.drew = v0 at W3 HB K1 K2 K4 R_i R_g hHeld ⊢
              refine pu_ 0 ?_; refine pu_ 2 ?_; refine tk_ 1 ?_; refine pu_ 3 ?_; refine tk_ 4 ?_; refine pu_ 5 ?_; refine pu_ 6 ?_; refine pu_ 7 ?_; refine pu_ 9 ?_; refine tk_ 8 ?_; refine pu_ 10 ?_; refine tk_ 11 ?_; refine pu_ 12 ?_; refine pu_ 13 ?_; refine pu_ 14 ?_; refine ps_ 15 ?_; refine ps_ 16 ?_; refine ps_ 17 ?_; refine ps_ 18 ?_; refine ps_ 19 ?_; refine ps_ 20 ?_; refine ps_ 21 ?_; refine ps_ 22 ?_; refine ps_ 23 ?_; refine ps_ 24 ?_; refine ps_ 25 ?_; refine ps_ 26 ?_; refine ps_ 27 ?_; refine ps_ 28 ?_; refine ps_ 29 ?_; refine ps_ 30 ?_; refine pu_ 31 ?_; refine zaL (zad HT_.o yK_) ?_; clear hHeld; go_wp2_with (first
  | ((with_reducible refine zj (t := 145) (p := 2) rfl ?_); refine zi rfl 145 rfl rfl g2 #[.int .i64 0, .slice none 0 0, .slice none 0 0, .slice none 0 0, .slice none 0 0] rfl rfl 145 _ K2.o (zaX.trans rfl) rfl (by simp [Value.oneCell']) ?_; intro wf aC aD; replace HB := J (HB.o.grown aD HB.o.size (fun k_ aE => by cases aE; exact L2.o)); replace K2 := J aC; clear aC aD)
  | fail)
              refine bodyPost_ret (zan rfl _ _ g2 145 #[.int .i64 0, .slice none 0 0, .slice none 0 0, .slice none 0 0, .slice none 0 0] (0, 0) _ rfl K2.o Try.underlying145 rfl yK_) rfl ?_; have aB : b = false := by rw [← HBV.o, zW (fun h_ => by rw [HZ.o] at h_; exact HBAD.o (HID.o.1 (bC.o h_)))]
              exact ⟨⟨0, none, 0, 0, none, 0, 0, none, 0, 0, none, 0, 0⟩, by rw [aB]; first | done | rfl, (fun h_ => by rw [aB] at h_; cases h_), HB.o⟩
             ·have x3 := eq_false i2; have x4 := decide_eq_false i2; have I0 := J (show 0 ≤ idk ∧ idk ≤ 1073741824 by omega); clear i1 i2; have I1 := J (show 0 < k → rd z3 ((k - 1 : Nat) : Int) < idk from fun h_ => absurd HK0.o yO_); have aO := (HS.o _ (Below.refl wr.heap.size wr)).1; have aP := (HS.o _ (Below.refl wr.heap.size wr)).2.1; have aQ := (HS.o _ (Below.refl wr.heap.size wr)).2.2.1; have cci := (HS.o _ (Below.refl wr.heap.size wr)).2.2.2.1; have ccg := (HS.o _ (Below.refl wr.heap.size wr)).2.2.2.2; go_wp2_with fail; have W3 := J (zU (Below.refl wr.heap.size wr)); have aA := W3.o; replace HB := J (za HB.o aA); replace K1 := J (zd K1.o aA); replace K2 := J (zd K2.o aA); replace K4 := J (zd K4.o aA); replace R_i := J (Kd.zF R_i.o aA); replace R_g := J (Kd.zF R_g.o aA); clear aA aO aP aQ cci ccg; refine zaw (n := 32) (S := fun w' => w'.cell? ⟨g1, 0, none⟩ = some (.int .i64 z1) ∧ w'.cell? ⟨g1, 2, none⟩ = some (.slice (some ai) z3.length k2) ∧ w'.cell? ⟨g1, 3, none⟩ = some (.slice (some ag) l4.length k3) ∧ w'.cell? (ai.add k) = some (.int .i64 (idk)) ∧ w'.cell? (ag.add k) = some (.slice Ak (ku (us)).length ck)) (ds := []) (bl_ 32 0) yK_ rfl rfl ⟨(HS.o _ W3.o).1, (HS.o _ W3.o).2.1, (HS.o _ W3.o).2.2.1, (HS.o _ W3.o).2.2.2.1, (HS.o _ W3.o).2.2.2.2⟩ (fun hHeld => ?_); refine zS zaT.tab18 zaT.bits18 (fun HT_ HW_ => ?_); generalize wr.drew = v0 at W3 HB K1 K2 K4 R_i R_g hHeld ⊢
              refine pu_ 0 ?_; refine pu_ 2 ?_; refine tk_ 1 ?_; refine pu_ 3 ?_; refine tk_ 4 ?_; refine pu_ 5 ?_; refine pu_ 6 ?_; refine pu_ 7 ?_; refine pu_ 9 ?_; refine tk_ 8 ?_; refine pu_ 10 ?_; refine tk_ 11 ?_; refine pu_ 12 ?_; refine pu_ 13 ?_; refine pu_ 14 ?_; refine pu_ 15 ?_; refine pu_ 16 ?_; refine pu_ 17 ?_; refine ps_ 18 ?_; refine ps_ 19 ?_; refine ps_ 20 ?_; refine ps_ 21 ?_; refine ps_ 22 ?_; refine ps_ 23 ?_; refine ps_ 24 ?_; refine ps_ 25 ?_; refine ps_ 26 ?_; refine ps_ 27 ?_; refine ps_ 28 ?_; refine ps_ 29 ?_; refine pu_ 30 ?_; refine pu_ 31 ?_; refine zaL (zad HT_.o yK_) ?_; clear hHeld; have aO := (HS.o _ W3.o).1; have aP := (HS.o _ W3.o).2.1; have aQ := (HS.o _ W3.o).2.2.1; have cci := (HS.o _ W3.o).2.2.2.1; have ccg := (HS.o _ W3.o).2.2.2.2; go_wp2_with fail; clear aO aP aQ cci ccg; have aA : Below v0.heap.size v0 v0.drew := zU (Below.refl _ _); replace W3 := J (za W3.o aA); replace HB := J (za HB.o aA); replace K1 := J (zd K1.o aA); replace K2 := J (zd K2.o aA); replace K4 := J (zd K4.o aA); replace R_i := J (Kd.zF R_i.o aA); replace R_g := J (Kd.zF R_g.o aA); clear aA
              refine zaw (n := 13) (S := fun w' => w'.cell? ⟨g1, 0, none⟩ = some (.int .i64 z1) ∧ w'.cell? ⟨g1, 2, none⟩ = some (.slice (some ai) z3.length k2) ∧ w'.cell? ⟨g1, 3, none⟩ = some (.slice (some ag) l4.length k3) ∧ w'.cell? (ai.add k) = some (.int .i64 (idk)) ∧ w'.cell? (ag.add k) = some (.slice Ak (ku (us)).length ck)) (ds := []) (bl_ 13 0) yK_ rfl rfl ⟨(HS.o _ W3.o).1, (HS.o _ W3.o).2.1, (HS.o _ W3.o).2.2.1, (HS.o _ W3.o).2.2.2.1, (HS.o _ W3.o).2.2.2.2⟩ (fun hHeld => ?_); refine zS zaT.tab20 zaT.bits20 (fun HT_ HW_ => ?_); generalize v0.drew = v1 at W3 HB K1 K2 K4 R_i R_g hHeld ⊢; refine pu_ 0 ?_; refine pu_ 2 ?_; refine pu_ 5 ?_; refine tk_ 1 ?_; refine pu_ 3 ?_; refine tk_ 4 ?_; refine tk_ 6 ?_; refine on_ HT_ 7 (some 126) (bl_ 13 255) fun K hK => ?_
              refine go1_ Try.func94 #[.slice Ak (ku us).length ck, .int .i64 z1] ?_; refine (numbers_calls us z1 Ak ck v1 (Kd.zm HGK.o.1 W3.o) HGK.o.2 HGW.o HGL.o).mono ?_; rintro e_ v2 ⟨Bx, dx, xs, rfl, hsx, hnx, aA⟩; refine ⟨_, rfl, ?_⟩; have MX := J (show kN.M v2 w.heap.size (fun k_ => True ∧ some k_ ≠ (Value.slice Bg k dg).ownBlock) xs [.slice Bx xs.length dx] from ⟨_, rfl, Kd.z9 (Kd.R_new (Kd.S_R hsx) (Kd.R_own R_g.o).choose_spec) HB.o.size⟩); have HNX := J hnx; replace W3 := J (za W3.o aA); replace HB := J (za HB.o aA); replace K1 := J (zd K1.o aA); replace K2 := J (zd K2.o aA); replace K4 := J (zd K4.o aA); replace R_i := J (Kd.zF R_i.o aA); replace R_g := J (Kd.zF R_g.o aA); clear aA hsx hnx; refine hK.out _ _ ⟨(HS.o _ W3.o).1, (HS.o _ W3.o).2.1, (HS.o _ W3.o).2.2.1, (HS.o _ W3.o).2.2.2.1, (HS.o _ W3.o).2.2.2.2⟩ (fun hHeld => ?_); clear hK K; refine nm_ ?_; refine pu_ 8 ?_; refine pu_ 9 ?_; refine pu_ 10 ?_; refine pu_ 11 ?_; refine pu_ 12 ?_; refine zaL (zad HT_.o yK_) ?_; clear hHeld
              cases hrb : rowB us z1
              ·have HBAD := J (show ¬ ((0 ≤ idk ∧ idk ≤ 1073741824) ∧ (0 < k → rd z3 ((k - 1 : Nat) : Int) < idk) ∧ rowB us z1 = true) from fun h_ => by rw [hrb] at h_; cases h_.2.2); clear hrb; go_wp2_with (first
  | ((with_reducible refine zj (t := 145) (p := 2) rfl ?_); refine zi rfl 145 rfl rfl g2 #[.int .i64 0, .slice none 0 0, .slice none 0 0, .slice none 0 0, .slice none 0 0] rfl rfl 145 _ K2.o (zaX.trans rfl) rfl (by simp [Value.oneCell']) ?_; intro wf aC aD; replace HB := J (HB.o.grown aD HB.o.size (fun k_ aE => by cases aE; exact L2.o)); replace K2 := J aC; clear aC aD)
  | fail)
               refine bodyPost_ret (zan rfl _ _ g2 145 #[.int .i64 0, .slice none 0 0, .slice none 0 0, .slice none 0 0, .slice none 0 0] (0, 0) _ rfl K2.o Try.underlying145 rfl yK_) rfl ?_; have aB : b = false := by rw [← HBV.o, zW (fun h_ => by rw [HZ.o] at h_; exact HBAD.o (HID.o.1 (bC.o h_)))]
               exact ⟨⟨0, none, 0, 0, none, 0, 0, none, 0, 0, none, 0, 0⟩, by rw [aB]; first | done | rfl, (fun h_ => by rw [aB] at h_; cases h_), HB.o⟩
              ·have HOK := J (And.intro I0.o (And.intro I1.o hrb)); have CX := J (CS.o xs (HNX.o hrb)); clear hrb; go_wp2_with fail; have aA : Below v2.heap.size v2 v2.drew := zU (Below.refl _ _); replace W3 := J (za W3.o aA); replace MX := J (Kd.M_below MX.o aA); replace HB := J (za HB.o aA); replace K1 := J (zd K1.o aA); replace K2 := J (zd K2.o aA); replace K4 := J (zd K4.o aA); replace R_i := J (Kd.zF R_i.o aA); replace R_g := J (Kd.zF R_g.o aA); clear aA; refine zaw (n := 11) (S := fun w' => w'.cell? ⟨g1, 0, none⟩ = some (.int .i64 z1) ∧ w'.cell? ⟨g1, 2, none⟩ = some (.slice (some ai) z3.length k2) ∧ w'.cell? ⟨g1, 3, none⟩ = some (.slice (some ag) l4.length k3) ∧ w'.cell? (ai.add k) = some (.int .i64 (idk)) ∧ w'.cell? (ag.add k) = some (.slice Ak (ku (us)).length ck) ∧ w'.cell? ⟨g4, 2, none⟩ = some (.slice Bi k di)) (ds := [8, 10]) (bl_ 11 0) yK_ rfl rfl ⟨(HS.o _ W3.o).1, (HS.o _ W3.o).2.1, (HS.o _ W3.o).2.2.1, (HS.o _ W3.o).2.2.2.1, (HS.o _ W3.o).2.2.2.2, (zg K4.o 2).trans rfl⟩ (fun hHeld => ?_); refine zS zaT.tab23 zaT.bits23 (fun HT_ HW_ => ?_); generalize v2.drew = v3 at W3 MX HB K1 K2 K4 R_i R_g hHeld ⊢; refine pu_ 0 ?_; refine pu_ 2 ?_; refine pu_ 4 ?_; refine tk_ 1 ?_; refine tk_ 3 ?_; refine pu_ 5 ?_; refine tk_ 6 ?_; refine on_ HT_ 7 (some 139) (bl_ 11 255) fun K hK => ?_
               refine value_ (w1 := v3.alloc (.cells #[.int .i64 idk] 3)) (v := .slice (some ⟨v3.heap.size, 0, none⟩) 1 1) (by rfl) rfl (by go_simp; first | done | rfl) ?_; refine hK.out _ _ ⟨zr (z7 (Below.refl v3.heap.size v3) _) ((HS.o _ W3.o).1), zr (z7 (Below.refl v3.heap.size v3) _) ((HS.o _ W3.o).2.1), zr (z7 (Below.refl v3.heap.size v3) _) ((HS.o _ W3.o).2.2.1), zr (z7 (Below.refl v3.heap.size v3) _) ((HS.o _ W3.o).2.2.2.1), zr (z7 (Below.refl v3.heap.size v3) _) ((HS.o _ W3.o).2.2.2.2), zr (z7 (Below.refl v3.heap.size v3) _) ((zg K4.o 2).trans rfl)⟩ (fun hHeld => ?_); clear hK K; refine nm_ ?_; refine last_ (i := 8) (N := some 140) (bl_ 11 511) rfl rfl (zaY HT_.o yK_) yD_ (fun K hK => ?_); refine Kd.R_append_step (Kd.int .i64) (W := v3) (w0 := w) w.heap.size (by rfl) _ _ 22 3 (.int .i64 0) 8 rfl Try.underlying22 info22c rfl yD_ yD_ (.slice Bi k di) (z3.take k) idk [.int .i64 idk] (fun _ => True) (fun k_ => True ∧ some k_ ≠ (Value.slice Bi k di).ownBlock) rfl rfl rfl (fun _ hk => hk) (fun _ _ => trivial) R_i.o HB.o HB.o.size (by rw [LK.o]; have := HK.o; have := S3.o; omega) ?_; intro bX v4 aN aZ aI _; have aK := Kd.R_ne R_i.o K1.o yD_; have aL := Kd.R_ne R_i.o K2.o yD_; have aM := Kd.R_ne R_i.o K4.o yD_; have aH : ∀ k_, (Value.slice Bi k di).ownBlock = some k_ → ∃ cells, v3.heap[k_]? = some (.cells cells 3 (0, 0)) := Kd.R_typed R_i.o
               replace MX := J (show kN.M v4 w.heap.size (fun k_ => True ∧ some k_ ≠ (Value.slice Bg k dg).ownBlock) xs [.slice Bx xs.length dx] from MX.o.elim fun vx hvx => ⟨vx, hvx.1, Kd.R_over' hvx.2 aH yD_ aI⟩); replace R_g := J (Kd.R_over' R_g.o aH yD_ aI); replace K1 := J (zu aI K1.o aK); replace K2 := J (zu aI K2.o aL); replace K4 := J (zu aI K4.o aM); replace HB := J aZ; have bA : (z3.take k ++ [idk]).length = k + 1 := by rw [List.length_append, LK.o]; rfl
               obtain ⟨aR, aS, rfl⟩ := Kd.zJ aN; rw [bA] at aN ⊢; replace R_i := J aN; clear aN aZ aI aK aL aM aH bA; have bV := cz_ K4.o 2 rfl; have f42 := zb K4.o 2; refine hK.out _ _ ?_; clear hK K; refine nm_ ?_; refine pu_ 9 ?_; refine last_ (i := 10) (N := none) (bl_ 11 2047) rfl rfl (zaY HT_.o yK_) yD_ (fun K hK => ?_); refine skip_ (w1 := ?_) (by rfl) rfl ?_ ?_; rotate_left; (focus (go_simp; first | done | rfl)); refine hK.out _ _ ?_; clear hK K; refine zaL (zad HT_.o yK_) ?_; clear hHeld bV f42; have aG := NW.zx v4 g4 2 (.slice aR (k + 1) aS); have aJ := J (show (v4.setCell ⟨g4, 2, none⟩ (.slice aR (k + 1) aS)).heap[g4]? = some (.cells #[.int .i64 z1, .slice B1 aW.length d1, .slice aR (k + 1) aS, .slice Bg k dg, .slice B4 aT.length d4] 145 (0, 0)) from zav K4.o 2 _); replace R_i := J (r_put R_i.o K4.o yD_ aG); replace R_g := J (r_put R_g.o K4.o yD_ aG); replace MX := J (show kN.M (v4.setCell ⟨g4, 2, none⟩ (.slice aR (k + 1) aS)) w.heap.size (fun k_ => True ∧ some k_ ≠ (Value.slice Bg k dg).ownBlock) xs [.slice Bx xs.length dx] from MX.o.elim fun vx hvx => ⟨vx, hvx.1, r_put hvx.2 K4.o yD_ aG⟩); replace HB := J (HB.o.grown aG HB.o.size (fun k_ aE => by cases aE; exact L4.o)); replace K1 := J (zu aG K1.o (fun e => aU.o.1 (Option.some.inj e))); replace K2 := J (zu aG K2.o (fun e => aU.o.2 (Option.some.inj e))); replace K4 := aJ; clear aJ aG
               generalize v4.setCell ⟨g4, 2, none⟩ (.slice aR (k + 1) aS) = v5 at HB K1 K2 K4 R_i R_g MX ⊢; have bE := cz_ K4.o 3 rfl; go_wp2_with (first
  | ((with_reducible refine zf (N := 146) rfl ?_); refine Kd.R_append kN (W := v5) (w0 := w) w.heap.size rfl _ _ 143 140 (.slice none 0 0) 24 rfl Try.underlying143 info140 rfl yD_ yD_ (.slice Bg k dg) xss xs [.slice Bx xs.length dx] (fun _ => True) _ rfl rfl MX.o (fun _ hk => hk) (fun _ _ => trivial) R_g.o HB.o HB.o.size (by rw [LXS.o]; have := HK.o; have := S3.o; omega) ?_; intro bX v6 aN aZ aI _; have aK := Kd.R_ne R_g.o K1.o yD_; have aL := Kd.R_ne R_g.o K2.o yD_; have aM := Kd.R_ne R_g.o K4.o yD_; have aH : ∀ k_, (Value.slice Bg k dg).ownBlock = some k_ → ∃ cells, v5.heap[k_]? = some (.cells cells 140 (0, 0)) := Kd.R_typed R_g.o; replace R_i := J (Kd.R_over' R_i.o aH yD_ aI); replace K1 := J (zu aI K1.o aK); replace K2 := J (zu aI K2.o aL); replace K4 := J (zu aI K4.o aM); replace HB := J aZ; have bA : (xss ++ [xs]).length = k + 1 := (by rw [List.length_append, LXS.o]; rfl); obtain ⟨aX, aY, rfl⟩ := Kd.zJ aN; rw [bA] at aN ⊢; replace R_g := J aN; clear aN aZ aI aK aL aM aH bA MX bE; have bE := cz_ K4.o 3 rfl; have f43 := zb K4.o 3)
  | fail)
               try clear bE
               try clear f43
               have aG := NW.zx v6 g4 3 (.slice aX (k + 1) aY); have aJ := J (show (v6.setCell ⟨g4, 3, none⟩ (.slice aX (k + 1) aY)).heap[g4]? = some (.cells #[.int .i64 z1, .slice B1 aW.length d1, .slice aR (k + 1) aS, .slice aX (k + 1) aY, .slice B4 aT.length d4] 145 (0, 0)) from zav K4.o 3 _); replace R_i := J (r_put R_i.o K4.o yD_ aG); replace R_g := J (r_put R_g.o K4.o yD_ aG); replace HB := J (HB.o.grown aG HB.o.size (fun k_ aE => by cases aE; exact L4.o)); replace K1 := J (zu aG K1.o (fun e => aU.o.1 (Option.some.inj e))); replace K2 := J (zu aG K2.o (fun e => aU.o.2 (Option.some.inj e))); replace K4 := aJ; clear aJ aG; generalize v6.setCell ⟨g4, 3, none⟩ (.slice aX (k + 1) aY) = v7 at HB K1 K2 K4 R_i R_g ⊢; go_roundg (gk - 1)
               case measure => have := hm.o; have := HK.o; omega
               case rel => exact ⟨k + 1, aR, aS, aX, aY, xss ++ [xs], by first | rfl | (rw [w64 _ yO_ (by have := HK.o; have := S3.o; omega)]; rfl), ⟨by have := hm.o; have := HK.o; omega⟩, ⟨HQ.o (HID.o.2 HOK.o)⟩, K4, ⟨by rw [TK.o]; exact R_i.o⟩, R_g, CX, K1, K2, HB⟩
           ·obtain ⟨p, hp⟩ : ∃ p : Nat, k = p + 1 := ⟨k - 1, by omega⟩
            have HP := J hp; have p8 := eq_true (show (0 : Int) < (k : Int) by omega); have p9 := decide_eq_true (show (0 : Int) < (k : Int) by omega); have p8n := eq_true (show 0 < k by omega); have p9n := decide_eq_true (show 0 < k by omega); have pw : wrap64 ((k : Int) - 1) = (p : Int) := by rw [w64 _ yO_ (by have := HK.o; have := S3.o; omega)]; omega
            have pp1 := eq_true (show p < z3.length by have := HK.o; omega); have pp2 := eq_true (show (p : Int) < (z3.length : Int) by have := HK.o; omega); have pp3 := eq_true (show (0 : Int) ≤ (p : Int) by omega); obtain ⟨ap, eap, hcp⟩ := Kd.zQ (Q2.o.step HB.o).row (p : Int) yO_ (by have := HK.o; omega); cases eap; rw [Int.toNat_natCast] at hcp; have HPP := J (show ∀ w' : World, Below wr.heap.size wr w' → w'.cell? (ai.add p) = some (.int .i64 (rd z3 (p : Int))) from fun W hW => zr hW hcp); rw [show k - 1 = p by omega] at HID; clear hcp hp bW; generalize rd z3 (p : Int) = idp at *
            generalize rd z3 (k : Int) = idk at *
            generalize rdl z4 k = us at *
            by_cases i1 : idk < 0
            ·have x1 := eq_true i1; have x2 := decide_eq_true i1; have HBAD := J (show ¬ ((0 ≤ idk ∧ idk ≤ 1073741824) ∧ (0 < k → idp < idk) ∧ rowB us z1 = true) from fun h_ => by have := h_.1.1; omega); clear i1; have aO := (HS.o _ (Below.refl wr.heap.size wr)).1; have aP := (HS.o _ (Below.refl wr.heap.size wr)).2.1; have aQ := (HS.o _ (Below.refl wr.heap.size wr)).2.2.1; have cci := (HS.o _ (Below.refl wr.heap.size wr)).2.2.2.1; have ccg := (HS.o _ (Below.refl wr.heap.size wr)).2.2.2.2; have ccp := HPP.o _ (Below.refl wr.heap.size wr); go_wp2_with fail; have W3 := J (zU (Below.refl wr.heap.size wr)); have aA := W3.o; replace HB := J (za HB.o aA); replace K1 := J (zd K1.o aA); replace K2 := J (zd K2.o aA); replace K4 := J (zd K4.o aA); replace R_i := J (Kd.zF R_i.o aA); replace R_g := J (Kd.zF R_g.o aA); clear aA aO aP aQ cci ccg ccp
             refine zaw (n := 32) (S := fun w' => w'.cell? ⟨g1, 0, none⟩ = some (.int .i64 z1) ∧ w'.cell? ⟨g1, 2, none⟩ = some (.slice (some ai) z3.length k2) ∧ w'.cell? ⟨g1, 3, none⟩ = some (.slice (some ag) l4.length k3) ∧ w'.cell? (ai.add k) = some (.int .i64 (idk)) ∧ w'.cell? (ag.add k) = some (.slice Ak (ku (us)).length ck) ∧ w'.cell? (ai.add p) = some (.int .i64 idp)) (ds := []) (bl_ 32 0) yK_ rfl rfl ⟨(HS.o _ W3.o).1, (HS.o _ W3.o).2.1, (HS.o _ W3.o).2.2.1, (HS.o _ W3.o).2.2.2.1, (HS.o _ W3.o).2.2.2.2, HPP.o _ W3.o⟩ (fun hHeld => ?_); refine zS zaT.tab18 zaT.bits18 (fun HT_ HW_ => ?_); generalize wr.drew = v0 at W3 HB K1 K2 K4 R_i R_g hHeld ⊢; refine pu_ 0 ?_; refine pu_ 2 ?_; refine tk_ 1 ?_; refine pu_ 3 ?_; refine tk_ 4 ?_; refine pu_ 5 ?_; refine pu_ 6 ?_; refine ps_ 7 ?_; refine ps_ 8 ?_; refine ps_ 9 ?_; refine ps_ 10 ?_; refine ps_ 11 ?_; refine ps_ 12 ?_; refine pu_ 13 ?_; refine pu_ 14 ?_; refine ps_ 15 ?_; refine ps_ 16 ?_; refine ps_ 17 ?_; refine ps_ 18 ?_; refine ps_ 19 ?_; refine ps_ 20 ?_; refine ps_ 21 ?_; refine ps_ 22 ?_; refine ps_ 23 ?_; refine ps_ 24 ?_; refine ps_ 25 ?_; refine ps_ 26 ?_; refine ps_ 27 ?_; refine ps_ 28 ?_; refine ps_ 29 ?_; refine ps_ 30 ?_; refine pu_ 31 ?_; refine zaL (zad HT_.o yK_) ?_; clear hHeld; go_wp2_with (first
  | ((with_reducible refine zj (t := 145) (p := 2) rfl ?_); refine zi rfl 145 rfl rfl g2 #[.int .i64 0, .slice none 0 0, .slice none 0 0, .slice none 0 0, .slice none 0 0] rfl rfl 145 _ K2.o (zaX.trans rfl) rfl (by simp [Value.oneCell']) ?_; intro wf aC aD; replace HB := J (HB.o.grown aD HB.o.size (fun k_ aE => by cases aE; exact L2.o)); replace K2 := J aC; clear aC aD)
  | fail)
             refine bodyPost_ret (zan rfl _ _ g2 145 #[.int .i64 0, .slice none 0 0, .slice none 0 0, .slice none 0 0, .slice none 0 0] (0, 0) _ rfl K2.o Try.underlying145 rfl yK_) rfl ?_; have aB : b = false := by rw [← HBV.o, zW (fun h_ => by rw [HZ.o] at h_; exact HBAD.o (HID.o.1 (bC.o h_)))]
             exact ⟨⟨0, none, 0, 0, none, 0, 0, none, 0, 0, none, 0, 0⟩, by rw [aB]; first | done | rfl, (fun h_ => by rw [aB] at h_; cases h_), HB.o⟩
            ·have x1 := eq_false i1; have x2 := decide_eq_false i1
             by_cases i2 : 1073741824 < idk
             ·have x3 := eq_true i2; have x4 := decide_eq_true i2; have HBAD := J (show ¬ ((0 ≤ idk ∧ idk ≤ 1073741824) ∧ (0 < k → idp < idk) ∧ rowB us z1 = true) from fun h_ => by have := h_.1.2; omega); clear i1 i2; have aO := (HS.o _ (Below.refl wr.heap.size wr)).1; have aP := (HS.o _ (Below.refl wr.heap.size wr)).2.1; have aQ := (HS.o _ (Below.refl wr.heap.size wr)).2.2.1; have cci := (HS.o _ (Below.refl wr.heap.size wr)).2.2.2.1; have ccg := (HS.o _ (Below.refl wr.heap.size wr)).2.2.2.2; have ccp := HPP.o _ (Below.refl wr.heap.size wr); go_wp2_with fail; have W3 := J (zU (Below.refl wr.heap.size wr)); have aA := W3.o; replace HB := J (za HB.o aA); replace K1 := J (zd K1.o aA); replace K2 := J (zd K2.o aA); replace K4 := J (zd K4.o aA); replace R_i := J (Kd.zF R_i.o aA); replace R_g := J (Kd.zF R_g.o aA); clear aA aO aP aQ cci ccg ccp
              refine zaw (n := 32) (S := fun w' => w'.cell? ⟨g1, 0, none⟩ = some (.int .i64 z1) ∧ w'.cell? ⟨g1, 2, none⟩ = some (.slice (some ai) z3.length k2) ∧ w'.cell? ⟨g1, 3, none⟩ = some (.slice (some ag) l4.length k3) ∧ w'.cell? (ai.add k) = some (.int .i64 (idk)) ∧ w'.cell? (ag.add k) = some (.slice Ak (ku (us)).length ck) ∧ w'.cell? (ai.add p) = some (.int .i64 idp)) (ds := []) (bl_ 32 0) yK_ rfl rfl ⟨(HS.o _ W3.o).1, (HS.o _ W3.o).2.1, (HS.o _ W3.o).2.2.1, (HS.o _ W3.o).2.2.2.1, (HS.o _ W3.o).2.2.2.2, HPP.o _ W3.o⟩ (fun hHeld => ?_); refine zS zaT.tab18 zaT.bits18 (fun HT_ HW_ => ?_); generalize wr.drew = v0 at W3 HB K1 K2 K4 R_i R_g hHeld ⊢; refine pu_ 0 ?_; refine pu_ 2 ?_; refine tk_ 1 ?_; refine pu_ 3 ?_; refine tk_ 4 ?_; refine pu_ 5 ?_; refine pu_ 6 ?_; refine pu_ 7 ?_; refine pu_ 9 ?_; refine tk_ 8 ?_; refine pu_ 10 ?_; refine tk_ 11 ?_; refine pu_ 12 ?_; refine pu_ 13 ?_; refine pu_ 14 ?_; refine ps_ 15 ?_; refine ps_ 16 ?_; refine ps_ 17 ?_; refine ps_ 18 ?_; refine ps_ 19 ?_; refine ps_ 20 ?_; refine ps_ 21 ?_; refine ps_ 22 ?_; refine ps_ 23 ?_; refine ps_ 24 ?_; refine ps_ 25 ?_; refine ps_ 26 ?_; refine ps_ 27 ?_; refine ps_ 28 ?_; refine ps_ 29 ?_; refine ps_ 30 ?_; refine pu_ 31 ?_; refine zaL (zad HT_.o yK_) ?_; clear hHeld; go_wp2_with (first
  | ((with_reducible refine zj (t := 145) (p := 2) rfl ?_); refine zi rfl 145 rfl rfl g2 #[.int .i64 0, .slice none 0 0, .slice none 0 0, .slice none 0 0, .slice none 0 0] rfl rfl 145 _ K2.o (zaX.trans rfl) rfl (by simp [Value.oneCell']) ?_; intro wf aC aD; replace HB := J (HB.o.grown aD HB.o.size (fun k_ aE => by cases aE; exact L2.o)); replace K2 := J aC; clear aC aD)
  | fail)
              refine bodyPost_ret (zan rfl _ _ g2 145 #[.int .i64 0, .slice none 0 0, .slice none 0 0, .slice none 0 0, .slice none 0 0] (0, 0) _ rfl K2.o Try.underlying145 rfl yK_) rfl ?_; have aB : b = false := by rw [← HBV.o, zW (fun h_ => by rw [HZ.o] at h_; exact HBAD.o (HID.o.1 (bC.o h_)))]
              exact ⟨⟨0, none, 0, 0, none, 0, 0, none, 0, 0, none, 0, 0⟩, by rw [aB]; first | done | rfl, (fun h_ => by rw [aB] at h_; cases h_), HB.o⟩
             ·have x3 := eq_false i2; have x4 := decide_eq_false i2; have I0 := J (show 0 ≤ idk ∧ idk ≤ 1073741824 by omega); clear i1 i2
              by_cases i3 : idk ≤ idp
              ·have x5 := eq_true i3; have x6 := decide_eq_true i3; have x7 := decide_eq_true (show idp ≥ idk from i3); have HBAD := J (show ¬ ((0 ≤ idk ∧ idk ≤ 1073741824) ∧ (0 < k → idp < idk) ∧ rowB us z1 = true) from fun h_ => by have := h_.2.1 (by have := HP.o; omega); omega); clear i3; have aO := (HS.o _ (Below.refl wr.heap.size wr)).1; have aP := (HS.o _ (Below.refl wr.heap.size wr)).2.1; have aQ := (HS.o _ (Below.refl wr.heap.size wr)).2.2.1; have cci := (HS.o _ (Below.refl wr.heap.size wr)).2.2.2.1; have ccg := (HS.o _ (Below.refl wr.heap.size wr)).2.2.2.2; have ccp := HPP.o _ (Below.refl wr.heap.size wr); go_wp2_with fail; have W3 := J (zU (Below.refl wr.heap.size wr)); have aA := W3.o; replace HB := J (za HB.o aA); replace K1 := J (zd K1.o aA); replace K2 := J (zd K2.o aA); replace K4 := J (zd K4.o aA); replace R_i := J (Kd.zF R_i.o aA); replace R_g := J (Kd.zF R_g.o aA); clear aA aO aP aQ cci ccg ccp
               refine zaw (n := 32) (S := fun w' => w'.cell? ⟨g1, 0, none⟩ = some (.int .i64 z1) ∧ w'.cell? ⟨g1, 2, none⟩ = some (.slice (some ai) z3.length k2) ∧ w'.cell? ⟨g1, 3, none⟩ = some (.slice (some ag) l4.length k3) ∧ w'.cell? (ai.add k) = some (.int .i64 (idk)) ∧ w'.cell? (ag.add k) = some (.slice Ak (ku (us)).length ck) ∧ w'.cell? (ai.add p) = some (.int .i64 idp)) (ds := []) (bl_ 32 0) yK_ rfl rfl ⟨(HS.o _ W3.o).1, (HS.o _ W3.o).2.1, (HS.o _ W3.o).2.2.1, (HS.o _ W3.o).2.2.2.1, (HS.o _ W3.o).2.2.2.2, HPP.o _ W3.o⟩ (fun hHeld => ?_); refine zS zaT.tab18 zaT.bits18 (fun HT_ HW_ => ?_); generalize wr.drew = v0 at W3 HB K1 K2 K4 R_i R_g hHeld ⊢; refine pu_ 0 ?_; refine pu_ 2 ?_; refine tk_ 1 ?_; refine pu_ 3 ?_; refine tk_ 4 ?_; refine pu_ 5 ?_; refine pu_ 6 ?_; refine pu_ 7 ?_; refine pu_ 9 ?_; refine tk_ 8 ?_; refine pu_ 10 ?_; refine tk_ 11 ?_; refine pu_ 12 ?_; refine pu_ 13 ?_; refine pu_ 14 ?_; refine pu_ 15 ?_; refine pu_ 16 ?_; refine pu_ 17 ?_; refine pu_ 18 ?_; refine pu_ 20 ?_; refine pu_ 21 ?_; refine pu_ 24 ?_; refine pu_ 26 ?_; refine tk_ 19 ?_; refine pu_ 22 ?_; refine tk_ 23 ?_; refine tk_ 25 ?_; refine pu_ 27 ?_; refine tk_ 28 ?_; refine pu_ 29 ?_; refine pu_ 30 ?_; refine pu_ 31 ?_; refine zaL (zad HT_.o yK_) ?_; clear hHeld; go_wp2_with (first
  | ((with_reducible refine zj (t := 145) (p := 2) rfl ?_); refine zi rfl 145 rfl rfl g2 #[.int .i64 0, .slice none 0 0, .slice none 0 0, .slice none 0 0, .slice none 0 0] rfl rfl 145 _ K2.o (zaX.trans rfl) rfl (by simp [Value.oneCell']) ?_; intro wf aC aD; replace HB := J (HB.o.grown aD HB.o.size (fun k_ aE => by cases aE; exact L2.o)); replace K2 := J aC; clear aC aD)
  | fail)
               refine bodyPost_ret (zan rfl _ _ g2 145 #[.int .i64 0, .slice none 0 0, .slice none 0 0, .slice none 0 0, .slice none 0 0] (0, 0) _ rfl K2.o Try.underlying145 rfl yK_) rfl ?_; have aB : b = false := by rw [← HBV.o, zW (fun h_ => by rw [HZ.o] at h_; exact HBAD.o (HID.o.1 (bC.o h_)))]
               exact ⟨⟨0, none, 0, 0, none, 0, 0, none, 0, 0, none, 0, 0⟩, by rw [aB]; first | done | rfl, (fun h_ => by rw [aB] at h_; cases h_), HB.o⟩
              ·have x5 := eq_false i3; have x6 := decide_eq_false i3; have x7 := decide_eq_false (show ¬ idp ≥ idk from i3); have I1 := J (show 0 < k → idp < idk from fun _ => by omega); clear i3; have aO := (HS.o _ (Below.refl wr.heap.size wr)).1; have aP := (HS.o _ (Below.refl wr.heap.size wr)).2.1; have aQ := (HS.o _ (Below.refl wr.heap.size wr)).2.2.1; have cci := (HS.o _ (Below.refl wr.heap.size wr)).2.2.2.1; have ccg := (HS.o _ (Below.refl wr.heap.size wr)).2.2.2.2; have ccp := HPP.o _ (Below.refl wr.heap.size wr); go_wp2_with fail; have W3 := J (zU (Below.refl wr.heap.size wr)); have aA := W3.o; replace HB := J (za HB.o aA); replace K1 := J (zd K1.o aA); replace K2 := J (zd K2.o aA); replace K4 := J (zd K4.o aA); replace R_i := J (Kd.zF R_i.o aA); replace R_g := J (Kd.zF R_g.o aA); clear aA aO aP aQ cci ccg ccp
               refine zaw (n := 32) (S := fun w' => w'.cell? ⟨g1, 0, none⟩ = some (.int .i64 z1) ∧ w'.cell? ⟨g1, 2, none⟩ = some (.slice (some ai) z3.length k2) ∧ w'.cell? ⟨g1, 3, none⟩ = some (.slice (some ag) l4.length k3) ∧ w'.cell? (ai.add k) = some (.int .i64 (idk)) ∧ w'.cell? (ag.add k) = some (.slice Ak (ku (us)).length ck) ∧ w'.cell? (ai.add p) = some (.int .i64 idp)) (ds := []) (bl_ 32 0) yK_ rfl rfl ⟨(HS.o _ W3.o).1, (HS.o _ W3.o).2.1, (HS.o _ W3.o).2.2.1, (HS.o _ W3.o).2.2.2.1, (HS.o _ W3.o).2.2.2.2, HPP.o _ W3.o⟩ (fun hHeld => ?_); refine zS zaT.tab18 zaT.bits18 (fun HT_ HW_ => ?_); generalize wr.drew = v0 at W3 HB K1 K2 K4 R_i R_g hHeld ⊢; refine pu_ 0 ?_; refine pu_ 2 ?_; refine tk_ 1 ?_; refine pu_ 3 ?_; refine tk_ 4 ?_; refine pu_ 5 ?_; refine pu_ 6 ?_; refine pu_ 7 ?_; refine pu_ 9 ?_; refine tk_ 8 ?_; refine pu_ 10 ?_; refine tk_ 11 ?_; refine pu_ 12 ?_; refine pu_ 13 ?_; refine pu_ 14 ?_; refine pu_ 15 ?_; refine pu_ 16 ?_; refine pu_ 17 ?_; refine pu_ 18 ?_; refine pu_ 20 ?_; refine pu_ 21 ?_; refine pu_ 24 ?_; refine pu_ 26 ?_; refine tk_ 19 ?_; refine pu_ 22 ?_; refine tk_ 23 ?_; refine tk_ 25 ?_; refine pu_ 27 ?_; refine tk_ 28 ?_; refine pu_ 29 ?_; refine pu_ 30 ?_; refine pu_ 31 ?_; refine zaL (zad HT_.o yK_) ?_; clear hHeld; have aO := (HS.o _ W3.o).1; have aP := (HS.o _ W3.o).2.1; have aQ := (HS.o _ W3.o).2.2.1; have cci := (HS.o _ W3.o).2.2.2.1
               have ccg := (HS.o _ W3.o).2.2.2.2; go_wp2_with fail; clear aO aP aQ cci ccg; have aA : Below v0.heap.size v0 v0.drew := zU (Below.refl _ _); replace W3 := J (za W3.o aA); replace HB := J (za HB.o aA); replace K1 := J (zd K1.o aA); replace K2 := J (zd K2.o aA); replace K4 := J (zd K4.o aA); replace R_i := J (Kd.zF R_i.o aA); replace R_g := J (Kd.zF R_g.o aA); clear aA; refine zaw (n := 13) (S := fun w' => w'.cell? ⟨g1, 0, none⟩ = some (.int .i64 z1) ∧ w'.cell? ⟨g1, 2, none⟩ = some (.slice (some ai) z3.length k2) ∧ w'.cell? ⟨g1, 3, none⟩ = some (.slice (some ag) l4.length k3) ∧ w'.cell? (ai.add k) = some (.int .i64 (idk)) ∧ w'.cell? (ag.add k) = some (.slice Ak (ku (us)).length ck)) (ds := []) (bl_ 13 0) yK_ rfl rfl ⟨(HS.o _ W3.o).1, (HS.o _ W3.o).2.1, (HS.o _ W3.o).2.2.1, (HS.o _ W3.o).2.2.2.1, (HS.o _ W3.o).2.2.2.2⟩ (fun hHeld => ?_); refine zS zaT.tab20 zaT.bits20 (fun HT_ HW_ => ?_); generalize v0.drew = v1 at W3 HB K1 K2 K4 R_i R_g hHeld ⊢; refine pu_ 0 ?_; refine pu_ 2 ?_; refine pu_ 5 ?_; refine tk_ 1 ?_; refine pu_ 3 ?_; refine tk_ 4 ?_; refine tk_ 6 ?_; refine on_ HT_ 7 (some 126) (bl_ 13 255) fun K hK => ?_
               refine go1_ Try.func94 #[.slice Ak (ku us).length ck, .int .i64 z1] ?_; refine (numbers_calls us z1 Ak ck v1 (Kd.zm HGK.o.1 W3.o) HGK.o.2 HGW.o HGL.o).mono ?_; rintro e_ v2 ⟨Bx, dx, xs, rfl, hsx, hnx, aA⟩; refine ⟨_, rfl, ?_⟩; have MX := J (show kN.M v2 w.heap.size (fun k_ => True ∧ some k_ ≠ (Value.slice Bg k dg).ownBlock) xs [.slice Bx xs.length dx] from ⟨_, rfl, Kd.z9 (Kd.R_new (Kd.S_R hsx) (Kd.R_own R_g.o).choose_spec) HB.o.size⟩); have HNX := J hnx; replace W3 := J (za W3.o aA); replace HB := J (za HB.o aA); replace K1 := J (zd K1.o aA); replace K2 := J (zd K2.o aA); replace K4 := J (zd K4.o aA); replace R_i := J (Kd.zF R_i.o aA); replace R_g := J (Kd.zF R_g.o aA); clear aA hsx hnx; refine hK.out _ _ ⟨(HS.o _ W3.o).1, (HS.o _ W3.o).2.1, (HS.o _ W3.o).2.2.1, (HS.o _ W3.o).2.2.2.1, (HS.o _ W3.o).2.2.2.2⟩ (fun hHeld => ?_); clear hK K; refine nm_ ?_; refine pu_ 8 ?_; refine pu_ 9 ?_; refine pu_ 10 ?_; refine pu_ 11 ?_; refine pu_ 12 ?_; refine zaL (zad HT_.o yK_) ?_; clear hHeld
               cases hrb : rowB us z1
               ·have HBAD := J (show ¬ ((0 ≤ idk ∧ idk ≤ 1073741824) ∧ (0 < k → idp < idk) ∧ rowB us z1 = true) from fun h_ => by rw [hrb] at h_; cases h_.2.2); clear hrb; go_wp2_with (first
  | ((with_reducible refine zj (t := 145) (p := 2) rfl ?_); refine zi rfl 145 rfl rfl g2 #[.int .i64 0, .slice none 0 0, .slice none 0 0, .slice none 0 0, .slice none 0 0] rfl rfl 145 _ K2.o (zaX.trans rfl) rfl (by simp [Value.oneCell']) ?_; intro wf aC aD; replace HB := J (HB.o.grown aD HB.o.size (fun k_ aE => by cases aE; exact L2.o)); replace K2 := J aC; clear aC aD)
  | fail)
                refine bodyPost_ret (zan rfl _ _ g2 145 #[.int .i64 0, .slice none 0 0, .slice none 0 0, .slice none 0 0, .slice none 0 0] (0, 0) _ rfl K2.o Try.underlying145 rfl yK_) rfl ?_; have aB : b = false := by rw [← HBV.o, zW (fun h_ => by rw [HZ.o] at h_; exact HBAD.o (HID.o.1 (bC.o h_)))]
                exact ⟨⟨0, none, 0, 0, none, 0, 0, none, 0, 0, none, 0, 0⟩, by rw [aB]; first | done | rfl, (fun h_ => by rw [aB] at h_; cases h_), HB.o⟩
               ·have HOK := J (And.intro I0.o (And.intro I1.o hrb)); have CX := J (CS.o xs (HNX.o hrb)); clear hrb; go_wp2_with fail; have aA : Below v2.heap.size v2 v2.drew := zU (Below.refl _ _); replace W3 := J (za W3.o aA); replace MX := J (Kd.M_below MX.o aA); replace HB := J (za HB.o aA); replace K1 := J (zd K1.o aA); replace K2 := J (zd K2.o aA); replace K4 := J (zd K4.o aA); replace R_i := J (Kd.zF R_i.o aA); replace R_g := J (Kd.zF R_g.o aA); clear aA; refine zaw (n := 11) (S := fun w' => w'.cell? ⟨g1, 0, none⟩ = some (.int .i64 z1) ∧ w'.cell? ⟨g1, 2, none⟩ = some (.slice (some ai) z3.length k2) ∧ w'.cell? ⟨g1, 3, none⟩ = some (.slice (some ag) l4.length k3) ∧ w'.cell? (ai.add k) = some (.int .i64 (idk)) ∧ w'.cell? (ag.add k) = some (.slice Ak (ku (us)).length ck) ∧ w'.cell? ⟨g4, 2, none⟩ = some (.slice Bi k di)) (ds := [8, 10]) (bl_ 11 0) yK_ rfl rfl ⟨(HS.o _ W3.o).1, (HS.o _ W3.o).2.1, (HS.o _ W3.o).2.2.1, (HS.o _ W3.o).2.2.2.1, (HS.o _ W3.o).2.2.2.2, (zg K4.o 2).trans rfl⟩ (fun hHeld => ?_); refine zS zaT.tab23 zaT.bits23 (fun HT_ HW_ => ?_); generalize v2.drew = v3 at W3 MX HB K1 K2 K4 R_i R_g hHeld ⊢; refine pu_ 0 ?_; refine pu_ 2 ?_; refine pu_ 4 ?_; refine tk_ 1 ?_; refine tk_ 3 ?_; refine pu_ 5 ?_; refine tk_ 6 ?_; refine on_ HT_ 7 (some 139) (bl_ 11 255) fun K hK => ?_
                refine value_ (w1 := v3.alloc (.cells #[.int .i64 idk] 3)) (v := .slice (some ⟨v3.heap.size, 0, none⟩) 1 1) (by rfl) rfl (by go_simp; first | done | rfl) ?_; refine hK.out _ _ ⟨zr (z7 (Below.refl v3.heap.size v3) _) ((HS.o _ W3.o).1), zr (z7 (Below.refl v3.heap.size v3) _) ((HS.o _ W3.o).2.1), zr (z7 (Below.refl v3.heap.size v3) _) ((HS.o _ W3.o).2.2.1), zr (z7 (Below.refl v3.heap.size v3) _) ((HS.o _ W3.o).2.2.2.1), zr (z7 (Below.refl v3.heap.size v3) _) ((HS.o _ W3.o).2.2.2.2), zr (z7 (Below.refl v3.heap.size v3) _) ((zg K4.o 2).trans rfl)⟩ (fun hHeld => ?_); clear hK K; refine nm_ ?_; refine last_ (i := 8) (N := some 140) (bl_ 11 511) rfl rfl (zaY HT_.o yK_) yD_ (fun K hK => ?_); refine Kd.R_append_step (Kd.int .i64) (W := v3) (w0 := w) w.heap.size (by rfl) _ _ 22 3 (.int .i64 0) 8 rfl Try.underlying22 info22c rfl yD_ yD_ (.slice Bi k di) (z3.take k) idk [.int .i64 idk] (fun _ => True) (fun k_ => True ∧ some k_ ≠ (Value.slice Bi k di).ownBlock) rfl rfl rfl (fun _ hk => hk) (fun _ _ => trivial) R_i.o HB.o HB.o.size (by rw [LK.o]; have := HK.o; have := S3.o; omega) ?_; intro bX v4 aN aZ aI _; have aK := Kd.R_ne R_i.o K1.o yD_; have aL := Kd.R_ne R_i.o K2.o yD_; have aM := Kd.R_ne R_i.o K4.o yD_; have aH : ∀ k_, (Value.slice Bi k di).ownBlock = some k_ → ∃ cells, v3.heap[k_]? = some (.cells cells 3 (0, 0)) := Kd.R_typed R_i.o
                replace MX := J (show kN.M v4 w.heap.size (fun k_ => True ∧ some k_ ≠ (Value.slice Bg k dg).ownBlock) xs [.slice Bx xs.length dx] from MX.o.elim fun vx hvx => ⟨vx, hvx.1, Kd.R_over' hvx.2 aH yD_ aI⟩); replace R_g := J (Kd.R_over' R_g.o aH yD_ aI); replace K1 := J (zu aI K1.o aK); replace K2 := J (zu aI K2.o aL); replace K4 := J (zu aI K4.o aM); replace HB := J aZ; have bA : (z3.take k ++ [idk]).length = k + 1 := by rw [List.length_append, LK.o]; rfl
                obtain ⟨aR, aS, rfl⟩ := Kd.zJ aN; rw [bA] at aN ⊢; replace R_i := J aN; clear aN aZ aI aK aL aM aH bA; have bV := cz_ K4.o 2 rfl; have f42 := zb K4.o 2; refine hK.out _ _ ?_; clear hK K; refine nm_ ?_; refine pu_ 9 ?_; refine last_ (i := 10) (N := none) (bl_ 11 2047) rfl rfl (zaY HT_.o yK_) yD_ (fun K hK => ?_); refine skip_ (w1 := ?_) (by rfl) rfl ?_ ?_; rotate_left; (focus (go_simp; first | done | rfl)); refine hK.out _ _ ?_; clear hK K; refine zaL (zad HT_.o yK_) ?_; clear hHeld bV f42; have aG := NW.zx v4 g4 2 (.slice aR (k + 1) aS); have aJ := J (show (v4.setCell ⟨g4, 2, none⟩ (.slice aR (k + 1) aS)).heap[g4]? = some (.cells #[.int .i64 z1, .slice B1 aW.length d1, .slice aR (k + 1) aS, .slice Bg k dg, .slice B4 aT.length d4] 145 (0, 0)) from zav K4.o 2 _); replace R_i := J (r_put R_i.o K4.o yD_ aG); replace R_g := J (r_put R_g.o K4.o yD_ aG); replace MX := J (show kN.M (v4.setCell ⟨g4, 2, none⟩ (.slice aR (k + 1) aS)) w.heap.size (fun k_ => True ∧ some k_ ≠ (Value.slice Bg k dg).ownBlock) xs [.slice Bx xs.length dx] from MX.o.elim fun vx hvx => ⟨vx, hvx.1, r_put hvx.2 K4.o yD_ aG⟩); replace HB := J (HB.o.grown aG HB.o.size (fun k_ aE => by cases aE; exact L4.o)); replace K1 := J (zu aG K1.o (fun e => aU.o.1 (Option.some.inj e))); replace K2 := J (zu aG K2.o (fun e => aU.o.2 (Option.some.inj e))); replace K4 := aJ; clear aJ aG
                generalize v4.setCell ⟨g4, 2, none⟩ (.slice aR (k + 1) aS) = v5 at HB K1 K2 K4 R_i R_g MX ⊢; have bE := cz_ K4.o 3 rfl; go_wp2_with (first
  | ((with_reducible refine zf (N := 146) rfl ?_); refine Kd.R_append kN (W := v5) (w0 := w) w.heap.size rfl _ _ 143 140 (.slice none 0 0) 24 rfl Try.underlying143 info140 rfl yD_ yD_ (.slice Bg k dg) xss xs [.slice Bx xs.length dx] (fun _ => True) _ rfl rfl MX.o (fun _ hk => hk) (fun _ _ => trivial) R_g.o HB.o HB.o.size (by rw [LXS.o]; have := HK.o; have := S3.o; omega) ?_; intro bX v6 aN aZ aI _; have aK := Kd.R_ne R_g.o K1.o yD_; have aL := Kd.R_ne R_g.o K2.o yD_; have aM := Kd.R_ne R_g.o K4.o yD_; have aH : ∀ k_, (Value.slice Bg k dg).ownBlock = some k_ → ∃ cells, v5.heap[k_]? = some (.cells cells 140 (0, 0)) := Kd.R_typed R_g.o; replace R_i := J (Kd.R_over' R_i.o aH yD_ aI); replace K1 := J (zu aI K1.o aK); replace K2 := J (zu aI K2.o aL); replace K4 := J (zu aI K4.o aM); replace HB := J aZ; have bA : (xss ++ [xs]).length = k + 1 := (by rw [List.length_append, LXS.o]; rfl); obtain ⟨aX, aY, rfl⟩ := Kd.zJ aN; rw [bA] at aN ⊢; replace R_g := J aN; clear aN aZ aI aK aL aM aH bA MX bE; have bE := cz_ K4.o 3 rfl; have f43 := zb K4.o 3)
  | fail)
                try clear bE
                try clear f43
                have aG := NW.zx v6 g4 3 (.slice aX (k + 1) aY); have aJ := J (show (v6.setCell ⟨g4, 3, none⟩ (.slice aX (k + 1) aY)).heap[g4]? = some (.cells #[.int .i64 z1, .slice B1 aW.length d1, .slice aR (k + 1) aS, .slice aX (k + 1) aY, .slice B4 aT.length d4] 145 (0, 0)) from zav K4.o 3 _); replace R_i := J (r_put R_i.o K4.o yD_ aG); replace R_g := J (r_put R_g.o K4.o yD_ aG); replace HB := J (HB.o.grown aG HB.o.size (fun k_ aE => by cases aE; exact L4.o)); replace K1 := J (zu aG K1.o (fun e => aU.o.1 (Option.some.inj e))); replace K2 := J (zu aG K2.o (fun e => aU.o.2 (Option.some.inj e))); replace K4 := aJ; clear aJ aG; generalize v6.setCell ⟨g4, 3, none⟩ (.slice aX (k + 1) aY) = v7 at HB K1 K2 K4 R_i R_g ⊢; go_roundg (gk - 1)
                case measure => have := hm.o; have := HK.o; omega
                case rel => exact ⟨k + 1, aR, aS, aX, aY, xss ++ [xs], by first | rfl | (rw [w64 _ yO_ (by have := HK.o; have := S3.o; omega)]; rfl), ⟨by have := hm.o; have := HK.o; omega⟩, ⟨HQ.o (HID.o.2 HOK.o)⟩, K4, ⟨by rw [TK.o]; exact R_i.o⟩, R_g, CX, K1, K2, HB⟩
          ·have p2 := eq_false (show ¬ (k : Int) < (z3.length : Int) by omega); have p4 := decide_eq_false (show ¬ (k : Int) < (z3.length : Int) by omega); obtain rfl : k = z3.length := by have := hm.o; omega
           have N7 := J (show ∀ j, j < z3.length → IdOk ⟨z1, z2, z3, z4, z5, false⟩ j from bJ.o); clear hx hm bJ; have c0 := cz_ K1.o 0 rfl; have c1 := cz_ K1.o 1 rfl; have c2 := cz_ K1.o 2 rfl; have c3 := cz_ K1.o 3 rfl; have c4 := cz_ K1.o 4 rfl; have c5 := cz_ K1.o 5 rfl; have e0 := cz_ K4.o 0 rfl; have e1 := cz_ K4.o 1 rfl; have e2 := cz_ K4.o 2 rfl; have e3 := cz_ K4.o 3 rfl; have e4 := cz_ K4.o 4 rfl; go_wp2_with (first
  | ((with_reducible refine zj (t := 145) (p := 2) rfl ?_); refine zi rfl 145 rfl rfl g2 #[.int .i64 z1, .slice B1 aW.length d1, .slice Bi z3.length di, .slice Bg z3.length dg, .slice B4 aT.length d4] rfl rfl 145 _ K2.o (zaX.trans rfl) rfl (by simp [Value.oneCell']) ?_; intro wf aC aD; replace R_g := J (r_put R_g.o K2.o yD_ aD); replace HB := J (HB.o.grown aD HB.o.size (fun k_ aE => by cases aE; exact L2.o)); replace K2 := J aC; clear aC aD)
  | fail)
           refine bodyPost_ret (zan rfl _ _ g2 145 #[.int .i64 z1, .slice B1 aW.length d1, .slice Bi z3.length di, .slice Bg z3.length dg, .slice B4 aT.length d4] (0, 0) _ rfl K2.o Try.underlying145 rfl yK_) rfl ?_; have aB : b = true := by rw [← HBV.o, goodB_true (by rw [HZ.o]; exact ⟨rfl, N2.o, bS.o, bT.o, NL.o, N6.o, N7.o⟩)]
           have yg := Kd.zK R_g.o; exact ⟨⟨z1, B1, aW.length, d1, Bi, z3.length, di, Bg, z3.length, dg, B4, aT.length, d4⟩, by rw [aB]; first | done | rfl, (fun _ => ⟨xss, yg.1, yg.2.2, by rw [← NL.o]; exact CO.o⟩), HB.o⟩
    ·have q5 : ((z3.length : Int) != (l4.length : Int)) = true := by rw [bne_iff_ne]; omega
     have NLL := J hl; clear hl; go_wp2_with (first
  | ((with_reducible refine zf (N := 1) rfl ?_); refine zah 1 (cs := #[.int .i64 z1, .slice a1 l2.length k1, .slice a2 z3.length k2, .slice a3 l4.length k3, .slice a4 l5.length k4, .bool false]) (t := 74) ?_; intro g1 aD w1 aC aA; have HB := J aA; have K1 := J aC; have L1 := J (show w.heap.size ≤ g1 by omega); clear aD aC aA)
  | ((with_reducible refine zf (N := 2) rfl ?_); refine zah 2 (cs := #[.int .i64 0, .slice none 0 0, .slice none 0 0, .slice none 0 0, .slice none 0 0]) (t := 145) ?_; intro g2 aD w2 aC aA; have bK := J (show g1 ≠ g2 by have := zac K1.o; omega); have L2 := J (show w.heap.size ≤ g2 by have := HB.o.size; omega); replace HB := J (za HB.o aA); replace K1 := J (zd K1.o aA); have K2 := J aC; clear aD aC aA; have c0 := cz_ K1.o 0 rfl; have c1 := cz_ K1.o 1 rfl; have c2 := cz_ K1.o 2 rfl; have c3 := cz_ K1.o 3 rfl; have c4 := cz_ K1.o 4 rfl; have c5 := cz_ K1.o 5 rfl)
  | ((with_reducible refine zj (t := 145) (p := 2) rfl ?_); refine zi rfl 145 rfl rfl g2 #[.int .i64 0, .slice none 0 0, .slice none 0 0, .slice none 0 0, .slice none 0 0] rfl rfl 145 _ K2.o (zaX.trans rfl) rfl (by simp [Value.oneCell']) ?_; intro wf aC aD; replace HB := J (HB.o.grown aD HB.o.size (fun k_ aE => by cases aE; exact L2.o)); replace K2 := J aC; clear aC aD)
  | fail)
     refine bodyPost_ret (zan rfl _ _ g2 145 #[.int .i64 0, .slice none 0 0, .slice none 0 0, .slice none 0 0, .slice none 0 0] (0, 0) _ rfl K2.o Try.underlying145 rfl yK_) rfl ?_; have aB : b = false := by rw [← HBV.o, zW (fun h_ => by rw [HZ.o] at h_; have aV := h_.2.2.2.2.1; exact NLL.o (aV.trans N4.o.symm))]
     exact ⟨⟨0, none, 0, 0, none, 0, 0, none, 0, 0, none, 0, 0⟩, by rw [aB]; first | done | rfl, (fun h_ => by rw [aB] at h_; cases h_), HB.o⟩
 ·skip
  go_wp2_with (first
  | ((with_reducible refine zf (N := 1) rfl ?_); refine zah 1 (cs := #[.int .i64 z1, .slice a1 l2.length k1, .slice a2 z3.length k2, .slice a3 l4.length k3, .slice a4 l5.length k4, .bool true]) (t := 74) ?_; intro g1 aD w1 aC aA; have HB := J aA; have K1 := J aC; have L1 := J (show w.heap.size ≤ g1 by omega); clear aD aC aA)
  | ((with_reducible refine zf (N := 2) rfl ?_); refine zah 2 (cs := #[.int .i64 0, .slice none 0 0, .slice none 0 0, .slice none 0 0, .slice none 0 0]) (t := 145) ?_; intro g2 aD w2 aC aA; have bK := J (show g1 ≠ g2 by have := zac K1.o; omega); have L2 := J (show w.heap.size ≤ g2 by have := HB.o.size; omega); replace HB := J (za HB.o aA); replace K1 := J (zd K1.o aA); have K2 := J aC; clear aD aC aA; have c0 := cz_ K1.o 0 rfl; have c1 := cz_ K1.o 1 rfl; have c2 := cz_ K1.o 2 rfl; have c3 := cz_ K1.o 3 rfl; have c4 := cz_ K1.o 4 rfl; have c5 := cz_ K1.o 5 rfl)
  | ((with_reducible refine zj (t := 145) (p := 2) rfl ?_); refine zi rfl 145 rfl rfl g2 #[.int .i64 0, .slice none 0 0, .slice none 0 0, .slice none 0 0, .slice none 0 0] rfl rfl 145 _ K2.o (zaX.trans rfl) rfl (by simp [Value.oneCell']) ?_; intro wf aC aD; replace HB := J (HB.o.grown aD HB.o.size (fun k_ aE => by cases aE; exact L2.o)); replace K2 := J aC; clear aC aD)
  | fail)
  refine bodyPost_ret (zan rfl _ _ g2 145 #[.int .i64 0, .slice none 0 0, .slice none 0 0, .slice none 0 0, .slice none 0 0] (0, 0) _ rfl K2.o Try.underlying145 rfl yK_) rfl ?_; have aB : b = false := by rw [← HBV.o, zW (fun h_ => by rw [HZ.o] at h_; have aV := h_.1; cases aV)]
  exact ⟨⟨0, none, 0, 0, none, 0, 0, none, 0, 0, none, 0, 0⟩, by rw [aB]; first | done | rfl, (fun h_ => by rw [aB] at h_; cases h_), HB.o⟩
theorem NV_size {nb : Bool} {l : List Int} {e : Int} (hu : U32 l) : NV false l e = zaS (NV nb l e) := by
 unfold NV; have h := (nv_bound l hu).1; have hp := zY (e + 4000).toNat; rw [absI_mul _ _ hp, absI_sv _ _ h]; rfl
theorem absI_scale (x : Int) : zaS (x * 2 ^ 1788) = zaS x * 2 ^ 1788 := absI_mul _ _ (zY _)
/-- One value against another, both in smaller parts. -/
theorem sgn_scale (x y : Int) : (0 < sgnI (x * 2 ^ 1788 - y * 2 ^ 1788)) ↔ y < x := by
 rw [← Int.sub_mul]; have hp := zY 1788; generalize (2 : Int) ^ 1788 = p at *
 rcases Int.lt_trichotomy (x - y) 0 with h | h | h
 ·rw [zbh (Int.mul_neg_of_neg_of_pos h hp)]; omega
 ·rw [h, Int.zero_mul, sgnI_zero rfl]; omega
 ·rw [zbi (Int.mul_pos h hp)]; omega
theorem pk_step {L : List (Int × Int)} {x : Int × Int} : pk (L ++ [x]) = if (pk L).2 < x.2 then x else pk L := by rw [pk_app]; rfl
theorem margin_calls (z : Zn) (h : Zh) (A : Option Addr) (c : Nat) (a : List Nat) (k : Int) (w : World) (hr : Ur w z h) (hf : Zf z) (hs : ∀ n, n = z.C.length ∨ n = z.ids.length ∨ n = z.G.length ∨ n = z.R.length → n ≤ 2000000) (hg : ∀ us, us ∈ z.G → us.length ≤ 2000000) (ha : Kd.C (Kd.int .u64) w A (ku a).length (ku a)) (hac : (ku a).length ≤ c) (hwa : Wf a) (hn : a.length ≤ 2000000) :
  Calls Try.prog 54 #[.agg (uc z h), .slice A (ku a).length c, .int .i64 k] w fun e w' => e = .returned (.int .i64 (pk (seenV z a k)).1) ∧ Below w.heap.size w w' := by
 have rcs := fun w1 (r : Ur w1 z h) => reals_calls z h w1 r hf hs hg
 have HRC := J rcs; clear rcs; obtain ⟨Z, hz⟩ : ∃ Z, Z = z := ⟨_, rfl⟩
 obtain ⟨H, hh⟩ : ∃ H, H = h := ⟨_, rfl⟩
 have HR := J hr; obtain ⟨z1, z2, z3, z4, z5, z6⟩ := z; obtain ⟨a1, k1, a2, k2, a3, k3, a4, k4⟩ := h; have hu74 := Try.underlying74; have hu145 := Try.underlying145; have hu101 := Try.underlying101; have WF := J hf; have Q2 := J (show Rd w a2 k2 z3 from hr.r2); have S3 := J (show z3.length ≤ 2000000 from hs _ (.inr (.inl rfl))); have SG := J (show ∀ us, us ∈ z4 → us.length ≤ 2000000 from hg); have QA := J (And.intro ha hac); have WA := J hwa; have NA := J hn; rw [← hz, ← hh] at HRC HR; rw [← hz] at WF; rw [← hz, ← hh]; clear hr hf hs hg ha hac hwa hn; obtain ⟨l2, hl2⟩ : ∃ l, l = ku z2 := ⟨_, rfl⟩
 obtain ⟨l4, hl4⟩ : ∃ l, l = z4.map ku := ⟨_, rfl⟩
 obtain ⟨l5, hl5⟩ : ∃ l, l = ku z5 := ⟨_, rfl⟩
 obtain ⟨la, hla⟩ : ∃ l, l = ku a := ⟨_, rfl⟩
 have hv : uc Z H = #[.int .i64 z1, .slice a1 l2.length k1, .slice a2 z3.length k2, .slice a3 l4.length k3, .slice a4 l5.length k4, .bool z6] := by rw [hz, hh, hl2, hl4, hl5]; rfl
 have HV := J hv; have HZ := J hz; have HLA := J hla; have LA := J (show la.length = a.length by rw [hla, zaA]); rw [hv, ← hla]; rw [← hla] at QA; clear hv hz hh hl2 hl4 hl5 hla; generalize hb : (pk (seenV Z a k)).1 = res; have RES := J hb; clear hb; go_enter Try.func54, Try.ntmps54
 go_wp2_with (first
  | ((with_reducible refine zf (N := 3) rfl ?_); refine zah 3 (cs := #[.int .i64 z1, .slice a1 l2.length k1, .slice a2 z3.length k2, .slice a3 l4.length k3, .slice a4 l5.length k4, .bool z6]) (t := 74) ?_; intro g3 aB w1 aD aA; have HB := J aA; have K3 := J aD; have L3 := J (show w.heap.size ≤ g3 by omega); clear aB aD aA)
  | fail)
 have ec := exact_calls a A c w1 (by rw [← HLA.o]; exact Kd.zm QA.o.1 HB.o) (by rw [← HLA.o]; exact QA.o.2) WA.o NA.o; rw [← HLA.o] at ec; refine ec.mono ?_; clear ec; rintro e_ w2 ⟨Bx, dx, xs, rfl, hsx, hnx, aA⟩; have XS := J (Kd.S_reads' hsx).2.2; have NX := J hnx; replace HB := J (za HB.o aA); replace K3 := J (zd K3.o aA); clear hsx hnx aA; have c0 := cz_ K3.o 0 rfl; have c1 := cz_ K3.o 1 rfl; have c2 := cz_ K3.o 2 rfl; have c3 := cz_ K3.o 3 rfl; have c4 := cz_ K3.o 4 rfl; have c5 := cz_ K3.o 5 rfl; go_wp2_with fail; have rc := HRC.o w2 (HR.o.step HB.o); rw [HV.o] at rc; refine rc.mono ?_; clear rc; rintro e_ w3 ⟨⟨n0, B1, m1, d1, B2, m2, d2, aL, m3, d3, B4, m4, d4⟩, rfl, hcols, aA⟩; have CO := J hcols; replace XS := J (Kd.zm XS.o aA); replace HB := J (za HB.o aA); replace K3 := J (zd K3.o aA); clear hcols aA c0 c1 c2 c3 c4 c5; rw [show rlc ⟨n0, B1, m1, d1, B2, m2, d2, aL, m3, d3, B4, m4, d4⟩ = #[.int .i64 n0, .slice B1 m1 d1, .slice B2 m2 d2, .slice aL m3 d3, .slice B4 m4 d4] from rfl]; have c0 := cz_ K3.o 0 rfl; have c1 := cz_ K3.o 1 rfl; have c2 := cz_ K3.o 2 rfl; have c3 := cz_ K3.o 3 rfl; have c4 := cz_ K3.o 4 rfl; have c5 := cz_ K3.o 5 rfl
 by_cases hG : goodB Z = true
 ·have GG := J (goodB_iff.1 hG); have aR := J hG; rw [hG]; have CO2 := CO.o hG; clear hG; obtain rfl : z6 = false := by have := GG.o.1; rw [HZ.o] at this; exact this
  have N1 := J (show 1 ≤ z1 ∧ z1 ≤ 256 by have := GG.o.2.1; rw [HZ.o] at this; exact this); obtain ⟨xss, aT, hxs, hco⟩ := CO2; have aT : m3 = xss.length := aT; subst aT; have XSS := J hxs; have COL := J (show Cols z4 z4.length xss by have h := hco; rw [HZ.o] at h; exact h); clear hxs hco CO
  by_cases hl : (la.length : Int) = z1 + 1
  ·have hw1 : wrap64 (z1 + 1) = z1 + 1 := w64 _ (by have := N1.o; omega) (by have := N1.o; omega); have q1 : ((la.length : Int) != z1 + 1) = false := bne_eq_false_iff_eq.mpr hl; have HL := J (show (a.length : Int) = z1 + 1 by have := LA.o; omega); clear hl
   cases hall : a.all fo
   ·have HAL := J hall; clear hall; go_wp2_with (first
  | ((with_reducible refine zf (N := 9) rfl ?_); refine zah 9 (cs := #[.int .i64 0, .slice none 0 0, .slice none 0 0, .slice none 0 0, .slice none 0 0]) (t := 145) ?_; intro g9 aB w4 aD aA; have aN := J (show g3 ≠ g9 by have := zac K3.o; omega); have L9 := J (show w.heap.size ≤ g9 by have := HB.o.size; omega); have LW := J (show w3.heap.size ≤ g9 by omega); have aC := J aA; replace HB := J (za HB.o aA); replace K3 := J (zd K3.o aA); have K9 := J aD; clear aB aD aA c0 c1 c2 c3 c4 c5)
  | ((with_reducible refine zj (t := 145) (p := 9) rfl ?_); refine zi rfl 145 rfl rfl g9 #[.int .i64 n0, .slice B1 m1 d1, .slice B2 m2 d2, .slice aL xss.length d3, .slice B4 m4 d4] rfl rfl 145 _ K9.o (zaX.trans rfl) rfl (by simp [Value.oneCell']) ?_; intro w5 aD aB; replace HB := J (HB.o.grown aB HB.o.size (fun k_ aG => by cases aG; exact L9.o)); replace aC := J (aC.o.grown aB aC.o.size (fun k_ aG => by cases aG; exact LW.o)); replace K9 := J aD; replace K3 := J (zu aB K3.o (fun e => aN.o (Option.some.inj e))); clear aD aB; have c0 := cz_ K3.o 0 rfl; have c1 := cz_ K3.o 1 rfl; have c2 := cz_ K3.o 2 rfl; have c3 := cz_ K3.o 3 rfl; have c4 := cz_ K3.o 4 rfl; have c5 := cz_ K3.o 5 rfl)
  | fail)
    go_ret; exact ⟨by rw [← RES.o]; unfold seenV; rw [if_neg (by rw [HAL.o, Bool.and_false]; decide)]; rfl, HB.o⟩
   ·have HAL := J hall; have NXS := J (NX.o hall); clear hall; go_wp2_with (first
  | ((with_reducible refine zf (N := 9) rfl ?_); refine zah 9 (cs := #[.int .i64 0, .slice none 0 0, .slice none 0 0, .slice none 0 0, .slice none 0 0]) (t := 145) ?_; intro g9 aB w4 aD aA; have aN := J (show g3 ≠ g9 by have := zac K3.o; omega); have L9 := J (show w.heap.size ≤ g9 by have := HB.o.size; omega); have LW := J (show w3.heap.size ≤ g9 by omega); have aC := J aA; replace HB := J (za HB.o aA); replace K3 := J (zd K3.o aA); have K9 := J aD; clear aB aD aA c0 c1 c2 c3 c4 c5)
  | ((with_reducible refine zj (t := 145) (p := 9) rfl ?_); refine zi rfl 145 rfl rfl g9 #[.int .i64 n0, .slice B1 m1 d1, .slice B2 m2 d2, .slice aL xss.length d3, .slice B4 m4 d4] rfl rfl 145 _ K9.o (zaX.trans rfl) rfl (by simp [Value.oneCell']) ?_; intro w5 aD aB; replace HB := J (HB.o.grown aB HB.o.size (fun k_ aG => by cases aG; exact L9.o)); replace aC := J (aC.o.grown aB aC.o.size (fun k_ aG => by cases aG; exact LW.o)); replace K9 := J aD; replace K3 := J (zu aB K3.o (fun e => aN.o (Option.some.inj e))); clear aD aB; have c0 := cz_ K3.o 0 rfl; have c1 := cz_ K3.o 1 rfl; have c2 := cz_ K3.o 2 rfl; have c3 := cz_ K3.o 3 rfl; have c4 := cz_ K3.o 4 rfl; have c5 := cz_ K3.o 5 rfl)
  | ((with_reducible refine zf (N := 12) rfl ?_); refine zah 12 (cs := #[.bool false, .slice none 0 0, .int .i64 0]) (t := 101) ?_; intro aK aB w6 aD aA; have N3 := J (show g3 ≠ aK ∧ g9 ≠ aK by have := zac K3.o; have := zac K9.o; omega); have L12 := J (show w.heap.size ≤ aK by have := HB.o.size; omega); have aQ := J (show w3.heap.size ≤ aK by have := aC.o.size; omega); replace HB := J (za HB.o aA); replace aC := J (za aC.o aA); replace K3 := J (zd K3.o aA); replace K9 := J (zd K9.o aA); have aE := J (show B3 w6 aK false none 0 0 0 from aD); clear aB aD aA c0 c1 c2 c3 c4 c5)
  | ((with_reducible refine zj (t := 101) (p := 12) rfl ?_); refine zi rfl 101 rfl rfl aK #[.bool false, .slice none 0 0, .int .i64 0] rfl rfl 101 _ aE.o (NW.zaz.trans rfl) rfl (zaH _ _ _ _ _) ?_; intro w7 aD aB; replace HB := J (HB.o.grown aB HB.o.size (fun k_ aG => by cases aG; exact L12.o)); replace aC := J (aC.o.grown aB aC.o.size (fun k_ aG => by cases aG; exact aQ.o)); replace K3 := J (zu aB K3.o (fun e => N3.o.1 (Option.some.inj e))); replace K9 := J (zu aB K9.o (fun e => N3.o.2 (Option.some.inj e))); replace aE := J (show B3 w7 aK false none 0 0 0 from aD); clear aD aB)
  | fail)
    replace aE := J (show B3 w7 aK false none ([] : List Int).length 0 0 from aE.o); clear hw1 q1
    go_loopg [11, 13] z3.length (fun m v11 v13 wr => ∃ (i : Nat) (nb : Bool) (C : Option Addr) (cc : Nat) (l : List Int) (e : Int), v11 = .int .i64 (pk (colsN Z a k i)).1 ∧ v13 = .int .i64 (i : Int) ∧ ze (i + m = z3.length) ∧ ze (B3 wr aK nb C l.length cc e) ∧ ze (Ru wr C cc l 200) ∧ ze (Eb e ∧ NV nb l e = (pk (colsN Z a k i)).2 * 2 ^ 1788) ∧ ze (wr.heap[g3]? = some (.cells #[.int .i64 z1, .slice a1 l2.length k1, .slice a2 z3.length k2, .slice a3 l4.length k3, .slice a4 l5.length k4, .bool false] 74 (0, 0))) ∧ ze (wr.heap[g9]? = some (.cells #[.int .i64 n0, .slice B1 m1 d1, .slice B2 m2 d2, .slice aL xss.length d3, .slice B4 m4 d4] 145 (0, 0))) ∧ ze (Below w3.heap.size w3 wr) ∧ ze (Below w.heap.size w wr))
    case atStart => exact ⟨0, false, none, 0, [], 0, rfl, rfl, ⟨by omega⟩, aE, ⟨Ru.nil _ _⟩, ⟨⟨by decide, by decide⟩, by rw [NV_nil]; exact (Int.zero_mul _).symm⟩, K3, K9, aC, HB⟩
    case round =>
     clear aE K3 K9 aC HB; obtain ⟨i, nb, C, cc, l, e, rfl, rfl, hm, aE, RC, EV, K3, K9, aC, HB⟩ := hrel; have c0 := cz_ K3.o 0 rfl; have c1 := cz_ K3.o 1 rfl; have c2 := cz_ K3.o 2 rfl; have c3 := cz_ K3.o 3 rfl; have c4 := cz_ K3.o 4 rfl; have c5 := cz_ K3.o 5 rfl
     by_cases hx : i < z3.length
     ·have HX := J hx; have EI := J (show Z.ids = z3 by rw [HZ.o]); have EG := J (show Z.G = z4 by rw [HZ.o]); have EN := J (show Z.N = z1 by rw [HZ.o]); have NG := J (show z3.length = z4.length by have h := GG.o.2.2.2.2.1; rwa [EI.o, EG.o] at h); have p2 := eq_true (show (i : Int) < (z3.length : Int) by omega); have p4 := decide_eq_true (show (i : Int) < (z3.length : Int) by omega); have p3 := eq_true hx; have p5 := eq_true (show (0 : Int) ≤ (i : Int) by omega); have p6 := eq_true (show i < xss.length by have := COL.o.1; have := NG.o; omega); have p7 := eq_true (show (i : Int) < (xss.length : Int) by have := COL.o.1; have := NG.o; omega); obtain ⟨ai, eai, hci⟩ := Kd.zQ (Q2.o.step HB.o).row (i : Int) yO_ yO_; cases eai; rw [Int.toNat_natCast] at hci; obtain ⟨ag, Ak, ck, eag, hcg, _, hrk⟩ := at_L7 (Kd.zm XSS.o aC.o) (i : Int) yO_ (by have := COL.o.1; have := NG.o; omega); cases eag; rw [Int.toNat_natCast] at hcg; have aM := J (show ∀ w0 : World, Below w.heap.size w w0 → w0.cell? (ai.add i) = some (.int .i64 (rd z3 (i : Int))) from fun W hW => by obtain ⟨ai2, e2, h2⟩ := Kd.zQ (Q2.o.step hW).row (i : Int) yO_ yO_; cases e2; rwa [Int.toNat_natCast] at h2); have HGI := J hrk; have HNI := J (COL.o.2 i (by have := NG.o; omega)); have HROW := J (show ((rdl z4 i).length : Int) = z1 by have h := (rowB_iff (GG.o.2.2.2.2.2.2 i (by rw [EI.o]; exact hx)).2.2).2; rwa [EG.o, EN.o] at h)
      have HCOL := J (show colsN Z a k (i + 1) = colsN Z a k i ++ (if rd z3 (i : Int) < k then [(rd z3 (i : Int), zaS (dotN a (rdl z4 i) (rdl z4 i).length))] else []) by show colsN Z a k i ++ _ = _; rw [EI.o, EG.o]); have e9 := cz_ K9.o 3 rfl; clear hx hrk hci; generalize rd z3 (i : Int) = id at *
      generalize rdl z4 i = us at *
      generalize rd_L7 xss (i : Int) = ys at *
      generalize hL : colsN Z a k i = L at *
      have HCL := J hL; clear hL; go_wp2_with fail; have XSr := Kd.zm XS.o aC.o; refine (weighs_calls a us Bx dx xs Ak ck ys wr XSr HGI.o NXS.o HNI.o (by have := HROW.o; have := HL.o; omega) (by have := HROW.o; have := N1.o; omega)).mono ?_; clear XSr; rintro e_ w8 ⟨nw, Aw, cw, lw, ew, rfl, rw_, ebw, vw, aA⟩; have RW := J rw_; have EW := J ebw; have VW := J vw; replace HB := J (za HB.o aA); replace aC := J (za aC.o aA); replace K3 := J (zd K3.o aA); replace K9 := J (zd K9.o aA); replace aE := J (aE.o.step aA); replace RC := J (RC.o.step aA); clear rw_ ebw vw aA hcg e9 c0 c1 c2 c3 c4 c5; go_wp2_with fail; refine (size_n nw Aw lw.length cw ew w8).mono ?_; rintro e_ w9 ⟨rfl, aA⟩; replace HB := J (za HB.o aA); replace aC := J (za aC.o aA); replace K3 := J (zd K3.o aA); replace K9 := J (zd K9.o aA); replace aE := J (aE.o.step aA); replace RC := J (RC.o.step aA); replace RW := J (RW.o.step aA); clear aA; have VS := J (show NV false lw ew = zaS (dotN a us us.length) * 2 ^ 1788 by rw [NV_size (nb := nw) RW.o.u, VW.o, absI_scale])
      by_cases hk : id < k
      ·have k1_ := eq_true hk; have k2_ := decide_eq_true hk; have HK := J hk; clear hk; go_wp2_with (first
  | ((with_reducible refine zf (N := 14) rfl ?_); refine zah 14 (cs := #[.bool false, .slice none 0 0, .int .i64 0]) (t := 101) ?_; intro aI aB aU aD aA; have aJ := J (show g3 ≠ aI ∧ g9 ≠ aI ∧ aK ≠ aI by have := zac K3.o; have := zac K9.o; have := aE.o.lt; omega); have aP := J (show w.heap.size ≤ aI ∧ w3.heap.size ≤ aI by have := HB.o.size; have := aC.o.size; omega); replace HB := J (za HB.o aA); replace aC := J (za aC.o aA); replace K3 := J (zd K3.o aA); replace K9 := J (zd K9.o aA); replace aE := J (aE.o.step aA); replace RC := J (RC.o.step aA); replace RW := J (RW.o.step aA); have aH := J (show B3 aU aI false none 0 0 0 from aD); clear aB aD aA)
  | ((with_reducible refine zj (t := 101) (p := 14) rfl ?_); refine zi rfl 101 rfl rfl aI #[.bool false, .slice Aw lw.length cw, .int .i64 ew] rfl rfl 101 _ aH.o (NW.zaz.trans rfl) rfl (zaH _ _ _ _ _) ?_; intro aO aD aB; replace HB := J (HB.o.grown aB HB.o.size (fun k_ aG => by cases aG; exact aP.o.1)); replace aC := J (aC.o.grown aB aC.o.size (fun k_ aG => by cases aG; exact aP.o.2)); replace K3 := J (zu aB K3.o (fun e => aJ.o.1 (Option.some.inj e))); replace K9 := J (zu aB K9.o (fun e => aJ.o.2.1 (Option.some.inj e))); replace aE := J (aE.o.put aB aJ.o.2.2); replace RC := J (RC.o.put aH.o aB); replace RW := J (RW.o.put aH.o aB); replace aH := J (show B3 aO aI false Aw lw.length cw ew from aD); clear aD aB; have c0 := cz_ K3.o 0 rfl; have c1 := cz_ K3.o 1 rfl; have c2 := cz_ K3.o 2 rfl; have c3 := cz_ K3.o 3 rfl; have c4 := cz_ K3.o 4 rfl; have c5 := cz_ K3.o 5 rfl; have hci := aM.o aO HB.o; have x0 := aH.o.c0; have x1 := aH.o.c1; have x2 := aH.o.c2; have y0 := aE.o.c0; have y1 := aE.o.c1; have y2 := aE.o.c2)
  | fail)
       have aS := cmp_v false nb Aw cw lw ew C cc l e aO RW.o RC.o EW.o EV.o.1; rw [VS.o, EV.o.2] at aS; generalize hsg : sgnI (zaS (dotN a us us.length) * 2 ^ 1788 - (pk L).2 * 2 ^ 1788) = sg at *
       have SGN := J (show 0 < sg ↔ (pk L).2 < zaS (dotN a us us.length) by rw [← hsg]; exact sgn_scale _ _); clear hsg; refine aS.mono ?_; clear aS; rintro e_ w12 ⟨rfl, aA⟩; replace HB := J (za HB.o aA); replace aC := J (za aC.o aA); replace K3 := J (zd K3.o aA); replace K9 := J (zd K9.o aA); replace aE := J (aE.o.step aA); replace RC := J (RC.o.step aA); replace RW := J (RW.o.step aA); replace aH := J (aH.o.step aA); clear aA hci x0 x1 x2 y0 y1 y2 c0 c1 c2 c3 c4 c5
       by_cases hsp : 0 < sg
       ·have s1 := eq_true hsp; have s2 := decide_eq_true hsp; have HPK := J (show pk (colsN Z a k (i + 1)) = (id, zaS (dotN a us us.length)) by rw [HCOL.o, if_pos HK.o, pk_step, if_pos (SGN.o.1 hsp)]); clear hsp; have c0 := cz_ K3.o 0 rfl; have c1 := cz_ K3.o 1 rfl; have c2 := cz_ K3.o 2 rfl; have c3 := cz_ K3.o 3 rfl; have c4 := cz_ K3.o 4 rfl; have c5 := cz_ K3.o 5 rfl; have hci := aM.o w12 HB.o; have x0 := aH.o.c0; have x1 := aH.o.c1; have x2 := aH.o.c2; go_wp2_with (first
  | ((with_reducible refine zj (t := 101) (p := 12) rfl ?_); refine zi rfl 101 rfl rfl aK #[.bool false, .slice Aw lw.length cw, .int .i64 ew] rfl rfl 101 _ aE.o (NW.zaz.trans rfl) rfl (zaH _ _ _ _ _) ?_; intro w13 aD aB; replace HB := J (HB.o.grown aB HB.o.size (fun k_ aG => by cases aG; exact L12.o)); replace aC := J (aC.o.grown aB aC.o.size (fun k_ aG => by cases aG; exact aQ.o)); replace K3 := J (zu aB K3.o (fun e => N3.o.1 (Option.some.inj e))); replace K9 := J (zu aB K9.o (fun e => N3.o.2 (Option.some.inj e))); replace RW := J (RW.o.put aE.o aB); replace aE := J (show B3 w13 aK false Aw lw.length cw ew from aD); clear aD aB)
  | fail)
        go_roundg (gk - 1)
        case measure => have := hm.o; have := HX.o; omega
        case rel => exact ⟨i + 1, false, Aw, cw, lw, ew, by rw [HPK.o], by first | rfl | (rw [w64 _ yO_ (by have := HX.o; have := S3.o; omega)]; rfl), ⟨by have := hm.o; have := HX.o; omega⟩, aE, RW, ⟨EW.o, by rw [VS.o, HPK.o]⟩, K3, K9, aC, HB⟩
       ·have s1 := eq_false hsp; have s2 := decide_eq_false hsp; have HPK := J (show pk (colsN Z a k (i + 1)) = pk L by rw [HCOL.o, if_pos HK.o, pk_step, if_neg (fun h => hsp (SGN.o.2 h))]); clear hsp; go_wp2_with fail; go_roundg (gk - 1)
        case measure => have := hm.o; have := HX.o; omega
        case rel => exact ⟨i + 1, nb, C, cc, l, e, by rw [HPK.o], by first | rfl | (rw [w64 _ yO_ (by have := HX.o; have := S3.o; omega)]; rfl), ⟨by have := hm.o; have := HX.o; omega⟩, aE, RC, ⟨EV.o.1, by rw [EV.o.2, HPK.o]⟩, K3, K9, aC, HB⟩
      ·have k1_ := eq_false hk; have k2_ := decide_eq_false hk; have HPK := J (show pk (colsN Z a k (i + 1)) = pk L by rw [HCOL.o, if_neg hk, List.append_nil]); clear hk; go_wp2_with (first
  | ((with_reducible refine zf (N := 14) rfl ?_); refine zah 14 (cs := #[.bool false, .slice none 0 0, .int .i64 0]) (t := 101) ?_; intro aI aB aU aD aA; have aJ := J (show g3 ≠ aI ∧ g9 ≠ aI ∧ aK ≠ aI by have := zac K3.o; have := zac K9.o; have := aE.o.lt; omega); have aP := J (show w.heap.size ≤ aI ∧ w3.heap.size ≤ aI by have := HB.o.size; have := aC.o.size; omega); replace HB := J (za HB.o aA); replace aC := J (za aC.o aA); replace K3 := J (zd K3.o aA); replace K9 := J (zd K9.o aA); replace aE := J (aE.o.step aA); replace RC := J (RC.o.step aA); replace RW := J (RW.o.step aA); have aH := J (show B3 aU aI false none 0 0 0 from aD); clear aB aD aA)
  | ((with_reducible refine zj (t := 101) (p := 14) rfl ?_); refine zi rfl 101 rfl rfl aI #[.bool false, .slice Aw lw.length cw, .int .i64 ew] rfl rfl 101 _ aH.o (NW.zaz.trans rfl) rfl (zaH _ _ _ _ _) ?_; intro aO aD aB; replace HB := J (HB.o.grown aB HB.o.size (fun k_ aG => by cases aG; exact aP.o.1)); replace aC := J (aC.o.grown aB aC.o.size (fun k_ aG => by cases aG; exact aP.o.2)); replace K3 := J (zu aB K3.o (fun e => aJ.o.1 (Option.some.inj e))); replace K9 := J (zu aB K9.o (fun e => aJ.o.2.1 (Option.some.inj e))); replace aE := J (aE.o.put aB aJ.o.2.2); replace RC := J (RC.o.put aH.o aB); replace RW := J (RW.o.put aH.o aB); replace aH := J (show B3 aO aI false Aw lw.length cw ew from aD); clear aD aB; have c0 := cz_ K3.o 0 rfl; have c1 := cz_ K3.o 1 rfl; have c2 := cz_ K3.o 2 rfl; have c3 := cz_ K3.o 3 rfl; have c4 := cz_ K3.o 4 rfl; have c5 := cz_ K3.o 5 rfl; have hci := aM.o aO HB.o; have x0 := aH.o.c0; have x1 := aH.o.c1; have x2 := aH.o.c2; have y0 := aE.o.c0; have y1 := aE.o.c1; have y2 := aE.o.c2)
  | fail)
       go_roundg (gk - 1)
       case measure => have := hm.o; have := HX.o; omega
       case rel => exact ⟨i + 1, nb, C, cc, l, e, by rw [HPK.o], by first | rfl | (rw [w64 _ yO_ (by have := HX.o; have := S3.o; omega)]; rfl), ⟨by have := hm.o; have := HX.o; omega⟩, aE, RC, ⟨EV.o.1, by rw [EV.o.2, HPK.o]⟩, K3, K9, aC, HB⟩
     ·have p2 := eq_false (show ¬ (i : Int) < (z3.length : Int) by omega); have p4 := decide_eq_false (show ¬ (i : Int) < (z3.length : Int) by omega); obtain rfl : i = z3.length := by have := hm.o; omega
      have QR := J (show res = (pk (colsN Z a k z3.length)).1 by rw [← RES.o]; unfold seenV; rw [if_pos (by rw [aR.o, HAL.o, show Z.N = z1 by rw [HZ.o], decide_eq_true HL.o]; rfl), show Z.ids = z3 by rw [HZ.o]]); clear hx hm; generalize (pk (colsN Z a k z3.length)).1 = rr at *
      go_wp2_with fail; go_ret; exact ⟨by rw [QR.o]; first | done | rfl, HB.o⟩
  ·have hw1 : wrap64 (z1 + 1) = z1 + 1 := w64 _ (by have := N1.o; omega) (by have := N1.o; omega); have q1 : ((la.length : Int) != z1 + 1) = true := by rw [bne_iff_ne]; exact hl
   have HL := J (show ¬ (a.length : Int) = z1 + 1 by have := LA.o; omega); clear hl; go_wp2_with (first
  | ((with_reducible refine zf (N := 9) rfl ?_); refine zah 9 (cs := #[.int .i64 0, .slice none 0 0, .slice none 0 0, .slice none 0 0, .slice none 0 0]) (t := 145) ?_; intro g9 aB w4 aD aA; have aN := J (show g3 ≠ g9 by have := zac K3.o; omega); have L9 := J (show w.heap.size ≤ g9 by have := HB.o.size; omega); have LW := J (show w3.heap.size ≤ g9 by omega); have aC := J aA; replace HB := J (za HB.o aA); replace K3 := J (zd K3.o aA); have K9 := J aD; clear aB aD aA c0 c1 c2 c3 c4 c5)
  | ((with_reducible refine zj (t := 145) (p := 9) rfl ?_); refine zi rfl 145 rfl rfl g9 #[.int .i64 n0, .slice B1 m1 d1, .slice B2 m2 d2, .slice aL xss.length d3, .slice B4 m4 d4] rfl rfl 145 _ K9.o (zaX.trans rfl) rfl (by simp [Value.oneCell']) ?_; intro w5 aD aB; replace HB := J (HB.o.grown aB HB.o.size (fun k_ aG => by cases aG; exact L9.o)); replace aC := J (aC.o.grown aB aC.o.size (fun k_ aG => by cases aG; exact LW.o)); replace K9 := J aD; replace K3 := J (zu aB K3.o (fun e => aN.o (Option.some.inj e))); clear aD aB; have c0 := cz_ K3.o 0 rfl; have c1 := cz_ K3.o 1 rfl; have c2 := cz_ K3.o 2 rfl; have c3 := cz_ K3.o 3 rfl; have c4 := cz_ K3.o 4 rfl; have c5 := cz_ K3.o 5 rfl)
  | fail)
   go_ret; exact ⟨by rw [← RES.o]; unfold seenV; rw [if_neg (by rw [show Z.N = z1 by rw [HZ.o], decide_eq_false HL.o, Bool.and_false, Bool.false_and]; decide)]; rfl, HB.o⟩
 ·have aR := J (show goodB Z = false by simpa using hG); rw [aR.o]; clear hG CO; go_wp2_with (first
  | ((with_reducible refine zf (N := 9) rfl ?_); refine zah 9 (cs := #[.int .i64 0, .slice none 0 0, .slice none 0 0, .slice none 0 0, .slice none 0 0]) (t := 145) ?_; intro g9 aB w4 aD aA; have aN := J (show g3 ≠ g9 by have := zac K3.o; omega); have L9 := J (show w.heap.size ≤ g9 by have := HB.o.size; omega); have LW := J (show w3.heap.size ≤ g9 by omega); have aC := J aA; replace HB := J (za HB.o aA); replace K3 := J (zd K3.o aA); have K9 := J aD; clear aB aD aA c0 c1 c2 c3 c4 c5)
  | ((with_reducible refine zj (t := 145) (p := 9) rfl ?_); refine zi rfl 145 rfl rfl g9 #[.int .i64 n0, .slice B1 m1 d1, .slice B2 m2 d2, .slice aL m3 d3, .slice B4 m4 d4] rfl rfl 145 _ K9.o (zaX.trans rfl) rfl (by simp [Value.oneCell']) ?_; intro w5 aD aB; replace HB := J (HB.o.grown aB HB.o.size (fun k_ aG => by cases aG; exact L9.o)); replace aC := J (aC.o.grown aB aC.o.size (fun k_ aG => by cases aG; exact LW.o)); replace K9 := J aD; replace K3 := J (zu aB K3.o (fun e => aN.o (Option.some.inj e))); clear aD aB; have c0 := cz_ K3.o 0 rfl; have c1 := cz_ K3.o 1 rfl; have c2 := cz_ K3.o 2 rfl; have c3 := cz_ K3.o 3 rfl; have c4 := cz_ K3.o 4 rfl; have c5 := cz_ K3.o 5 rfl)
  | fail)
  go_ret; exact ⟨by rw [← RES.o]; unfold seenV; rw [if_neg (by rw [aR.o, Bool.false_and, Bool.false_and]; decide)]; rfl, HB.o⟩
theorem plus_w (n1 n2 : Bool) (A1 : Option Addr) (c1 : Nat) (l1 : List Int) (e1 : Int) (A2 : Option Addr) (c2 : Nat) (l2 : List Int) (e2 : Int) (w : World) (r1 : Ru w A1 c1 l1 200) (r2 : Ru w A2 c2 l2 200) (h1 : Eb e1 ∧ -1074 ≤ e1) (h2 : Eb e2 ∧ -1074 ≤ e2) (hb : zaS (NV n1 l1 e1 + NV n2 l2 e2) < 2 ^ 6400) :
  Calls Try.prog 80 #[.agg #[.bool n1, .slice A1 l1.length c1, .int .i64 e1], .agg #[.bool n2, .slice A2 l2.length c2, .int .i64 e2]] w fun o w' => ∃ nb A c l e, o = .returned (.agg #[.bool nb, .slice A (l : List Int).length c, .int .i64 e]) ∧ Ru w' A c l 200 ∧ (Eb e ∧ -1074 ≤ e) ∧ NV nb l e = NV n1 l1 e1 + NV n2 l2 e2 ∧ Below w.heap.size w w' := by
 obtain ⟨h1, m1⟩ := h1; obtain ⟨h2, m2⟩ := h2; refine (plus_calls n1 n2 A1 c1 l1 e1 A2 c2 l2 e2 200 w r1 r2 yD_ ⟨⟨by have := h1.1; omega, by have := h1.2; omega⟩, by have := h2.1; omega, by have := h2.2; omega⟩).mono ?_; rintro o w' ⟨nb, A, c, l, e, rfl, hr, hv, he, hbl⟩; obtain ⟨q1, q2, q3⟩ := lvE_le l1 e1 l2 e2
 have hE : -1074 ≤ lvE l1 e1 l2 e2 ∧ lvE l1 e1 l2 e2 ≤ 3000 := by
  have := h1.2; have := h2.2
  rcases q3 with q | q <;> omega
 have heb : Eb e ∧ -1074 ≤ e := by
  rcases he with he | he
  ·rw [he.2]; exact ⟨⟨by decide, by decide⟩, by decide⟩
  ·rw [he]; exact ⟨⟨by omega, hE.2⟩, hE.1⟩
 have hval : NV nb l e = NV n1 l1 e1 + NV n2 l2 e2 := by
  have t1 := to_unit n1 l1 e1 _ yO_ q1; have t2 := to_unit n2 l2 e2 _ yO_ q2; have t3 : sv nb (nv l) * 2 ^ (lvE l1 e1 l2 e2 + 4000).toNat = NV n1 l1 e1 + NV n2 l2 e2 := by rw [hv, Int.add_mul, t1, t2]
  rcases he with he | he
  ·rw [← t3, List.length_eq_zero_iff.1 he.1, NV_nil, show nv [] = 0 from rfl, zbm, Int.zero_mul]
  ·rw [← t3, he]; rfl
 refine ⟨nb, A, c, l, e, rfl, ⟨hr.row, hr.cap, hr.u, hr.t, ?_⟩, heb, hval, hbl⟩; have := len_of hr.u hr.t heb.1 5400 (by rw [hval]; exact hb)
 omega
theorem szT_NV {u : Nat} {x : zaU} (h : OfV u x) : NV false x.f1 x.f2 = szT u 0 * 2 ^ 1788 := by
 rcases h.val with ⟨h1, h2⟩ | ⟨h1, h2, h3⟩
 ·unfold NV szT; rw [h2, zbm, h1]; generalize (2 : Int) ^ 1788 = p_; simp
 ·unfold NV szT P22; rw [h2, h3]; have eu := fe_in u; rw [show (fe u + 4000).toNat = (fe u - 0 + 2212).toNat + 1788 by omega, zaG, ← Int.mul_assoc]; rfl
theorem szT_lev (u : Nat) (lev : Int) (h0 : 0 ≤ lev) (h8 : lev ≤ 8) : szT u lev * 2 ^ lev.toNat = szT u 0 := by
 have eu := fe_in u; unfold szT P22; rw [Int.mul_assoc, ← zaG, show (fe u - lev + 2212).toNat + lev.toNat = (fe u - 0 + 2212).toNat by omega]
theorem sizeT_lev (us : List Nat) (lev : Int) (h0 : 0 ≤ lev) (h8 : lev ≤ 8) : ∀ i, zbn us lev i * 2 ^ lev.toNat = zbn us 0 i
 | 0 => by simp [zbn]
 | i + 1 => by
  show (zbn us lev i + szT (rdn us i) lev) * 2 ^ lev.toNat = zbn us 0 i + szT (rdn us i) 0
  rw [Int.add_mul, sizeT_lev us lev h0 h8 i, szT_lev _ lev h0 h8]
/-- A sum, moved by a level. -/
theorem NV_moved {nb : Bool} {l : List Int} {e lev : Int} {us : List Nat} {i : Nat} (h0 : 0 ≤ lev) (h8 : lev ≤ 8) (he : Eb e ∧ -1074 ≤ e) (h : NV nb l e = zbn us 0 i * 2 ^ 1788) :
  NV nb l (if l.length = 0 then e else wrap64 (e + wrap64 (-lev))) = zbn us lev i * 2 ^ 1788 ∧ Eb (if l.length = 0 then e else wrap64 (e + wrap64 (-lev))) := by
 have w1 : wrap64 (-lev) = -lev := w64 _ yO_ yO_; have hs := sizeT_lev us lev h0 h8 i; have hp := zY lev.toNat; have hp2 := zY 1788; have b1 := he.1.1; have b2 := he.1.2
 by_cases hl : l.length = 0
 ·rw [if_pos hl]; refine ⟨?_, he.1⟩; rw [List.length_eq_zero_iff.1 hl, NV_nil] at h ⊢
  have hz : zbn us 0 i = 0 := by
   rcases Int.mul_eq_zero.1 h.symm with h | h
   ·exact h
   ·omega
  rw [hz] at hs
  rcases Int.mul_eq_zero.1 hs with h | h
  ·rw [h, Int.zero_mul]
  ·omega
 ·rw [if_neg hl, w1, w64 _ yO_ yO_]; refine ⟨?_, by omega, by omega⟩
  have e1 : NV nb l (e + -lev) * 2 ^ lev.toNat = NV nb l e := by
   unfold NV; rw [Int.mul_assoc, ← zaG, show (e + -lev + 4000).toNat + lev.toNat = (e + 4000).toNat by omega]
  have e2 : NV nb l (e + -lev) * 2 ^ lev.toNat = zbn us lev i * 2 ^ 1788 * 2 ^ lev.toNat := by
   rw [e1, h, ← hs, Int.mul_assoc, Int.mul_assoc, Int.mul_comm (2 ^ lev.toNat)]
  exact Int.eq_of_mul_eq_mul_right yO_ e2
def bys.T13 : Bool × List (List Nat × List Nat) := (true, [([], []), ([], []), ([], []), ([1, 2], [1, 2]), ([3], [3]), ([4], [4]), ([0, 5, 5], [0, 5]), ([6, 6, 0, 1, 2, 3, 4, 5, 6], [6])])
def bys.B13 : List Nat := [0, 0, 0, 6, 14, 30, 63, 127]
theorem bys.tab13 : zbc .any (opsOf Try.f55 13) = bys.T13 := by kernel_rfl
theorem bys.bits13 : zal bys.T13.2 bys.B13 = true := by kernel_rfl
def bys.T14 : Bool × List (List Nat × List Nat) := (true, [([], []), ([], []), ([1], [1]), ([], []), ([2, 3], [2, 3]), ([4], [4]), ([5], [5]), ([0, 6], [0, 6]), ([7, 7, 0, 1, 2, 3, 4, 5, 6, 7], [7])])
def bys.B14 : List Nat := [0, 0, 2, 0, 14, 30, 62, 127, 255]
theorem bys.tab14 : zbc .any (opsOf Try.f55 14) = bys.T14 := by kernel_rfl
theorem bys.bits14 : zal bys.T14.2 bys.B14 = true := by kernel_rfl
theorem bysize_calls (G : List (List Nat)) (Bg : Option Addr) (d : Nat) (A0 : Option Addr) (c0 : Nat) (lv : List Int) (A1 : Option Addr) (c1 : Nat) (at_ : List Int) (w : World) (hg : dU.C w Bg (G.map ku).length (G.map ku)) (hw : ∀ us, us ∈ G → Wf us ∧ us.length ≤ 2000000) (r0 : Rd w A0 c0 lv) (hk : chkE lv at_ G.length = 0) :
  Calls Try.prog 55 #[.slice Bg (G.map ku).length d, .agg #[.slice A0 lv.length c0, .slice A1 at_.length c1]] w fun e w' => e = .returned (.int .i64 (if (G.all fun us => us.all fo) = true then (pk (sizesN G lv G.length)).1 else -1)) ∧ Below w.heap.size w w' := by
 have hu24 := Try.underlying24; have hu101 := Try.underlying101; obtain ⟨lg, hlg⟩ : ∃ l, l = G.map ku := ⟨_, rfl⟩
 rw [← hlg] at hg ⊢; have HLG := J hlg; have LG := J (show lg.length = G.length by rw [hlg, List.length_map]); have QG := J hg; have HW := J hw; have R0 := J r0; have CHK := J (chk_all hk); have LEN := J (show lv.length = G.length ∧ G.length ≤ 256 by have h1 := CHK.o.1; have h2 := CHK.o.2.1; omega); clear hlg hg hw r0 hk; generalize hres : (if (G.all fun us => us.all fo) = true then (pk (sizesN G lv G.length)).1 else -1) = res; have RES := J hres; clear hres; go_enter Try.func55, Try.ntmps55
 go_wp2_with (first
  | ((with_reducible refine zf (N := 3) rfl ?_); refine zah 3 (cs := #[.slice A0 lv.length c0, .slice A1 at_.length c1]) (t := 24) ?_; intro g3 aC w1 aD aA; have HB := J aA; have K3 := J (show w1.heap[g3]? = some (.cells #[.slice A0 lv.length c0, .slice A1 at_.length c1] 24 (0, 0)) from aD); have L3 := J (show w.heap.size ≤ g3 by omega); clear aC aD aA)
  | ((with_reducible refine zf (N := 6) rfl ?_); refine zah 6 (cs := #[.bool false, .slice none 0 0, .int .i64 0]) (t := 101) ?_; intro g6 aC w2 aD aA; have N36 := J (show g3 ≠ g6 by have := zac K3.o; omega); have L6 := J (show w.heap.size ≤ g6 by have := HB.o.size; omega); replace HB := J (za HB.o aA); replace K3 := J (zd K3.o aA); have K6 := J (show B3 w2 g6 false none 0 0 0 from aD); clear aC aD aA)
  | ((with_reducible refine zj (t := 101) (p := 6) rfl ?_); refine zi rfl 101 rfl rfl g6 #[.bool false, .slice none 0 0, .int .i64 0] rfl rfl 101 _ K6.o (NW.zaz.trans rfl) rfl (zaH _ _ _ _ _) ?_; intro w3 aD aC; replace HB := J (HB.o.grown aC HB.o.size (fun k_ aG => by cases aG; exact L6.o)); replace K3 := J (zu aC K3.o (fun e => N36.o (Option.some.inj e))); replace K6 := J (show B3 w3 g6 false none 0 0 0 from aD); clear aD aC)
  | fail)
 go_loopg [5, 7] lg.length (fun m v5 v7 wr => ∃ (n : Nat) (nb : Bool) (C : Option Addr) (cc : Nat) (l : List Int) (e : Int), v5 = .int .i64 (pk (sizesN G lv n)).1 ∧ v7 = .int .i64 (n : Int) ∧ ze (n + m = lg.length) ∧ ze (B3 wr g6 nb C l.length cc e) ∧ ze (Ru wr C cc l 200) ∧ ze (Eb e ∧ NV nb l e = (pk (sizesN G lv n)).2 * 2 ^ 1788) ∧ ze (((G.take n).all fun us => us.all fo) = true) ∧ ze (wr.heap[g3]? = some (.cells #[.slice A0 lv.length c0, .slice A1 at_.length c1] 24 (0, 0))) ∧ ze (Below w.heap.size w wr))
 case atStart => exact ⟨0, false, none, 0, [], 0, rfl, rfl, ⟨by omega⟩, K6, ⟨Ru.nil _ _⟩, ⟨⟨by decide, by decide⟩, by rw [NV_nil]; exact (Int.zero_mul _).symm⟩, ⟨rfl⟩, K3, HB⟩
 case round =>
  clear K6 K3 HB; obtain ⟨n, nb, C, cc, l, e, rfl, rfl, hm, K6, RC, EV, HT, K3, HB⟩ := hrel
  by_cases hx : n < G.length
  ·have HX := J hx; have p2 := eq_true (show (n : Int) < (lg.length : Int) by have := LG.o; omega); have p4 := decide_eq_true (show (n : Int) < (lg.length : Int) by have := LG.o; omega); have p3 := eq_true (show n < lg.length by have := LG.o; omega); have p5 := eq_true (show (0 : Int) ≤ (n : Int) by omega); have p6 := eq_true (show n < lv.length by have := LEN.o; omega); have p7 := eq_true (show (n : Int) < (lv.length : Int) by have := LEN.o; omega); obtain ⟨ag, Ak, ck, eag, hcg, hlk, hrk⟩ := at_L6 (Kd.zm QG.o HB.o) (n : Int) yO_ (by have := LG.o; omega); cases eag; rw [Int.toNat_natCast] at hcg; have HUS := J (show rd_L6 lg (n : Int) = ku (rdl G n) by rw [HLG.o]; unfold rd_L6 rdl; rw [Int.toNat_natCast, List.getD_eq_getElem?_getD, List.getD_eq_getElem?_getD, List.getElem?_map]; cases G[n]? <;> rfl); rw [HUS.o] at hcg hlk hrk; have HGK := J (And.intro hrk hlk); have HGW := J (HW.o _ (List.mem_of_getElem? (rdl_get hx))); have FIT := J (CHK.o.2.2.2 n (by have := LEN.o; omega)); have HCL := J (show ∃ al, A0 = some al ∧ ∀ w0 : World, Below w.heap.size w w0 → w0.cell? (al.add n) = some (.int .i64 (rd lv (n : Int))) from by obtain ⟨al, e1, h1⟩ := Kd.zQ R0.o.row (n : Int) yO_ (by have := LEN.o; omega); exact ⟨al, e1, fun W hW => by rw [Int.toNat_natCast] at h1; exact zr hW h1⟩); obtain ⟨al, eal, hcl⟩ := HCL.o; cases eal; have aH := J hcl; clear hcl HCL
   have HCOL := J (show sizesN G lv (n + 1) = sizesN G lv n ++ [((n : Int), zbn (rdl G n) (rd lv (n : Int)) (rdl G n).length)] from rfl); have HAL := J (fun h => alll_step (f := fun us => us.all fo) HT.o hx h); have HNO := J (fun h => alll_not (f := fun us => us.all fo) hx h); clear hx hrk hlk HUS; generalize rdl G n = us at *
   generalize rd lv (n : Int) = lev at *
   generalize hL : sizesN G lv n = L at *
   have HCLL := J hL; clear hL; go_wp2_with fail; refine (exact_calls us Ak ck wr HGK.o.1 HGK.o.2 HGW.o.1 HGW.o.2).mono ?_; rintro e_ w4 ⟨Bx, dx, xs, rfl, hsx, hnx, aA⟩; replace HB := J (za HB.o aA); replace K3 := J (zd K3.o aA); replace K6 := J (K6.o.step aA); replace RC := J (RC.o.step aA); have XS := J (Kd.S_reads' hsx).2.2; clear hsx aA hcg
   cases hall : us.all fo
   ·have HN2 := J (HNO.o hall); clear hall hnx; go_wp2_with fail; go_ret; exact ⟨by rw [← RES.o, if_neg (by rw [HN2.o]; decide)]; first | done | rfl, HB.o⟩
   ·have NXS := J (hnx hall); have HA2 := J (HAL.o hall); clear hall hnx; have HSX := J (show w4.heap.size = w4.heap.size from rfl); have XS0 := XS; have BX := J (Below.refl w4.heap.size w4); go_wp2_with (first
  | ((with_reducible refine zf (N := 10) rfl ?_); refine zah 10 (cs := #[.bool false, .slice none 0 0, .int .i64 0]) (t := 101) ?_; intro aE aC w5 aD aA; have NX := J (show g3 ≠ aE ∧ g6 ≠ aE by have := zac K3.o; have := K6.o.lt; omega); have aI := J (show w.heap.size ≤ aE by have := HB.o.size; omega); replace HB := J (za HB.o aA); replace K3 := J (zd K3.o aA); replace K6 := J (K6.o.step aA); replace RC := J (RC.o.step aA); replace XS := J (Kd.zm XS.o aA); have aB := J (show B3 w5 aE false none 0 0 0 from aD); have NSZ := J (Nat.le_of_eq aC.symm); have WX := J aC; replace BX := J (za BX.o aA); clear aC aD aA)
  | ((with_reducible refine zj (t := 101) (p := 10) rfl ?_); refine zi rfl 101 rfl rfl aE #[.bool false, .slice none 0 0, .int .i64 0] rfl rfl 101 _ aB.o (NW.zaz.trans rfl) rfl (zaH _ _ _ _ _) ?_; intro w6 aD aC; replace HB := J (HB.o.grown aC HB.o.size (fun k_ aG => by cases aG; exact aI.o)); replace BX := J (BX.o.grown aC BX.o.size (fun k_ aG => by cases aG; exact NSZ.o)); replace K3 := J (zu aC K3.o (fun e => NX.o.1 (Option.some.inj e))); replace K6 := J (K6.o.put aC NX.o.2); replace RC := J (RC.o.put aB.o aC); replace aB := J (show B3 w6 aE false none 0 0 0 from aD); clear aD aC)
  | fail)
    clear XS WX HSX
    go_loopg [11] us.length (fun m v11 wr => ∃ (i : Nat) (nbi : Bool) (Ci : Option Addr) (cci : Nat) (li : List Int) (ei : Int), v11 = .int .i64 (i : Int) ∧ ze (i + m = us.length) ∧ ze (B3 wr aE nbi Ci li.length cci ei) ∧ ze (Ru wr Ci cci li 200) ∧ ze ((Eb ei ∧ -1074 ≤ ei) ∧ NV nbi li ei = zbn us 0 i * 2 ^ 1788) ∧ ze (B3 wr g6 nb C l.length cc e) ∧ ze (Ru wr C cc l 200) ∧ ze (wr.heap[g3]? = some (.cells #[.slice (some al) lv.length c0, .slice A1 at_.length c1] 24 (0, 0))) ∧ ze (Below w4.heap.size w4 wr) ∧ ze (Below w.heap.size w wr))
    case atStart => exact ⟨0, false, none, 0, [], 0, rfl, ⟨by omega⟩, aB, ⟨Ru.nil _ _⟩, ⟨⟨⟨by decide, by decide⟩, by decide⟩, by rw [NV_nil]; exact (Int.zero_mul _).symm⟩, K6, RC, K3, BX, HB⟩
    case round =>
     clear aB K6 RC K3 BX HB; obtain ⟨i, nbi, Ci, cci, li, ei, rfl, hmi, aB, RI, EI, K6, RC, K3, BX, HB⟩ := hrel
     by_cases hx : i < us.length
     ·have HXI := J hx; have i1 := eq_true (show i < xs.length by have := NXS.o.1; omega); have i2 := eq_true (show (i : Int) < (xs.length : Int) by have := NXS.o.1; omega); have i4 := decide_eq_true (show (i : Int) < (xs.length : Int) by have := NXS.o.1; omega); have i3 := eq_true (show (0 : Int) ≤ (i : Int) by omega); obtain ⟨ax, Ax, cx, eax, x0, x1, x2, ox, rx⟩ := at_num XS0.o NXS.o i hx; cases eax; have OX := J ox; have RX := J (rx 200 yD_); have SZ := J (szT_NV ox); have DB := J (bound64 (sizeT_bound us 0 (Int.le_refl 0) (i + 1)) (by have := HGW.o.2; omega)); have DS := J (show zbn us 0 (i + 1) = zbn us 0 i + szT (rdn us i) 0 from rfl); have HC := J (show ∀ w0 : World, Below w4.heap.size w4 w0 → w0.cell? (ax.add (i * 3)) = some (.bool (zay xs (i : Int)).f0) ∧ w0.cell? ⟨(ax.add (i * 3)).block, (ax.add (i * 3)).off + 1, none⟩ = some (.slice Ax (zay xs (i : Int)).f1.length cx) ∧ w0.cell? ⟨(ax.add (i * 3)).block, (ax.add (i * 3)).off + 2, none⟩ = some (.int .i64 (zay xs (i : Int)).f2) from fun W hW => ⟨zr hW x0, zr hW x1, zr hW x2⟩); clear hx ox rx x0 x1 x2; generalize zay xs (i : Int) = x at *
      generalize szT (rdn us i) 0 = pr at *
      go_wp2_with fail; have aA : Below wr.heap.size wr wr.drew := zU (Below.refl _ _); replace HB := J (za HB.o aA); replace BX := J (za BX.o aA); replace K3 := J (zd K3.o aA); replace K6 := J (K6.o.step aA); replace RC := J (RC.o.step aA); replace aB := J (aB.o.step aA); replace RI := J (RI.o.step aA); clear aA; refine zaw (n := 8) (S := fun w' => w'.cell? ⟨aE, 0, none⟩ = some (.bool nbi) ∧ w'.cell? ⟨aE, 1, none⟩ = some (.slice Ci li.length cci) ∧ w'.cell? ⟨aE, 2, none⟩ = some (.int .i64 ei) ∧ w'.cell? (ax.add (i * 3)) = some (.bool x.f0) ∧ w'.cell? ⟨(ax.add (i * 3)).block, (ax.add (i * 3)).off + 1, none⟩ = some (.slice Ax x.f1.length cx) ∧ w'.cell? ⟨(ax.add (i * 3)).block, (ax.add (i * 3)).off + 2, none⟩ = some (.int .i64 x.f2)) (ds := [7]) (bl_ 8 0) yK_ rfl rfl ⟨aB.o.c0, aB.o.c1, aB.o.c2, (HC.o _ BX.o).1, (HC.o _ BX.o).2.1, (HC.o _ BX.o).2.2⟩ (fun hHeld => ?_); refine zS bys.tab13 bys.bits13 (fun HT_ HW_ => ?_); generalize wr.drew = v0 at HB BX K3 K6 RC aB RI hHeld ⊢; refine pu_ 1 ?_; refine pu_ 2 ?_; refine pu_ 3 ?_; refine tk_ 0 ?_; refine tk_ 4 ?_; refine on_ HT_ 5 (some 41) (bl_ 8 63) fun K hK => ?_
      refine go1_ Try.func78 #[.agg #[.bool x.f0, .slice Ax x.f1.length cx, .int .i64 x.f2]] ?_; refine (size_n x.f0 Ax x.f1.length cx x.f2 v0).mono ?_; rintro o_ v1 ⟨rfl, aA⟩; refine ⟨_, rfl, ?_⟩; replace HB := J (za HB.o aA); replace BX := J (za BX.o aA); replace K3 := J (zd K3.o aA); replace K6 := J (K6.o.step aA); replace RC := J (RC.o.step aA); replace aB := J (aB.o.step aA); replace RI := J (RI.o.step aA); clear aA; refine hK.out _ _ ⟨aB.o.c0, aB.o.c1, aB.o.c2, (HC.o _ BX.o).1, (HC.o _ BX.o).2.1, (HC.o _ BX.o).2.2⟩ (fun hHeld => ?_); clear hK K; refine nm_ ?_; refine on_ HT_ 6 (some 42) (bl_ 8 127) fun K hK => ?_
      refine go1_ Try.func80 #[.agg #[.bool nbi, .slice Ci li.length cci, .int .i64 ei], .agg #[.bool false, .slice Ax x.f1.length cx, .int .i64 x.f2]] ?_; have SV := J (show NV nbi li ei + NV false x.f1 x.f2 = zbn us 0 (i + 1) * 2 ^ 1788 by rw [EI.o.2, SZ.o, DS.o, Int.add_mul]); refine (plus_w nbi false Ci cci li ei Ax cx x.f1 x.f2 v1 RI.o (RX.o.step BX.o) EI.o.1 ⟨⟨by have := OX.o.2.2.2.2.2; omega, by have := OX.o.2.2.2.2.2; omega⟩, OX.o.2.2.2.2.2.1⟩ (by rw [SV.o]; exact DB.o)).mono ?_; rintro o_ v2 ⟨n2, Ap, cp, lp, ep, rfl, rp, eb, vp, aA⟩; refine ⟨_, rfl, ?_⟩; have RP := J rp; have EP := J (And.intro eb (vp.trans SV.o)); replace HB := J (za HB.o aA); replace BX := J (za BX.o aA); replace K3 := J (zd K3.o aA); replace K6 := J (K6.o.step aA); replace RC := J (RC.o.step aA); replace aB := J (aB.o.step aA); clear rp eb vp aA RI; refine hK.out _ _ ⟨aB.o.c0, aB.o.c1, aB.o.c2, (HC.o _ BX.o).1, (HC.o _ BX.o).2.1, (HC.o _ BX.o).2.2⟩ (fun hHeld => ?_); clear hK K; refine nm_ ?_; refine last_ (i := 7) (N := none) (bl_ 8 255) rfl rfl (zaY HT_.o yK_) yD_ (fun K hK => ?_); refine zbe (by rfl) 101 rfl rfl aE #[.bool n2, .slice Ap lp.length cp, .int .i64 ep] rfl rfl 101 _ aB.o (NW.zaz.trans rfl) rfl (zaH _ _ _ _ _) ?_; intro v3 aD aC; replace HB := J (HB.o.grown aC HB.o.size (fun k_ aG => by cases aG; exact aI.o))
      replace BX := J (BX.o.grown aC BX.o.size (fun k_ aG => by cases aG; exact NSZ.o)); replace K3 := J (zu aC K3.o (fun e => NX.o.1 (Option.some.inj e))); replace K6 := J (K6.o.put aC NX.o.2); replace RC := J (RC.o.put aB.o aC); replace RP := J (RP.o.put aB.o aC); replace aB := J (show B3 v3 aE n2 Ap lp.length cp ep from aD); clear aD aC; refine hK.out _ _ ?_; clear hK K; refine zaL (zad HT_.o yK_) ?_; clear hHeld; go_wp2_with fail; go_roundg (gk - 1)
      case measure => have := hmi.o; have := HXI.o; omega
      case rel => exact ⟨i + 1, n2, Ap, cp, lp, ep, by first | rfl | (rw [w64 _ yO_ (by have := HXI.o; have := HGW.o.2; omega)]; rfl), ⟨by have := hmi.o; have := HXI.o; omega⟩, aB, RP, EP, K6, RC, K3, BX, HB⟩
     ·have i1 := eq_false (show ¬ i < xs.length by have := NXS.o.1; omega); have i2 := eq_false (show ¬ (i : Int) < (xs.length : Int) by have := NXS.o.1; omega); have i4 := decide_eq_false (show ¬ (i : Int) < (xs.length : Int) by have := NXS.o.1; omega); obtain rfl : i = us.length := by have := hmi.o; omega
      clear hx hmi; go_wp2_with fail; have aA : Below wr.heap.size wr wr.drew := zU (Below.refl _ _); replace HB := J (za HB.o aA); replace BX := J (za BX.o aA); replace K3 := J (zd K3.o aA); replace K6 := J (K6.o.step aA); replace RC := J (RC.o.step aA); replace aB := J (aB.o.step aA); replace RI := J (RI.o.step aA); clear aA; refine zaw (n := 9) (S := fun w' => w'.cell? ⟨aE, 0, none⟩ = some (.bool nbi) ∧ w'.cell? ⟨aE, 1, none⟩ = some (.slice Ci li.length cci) ∧ w'.cell? ⟨aE, 2, none⟩ = some (.int .i64 ei) ∧ w'.cell? ⟨g3, 0, none⟩ = some (.slice (some al) lv.length c0) ∧ w'.cell? (al.add n) = some (.int .i64 lev)) (ds := [8]) (bl_ 9 0) yK_ rfl rfl ⟨aB.o.c0, aB.o.c1, aB.o.c2, (zg K3.o 0).trans rfl, aH.o _ HB.o⟩ (fun hHeld => ?_); refine zS bys.tab14 bys.bits14 (fun HT_ HW_ => ?_); generalize wr.drew = v0 at HB BX K3 K6 RC aB RI hHeld ⊢; refine pu_ 1 ?_; refine pu_ 3 ?_; refine tk_ 0 ?_; refine tk_ 2 ?_; refine pu_ 4 ?_; refine tk_ 5 ?_; refine pu_ 6 ?_; refine on_ HT_ 7 (some 50) (bl_ 9 255) fun K hK => ?_
      refine go1_ Try.func46 #[.agg #[.bool nbi, .slice Ci li.length cci, .int .i64 ei], .int .i64 (wrap64 (-lev))] ?_; have MV := J (NV_moved FIT.o.1 FIT.o.2.1 EI.o.1 EI.o.2); have mc := moved_calls nbi Ci li.length cci ei (wrap64 (-lev)) v0; generalize (if li.length = 0 then ei else wrap64 (ei + wrap64 (-lev))) = em at *
      refine mc.mono ?_; clear mc; rintro o_ v1 ⟨rfl, aA⟩; refine ⟨_, rfl, ?_⟩; replace HB := J (za HB.o aA); replace BX := J (za BX.o aA); replace K3 := J (zd K3.o aA); replace K6 := J (K6.o.step aA); replace RC := J (RC.o.step aA); replace aB := J (aB.o.step aA); replace RI := J (RI.o.step aA); clear aA; refine hK.out _ _ ⟨aB.o.c0, aB.o.c1, aB.o.c2, (zg K3.o 0).trans rfl, aH.o _ HB.o⟩ (fun hHeld => ?_); clear hK K; refine nm_ ?_; refine last_ (i := 8) (N := none) (bl_ 9 511) rfl rfl (zaY HT_.o yK_) yD_ (fun K hK => ?_); refine zbe (by rfl) 101 rfl rfl aE #[.bool nbi, .slice Ci li.length cci, .int .i64 em] rfl rfl 101 _ aB.o (NW.zaz.trans rfl) rfl (zaH _ _ _ _ _) ?_; intro v3 aD aC; replace HB := J (HB.o.grown aC HB.o.size (fun k_ aG => by cases aG; exact aI.o)); replace K3 := J (zu aC K3.o (fun e => NX.o.1 (Option.some.inj e))); replace K6 := J (K6.o.put aC NX.o.2); replace RC := J (RC.o.put aB.o aC); replace RI := J (RI.o.put aB.o aC); replace aB := J (show B3 v3 aE nbi Ci li.length cci em from aD); clear aD aC BX; refine hK.out _ _ ?_; clear hK K; refine zaL (zad HT_.o yK_) ?_; clear hHeld; have x0 := aB.o.c0; have x1 := aB.o.c1; have x2 := aB.o.c2; have y0 := K6.o.c0; have y1 := K6.o.c1; have y2 := K6.o.c2; go_wp2_with fail; have aJ := cmp_v nbi nb Ci cci li em C cc l e v3 RI.o RC.o MV.o.2 EV.o.1; rw [MV.o.1, EV.o.2] at aJ
      generalize hsg : sgnI (zbn us lev us.length * 2 ^ 1788 - (pk L).2 * 2 ^ 1788) = sg at *
      have SGN := J (show 0 < sg ↔ (pk L).2 < zbn us lev us.length by rw [← hsg]; exact sgn_scale _ _); clear hsg; refine aJ.mono ?_; clear aJ; rintro e_ w12 ⟨rfl, aA⟩; replace HB := J (za HB.o aA); replace K3 := J (zd K3.o aA); replace K6 := J (K6.o.step aA); replace RC := J (RC.o.step aA); replace aB := J (aB.o.step aA); replace RI := J (RI.o.step aA); clear aA x0 x1 x2 y0 y1 y2
      by_cases hsp : 0 < sg
      ·have s1 := eq_true hsp; have s2 := decide_eq_true hsp; have HPK := J (show pk (sizesN G lv (n + 1)) = ((n : Int), zbn us lev us.length) by rw [HCOL.o, pk_step, if_pos (SGN.o.1 hsp)]); clear hsp; have x0 := aB.o.c0; have x1 := aB.o.c1; have x2 := aB.o.c2; go_wp2_with (first
  | ((with_reducible refine zj (t := 101) (p := 6) rfl ?_); refine zi rfl 101 rfl rfl g6 #[.bool nbi, .slice Ci li.length cci, .int .i64 em] rfl rfl 101 _ K6.o (NW.zaz.trans rfl) rfl (zaH _ _ _ _ _) ?_; intro w13 aD aC; replace HB := J (HB.o.grown aC HB.o.size (fun k_ aG => by cases aG; exact L6.o)); replace K3 := J (zu aC K3.o (fun e => N36.o (Option.some.inj e))); replace RI := J (RI.o.put K6.o aC); replace K6 := J (show B3 w13 g6 nbi Ci li.length cci em from aD); clear aD aC)
  | fail)
       go_roundg (lg.length - n - 1)
       case measure => have := hm.o; have := HX.o; have := LG.o; omega
       case rel => exact ⟨n + 1, nbi, Ci, cci, li, em, by rw [HPK.o], by first | rfl | (rw [w64 _ yO_ (by have := HX.o; have := LEN.o; omega)]; rfl), ⟨by have := hm.o; have := HX.o; have := LG.o; omega⟩, K6, RI, ⟨MV.o.2, by rw [MV.o.1, HPK.o]⟩, HA2, K3, HB⟩
      ·have s1 := eq_false hsp; have s2 := decide_eq_false hsp; have HPK := J (show pk (sizesN G lv (n + 1)) = pk L by rw [HCOL.o, pk_step, if_neg (fun h => hsp (SGN.o.2 h))]); clear hsp; go_wp2_with fail; go_roundg (lg.length - n - 1)
       case measure => have := hm.o; have := HX.o; have := LG.o; omega
       case rel => exact ⟨n + 1, nb, C, cc, l, e, by rw [HPK.o], by first | rfl | (rw [w64 _ yO_ (by have := HX.o; have := LEN.o; omega)]; rfl), ⟨by have := hm.o; have := HX.o; have := LG.o; omega⟩, K6, RC, ⟨EV.o.1, by rw [EV.o.2, HPK.o]⟩, HA2, K3, HB⟩
  ·have p2 := eq_false (show ¬ (n : Int) < (lg.length : Int) by have := LG.o; omega); have p4 := decide_eq_false (show ¬ (n : Int) < (lg.length : Int) by have := LG.o; omega); obtain rfl : n = G.length := by have := hm.o; have := LG.o; omega
   have QR := J (show res = (pk (sizesN G lv G.length)).1 by rw [← RES.o, if_pos (by have h := HT.o; rwa [List.take_length] at h)]); clear hx hm; generalize (pk (sizesN G lv G.length)).1 = rr at *
   go_wp2_with fail; go_ret; exact ⟨by rw [QR.o]; first | done | rfl, HB.o⟩
/-- Small: what the second form asks for. -/
structure Small (z : Zn) : Prop where
 l : ∀ n, n = z.C.length ∨ n = z.ids.length ∨ n = z.G.length ∨ n = z.R.length → n ≤ 2000000
 g : ∀ us, us ∈ z.G → us.length ≤ 2000000
theorem rchoose_calls (z : Zn) (h : Zh) (A : Option Addr) (c : Nat) (a : List Nat) (G : List (List Nat)) (Bg : Option Addr) (d : Nat) (A0 : Option Addr) (c0 : Nat) (lv : List Int) (A1 : Option Addr) (c1 : Nat) (at_ : List Int) (w : World)
  (hr : Ur w z h) (hf : Zf z) (hs : Small z) (ha : Kd.C (Kd.int .u64) w A (ku a).length (ku a)) (hac : (ku a).length ≤ c) (hwa : Wf a) (hn : a.length ≤ 2000000) (hg : dU.C w Bg (G.map ku).length (G.map ku)) (hw : ∀ us, us ∈ G → Wf us ∧ us.length ≤ 2000000) (r0 : Rd w A0 c0 lv) (r1 : Rd w A1 c1 at_) :
  Calls Try.prog 30 #[.agg (uc z h), .slice A (ku a).length c, .slice Bg (G.map ku).length d, .agg #[.slice A0 lv.length c0, .slice A1 at_.length c1]] w fun e w' => e = .returned (.int .i64 (chooseV z a G lv at_)) ∧ Below w.heap.size w w' := by
 have mc := fun k w1 (r : Ur w1 z h) (q : Kd.C (Kd.int .u64) w1 A (ku a).length (ku a)) => margin_calls z h A c a k w1 r hf hs.l hs.g q hac hwa hn
 have MC := J mc; clear mc; have sc := fun w1 (q : dU.C w1 Bg (G.map ku).length (G.map ku)) (r : Rd w1 A0 c0 lv) (hk : chkE lv at_ G.length = 0) => bysize_calls G Bg d A0 c0 lv A1 c1 at_ w1 q hw r hk
 have SC := J sc; clear sc; obtain ⟨lg, hlg⟩ : ∃ l, l = G.map ku := ⟨_, rfl⟩
 obtain ⟨la, hla⟩ : ∃ l, l = ku a := ⟨_, rfl⟩
 rw [← hlg] at hg SC ⊢; rw [← hla] at ha MC ⊢; have LG := J (show lg.length = G.length by rw [hlg, List.length_map]); have HR := J hr; have QA := J ha; have QG := J hg; have R0 := J r0; have R1 := J r1; clear hr hf hs ha hac hwa hn hg hw r0 r1 hlg hla; have hu74 := Try.underlying74; have hu24 := Try.underlying24; generalize hres : chooseV z a G lv at_ = res; have RES := J hres; clear hres; obtain ⟨Z, hz⟩ : ∃ Z, Z = z := ⟨_, rfl⟩
 obtain ⟨H, hh⟩ : ∃ H, H = h := ⟨_, rfl⟩
 obtain ⟨z1, z2, z3, z4, z5, z6⟩ := z; obtain ⟨a1, k1, a2, k2, a3, k3, a4, k4⟩ := h; rw [← hz, ← hh] at MC HR; rw [← hz] at RES; rw [← hz, ← hh]; obtain ⟨l2, hl2⟩ : ∃ l, l = ku z2 := ⟨_, rfl⟩
 obtain ⟨l4, hl4⟩ : ∃ l, l = z4.map ku := ⟨_, rfl⟩
 obtain ⟨l5, hl5⟩ : ∃ l, l = ku z5 := ⟨_, rfl⟩
 have hv : uc Z H = #[.int .i64 z1, .slice a1 l2.length k1, .slice a2 z3.length k2, .slice a3 l4.length k3, .slice a4 l5.length k4, .bool z6] := by rw [hz, hh, hl2, hl4, hl5]; rfl
 have HV := J hv; rw [hv]; rw [hv] at MC; clear hv hz hh hl2 hl4 hl5; go_enter Try.func30, Try.ntmps30
 go_wp2_with (first
  | ((with_reducible refine zf (N := 4) rfl ?_); refine zah 4 (cs := #[.int .i64 z1, .slice a1 l2.length k1, .slice a2 z3.length k2, .slice a3 l4.length k3, .slice a4 l5.length k4, .bool z6]) (t := 74) ?_; intro g4 aD w1 aC aA; have HB := J aA; have K4 := J aC; clear aD aC aA)
  | ((with_reducible refine zf (N := 7) rfl ?_); refine zah 7 (cs := #[.slice A0 lv.length c0, .slice A1 at_.length c1]) (t := 24) ?_; intro g7 aD w2 aC aA; replace HB := J (za HB.o aA); replace K4 := J (zd K4.o aA); have K7 := J aC; clear aD aC aA; have r0 := cz_ K7.o 0 rfl; have r1 := cz_ K7.o 1 rfl)
  | fail)
 refine (rcheck_c (lg.length : Int) w2 (R0.o.step HB.o) (R1.o.step HB.o)).mono ?_; rintro e_ w3 ⟨rfl, aA⟩; replace HB := J (za HB.o aA); replace K4 := J (zd K4.o aA); replace K7 := J (zd K7.o aA); clear aA r0 r1; generalize hcr : chkE lv at_ (lg.length : Int) = cr; have aB : chkE lv at_ (G.length : Int) = cr := by rw [← hcr, LG.o]
 by_cases hcz : cr = 0
 ·subst hcz; have CHK := J aB; clear hcr aB; have q0 := cz_ K4.o 0 rfl; have q1 := cz_ K4.o 1 rfl; have q2 := cz_ K4.o 2 rfl; have q3 := cz_ K4.o 3 rfl; have q4 := cz_ K4.o 4 rfl; have q5 := cz_ K4.o 5 rfl; go_wp2_with fail; refine (MC.o (lg.length : Int) w3 (HR.o.step HB.o) (Kd.zm QA.o HB.o)).mono ?_; rintro e_ w4 ⟨rfl, aA⟩; replace HB := J (za HB.o aA); replace K4 := J (zd K4.o aA); replace K7 := J (zd K7.o aA); clear aA q0 q1 q2 q3 q4 q5; generalize hs : (pk (seenV Z a (lg.length : Int))).1 = s; have HS := J (show (pk (seenV Z a (G.length : Int))).1 = s by rw [← hs, LG.o]); clear hs
  by_cases h0 : 0 ≤ s
  ·have s1 := eq_false (show ¬ s < 0 by omega); have s2 := decide_eq_false (show ¬ s < 0 by omega); have QS := J (show res = s by rw [← RES.o]; unfold chooseV; rw [if_pos CHK.o, HS.o, if_pos h0]); clear h0; go_wp2_with fail; go_ret; exact ⟨by rw [QS.o]; first | done | rfl, HB.o⟩
  ·have s1 := eq_true (show s < 0 by omega); have s2 := decide_eq_true (show s < 0 by omega); have QS := J (show res = if (G.all fun us => us.all fo) = true then (pk (sizesN G lv G.length)).1 else -1 by rw [← RES.o]; unfold chooseV; rw [if_pos CHK.o, HS.o, if_neg h0]); clear h0; have r0 := cz_ K7.o 0 rfl; have r1 := cz_ K7.o 1 rfl; go_wp2_with fail; have sc := SC.o w4 (Kd.zm QG.o HB.o) (R0.o.step HB.o) CHK.o; rw [← QS.o] at sc; refine sc.mono ?_; clear sc; rintro e_ w5 ⟨rfl, aA⟩; replace HB := J (za HB.o aA); replace K4 := J (zd K4.o aA); replace K7 := J (zd K7.o aA); clear aA r0 r1; go_wp2_with fail; go_ret; exact ⟨rfl, HB.o⟩
 ·have hzb : (cr != 0) = true := by rw [bne_iff_ne]; exact hcz
  have QZ := J (show res = -1 by rw [← RES.o]; unfold chooseV; rw [if_neg (by rw [aB]; exact hcz)]); clear hcz hcr aB; go_wp2_with fail; go_ret; exact ⟨by rw [QZ.o]; first | done | rfl, HB.o⟩
structure Pf (p : Pn) : Prop where
 G : ∀ us, us ∈ p.G → Wf us
end Go.Proofs.Ytlidbaejhmamjaa.TC
namespace Go.Proofs.Ytlidbaejhmamjaa.TC
open Go.RowKit Go.ChangeShapes Go.WideShapes YtlidbaejhmamjaaW.PrintWords YtlidbaejhmamjaaW.PrintLast YtlidbaejhmamjaaW.PrintMore PB LA AC LW
theorem bulk_one {H : Type} (d : DataW H) : 1 ≤ Rows.uptoBulk d := by
 cases d with
 | lit l => cases l <;> simp [Rows.uptoBulk]
 | nil => simp [Rows.uptoBulk]
 | ptr d => simp [Rows.uptoBulk]
 | slice elems spare => simp [Rows.uptoBulk]
 | agg parts => simp [Rows.uptoBulk]
 | iface t d => simp [Rows.uptoBulk]
 | map entries => simp [Rows.uptoBulk]
 | held h => simp [Rows.uptoBulk]
theorem bulk_mem {H : Type} {d : DataW H} : ∀ {l : List (DataW H)}, d ∈ l → Rows.uptoBulk d ≤ Rows.uptoBulkAll l
 | [], h => by cases h
 | x :: r, h => by
  simp only [Rows.uptoBulkAll]
  rcases List.mem_cons.1 h with e | e
  ·subst e; omega
  ·have := bulk_mem e; omega
theorem bulk_len {H : Type} : ∀ (l : List (DataW H)), l.length ≤ Rows.uptoBulkAll l
 | [] => by simp [Rows.uptoBulkAll]
 | x :: r => by
  have := bulk_one x; have := bulk_len r; simp only [Rows.uptoBulkAll, List.length_cons]
  omega
theorem bulk_slice {H : Type} (elems spare : List (DataW H)) : elems.length + 1 ≤ Rows.uptoBulk (.slice elems spare) ∧ ∀ d, d ∈ elems → Rows.uptoBulk d ≤ Rows.uptoBulk (.slice elems spare) := by
 have h1 := bulk_len elems; refine ⟨by simp only [Rows.uptoBulk]; omega, fun d hd => ?_⟩; have := bulk_mem hd; simp only [Rows.uptoBulk]
 omega
section
variable {H : Type} {enc : TypeId × Value → H} {W : World} {base : Nat} {spare : Nat → Bool} {held : Bool}
theorem trod_f64 {fuel : Nat} {v : Value} {x : DataW H × List MemPlace} (h : DataW.trod enc Try.prog W base spare held fuel 95 [v] = some x) : ∃ b : Nat, v = .float .f64 b ∧ b < 18446744073709551616 := by
 cases fuel with
 | zero => simp [DataW.trod] at h
 | succ n =>
  simp only [DataW.trod, Try.underlying95] at h
  cases v <;> try (simp at h; done)
  rename_i k b
  cases k
  ·simp at h
  ·simp at h; have hw := h.1; simp [Lit.wf] at hw; exact ⟨b, rfl, by omega⟩
theorem floats_of_trod {fuel : Nat} {v : Value} {x : DataW H × List MemPlace} (h : DataW.trod enc Try.prog W base spare held fuel 60 [v] = some x) : ∃ A c us, v = .slice A us.length c ∧ kf.C W A us.length us ∧ Wf us ∧ us.length ≤ c ∧ us.length ≤ Rows.uptoBulk x.1 := by
 rcases Deep.open_slice1 Try.underlying60 yK_ h with ⟨hcs, _⟩ | ⟨a, len, cap, m, n, V, D, Pl, hcs, _, hl, hm, hmm, hx, hcell⟩
 ·obtain rfl := (List.cons.inj hcs).1; exact ⟨none, 0, [], rfl, Kd.C_nil _ _, fun u hu => by simp at hu, Nat.le_refl _, Nat.zero_le _⟩
 ·obtain rfl := (List.cons.inj hcs).1; have hlm : len ≤ m := by rw [hmm]; split <;> omega
  have each : ∀ i, i < len → ∃ b : Nat, W.cell? (a.add i) = some (.float .f64 b) ∧ b < 18446744073709551616 := fun i hi => by
   obtain ⟨h0, h1⟩ := hcell i yO_; obtain ⟨b, e, hb⟩ := trod_f64 h1; exact ⟨b, by rw [h0, e], hb⟩
  obtain ⟨q, hq⟩ := Deep.choose_lt each; have hlen : ((List.range len).map q).length = len := by simp
  refine ⟨some a, cap, (List.range len).map q, by rw [hlen], ⟨rfl, by rw [hlen]; simp [maxLen] at hm; omega, fun _ => ⟨a, rfl, fun j p hj => ⟨[.float .f64 p], rfl, rfl, fun i u hu => ?_⟩⟩⟩, fun u hu => ?_, by rw [hlen]; exact hl, ?_⟩
  ·cases i with
   | succ i => cases hu
   | zero =>
    obtain rfl := Option.some.inj hu
    have hj2 : j < len := by
     rcases Nat.lt_or_ge j len with h1 | h1
     ·exact h1
     ·rw [List.getElem?_eq_none (by rw [hlen]; exact h1)] at hj; cases hj
    have hp : p = q j := by
     rw [List.getElem?_map, List.getElem?_range hj2] at hj; exact (Option.some.inj hj).symm
    subst hp
    show W.cell? (a.add (j * 1 + 0)) = _
    rw [Nat.mul_one, Nat.add_zero]; exact (hq j hj2).1
  ·obtain ⟨i, hi, rfl⟩ := List.mem_map.1 hu; exact (hq i (List.mem_range.1 hi)).2
  ·rw [hlen, hx]; have := (bulk_slice ((List.range len).map D) ((List.range (m - len)).map fun j => D (len + j))).1; rw [List.length_map, List.length_range] at this; exact Nat.le_trans (Nat.le_succ _) this
theorem frows_of_trod {fuel : Nat} {v : Value} {x : DataW H × List MemPlace} (h : DataW.trod enc Try.prog W base spare held fuel 61 [v] = some x) : ∃ A c uss, v = .slice A uss.length c ∧ kff.C W A uss.length uss ∧ (∀ us, us ∈ uss → Wf us ∧ us.length ≤ Rows.uptoBulk x.1) ∧ uss.length ≤ c ∧ uss.length ≤ Rows.uptoBulk x.1 := by
 rcases Deep.open_slice1 Try.underlying61 yK_ h with ⟨hcs, _⟩ | ⟨a, len, cap, m, n, V, D, Pl, hcs, _, hl, hm, hmm, hx, hcell⟩
 ·obtain rfl := (List.cons.inj hcs).1; exact ⟨none, 0, [], rfl, Kd.C_nil _ _, fun u hu => by simp at hu, Nat.le_refl _, Nat.zero_le _⟩
 ·obtain rfl := (List.cons.inj hcs).1; have hlm : len ≤ m := by rw [hmm]; split <;> omega
  have hbs := bulk_slice ((List.range len).map D) ((List.range (m - len)).map fun j => D (len + j))
  have each : ∀ i, i < len → ∃ b : List Nat, (∃ A c, W.cell? (a.add i) = some (.slice A b.length c) ∧ kf.C W A b.length b ∧ b.length ≤ c) ∧ Wf b ∧ b.length ≤ Rows.uptoBulk x.1 := fun i hi => by
   obtain ⟨h0, h1⟩ := hcell i yO_; obtain ⟨A, c, us, e, hk, hw, hc, hb⟩ := floats_of_trod h1; refine ⟨us, ⟨A, c, by rw [h0, e], hk, hc⟩, hw, ?_⟩; have := hbs.2 (D i) (List.mem_map.2 ⟨i, List.mem_range.2 hi, rfl⟩); rw [hx]; exact Nat.le_trans hb this
  obtain ⟨q, hq⟩ := Deep.choose_lt each; have hlen : ((List.range len).map q).length = len := by simp
  refine ⟨some a, cap, (List.range len).map q, by rw [hlen], ⟨rfl, by rw [hlen]; simp [maxLen] at hm; omega, fun _ => ⟨a, rfl, fun j p hj => ?_⟩⟩, fun u hu => ?_, by rw [hlen]; exact hl, ?_⟩
  ·have hj2 : j < len := by
    rcases Nat.lt_or_ge j len with h1 | h1
    ·exact h1
    ·rw [List.getElem?_eq_none (by rw [hlen]; exact h1)] at hj; cases hj
   have hp : p = q j := by
    rw [List.getElem?_map, List.getElem?_range hj2] at hj; exact (Option.some.inj hj).symm
   subst hp; obtain ⟨⟨A, c, h0, hk, hc⟩, _, _⟩ := hq j hj2; refine ⟨[.slice A (q j).length c], rfl, ⟨A, c, rfl, hc, hk⟩, fun i u hu => ?_⟩
   cases i with
   | succ i => cases hu
   | zero =>
    obtain rfl := Option.some.inj hu
    show W.cell? (a.add (j * 1 + 0)) = _
    rw [Nat.mul_one, Nat.add_zero]; exact h0
  ·obtain ⟨i, hi, rfl⟩ := List.mem_map.1 hu; exact (hq i (List.mem_range.1 hi)).2
  ·rw [hlen, hx]; have := hbs.1; rw [List.length_map, List.length_range] at this; exact Nat.le_trans (Nat.le_succ _) this
theorem ints_of_trod2 {fuel : Nat} {v : Value} {x : DataW H × List MemPlace} (h : DataW.trod enc Try.prog W base spare held fuel 22 [v] = some x) : ∃ A c xs, v = .slice A xs.length c ∧ Rd W A c xs ∧ I64 xs ∧ xs.length ≤ Rows.uptoBulk x.1 := by
 obtain ⟨A, c, xs, hv, hr, hi⟩ := LW.ints_of_trod h; refine ⟨A, c, xs, hv, hr, hi, ?_⟩
 rcases Deep.open_slice1 Try.underlying22 yK_ h with ⟨hcs, _⟩ | ⟨a, len, cap, m, n, V, D, Pl, hcs, _, hl, hm, hmm, hx, hcell⟩
 ·obtain hcs := (List.cons.inj hcs).1; rw [hv] at hcs; injection hcs with _ e _
  omega
 ·obtain hcs := (List.cons.inj hcs).1; rw [hv] at hcs; injection hcs with _ e _
  rw [e, hx]; have := (bulk_slice ((List.range len).map D) ((List.range (m - len)).map fun j => D (len + j))).1; rw [List.length_map, List.length_range] at this; exact Nat.le_trans (Nat.le_succ _) this
theorem int_of_trod {fuel : Nat} {v : Value} {x : DataW H × List MemPlace} (h : DataW.trod enc Try.prog W base spare held fuel 3 [v] = some x) : ∃ n, v = .int .i64 n := by
 obtain ⟨n, hcs, _⟩ := DataW.trod_int Try.underlying3 h; exact ⟨n, (List.cons.inj hcs).1⟩
theorem bool_of_trod {fuel : Nat} {v : Value} {x : DataW H × List MemPlace} (h : DataW.trod enc Try.prog W base spare held fuel 4 [v] = some x) : ∃ b, v = .bool b := by
 obtain ⟨n, hcs, _⟩ := DataW.trod_bool Try.underlying4 h; exact ⟨n, (List.cons.inj hcs).1⟩
theorem array6 {α : Type} {cs : Array α} (h : cs.size = 6) : ∃ c0 c1 c2 c3 c4 c5, cs = #[c0, c1, c2, c3, c4, c5] := by
 obtain ⟨l⟩ := cs; have h : l.length = 6 := h
 rcases l with _ | ⟨c0, l⟩
 ·simp at h
 rcases l with _ | ⟨c1, l⟩
 ·simp at h
 rcases l with _ | ⟨c2, l⟩
 ·simp at h
 rcases l with _ | ⟨c3, l⟩
 ·simp at h
 rcases l with _ | ⟨c4, l⟩
 ·simp at h
 rcases l with _ | ⟨c5, l⟩
 ·simp at h
 rcases l with _ | ⟨c_, l⟩
 ·exact ⟨c0, c1, c2, c3, c4, c5, rfl⟩
 ·simp at h
theorem open_agg6 {r : Reach} {b0 : Nat} {t : TypeId} {f0 f1 f2 f3 f4 f5 : Field} {v : Value} {d : DataW H} {p : List MemPlace} (hs : Try.prog.underlying t = some (.struct #[f0, f1, f2, f3, f4, f5])) (hone : Deep.oneCellFields Try.prog #[f0, f1, f2, f3, f4, f5] = true) (hC : Try.prog.cellsOf t = 6)
  (hv : Value.okWide Try.prog W r b0 t v) (h : DataW.Trod enc Try.prog W base spare held t v d p) :
  ∃ (v0 v1 v2 v3 v4 v5 : Value) (y0 y1 y2 y3 y4 y5 : DataW H × List MemPlace) (n : Nat), v = .agg #[v0, v1, v2, v3, v4, v5] ∧ d = .agg [y0.1, y1.1, y2.1, y3.1, y4.1, y5.1] ∧ DataW.trod enc Try.prog W base spare held n f0.type [v0] = some y0 ∧ DataW.trod enc Try.prog W base spare held n f1.type [v1] = some y1 ∧ DataW.trod enc Try.prog W base spare held n f2.type [v2] = some y2 ∧ DataW.trod enc Try.prog W base spare held n f3.type [v3] = some y3 ∧ DataW.trod enc Try.prog W base spare held n f4.type [v4] = some y4 ∧ DataW.trod enc Try.prog W base spare held n f5.type [v5] = some y5 := by
 obtain ⟨cs, rfl, hsz⟩ := okWide_struct hs hv; obtain ⟨c0, c1, c2, c3, c4, c5, rfl⟩ := array6 (hsz.trans hC); obtain ⟨fuel, hf⟩ := h; obtain ⟨xs, n, _, hx, hl, hlen, hfs⟩ := DataW.trod_struct hs hf
 match xs, hlen with
 | [y0, y1, y2, y3, y4, y5], _ =>
  obtain ⟨o0, k0⟩ := Deep.hone_of hone 0 f0 rfl; obtain ⟨o1, k1⟩ := Deep.hone_of hone 1 f1 rfl; obtain ⟨o2, k2⟩ := Deep.hone_of hone 2 f2 rfl; obtain ⟨o3, k3⟩ := Deep.hone_of hone 3 f3 rfl; obtain ⟨o4, k4⟩ := Deep.hone_of hone 4 f4 rfl; obtain ⟨o5, k5⟩ := Deep.hone_of hone 5 f5 rfl; simp only [Prod.mk.injEq] at hx; have h0 := hfs 0 f0 rfl; rw [o0, k0] at h0; have h1 := hfs 1 f1 rfl; rw [o1, k1] at h1; have h2 := hfs 2 f2 rfl; rw [o2, k2] at h2; have h3 := hfs 3 f3 rfl; rw [o3, k3] at h3; have h4 := hfs 4 f4 rfl; rw [o4, k4] at h4; have h5 := hfs 5 f5 rfl; rw [o5, k5] at h5; exact ⟨c0, c1, c2, c3, c4, c5, y0, y1, y2, y3, y4, y5, n, rfl, hx.1, h0, h1, h2, h3, h4, h5⟩
theorem array7 {α : Type} {cs : Array α} (h : cs.size = 7) : ∃ c0 c1 c2 c3 c4 c5 c6, cs = #[c0, c1, c2, c3, c4, c5, c6] := by
 obtain ⟨l⟩ := cs; have h : l.length = 7 := h
 rcases l with _ | ⟨c0, l⟩
 ·simp at h
 rcases l with _ | ⟨c1, l⟩
 ·simp at h
 rcases l with _ | ⟨c2, l⟩
 ·simp at h
 rcases l with _ | ⟨c3, l⟩
 ·simp at h
 rcases l with _ | ⟨c4, l⟩
 ·simp at h
 rcases l with _ | ⟨c5, l⟩
 ·simp at h
 rcases l with _ | ⟨c6, l⟩
 ·simp at h
 rcases l with _ | ⟨c_, l⟩
 ·exact ⟨c0, c1, c2, c3, c4, c5, c6, rfl⟩
 ·simp at h
theorem open_agg7 {r : Reach} {b0 : Nat} {t : TypeId} {f0 f1 f2 f3 f4 f5 f6 : Field} {v : Value} {d : DataW H} {p : List MemPlace} (hs : Try.prog.underlying t = some (.struct #[f0, f1, f2, f3, f4, f5, f6])) (hone : Deep.oneCellFields Try.prog #[f0, f1, f2, f3, f4, f5, f6] = true) (hC : Try.prog.cellsOf t = 7)
  (hv : Value.okWide Try.prog W r b0 t v) (h : DataW.Trod enc Try.prog W base spare held t v d p) :
  ∃ (v0 v1 v2 v3 v4 v5 v6 : Value) (y0 y1 y2 y3 y4 y5 y6 : DataW H × List MemPlace) (n : Nat), v = .agg #[v0, v1, v2, v3, v4, v5, v6] ∧ d = .agg [y0.1, y1.1, y2.1, y3.1, y4.1, y5.1, y6.1] ∧ DataW.trod enc Try.prog W base spare held n f0.type [v0] = some y0 ∧ DataW.trod enc Try.prog W base spare held n f1.type [v1] = some y1 ∧ DataW.trod enc Try.prog W base spare held n f2.type [v2] = some y2 ∧ DataW.trod enc Try.prog W base spare held n f3.type [v3] = some y3 ∧ DataW.trod enc Try.prog W base spare held n f4.type [v4] = some y4 ∧ DataW.trod enc Try.prog W base spare held n f5.type [v5] = some y5 ∧ DataW.trod enc Try.prog W base spare held n f6.type [v6] = some y6 := by
 obtain ⟨cs, rfl, hsz⟩ := okWide_struct hs hv; obtain ⟨c0, c1, c2, c3, c4, c5, c6, rfl⟩ := array7 (hsz.trans hC); obtain ⟨fuel, hf⟩ := h; obtain ⟨xs, n, _, hx, hl, hlen, hfs⟩ := DataW.trod_struct hs hf
 match xs, hlen with
 | [y0, y1, y2, y3, y4, y5, y6], _ =>
  obtain ⟨o0, k0⟩ := Deep.hone_of hone 0 f0 rfl; obtain ⟨o1, k1⟩ := Deep.hone_of hone 1 f1 rfl; obtain ⟨o2, k2⟩ := Deep.hone_of hone 2 f2 rfl; obtain ⟨o3, k3⟩ := Deep.hone_of hone 3 f3 rfl; obtain ⟨o4, k4⟩ := Deep.hone_of hone 4 f4 rfl; obtain ⟨o5, k5⟩ := Deep.hone_of hone 5 f5 rfl; obtain ⟨o6, k6⟩ := Deep.hone_of hone 6 f6 rfl; simp only [Prod.mk.injEq] at hx; have h0 := hfs 0 f0 rfl; rw [o0, k0] at h0; have h1 := hfs 1 f1 rfl; rw [o1, k1] at h1; have h2 := hfs 2 f2 rfl; rw [o2, k2] at h2; have h3 := hfs 3 f3 rfl; rw [o3, k3] at h3; have h4 := hfs 4 f4 rfl; rw [o4, k4] at h4; have h5 := hfs 5 f5 rfl; rw [o5, k5] at h5; have h6 := hfs 6 f6 rfl; rw [o6, k6] at h6; exact ⟨c0, c1, c2, c3, c4, c5, c6, y0, y1, y2, y3, y4, y5, y6, n, rfl, hx.1, h0, h1, h2, h3, h4, h5, h6⟩
end
end Go.Proofs.Ytlidbaejhmamjaa.TC
namespace Go.Proofs.Ytlidbaejhmamjaa.RM
open Go.RowKit YtlidbaejhmamjaaW.PrintWords YtlidbaejhmamjaaW.PrintLast YtlidbaejhmamjaaW.PrintMore PB LA AC LW SL NW TC
section
variable {α : Type} {P : Program} {ops : Array Oper} {rest : List Oper} {o : Oper} {a : Act} {Q : Exit → Act → World → Prop} {w0 W : World}
/-- One element more. -/
theorem ap_ (d : Kd α) (s x : Nat) (t e bytes : Nat) {z : Value} {v : Value} {xs : List α} (HO : ze (d.R e W w0.heap.size (fun _ => True) v xs)) (HB : ze (Below w0.heap.size w0 W)) (p : α) {cs : List Value} (okp : Nat → Prop) (hl : (xs.length + 1) * bytes ≤ 140737488355328)
  (h : ∀ v1 w1, ze (d.R e w1 w0.heap.size (fun _ => True) v1 (xs ++ [p])) → ze (Below w0.heap.size w0 w1) → wpList P ops Q rest (a.put o.dst v1) w1)
  (hinfo : (P.info? e).map (fun i => (i.zero, i.size, i.bytes)) = some (some z, d.sz, bytes)) (hp : d.M W w0.heap.size okp p cs) (hokp : ∀ k, okp k → True ∧ some k ≠ v.ownBlock)
  (hgd : o.guard = none := by rfl) (ho : o.op = .call { callee := .builtin .append, args := #[.tmp s, .tmp x], argTypes := #[t, t] } := by rfl) (ht : P.underlying t = some (.slice e) := by assumption) (hz : z.cells.size = d.sz := by rfl) (hs0 : 0 < d.sz := by decide) (hb0 : 0 < bytes := by decide)
  (hs : a.eval (.tmp s) = v := by rfl) (hx : a.eval (.tmp x) = .slice (some ⟨W.heap.size, 0, none⟩) 1 1 := by rfl) :
  wpList P ops Q (o :: rest) a (W.alloc (.cells cs.toArray e)) :=
 Kd.R_append d w0.heap.size hgd _ _ t e z bytes ho ht hinfo hz hs0 hb0 v xs p cs _ okp hs hx hp hokp (fun _ _ => trivial) HO.o HB.o HB.o.size hl fun v1 w1 h1 h2 _ _ => h v1 w1 ⟨h1⟩ ⟨h2⟩
/-- A row that is read, as a row of one's own. -/
theorem ar_ {enc : α → Value} {h1 : ∀ x : α, (enc x).oneCell' = true} (s x : Nat) (t e bytes : Nat) {z : Value} (d : α) {xs : List α} {A : Option Addr} {m c : Nat} (HR : (Kd.scalar enc h1).C W A m xs) (hl : m * bytes ≤ 140737488355328)
  (h : ∀ v1 w1, ze ((Kd.scalar enc h1).R e w1 W.heap.size (fun _ => True) v1 xs) → ze (Below W.heap.size W w1) → wpList P ops Q rest (a.put o.dst v1) w1)
  (hinfo : (P.info? e).map (fun i => (i.zero, i.size, i.bytes)) = some (some z, 1, bytes))
  (hgd : o.guard = none := by rfl) (ho : o.op = .call { callee := .builtin .append, args := #[.tmp s, .tmp x], argTypes := #[t, t] } := by rfl) (ht : P.underlying t = some (.slice e) := by assumption) (hz : z.cells.size = 1 := by rfl) (hb0 : 0 < bytes := by decide)
  (hs : a.eval (.tmp s) = .slice none 0 0 := by rfl) (hx : a.eval (.tmp x) = .slice A m c := by rfl) : wpList P ops Q (o :: rest) a W :=
 Kd.R_append_row enc d W.heap.size hgd _ _ t e z bytes ho ht hinfo hz hb0 _ [] xs A m c _ hs hx (fun _ _ => trivial) (Kd.zaI _ _ _ _ _) HR (Below.refl _ _) (Nat.le_refl _) (by simpa using hl) fun v1 w1 h1 h2 _ _ => h v1 w1 ⟨h1⟩ ⟨h2⟩
/-- A list written out. -/
theorem lt_ (d : Kd α) (N : Tmp) (e : TypeId) (xs : List α) (inner : List Value) {b : Nat} (ok : Nat → Prop) (hrep : zbj (d.M W b ok) d.sz xs inner) (hf : ok W.heap.size) (hb : b ≤ W.heap.size)
  (h : ∀ v1 w1, d.R e w1 b ok v1 xs → Below W.heap.size W w1 → wpList P ops Q rest (a.put o.dst v1) w1) (hd : o.dst = some N := by rfl) (hgd : o.guard = none := by rfl)
  (hrun : (execOp a.eval o).run P W = .ok (.value (.slice (some ⟨W.heap.size, 0, none⟩) xs.length xs.length)) (W.alloc (.cells inner.toArray e)) := by first | (go_simp; done) | (go_simp; rfl)) (hm : xs.length ≤ 9223372036854775807 := by decide) : wpList P ops Q (o :: rest) a W :=
 Kd.R_lit d b e hgd hd hrun hrep (fun _ h => h) hf (Below.refl _ _) hb hm fun v1 w1 h1 h2 h3 _ => h v1 w1 h1 ((Below.refl _ _).grown h3 (Nat.le_refl _) (fun k hk => by cases hk))
end
theorem lt_yes {x n : Nat} (h : x < n) : decide ((x : Int) < (n : Int)) = true ∧ (x < n) = True ∧ ((x : Int) < (n : Int)) = True ∧ ((0 : Int) ≤ (x : Int)) = True := by simp; omega
theorem lt_no {x n : Nat} (h : ¬ x < n) : decide ((x : Int) < (n : Int)) = false ∧ (x < n) = False ∧ ((x : Int) < (n : Int)) = False := by simp; omega
theorem R_rr {α : Type} {d : Kd α} {e : Nat} {w : World} {b : Nat} {ok : Nat → Prop} {A : Option Addr} {n c : Nat} {xs : List α} (h : d.R e w b ok (.slice A n c) xs) : za0 (d.M w b (fun k => ok k ∧ some k ≠ (Value.slice A n c).ownBlock)) d.sz w A n xs := by
 obtain ⟨A', c', he, _, hr⟩ := OwnRow.reads h.2; injection he with h1 h2 h3
 subst h1 h2; exact hr
theorem C_pre {α : Type} {d : Kd α} {w : World} {A : Option Addr} {n : Nat} {xs ys : List α} (h : d.C w A n (xs ++ ys)) : d.C w A xs.length xs := by
 have h1 := h.1; have h2 := h.2.1; rw [List.length_append] at h1; refine ⟨rfl, by omega, fun hn => ?_⟩; obtain ⟨ad, e, hc⟩ := h.2.2 yO_; exact ⟨ad, e, fun j p hj => hc j p (by rw [List.getElem?_append_left (List.getElem?_eq_some_iff.1 hj).1]; exact hj)⟩
def mk : Nat → List Int
 | 0 => []
 | n + 1 => mk n ++ [7700 + (n : Int)]
theorem mk_len : ∀ n, (mk n).length = n
 | 0 => rfl
 | n + 1 => by simp [mk, mk_len n]
theorem info95 : (Try.prog.info? 95).map (fun i => (i.zero, i.size, i.bytes)) = some (some (.float .f64 0), 1, 8) := by kernel_rfl
def mf (n : Nat) : List Nat := List.replicate n 13873417816952012800
/-- A list with more of its kind behind. -/
def mark {α : Type} (e : Nat) (d : Kd α) : Kd (List α × List α) where
 sz := 1
 E := e :: d.E
 K := fun w x cs => ∃ A c, cs = [.slice A x.1.length c] ∧ (Kd.slice e d).K w (x.1 ++ x.2) [.slice A (x.1 ++ x.2).length c]
 M := fun w base ok x cs => ∃ A c, cs = [.slice A x.1.length c] ∧ (Kd.slice e d).M w base ok (x.1 ++ x.2) [.slice A (x.1 ++ x.2).length c]
 K_len := by rintro w x cs ⟨A, c, rfl, _⟩; rfl
 K_one := by rintro w x cs ⟨A, c, rfl, _⟩ u hu; rw [List.mem_singleton.1 hu]; rfl
 K_below := fun hb ⟨A, c, q, h⟩ => ⟨A, c, q, (Kd.slice e d).K_below hb h⟩
 K_of_M := fun ⟨A, c, q, h⟩ => ⟨A, c, q, (Kd.slice e d).K_of_M h⟩
 M_mono := fun f ⟨A, c, q, h⟩ => ⟨A, c, q, (Kd.slice e d).M_mono f h⟩
 M_bound := fun ⟨A, c, q, h⟩ => ⟨A, c, q, (Kd.slice e d).M_bound h⟩
 M_move := fun f ⟨A, c, q, h⟩ => ⟨A, c, q, (Kd.slice e d).M_move f h⟩
 M_lower := fun f ⟨A, c, q, h⟩ => ⟨A, c, q, (Kd.slice e d).M_lower f h⟩
def km : Kd (List Nat × List Nat) := mark 95 kf
theorem mark_get {α : Type} {e : Nat} {d : Kd α} {w : World} {x : List α × List α} {v : Value} (h : (mark e d).K w x [v]) : ∃ A c, v = .slice A x.1.length c ∧ x.1.length + x.2.length ≤ c ∧ d.C w A (x.1.length + x.2.length) (x.1 ++ x.2) := by
 obtain ⟨A, c, q, B, b, q2, hl, hr⟩ := h; injection (List.cons.inj q2).1 with h1 h2 h3
 subst h1 h3; rw [List.length_append] at hl hr; exact ⟨A, c, (List.cons.inj q).1, hl, hr⟩
theorem M_below {α : Type} {d : Kd α} {w w1 : World} {b : Nat} {ok : Nat → Prop} {x : α} {cs : List Value} (h : d.M w b ok x cs) (hb : Below w.heap.size w w1) : d.M w1 b ok x cs := d.M_mono (fun _ h => h.1) (d.M_move (fun k hk => hb.block k hk.2.2.1) (d.M_bound h))
theorem M_put {α : Type} {d : Kd α} {w w1 : World} {b g t : Nat} {ok : Nat → Prop} {x : α} {cs : List Value} {cells : Array Value} (h : d.M w b ok x cs) (hb : w.heap[g]? = some (.cells cells t (0, 0))) (hg : w.grownBy w1 (some g)) (ht : ∀ q, q ∈ d.E → q ≠ t := by decide) : d.M w1 b ok x cs :=
 d.M_mono (fun _ h => h.1) (d.M_move (fun k hk => hg.block k hk.2.2.1 (fun e => by
  obtain ⟨q, hq, cl, hc⟩ := hk.2.2.2; cases e; rw [hb] at hc; exact ht q hq (by injection hc with hc; injection hc with _ hc _; exact hc.symm))) (d.M_bound h))
theorem roomy_calls {A : Option Addr} {c : Nat} {xs : List Int} (w : World) (r : Rd w A c xs) (hn : xs.length ≤ 2000000) :
  Calls Try.prog 57 #[.slice A xs.length c] w fun e w' => ∃ B d, e = .returned (.slice B (xs.length + 6) d) ∧ Kd.R (Kd.int .i64) 3 w' w.heap.size (fun _ => True) (.slice B (xs.length + 6) d) (xs ++ mk 6) ∧ Below w.heap.size w w' := by
 have hu := Try.underlying22; have HR := J r; have HN := J hn; clear r hn; go_enter Try.func57, Try.ntmps57
 go_wp2_with (first
  | ((with_reducible refine zf (N := 7) rfl ?_); refine ar_ 5 6 22 3 8 0 HR.o.row (by have := HN.o; omega) ?_ info3; intro v1 w1 RR HB)
  | fail)
 go_loopg [3, 4] 6 (fun m v3 v4 wr => ∃ x : Nat, v4 = .int .i64 (x : Int) ∧ ze (x + m = 6) ∧ ze (Kd.R (Kd.int .i64) 3 wr w.heap.size (fun _ => True) v3 (xs ++ mk x)) ∧ ze (Below w.heap.size w wr))
 case atStart => exact ⟨0, rfl, ⟨rfl⟩, ⟨by rw [mk, List.append_nil]; exact RR.o⟩, HB⟩
 case round =>
  clear RR HB; obtain ⟨x, rfl, hm, RR, HB⟩ := hrel
  by_cases hx : x < 6
  ·have HX := J hx; have q1 := decide_eq_true (show (x : Int) < 6 by omega); have q2 : wrap64 (7700 + (x : Int)) = 7700 + (x : Int) := w64 _ yO_ yO_; have q3 : wrap64 ((x : Int) + 1) = ((x + 1 : Nat) : Int) := w64 _ yO_ yO_; clear hx; have YL := J (show (xs ++ mk x).length = xs.length + x by simp [mk_len]); have YE := J (show xs ++ mk (x + 1) = (xs ++ mk x) ++ [7700 + (x : Int)] by simp [mk]); generalize xs ++ mk x = ys at *
   obtain ⟨B, d, rfl⟩ := Kd.zJ RR.o
   go_wp2_with (first
    | ((with_reducible refine zf (N := 16) rfl ?_); refine ap_ (Kd.int .i64) 12 15 22 3 8 RR HB (7700 + (x : Int)) (fun _ => False) (by have := HN.o; have := HX.o; have := YL.o; omega) ?_ info3 (show Kd.M (Kd.int .i64) _ _ _ _ [.int .i64 (7700 + (x : Int))] from rfl) (fun _ h => h.elim); intro v1 w1 R1 B1)
    | fail)
   clear q2; go_roundg (gk - 1)
   case measure => have := hm.o; have := HX.o; omega
   case rel => exact ⟨x + 1, by rw [← q3], ⟨by have := hm.o; have := HX.o; omega⟩, ⟨by rw [YE.o]; exact R1.o⟩, B1⟩
  ·have q1 := decide_eq_false (show ¬ (x : Int) < 6 by omega); obtain rfl : x = 6 := by have := hm.o; omega
   clear hx; obtain ⟨B, d, ev⟩ := Kd.zJ RR.o; rw [List.length_append, mk_len] at ev; subst ev; go_wp2_with fail; go_ret; exact ⟨B, d, rfl, RR.o, HB.o⟩
theorem laid_calls {A : Option Addr} {c : Nat} {us : List Nat} (w : World) (r : kf.C w A us.length us) (hc : us.length ≤ c) :
  Calls Try.prog 58 #[.slice A us.length c, .int .i64 300] w fun e w' => ∃ B d, e = .returned (.slice B (us.take 300).length d) ∧ km.M w' w.heap.size (fun _ => True) (us.take 300, mf 9) [.slice B (us.take 300).length d] ∧ Below w.heap.size w w' := by
 have hu := Try.underlying60; have ht : kf.C w A (us.take 300).length (us.take 300) := C_pre (ys := us.drop 300) (by rw [List.take_append_drop]; exact r); have hl : (us.take 300).length = min 300 us.length := List.length_take; generalize us.take 300 = xs at *
 have HT := J ht; have HL := J hl; clear ht hl; go_enter Try.func58, Try.ntmps58; go_upto_if 10 with (fail)
 go_cut [0] (fun v0 wc => v0 = .slice A xs.length c ∧ w = wc)
 case first =>
  by_cases h : 300 < us.length
  ·have q1 := decide_eq_true (show (300 : Int) < (us.length : Int) by omega); have q2 := eq_true (show (300 : Int) ≤ (c : Int) by omega); have q3 : xs.length = 300 := by have := HL.o; omega
   go_wp2_with fail; go_meet
   case rel => exact ⟨by rw [q3], rfl⟩
  ·have q1 := decide_eq_false (show ¬ (300 : Int) < (us.length : Int) by omega); have q3 : xs.length = us.length := by have := HL.o; omega
   go_wp2_with fail; go_meet
   case rel => exact ⟨by rw [q3], rfl⟩
 case rest =>
  clear r hc
  rename_i v0 wc hcut
  obtain ⟨rfl, rfl⟩ := hcut
  go_wp2_with (first
   | ((with_reducible refine zf (N := 16) rfl ?_); refine ar_ 14 15 60 95 8 0 HT.o (by have := HL.o; omega) ?_ info95; intro v1 w1 RR HB)
   | fail)
  go_loopg [5, 6] 9 (fun m v5 v6 wr => ∃ x : Nat, v6 = .int .i64 (x : Int) ∧ ze (x + m = 9) ∧ ze (kf.R 95 wr w.heap.size (fun _ => True) v5 (xs ++ mf x)) ∧ ze (Below w.heap.size w wr))
  case atStart => exact ⟨0, rfl, ⟨rfl⟩, ⟨by rw [mf, List.replicate_zero, List.append_nil]; exact RR.o⟩, HB⟩
  case round =>
   clear RR HB; obtain ⟨x, rfl, hm, RR, HB⟩ := hrel; have YL := J (show (xs ++ mf x).length = xs.length + x by simp [mf])
   by_cases hx : x < 9
   ·have HX := J hx; have q1 := decide_eq_true (show (x : Int) < 9 by omega); have q3 : wrap64 ((x : Int) + 1) = ((x + 1 : Nat) : Int) := w64 _ yO_ yO_; clear hx; have YE := J (show xs ++ mf (x + 1) = (xs ++ mf x) ++ [13873417816952012800] by simp [mf, List.replicate_succ']); generalize xs ++ mf x = ys at *
    obtain ⟨B, d, rfl⟩ := Kd.zJ RR.o
    go_wp2_with (first
     | ((with_reducible refine zf (N := 23) rfl ?_); refine ap_ kf 21 22 60 95 8 RR HB 13873417816952012800 (fun _ => False) (by have := HL.o; have := HX.o; have := YL.o; omega) ?_ info95 (show Kd.M kf _ _ _ _ [.float .f64 13873417816952012800] from rfl) (fun _ h => h.elim); intro v1 w1 R1 B1)
     | fail)
    go_roundg (gk - 1)
    case measure => have := hm.o; have := HX.o; omega
    case rel => exact ⟨x + 1, by rw [← q3], ⟨by have := hm.o; have := HX.o; omega⟩, ⟨by rw [YE.o]; exact R1.o⟩, B1⟩
   ·have q1 := decide_eq_false (show ¬ (x : Int) < 9 by omega); obtain rfl : x = 9 := by have := hm.o; omega
    obtain ⟨B, d, ev⟩ := Kd.zJ RR.o; have hd := J (Kd.zK (ev ▸ RR.o)).2.1; have hl := YL.o; have q2 := eq_true (show (xs.length : Int) ≤ (d : Int) by have := hd.o; omega); have EV := J ev; rw [hl] at ev; subst ev; clear hx hl; go_wp2_with fail; go_ret; exact ⟨B, d, rfl, ⟨B, d, rfl, _, rfl, EV.o ▸ RR.o⟩, HB.o⟩
end Go.Proofs.Ytlidbaejhmamjaa.RM
namespace Go.Proofs.Ytlidbaejhmamjaa.RM
open Go.RowKit YtlidbaejhmamjaaW.PrintWords YtlidbaejhmamjaaW.PrintLast YtlidbaejhmamjaaW.PrintMore PB LA AC LW SL NW TC
theorem M_new {α β : Type} {d : Kd α} {d' : Kd β} {w1 W : World} {ok oku : Nat → Prop} {x : α} {cs : List Value} {e b b' : Nat} {u : Value} {ys : List β} (h : d.M w1 W.heap.size ok x cs) (hu : d'.R e W b oku u ys) (hb : b' ≤ W.heap.size) : d.M w1 b' (fun k => True ∧ some k ≠ u.ownBlock) x cs :=
 d.M_lower hb (d.M_mono (fun k hk => ⟨trivial, fun e => by have := own_lt (Kd.R_own hu).choose_spec k e.symm; omega⟩) (d.M_bound h))
def pp (us : List Nat) : List Nat × List Nat := (us.take 300, mf 9)
def nf : List Nat := [13852790978814935040]
def LP (yss : List (List Nat)) : List (List Nat × List Nat) := yss.map fun us => (us, mf 9)
def tw : List (List Nat × List Nat) := [(nf, []), (nf, [])]
def kl : Kd (List (List Nat × List Nat) × List (List Nat × List Nat)) := mark 60 km
def ct (uss : List (List Nat)) : List (List Nat) := (uss.take 300).map (List.take 300)
theorem info60 : (Try.prog.info? 60).map (fun i => (i.zero, i.size, i.bytes)) = some (some (.slice none 0 0), 1, 24) := by kernel_rfl
theorem lists_calls {A : Option Addr} {c : Nat} {uss : List (List Nat)} (w : World) (r : kff.C w A uss.length uss) :
  Calls Try.prog 59 #[.slice A uss.length c] w fun e w' => ∃ B d, e = .returned (.slice B (ct uss).length d) ∧ kl.M w' w.heap.size (fun _ => True) (LP (ct uss), tw) [.slice B (ct uss).length d] ∧ Below w.heap.size w w' := by
 have hu := Try.underlying61; have hu6 := Try.underlying60; have pe : LP (ct uss) = (uss.take 300).map pp := by simp [LP, ct, show pp = fun us => (us.take 300, mf 9) from rfl, Function.comp_def]
 rw [pe]; simp only [ct, List.length_map]; clear pe; have hl : (uss.take 300).length = min 300 uss.length := List.length_take; have ht : ∀ x us, (uss.take 300)[x]? = some us → uss[x]? = some us := fun x us h => by rw [List.getElem?_take] at h; (split at h); exact h; cases h
 generalize uss.take 300 = vss at *
 have HR := J r; have HL := J hl; have HT := J ht; clear r hl ht; go_enter Try.func59, Try.ntmps59; go_wp2_with fail
 go_loopg [3, 4] 300 (fun m v3 v4 wr => ∃ x : Nat, v4 = .int .i64 (x : Int) ∧ ze (x + m = 300 ∧ x ≤ vss.length) ∧ ze (km.R 60 wr w.heap.size (fun _ => True) v3 ((vss.take x).map pp)) ∧ ze (Below w.heap.size w wr))
 case atStart => exact ⟨0, rfl, ⟨by omega, by omega⟩, ⟨Kd.zaI _ _ _ _ _⟩, ⟨Below.refl _ _⟩⟩
 case round =>
  obtain ⟨x, rfl, hm, RR, HB⟩ := hrel; have YL := J (show ((vss.take x).map pp).length = x by rw [List.length_map, List.length_take]; have := hm.o; omega)
  by_cases hx : x < vss.length
  ·have HX := J hx; have q1 := decide_eq_true (show (x : Int) < (uss.length : Int) by have := HL.o; omega); have q2 := decide_eq_true (show (x : Int) < 300 by have := HL.o; omega); have q4 := eq_true (show (x : Int) < (uss.length : Int) by have := HL.o; omega); have q5 := eq_true (show (0 : Int) ≤ (x : Int) by omega); have q3 : wrap64 ((x : Int) + 1) = ((x + 1 : Nat) : Int) := w64 _ yO_ (by have := HL.o; omega); obtain ⟨us, hus⟩ : ∃ us, vss[x]? = some us := ⟨_, List.getElem?_eq_getElem hx⟩
   obtain ⟨ad, Ak, ck, ead, hc0, hck, hrk⟩ := at_kff (Kd.zm HR.o HB.o) x (by have := HL.o; omega); rw [show rdl uss x = us by unfold rdl; rw [List.getD_eq_getElem?_getD, HT.o x us hus]; rfl] at hc0 hck hrk; cases ead; have HRK := J hrk; have HCK := J hck; have YE := J (show (vss.take (x + 1)).map pp = (vss.take x).map pp ++ [pp us] by rw [take_one vss x us hus, List.map_append]; rfl); clear hx hus hrk hck; generalize (vss.take x).map pp = ys at *
   obtain ⟨B, d, rfl⟩ := Kd.zJ RR.o; go_wp2_with fail; refine (laid_calls wr HRK.o HCK.o).mono ?_; rintro e_ w2 ⟨B2, d2, rfl, aB, aA⟩; rw [List.length_take] at aB; have M2 := J (M_new aB RR.o HB.o.size); replace RR := J (Kd.zF RR.o aA); replace HB := J (za HB.o aA); clear aA aB
   go_wp2_with (first
    | ((with_reducible refine zf (N := 23) rfl ?_); refine ap_ km 16 22 61 60 24 RR HB (pp us) _ (by have := YL.o; have := HX.o; have := HL.o; omega) ?_ info60 M2.o (fun _ h => h); intro v1 w1 R1 B1)
    | fail)
   go_roundg (gk - 1)
   case measure => have := hm.o; have := HX.o; have := HL.o; omega
   case rel => exact ⟨x + 1, by rw [← q3], ⟨by have := hm.o; have := HX.o; have := HL.o; omega⟩, ⟨by rw [YE.o]; exact R1.o⟩, B1⟩
  ·have hq : (decide ((x : Int) < (uss.length : Int)) = false ∧ (x < uss.length) = False ∧ ((x : Int) < (uss.length : Int)) = False) ∨ (((x : Int) < (uss.length : Int)) = True ∧ (x < uss.length) = True ∧ decide ((x : Int) < 300) = false ∧ ((x : Int) < 300) = False) := by
    have := HL.o
    by_cases h : x < uss.length
    ·right; simp; omega
    ·exact .inl (lt_no h)
   have e : x = vss.length := by have := hm.o; omega
   have hr := RR.o; rw [List.take_of_length_le yO_] at hr; have EX := J e; have RX := J hr; obtain ⟨B, d, ev⟩ := Kd.zJ RR.o; rw [YL.o, e] at ev; subst ev; obtain ⟨ok, hok⟩ : ∃ ok : Nat → Prop, ok = fun k => True ∧ some k ≠ (Value.slice B vss.length d).ownBlock := ⟨_, rfl⟩
   have LB := J (show ∀ k, wr.heap.size ≤ k → ok k from fun k hk => by rw [hok]; exact ⟨trivial, fun e => by have := own_lt (Kd.R_own RX.o).choose_spec k e.symm; omega⟩); have LO := J (show ∀ k, ok k → True ∧ some k ≠ (Value.slice B vss.length d).ownBlock from fun k h => by rw [hok] at h; exact h); clear hx hm hr e RR YL hok
   rcases hq with q1 | q1
   all_goals
    go_wp2_with (first
     | ((with_reducible refine zf (N := 27) rfl ?_); refine lt_ kf 27 95 nf [.float .f64 13852790978814935040] ok (zbj.one (show Kd.M kf _ _ _ _ _ from rfl) (zbj.none _ _)) (LB.o _ (Nat.le_refl _)) HB.o.size ?_; intro v1 w1 r1 b1; obtain ⟨B1, d1, rfl⟩ := Kd.zJ r1; have R1 := J r1; have C1 := J b1; clear r1 b1)
     | ((with_reducible refine zf (N := 28) rfl ?_); refine lt_ kf 28 95 nf [.float .f64 13852790978814935040] ok (zbj.one (show Kd.M kf _ _ _ _ _ from rfl) (zbj.none _ _)) (LB.o _ C1.o.size) (Nat.le_trans HB.o.size C1.o.size) ?_; intro v2 w2 r2 b2; obtain ⟨B2, d2, rfl⟩ := Kd.zJ r2; have R2 := J r2; replace R1 := J (Kd.zF R1.o b2); replace C1 := J (za C1.o b2); clear r2 b2)
     | ((with_reducible refine zf (N := 29) rfl ?_); refine lt_ km 29 60 [(nf, []), (nf, [])] [.slice B1 nf.length d1, .slice B2 nf.length d2] ok (zbj.one ⟨B1, d1, rfl, _, rfl, R1.o⟩ (zbj.one ⟨B2, d2, rfl, _, rfl, R2.o⟩ (zbj.none _ _))) (LB.o _ C1.o.size) (Nat.le_trans HB.o.size C1.o.size) ?_; intro v3 w3 r3 b3; obtain ⟨B3, d3, rfl⟩ := Kd.zJ r3; have R3 := J r3; replace C1 := J (za C1.o b3); clear r3 b3)
     | ((with_reducible refine zf (N := 30) rfl ?_); refine Kd.R_append_rows km (w0 := w) w.heap.size rfl _ _ 61 60 (.slice none 0 0) 24 rfl hu info60 rfl yD_ yD_ (.slice B vss.length d) (vss.map pp) [(nf, []), (nf, [])] B3 2 d3 (fun _ => True) _ rfl rfl (Kd.zF RX.o C1.o) (R_rr R3.o) (fun _ _ h => h) (fun _ h => LO.o _ h.1) (fun _ _ => trivial) (za HB.o C1.o) (Nat.le_trans HB.o.size C1.o.size) (by rw [List.length_map]; have := HL.o; omega) ?_; intro v4 w4 r4 b4 _ _; have R4 := J r4; have B4 := J b4; clear r4 b4; obtain ⟨A5, d5, e5⟩ := Kd.zJ R4.o; have L5 := J (Kd.zK (e5 ▸ R4.o)); have Q := eq_true (show (vss.length : Int) ≤ (d5 : Int) by have := L5.o.2.1; simp at this; omega); rw [List.length_append, List.length_map] at e5; subst e5)
     | fail)
    go_ret; exact ⟨_, _, rfl, ⟨A5, d5, by simp [LP], _, by simp [LP, tw], R4.o⟩, B4.o⟩
theorem at_k {α : Type} {d : Kd α} {w : World} {A : Option Addr} {n : Nat} {xs : List α} (h : d.C w A n xs) {i : Nat} {x : α} (hi : xs[i]? = some x) (hd : d.sz = 1 := by rfl) : ∃ ad v, A = some ad ∧ w.cell? (ad.add i) = some v ∧ d.K w x [v] := by
 have hn := h.1; obtain ⟨ad, e, hc⟩ := h.2.2 (by have := (List.getElem?_eq_some_iff.1 hi).1; omega); obtain ⟨c, hl, hk, hcell⟩ := hc i x hi; obtain ⟨v, rfl⟩ := List.length_eq_one_iff.1 (hl.trans hd); exact ⟨ad, v, e, by have := hcell 0 _ rfl; rwa [hd, Nat.mul_one, Nat.add_zero] at this, hk⟩
theorem at_i {α : Type} {enc : α → Value} {h1 : ∀ x : α, (enc x).oneCell' = true} {w : World} {A : Option Addr} {n : Nat} {xs : List α} (h : (Kd.scalar enc h1).C w A n xs) {i : Nat} {x : α} (hi : xs[i]? = some x) : ∃ ad, A = some ad ∧ w.cell? (ad.add i) = some (enc x) := by
 obtain ⟨ad, v, e, hc, hk⟩ := at_k h hi; exact ⟨ad, e, by rw [hc, (List.cons.inj hk).1]⟩
theorem qd_ {P : Program} {f : FuncId} {args : Array Value} {w : World} {n : Nat} {v : Value} (h : Calls P f args (w.drewN n) fun e w' => e = .returned v ∧ zag (w.drewN n) w') : Calls P f args (w.drewN n) fun e w' => e = .returned v ∧ ∃ m, w' = w.drewN m := Calls.quiet_of (h.mono fun _ _ ⟨he, hd⟩ => ⟨he, hd.o⟩)
theorem mk_get : ∀ {n i : Nat}, i < n → (mk n)[i]? = some (7700 + (i : Int))
 | n + 1, i, h => by
  rw [mk]
  by_cases hi : i < n
  ·rw [List.getElem?_append_left (by rw [mk_len]; exact hi)]; exact mk_get hi
  ·obtain rfl : i = n := by omega
   rw [List.getElem?_append_right (by rw [mk_len]; omega), mk_len]; simp
theorem holds_calls {A B : Option Addr} {c d n : Nat} {xs : List Int} (w : World) (r : (Kd.int .i64).C w A n (xs ++ mk 6)) (q : (Kd.int .i64).C w B xs.length xs) (hx : xs.length ≤ 2000000) :
  Calls Try.prog 60 #[.slice A n c, .slice B xs.length d] w fun e w' => e = .returned (.bool true) ∧ zag w w' := by
 have HR := J r; have HQ := J q; have HN := J (show n = xs.length + 6 ∧ xs.length ≤ 2000000 from ⟨by have := r.1; simp [mk_len] at this; omega, hx⟩); clear r q hx; go_enter Try.func60, Try.ntmps60; go_wp2_with fail
 go_loopg [5] xs.length (fun m v5 wr => ∃ x : Nat, v5 = .int .i64 (x : Int) ∧ ze (x + m = xs.length) ∧ zag w wr)
 case atStart => exact ⟨0, rfl, ⟨by omega⟩, zag.refl _⟩
 case round =>
  obtain ⟨x, rfl, hm, hd⟩ := hrel
  by_cases hx : x < xs.length
  ·have q1 := lt_yes hx; have q2 := lt_yes (show x < n by have := HN.o; omega); have HX := J hx; have q3 : wrap64 ((x : Int) + 1) = ((x + 1 : Nat) : Int) := w64 _ yO_ (by have := HN.o; omega); have hv : xs[x]? = some xs[x] := List.getElem?_eq_getElem hx; generalize xs[x] = v at hv; obtain ⟨a1, e1, h1⟩ := at_i (Kd.zm HR.o hd.below) (i := x) (x := v) (by rw [List.getElem?_append_left hx]; exact hv); obtain ⟨a2, e2, h2⟩ := at_i (Kd.zm HQ.o hd.below) hv; cases e1; cases e2; clear hx hv; go_wp2_with fail
   repeat (go_quiet (fail); try go_wp2_with fail)
   go_roundg (gk - 1)
   case measure => have := hm.o; have := HX.o; omega
   case rel => exact ⟨x + 1, by rw [← q3], ⟨by have := hm.o; have := HX.o; omega⟩, hd.step _⟩
  ·have q1 := lt_no hx; clear hx hm; go_wp2_with fail; clear q1
   go_loopg [6] 6 (fun m v6 wr => ∃ x : Nat, v6 = .int .i64 (x : Int) ∧ ze (x + m = 6) ∧ zag w wr)
   case atStart => exact ⟨0, rfl, ⟨rfl⟩, hd⟩
   case round =>
    clear hd; obtain ⟨y, rfl, hm, hd⟩ := hrel
    by_cases hx : y < 6
    ·have q1 := decide_eq_true (show (y : Int) < 6 by omega); have q2 : ((0 : Int) ≤ (xs.length : Int) + (y : Int)) = True ∧ ((xs.length : Int) + (y : Int) < (n : Int)) = True ∧ ((xs.length : Int) + (y : Int)).toNat = xs.length + y := by have := HN.o; simp; omega
     have q4 : wrap64 ((xs.length : Int) + (y : Int)) = (xs.length : Int) + (y : Int) := w64 _ yO_ (by have := HN.o; omega); have q5 : wrap64 (7700 + (y : Int)) = 7700 + (y : Int) := w64 _ yO_ yO_; have HX := J hx; have q3 : wrap64 ((y : Int) + 1) = ((y + 1 : Nat) : Int) := w64 _ yO_ yO_; obtain ⟨a1, e1, h1⟩ := at_i (Kd.zm HR.o hd.below) (i := xs.length + y) (x := 7700 + (y : Int)) (by rw [List.getElem?_append_right yO_, Nat.add_sub_cancel_left]; exact mk_get hx); cases e1; clear hx; go_wp2_with fail; clear q4 q5; go_roundg (gk - 1)
     case measure => have := hm.o; have := HX.o; omega
     case rel => exact ⟨y + 1, by rw [← q3], ⟨by have := hm.o; have := HX.o; omega⟩, hd⟩
    ·have q1 := decide_eq_false (show ¬ (y : Int) < 6 by omega); clear hx hm; go_wp2_with fail; go_ret; exact ⟨rfl, hd⟩
theorem same82 {A B : Option Addr} {c d : Nat} {xs : List Int} (w : World) (r : (Kd.int .u64).C w A xs.length xs) (q : (Kd.int .u64).C w B xs.length xs) :
  Calls Try.prog 82 #[.slice A xs.length c, .slice B xs.length d] w fun e w' => e = .returned (.bool true) ∧ zag w w' := by
 have HR := J r; have HQ := J q; clear r q; go_enter Try.func82, Try.ntmps82; go_wp2_with fail
 go_loopg [5] xs.length (fun m v5 wr => ∃ x : Nat, v5 = .int .i64 (x : Int) ∧ ze (x + m = xs.length) ∧ zag w wr)
 case atStart => exact ⟨0, rfl, ⟨by omega⟩, zag.refl _⟩
 case round =>
  obtain ⟨x, rfl, hm, hd⟩ := hrel
  by_cases hx : x < xs.length
  ·have q1 := lt_yes hx; have HX := J hx; have q3 : wrap64 ((x : Int) + 1) = ((x + 1 : Nat) : Int) := w64 _ yO_ (by have := HR.o.2.1; omega); obtain ⟨a1, e1, h1⟩ := at_i (Kd.zm HR.o hd.below) (List.getElem?_eq_getElem hx); obtain ⟨a2, e2, h2⟩ := at_i (Kd.zm HQ.o hd.below) (List.getElem?_eq_getElem hx); cases e1; cases e2; generalize xs[x] = v at h1 h2; clear hx; go_wp2_with fail
   repeat (go_quiet (fail); try go_wp2_with fail)
   go_roundg (gk - 1)
   case measure => have := hm.o; have := HX.o; omega
   case rel => exact ⟨x + 1, by rw [← q3], ⟨by have := hm.o; have := HX.o; omega⟩, hd.step _⟩
  ·have q1 := lt_no hx; clear hx hm; go_wp2_with fail; go_ret; exact ⟨rfl, hd⟩
theorem same83 {A B : Option Addr} {c d : Nat} {xs : List (List Int)} (w : World) (r : dU.C w A xs.length xs) (q : dU.C w B xs.length xs) :
  Calls Try.prog 83 #[.slice A xs.length c, .slice B xs.length d] w fun e w' => e = .returned (.bool true) ∧ zag w w' := by
 have HR := J r; have HQ := J q; clear r q; go_enter Try.func83, Try.ntmps83; go_wp2_with fail
 go_loopg [5] xs.length (fun m v5 wr => ∃ x : Nat, v5 = .int .i64 (x : Int) ∧ ze (x + m = xs.length) ∧ zag w wr)
 case atStart => exact ⟨0, rfl, ⟨by omega⟩, zag.refl _⟩
 case round =>
  obtain ⟨x, rfl, hm, hd⟩ := hrel
  by_cases hx : x < xs.length
  ·have q1 := lt_yes hx; have HX := J hx; have q3 : wrap64 ((x : Int) + 1) = ((x + 1 : Nat) : Int) := w64 _ yO_ (by have := HR.o.2.1; omega); obtain ⟨a1, _, e1, h1, A1, c1, k1, _, r1⟩ := at_k (Kd.zm HR.o hd.below) (List.getElem?_eq_getElem hx); obtain ⟨a2, _, e2, h2, A2, c2, k2, _, r2⟩ := at_k (Kd.zm HQ.o hd.below) (List.getElem?_eq_getElem hx); cases e1; cases e2; cases k1; cases k2; have R1 := J r1; have R2 := J r2; clear r1 r2; generalize xs[x] = v at *
   clear hx; go_wp2_with fail
   repeat (go_quiet ((go_at_call 82; exact qd_ (same82 _ (Kd.C_drewN R1.o _) (Kd.C_drewN R2.o _)))); try go_wp2_with fail)
   go_roundg (gk - 1)
   case measure => have := hm.o; have := HX.o; omega
   case rel => exact ⟨x + 1, by rw [← q3], ⟨by have := hm.o; have := HX.o; omega⟩, hd.step _⟩
  ·have q1 := lt_no hx; clear hx hm; go_wp2_with fail; go_ret; exact ⟨rfl, hd⟩
/-- A list with marks behind it, and the same list. -/
def Lk (w : World) (xs : List Int) (v u : Value) : Prop := ∃ A n c B d, v = .slice A n c ∧ u = .slice B xs.length d ∧ (Kd.int .i64).C w A n (xs ++ mk 6) ∧ (Kd.int .i64).C w B xs.length xs ∧ xs.length ≤ 2000000
theorem Lk.step {w w' : World} {xs : List Int} {v u : Value} (h : Lk w xs v u) (hb : Below w.heap.size w w') : Lk w' xs v u := by
 obtain ⟨A, n, c, B, d, e, e2, r, q, hx⟩ := h; exact ⟨A, n, c, B, d, e, e2, Kd.zm r hb, Kd.zm q hb, hx⟩
theorem Lk.holds {w : World} {xs : List Int} {v u : Value} (h : Lk w xs v u) (n : Nat) : Calls Try.prog 60 #[v, u] (w.drewN n) fun e w' => e = .returned (.bool true) ∧ zag (w.drewN n) w' := by
 obtain ⟨A, n, c, B, d, rfl, rfl, r, q, hx⟩ := h; exact holds_calls _ (Kd.C_drewN r _) (Kd.C_drewN q _) hx
theorem stand_calls {g : Nat} {v0 v1 v2 v3 v4 v5 v6 v7 v8 v9 v10 v11 : Value} {x1 x2 x3 x4 : List Int} (w : World) (k : w.heap[g]? = some (.cells #[v0, v1, v2, v3, v4, v5, v6, v7, v8, v9, v10, v11] 82 (0, 0))) (h1 : Lk w x1 v4 v8) (h2 : Lk w x2 v5 v9) (h3 : Lk w x3 v6 v10) (h4 : Lk w x4 v7 v11) :
  Calls Try.prog 35 #[.pointer (some ⟨g, 0, none⟩)] w fun e w' => e = .returned (.bool true) ∧ zag w w' := by
 have hu := Try.underlying82; have hu2 := Try.underlying24; have H1 := J h1.holds; have H2 := J h2.holds; have H3 := J h3.holds; have H4 := J h4.holds; have c4 : w.cell? ⟨g, 4, none⟩ = some v4 := cz_ k 4 rfl; have c5 : w.cell? ⟨g, 5, none⟩ = some v5 := cz_ k 5 rfl; have c6 : w.cell? ⟨g, 6, none⟩ = some v6 := cz_ k 6 rfl; have c7 : w.cell? ⟨g, 7, none⟩ = some v7 := cz_ k 7 rfl; have c8 : w.cell? ⟨g, 8, none⟩ = some v8 := cz_ k 8 rfl; have c9 : w.cell? ⟨g, 9, none⟩ = some v9 := cz_ k 9 rfl; have c10 : w.cell? ⟨g, 10, none⟩ = some v10 := cz_ k 10 rfl; have c11 : w.cell? ⟨g, 11, none⟩ = some v11 := cz_ k 11 rfl; clear k h1 h2 h3 h4; go_enter Try.func35, Try.ntmps35; go_wp2_with fail; go_quiet ((go_at_call 60; with_reducible first | exact qd_ (H1.o _) | exact qd_ (H2.o _) | exact qd_ (H3.o _) | exact qd_ (H4.o _))); go_wp2_with fail; go_ret; exact ⟨rfl, ⟨⟨_, rfl⟩⟩⟩
theorem ku_get {us : List Nat} {i : Nat} (h : i < us.length) : (ku us)[i]? = some ((us[i] : Nat) : Int) := by simp [ku, h]
theorem st62 {v : Value} {us : List Nat} {B : Option Addr} {d : Nat} (w : World) (k : km.K w (us, mf 9) [v]) (q : (Kd.int .u64).C w B us.length (ku us)) (hx : us.length ≤ 2000000) :
  Calls Try.prog 62 #[v, .slice B us.length d] w fun e w' => e = .returned (.bool true) ∧ zag w w' := by
 obtain ⟨A, c, rfl, hc, r⟩ := mark_get k; rw [show (us, mf 9).2.length = 9 by simp [mf]] at r hc; have hc : us.length + 9 ≤ c := hc; have HR := J (show kf.C w A (us.length + 9) (us ++ mf 9) from r); have HQ := J q; have HX := J hx; have q1 : wrap64 ((us.length : Int) + 1) = (us.length : Int) + 1 := w64 _ yO_ yO_; have q2 : ((0 : Int) ≤ (us.length : Int) + 1) = True ∧ ((us.length : Int) + 1 ≤ (c : Int)) = True ∧ ((us.length : Int) + 1).toNat = us.length + 1 ∧ (us.length < us.length + 1) = True ∧ ((us.length : Int) < (us.length : Int) + 1) = True := by simp; omega
 obtain ⟨a0, e0, h0⟩ := at_i HR.o (i := us.length) (x := 13873417816952012800) (by simp [mf]); cases e0
 show Calls Try.prog 62 #[.slice (some a0) us.length c, .slice B us.length d] w _
 have q4 : (FloatKind.f64.format.order 13873417816952012800 13873417816952012800 != some Ordering.eq) = false := by decide +kernel
 clear k r q hc hx; have hu := Try.underlying60; go_enter Try.func62, Try.ntmps62; go_wp2_with fail; clear q1 q2 q4 h0
 go_loopg [5] us.length (fun m v5 wr => ∃ x : Nat, v5 = .int .i64 (x : Int) ∧ ze (x + m = us.length) ∧ zag w wr)
 case atStart => exact ⟨0, rfl, ⟨by omega⟩, zag.refl _⟩
 case round =>
  obtain ⟨x, rfl, hm, hd⟩ := hrel
  by_cases hx : x < us.length
  ·have q1 := lt_yes hx; have XX := J hx; have q3 : wrap64 ((x : Int) + 1) = ((x + 1 : Nat) : Int) := w64 _ yO_ (by have := HX.o; omega); obtain ⟨a1, e1, h1⟩ := at_i (Kd.zm HR.o hd.below) ((List.getElem?_append_left hx).trans (List.getElem?_eq_getElem hx)); obtain ⟨a2, e2, h2⟩ := at_i (Kd.zm HQ.o hd.below) (ku_get hx); cases e1; cases e2; generalize us[x] = v at h1 h2; clear hx; go_wp2_with fail; go_quiet ((go_at_call 56; exact Calls.quiet_of_same ((bits_calls v _).mono fun _ _ h => ⟨h.1, h.2.symm⟩))); go_wp2_with fail; go_roundg (gk - 1)
   case measure => have := hm.o; have := XX.o; omega
   case rel => exact ⟨x + 1, by rw [← q3], ⟨by have := hm.o; have := XX.o; omega⟩, hd.step _⟩
  ·have q1 := lt_no hx; clear hx hm; go_wp2_with fail; go_ret; exact ⟨rfl, hd⟩
theorem st63 {v : Value} {B : Option Addr} {d : Nat} {yss : List (List Nat)} (w : World) (k : kl.K w (LP yss, tw) [v]) (q : dU.C w B yss.length (yss.map ku)) (hn : yss.length ≤ 2000000) (hx : ∀ us, us ∈ yss → us.length ≤ 2000000) :
  Calls Try.prog 63 #[v, .slice B yss.length d] w fun e w' => e = .returned (.bool true) ∧ zag w w' := by
 obtain ⟨A, c, rfl, hc, r⟩ := mark_get k; have e : (LP yss).length = yss.length := by simp [LP]
 simp only [e] at hc r ⊢; replace hc : yss.length + 2 ≤ c := hc; have HR := J (show km.C w A (yss.length + 2) (LP yss ++ tw) from r); clear e k; have HQ := J q; have HX := J hx; have HN := J hn; have q1 : wrap64 ((yss.length : Int) + 1) = (yss.length : Int) + 1 := w64 _ yO_ yO_; have q2 : ((0 : Int) ≤ (yss.length : Int) + 1) = True ∧ ((yss.length : Int) + 1 ≤ (c : Int)) = True ∧ ((yss.length : Int) + 1).toNat = yss.length + 1 ∧ (yss.length < yss.length + 1) = True ∧ ((yss.length : Int) < (yss.length : Int) + 1) = True := by simp; omega
 obtain ⟨a0, v0, e0, h0, k0⟩ := at_k HR.o (i := yss.length) (x := (nf, [])) (by simp [LP, tw]); obtain ⟨A1, c1, rfl, _, r1⟩ := mark_get k0; replace h0 : w.cell? (a0.add yss.length) = some (.slice A1 1 c1) := h0; obtain ⟨a1, e1, h1⟩ := at_i r1 (i := 0) (x := 13852790978814935040) rfl; cases e0; cases e1; rw [Addr.add_zero'] at h1; have q4 : (FloatKind.f64.format.order 13852790978814935040 13852790978814935040 != some Ordering.eq) = false := by decide +kernel
 clear r q hc hx hn k0 r1; have hu := Try.underlying60; have hu1 := Try.underlying61; go_enter Try.func63, Try.ntmps63; go_wp2_with fail; clear q1 q2 q4 h0 h1
 go_loopg [6] yss.length (fun m v6 wr => ∃ x : Nat, v6 = .int .i64 (x : Int) ∧ ze (x + m = yss.length) ∧ zag w wr)
 case atStart => exact ⟨0, rfl, ⟨by omega⟩, zag.refl _⟩
 case round =>
  obtain ⟨x, rfl, hm, hd⟩ := hrel
  by_cases hx : x < yss.length
  ·have q1 := lt_yes hx; have XX := J hx; have q3 : wrap64 ((x : Int) + 1) = ((x + 1 : Nat) : Int) := w64 _ yO_ (by have := HN.o; omega); obtain ⟨a1, v1, e1, h1, k1⟩ := at_k (Kd.zm HR.o hd.below) (i := x) (x := (yss[x], mf 9)) (by rw [List.getElem?_append_left (by simpa [LP] using hx)]; simp [LP, hx]); obtain ⟨a2, v2, e2, h2, k2⟩ := at_k (Kd.zm HQ.o hd.below) (i := x) (x := ku yss[x]) (by simp [hx]); have HU := J (HX.o yss[x] (List.getElem_mem hx)); cases e1; cases e2; generalize yss[x] = us at *
   obtain ⟨B2, d2, e3, _, r2⟩ := k2; cases e3; have K1 := J k1; have K2 := J r2; clear hx k1 r2; rw [zaA] at h2 K2; go_wp2_with fail; go_quiet ((go_at_call 62; exact qd_ (st62 _ (km.K_below (((zag.refl _).step _).below) K1.o) (Kd.C_drewN K2.o _) HU.o))); go_wp2_with fail; go_roundg (gk - 1)
   case measure => have := hm.o; have := XX.o; omega
   case rel => exact ⟨x + 1, by rw [← q3], ⟨by have := hm.o; have := XX.o; omega⟩, hd.step _⟩
  ·have q1 := lt_no hx; clear hx hm; go_wp2_with fail; go_ret; exact ⟨rfl, hd⟩
theorem same61 {a1 a2 a4 b1 b2 b4 : Option Addr} {c1 c2 c4 d1 d2 d4 : Nat} {l1 : List Int} {l2 l4 : List (List Int)} {y3 y5 y6 y7 : Int} (w : World) (r1 : (Kd.int .u64).C w a1 l1.length l1) (r2 : dU.C w a2 l2.length l2) (r4 : dU.C w a4 l4.length l4) (q1 : (Kd.int .u64).C w b1 l1.length l1) (q2 : dU.C w b2 l2.length l2) (q4 : dU.C w b4 l4.length l4) :
  Calls Try.prog 61 #[.agg #[.slice a1 l1.length c1, .slice a2 l2.length c2, .int .i64 y3, .slice a4 l4.length c4, .int .i64 y5, .int .i64 y6, .int .i64 y7], .agg #[.slice b1 l1.length d1, .slice b2 l2.length d2, .int .i64 y3, .slice b4 l4.length d4, .int .i64 y5, .int .i64 y6, .int .i64 y7]] w fun e w' => e = .returned (.bool true) ∧ Below w.heap.size w w' := by
 have hu := Try.underlying69; have R := J (And.intro r1 (And.intro r2 r4)); have S := J (And.intro q1 (And.intro q2 q4)); clear r1 r2 r4 q1 q2 q4; go_enter Try.func61, Try.ntmps61
 go_wp2_with (first
  | ((with_reducible refine zf (N := 2) rfl ?_); refine zah 2 (cs := #[.slice a1 l1.length c1, .slice a2 l2.length c2, .int .i64 y3, .slice a4 l4.length c4, .int .i64 y5, .int .i64 y6, .int .i64 y7]) (t := 69) ?_; intro g1 aC w1 aB aA; have HB := J aA; have K1 := J aB; clear aC aB aA)
  | ((with_reducible refine zf (N := 3) rfl ?_); refine zah 3 (cs := #[.slice b1 l1.length d1, .slice b2 l2.length d2, .int .i64 y3, .slice b4 l4.length d4, .int .i64 y5, .int .i64 y6, .int .i64 y7]) (t := 69) ?_; intro g2 aC w2 aB aA; replace HB := J (za HB.o aA); replace K1 := J (zd K1.o aA); have K2 := J aB; clear aC aB aA; have p0 : w2.cell? ⟨g1, 0, none⟩ = some (.slice a1 l1.length c1) := cz_ K1.o 0 rfl; have p1 : w2.cell? ⟨g1, 1, none⟩ = some (.slice a2 l2.length c2) := cz_ K1.o 1 rfl; have p2 : w2.cell? ⟨g1, 2, none⟩ = some (.int .i64 y3) := cz_ K1.o 2 rfl; have p3 : w2.cell? ⟨g1, 3, none⟩ = some (.slice a4 l4.length c4) := cz_ K1.o 3 rfl; have p4 : w2.cell? ⟨g1, 4, none⟩ = some (.int .i64 y5) := cz_ K1.o 4 rfl; have p5 : w2.cell? ⟨g1, 5, none⟩ = some (.int .i64 y6) := cz_ K1.o 5 rfl; have p6 : w2.cell? ⟨g1, 6, none⟩ = some (.int .i64 y7) := cz_ K1.o 6 rfl; have q0 : w2.cell? ⟨g2, 0, none⟩ = some (.slice b1 l1.length d1) := cz_ K2.o 0 rfl; have q1 : w2.cell? ⟨g2, 1, none⟩ = some (.slice b2 l2.length d2) := cz_ K2.o 1 rfl; have q2 : w2.cell? ⟨g2, 2, none⟩ = some (.int .i64 y3) := cz_ K2.o 2 rfl; have q3 : w2.cell? ⟨g2, 3, none⟩ = some (.slice b4 l4.length d4) := cz_ K2.o 3 rfl; have q4 : w2.cell? ⟨g2, 4, none⟩ = some (.int .i64 y5) := cz_ K2.o 4 rfl; have q5 : w2.cell? ⟨g2, 5, none⟩ = some (.int .i64 y6) := cz_ K2.o 5 rfl; have q6 : w2.cell? ⟨g2, 6, none⟩ = some (.int .i64 y7) := cz_ K2.o 6 rfl)
  | fail)
 refine (same82 w2 (Kd.zm R.o.1 HB.o) (Kd.zm S.o.1 HB.o)).mono ?_; rintro e_ _ ⟨rfl, ⟨⟨n1, rfl⟩⟩⟩; go_wp2_with fail; refine (same83 _ (Kd.zm R.o.2.1 (zas HB.o _)) (Kd.zm S.o.2.1 (zas HB.o _))).mono ?_; rintro e_ _ ⟨rfl, ⟨⟨n2, rfl⟩⟩⟩; go_wp2_with fail; refine (same83 _ (Kd.zm R.o.2.2 (zas HB.o _)) (Kd.zm S.o.2.2 (zas HB.o _))).mono ?_; rintro e_ _ ⟨rfl, ⟨⟨n3, rfl⟩⟩⟩; go_wp2_with fail; go_ret; exact ⟨rfl, zas HB.o _⟩
theorem info65 : (Try.prog.info? 65).map (·.size) = some 7 := by kernel_rfl
structure Pi (w W : World) (g1 g2 : Nat) (cs : Array Value) : Prop where
 b : Below w.heap.size w W
 k1 : W.heap[g1]? = some (.cells cs 65 (0, 0))
 k2 : W.heap[g2]? = some (.cells #[.slice none 0 0, .slice none 0 0, .int .i64 0, .slice none 0 0, .int .i64 0, .int .i64 0, .int .i64 0] 65 (0, 0))
 n : g1 ≠ g2
 l1 : w.heap.size ≤ g1
 l2 : w.heap.size ≤ g2
theorem Pi.step {w W W1 : World} {g1 g2 : Nat} {cs : Array Value} (h : Pi w W g1 g2 cs) (hb : Below W.heap.size W W1) : Pi w W1 g1 g2 cs := ⟨za h.b hb, zd h.k1 hb, zd h.k2 hb, h.n, h.l1, h.l2⟩
theorem Pi.put {w W : World} {g1 g2 : Nat} {cs : Array Value} (h : Pi w W g1 g2 cs) (i : Nat) (v : Value) : Pi w (W.setCell ⟨g1, i, none⟩ v) g1 g2 (cs.setIfInBounds i v) := ⟨zN h.b h.l1, blk_put h.k1 i v rfl, zu (zx W g1 i v) h.k2 (fun e => h.n (Option.some.inj e).symm), h.n, h.l1, h.l2⟩
theorem prop_calls {a1 a2 a4 : Option Addr} {c1 c2 c4 : Nat} {y1 : List Nat} {y2 y4 : List (List Nat)} {y3 y5 y6 y7 : Int} (w : World) (r1 : kf.C w a1 y1.length y1) (k1 : y1.length ≤ c1) (r2 : kff.C w a2 y2.length y2) (r4 : kff.C w a4 y4.length y4) :
  Calls Try.prog 34 #[.agg #[.slice a1 y1.length c1, .slice a2 y2.length c2, .int .i64 y3, .slice a4 y4.length c4, .int .i64 y5, .int .i64 y6, .int .i64 y7]] w fun e w' => ∃ v1 v2 v4, e = .returned (.agg #[v1, v2, .int .i64 y3, v4, .int .i64 y5, .int .i64 y6, .int .i64 y7]) ∧ km.K w' (y1.take 300, mf 9) [v1] ∧ kl.K w' (LP (ct y2), tw) [v2] ∧ kl.K w' (LP (ct y4), tw) [v4] ∧ Below w.heap.size w w' := by
 have hu := Try.underlying65; have R1 := J r1; have KC := J k1; have R2 := J r2; have R4 := J r4; clear r1 k1 r2 r4; go_enter Try.func34, Try.ntmps34
 go_wp2_with (first
  | ((with_reducible refine zf (N := 1) rfl ?_); refine zah 1 (cs := #[.slice a1 y1.length c1, .slice a2 y2.length c2, .int .i64 y3, .slice a4 y4.length c4, .int .i64 y5, .int .i64 y6, .int .i64 y7]) (t := 65) ?_; intro g1 aA w1 aB aC; have HB := J aC; have K1 := J aB; have L1 := J (show w.heap.size ≤ g1 by omega); clear aA aB aC)
  | ((with_reducible refine zf (N := 2) rfl ?_); refine zah 2 (cs := #[.slice none 0 0, .slice none 0 0, .int .i64 0, .slice none 0 0, .int .i64 0, .int .i64 0, .int .i64 0]) (t := 65) ?_; intro g2 aA w2 aB aC; have N := J (show g1 ≠ g2 by have := zac K1.o; omega); have L2 := J (show w.heap.size ≤ g2 by have := HB.o.size; omega); replace HB := J (za HB.o aC); replace K1 := J (zd K1.o aC); have K2 := J aB; clear aA aB aC; have d0 : w2.cell? ⟨g1, 0, none⟩ = some (.slice a1 y1.length c1) := cz_ K1.o 0 rfl)
  | fail)
 have P := J (show Pi w w2 g1 g2 _ from ⟨HB.o, K1.o, K2.o, N.o, L1.o, L2.o⟩); clear HB K1 K2 N L1 L2; refine (laid_calls w2 (Kd.zm R1.o P.o.b) KC.o).mono ?_; rintro e_ w3 ⟨B1, b1, rfl, m1, hb⟩; generalize (y1.take 300).length = n1 at *
 replace P := J (P.o.step hb); clear hb d0; have d0 : w3.cell? ⟨g1, 0, none⟩ = some (.slice a1 y1.length c1) := cz_ P.o.k1 0 rfl; have f0 := zb P.o.k1 0; have d1 : w3.cell? ⟨g1, 1, none⟩ = some (.slice a2 y2.length c2) := cz_ P.o.k1 1 rfl; have M1 := J (M_put m1 P.o.k1 (zx w3 g1 0 (.slice B1 n1 b1))); replace P := J (P.o.put 0 (.slice B1 n1 b1)); clear m1; go_wp2_with fail; refine (lists_calls _ (Kd.zm R2.o P.o.b)).mono ?_; rintro e_ w4 ⟨B2, b2, rfl, m2, hb⟩; generalize (ct y2).length = n2 at *
 replace M1 := J (M_below M1.o hb); replace P := J (P.o.step hb); clear hb d0 d1 f0; have d1 : w4.cell? ⟨g1, 1, none⟩ = some (.slice a2 y2.length c2) := cz_ P.o.k1 1 rfl; have f1 := zb P.o.k1 1; have d3 : w4.cell? ⟨g1, 3, none⟩ = some (.slice a4 y4.length c4) := cz_ P.o.k1 3 rfl; have hg := zx w4 g1 1 (.slice B2 n2 b2); replace M1 := J (M_put M1.o P.o.k1 hg); have M2 := J (M_put m2 P.o.k1 hg); replace P := J (P.o.put 1 (.slice B2 n2 b2)); clear m2 hg; go_wp2_with fail; refine (lists_calls _ (Kd.zm R4.o P.o.b)).mono ?_; rintro e_ w5 ⟨B4, b4, rfl, m4, hb⟩; generalize (ct y4).length = n4 at *
 replace M1 := J (M_below M1.o hb); replace M2 := J (M_below M2.o hb); replace P := J (P.o.step hb); clear hb d1 d3 f1; have d0 : w5.cell? ⟨g1, 0, none⟩ = some (.slice B1 n1 b1) := cz_ P.o.k1 0 rfl; have d1 : w5.cell? ⟨g1, 1, none⟩ = some (.slice B2 n2 b2) := cz_ P.o.k1 1 rfl; have d2 : w5.cell? ⟨g1, 2, none⟩ = some (.int .i64 y3) := cz_ P.o.k1 2 rfl; have d3 : w5.cell? ⟨g1, 3, none⟩ = some (.slice a4 y4.length c4) := cz_ P.o.k1 3 rfl; have d4 : w5.cell? ⟨g1, 4, none⟩ = some (.int .i64 y5) := cz_ P.o.k1 4 rfl; have d5 : w5.cell? ⟨g1, 5, none⟩ = some (.int .i64 y6) := cz_ P.o.k1 5 rfl; have d6 : w5.cell? ⟨g1, 6, none⟩ = some (.int .i64 y7) := cz_ P.o.k1 6 rfl; have f3 := zb P.o.k1 3; have hg := zx w5 g1 3 (.slice B4 n4 b4); replace M1 := J (M_put M1.o P.o.k1 hg); replace M2 := J (M_put M2.o P.o.k1 hg); have M4 := J (M_put m4 P.o.k1 hg); replace P := J (P.o.put 3 (.slice B4 n4 b4)); clear m4 hg
 go_wp2_with (first
  | ((with_reducible refine zj (t := 65) (p := 2) rfl ?_); refine zi rfl 65 rfl rfl g2 #[.slice B1 n1 b1, .slice B2 n2 b2, .int .i64 y3, .slice B4 n4 b4, .int .i64 y5, .int .i64 y6, .int .i64 y7] rfl rfl 65 _ P.o.k2 (info65.trans rfl) rfl (by simp [Value.oneCell']) ?_; intro w6 aB aA; have K2 := J aB; replace M1 := J (M_put M1.o P.o.k2 aA); replace M2 := J (M_put M2.o P.o.k2 aA); replace M4 := J (M_put M4.o P.o.k2 aA); have HB := J (P.o.b.grown aA P.o.b.size (fun k_ hk_ => by cases hk_; exact P.o.l2)); clear aB aA)
  | fail)
 refine bodyPost_ret (results_cell_row rfl _ _ g2 65 #[.slice B1 n1 b1, .slice B2 n2 b2, .int .i64 y3, .slice B4 n4 b4, .int .i64 y5, .int .i64 y6, .int .i64 y7] (0, 0) _ rfl K2.o Try.underlying65 rfl yK_) rfl ?_; exact ⟨_, _, _, rfl, km.K_of_M M1.o, kl.K_of_M M2.o, kl.K_of_M M4.o, HB.o⟩
end Go.Proofs.Ytlidbaejhmamjaa.RM
namespace Go.Proofs.YtlidbaejhmamjaaW.PrintLast
open Go.RowKit
open Go.Proofs.YtlidbaejhmamjaaW.PrintWords (ze)
/-- A number, for a step that is filled in. -/
structure Arg (i : Nat) : Prop where
section
variable {P : Program} {ops : Array Oper} {Q : Exit → Act → World → Prop} {md : Region.Mode} {S : World → Prop} {ds : List Nat} {T : Bool × List (List Nat × List Nat)} {oi : Oper} {v : Value} {fuel : Nat} {l : Array Bool} {a a' : Act} {w : World} {B : List Nat}
/-- The beginning: the condition holds of each world that has grown out of W. -/
theorem bg_ {id n : Nat} {W : World} (SK : ze (∀ w', Below W.heap.size W w' → S w')) (HB : Below W.heap.size W w) (hT : zbc .any ops = T) (hB : zal T.2 B = true)
  (h : ∀ v0, ze (Below W.heap.size W v0) → S v0 → ze (zbc .any ops = T) → ze (zal T.2 B = true) → zC P .any ops Q S ds n (bl_ n 0) a v0) (hm : P.follows .mixedOrders = true := by kernel_rfl) (hn : ops.size = n := by rfl) (hl : Array.replicate n false = bl_ n 0 := by rfl) : (Code.region id ops true).wp P Q a w :=
 zaw _ hm hn hl (SK.o _ (PrintWords.zU HB)) fun h0 => h _ ⟨PrintWords.zU HB⟩ h0 ⟨hT⟩ ⟨hB⟩
theorem pa_ {n m N i : Nat} (x : Arg i) (h : zC P md ops Q S ds fuel (bl_ n (m + 2 ^ i)) a' w) (HT : ze (zbc md ops = T) := by exact HT_) (hi : ops[i]? = some oi := by rfl) (hc : anyT T (bl_ n m).toList (bl_ n (m + 2 ^ i)).toList i = true := by kernel_rfl) (hN : oi.dst = some N := by rfl)
  (hw : Region.wanted oi (yielded ops a.tmps) = true := by rfl) (hy : ∀ w, (execOp a.eval oi).run P w = .ok (.value v) w := by intro w'; go_simp; first | done | with_reducible rfl)
  (ha : a.put (some N) v = a' := by simp only [Act.put, sI_, s0_, s1_, zat, zaM]; first | done | rfl)
  (hQ : ∀ c a w, Q (.panic c) (a.put oi.dst v) w → Q (.panic c) a w := by exact fun _ _ _ h => h) : zC P md ops Q S ds (fuel + 1) (bl_ n m) a w :=
 pure_ _ hi hN (any_of HT.o hc) hQ (Or.inl ⟨hw, hy⟩) ha h
theorem ta_ {n m N i : Nat} (x : Arg i) (h : zC P md ops Q S ds fuel (bl_ n (m + 2 ^ i)) a' w) (hS : S w := by exact hHeld) (HT : ze (zbc md ops = T) := by exact HT_) (HW : ze (zal T.2 B = true) := by exact HW_) (hi : ops[i]? = some oi := by rfl) (hN : oi.dst = some N := by rfl)
  (hc : takeW T B ds (bl_ n m).toList (bl_ n (m + 2 ^ i)).toList i = true := by kernel_rfl)
  (hw : Region.wanted oi (yielded ops a.tmps) = true := by rfl) (hy : ∀ w, S w → (execOp a.eval oi).run P w = .ok (.value v) w := by intro w'; (try simp only [and_imp]); intros; go_simp; first | done | with_reducible rfl)
  (ha : a.put (some N) v = a' := by simp only [Act.put, sI_, s0_, s1_, zat, zaM]; first | done | rfl)
  (hQ : ∀ c a w, Q (.panic c) (a.put oi.dst v) w → Q (.panic c) a w := by exact fun _ _ _ h => h) : zC P md ops Q S ds (fuel + 1) (bl_ n m) a w :=
 take_ _ hi hN (take_ofW HT.o HW.o hc) hQ (Or.inl ⟨hw, hy⟩) hS ha h
theorem p1_ {p q : Prop} (i : Nat) (x : q) (f : Arg i → q → p := by intro a_ q_; (first | refine pa_ a_ ?_ | refine ta_ a_ ?_); exact q_) : p := f ⟨⟩ x
theorem p2_ {p q : Prop} (i j : Nat) (x : q) (f : Arg i → Arg j → q → p := by intro a_ b_ q_; (first | refine pa_ a_ ?_ | refine ta_ a_ ?_); (first | refine pa_ b_ ?_ | refine ta_ b_ ?_); exact q_) : p := f ⟨⟩ ⟨⟩ x
theorem p4_ {p q : Prop} (i j k l : Nat) (x : q) (f : Arg i → Arg j → Arg k → Arg l → q → p := by intro a_ b_ c_ d_ q_; (first | refine pa_ a_ ?_ | refine ta_ a_ ?_); (first | refine pa_ b_ ?_ | refine ta_ b_ ?_); (first | refine pa_ c_ ?_ | refine ta_ c_ ?_); (first | refine pa_ d_ ?_ | refine ta_ d_ ?_); exact q_) : p := f ⟨⟩ ⟨⟩ ⟨⟩ ⟨⟩ x
/-- A call of a Go function. -/
theorem ca_ {n m : Nat} {f : FuncId} {fn : Func} {as_ : Array Operand} {ts : Array TypeId} {N : Tmp} (i : Nat) (hf : P.funcs[f]? = some fn) (args : Array Value)
  (h : Calls P f args w fun e w' => ∃ v, e = .returned v ∧ S w' ∧ (S w' → zC P md ops Q S ds fuel (bl_ n (m + 2 ^ i)) (a.put (some N) v) w'))
  (HT : ze (zbc md ops = T) := by exact HT_) (hi : ops[i]? = some oi := by rfl) (hN : oi.dst = some N := by rfl) (hc : (readyT T.2 (bl_ n m).toList == [i] && (bl_ n m).toList.set i true == (bl_ n (m + 2 ^ i)).toList) = true := by kernel_rfl) (hd : i ∉ ds := by decide)
  (hw : Region.wanted oi (yielded ops a.tmps) = true := by rfl) (hname : (fn.name == "runtime.NumGoroutine") = false := by kernel_rfl) (hb : fn.body.isSome = true := by rfl)
  (hop : oi.op = .call { callee := .value (.func f), args := as_, argTypes := ts } := by rfl) (hargs : as_.map a.eval = args := by (try simp only [List.map_toArray, List.map_cons, List.map_nil]); first | done | rfl) : zC P md ops Q S ds (fuel + 1) (bl_ n m) a w :=
 one_ _ hi hN (zaY HT.o hc) hd fun K hK => goes_ hf hname hb args hw hN hop hargs (h.mono fun e w' ⟨v, e1, h1, h2⟩ => ⟨v, e1, hK.out _ _ h1 h2⟩)
end
end Go.Proofs.YtlidbaejhmamjaaW.PrintLast
namespace Go.Proofs.Ytlidbaejhmamjaa.RM
open Go.RowKit Go.Proofs.YtlidbaejhmamjaaW.PrintWords Go.Proofs.YtlidbaejhmamjaaW.PrintLast Go.Proofs.YtlidbaejhmamjaaW.PrintMore Go.Proofs.Ytlidbaejhmamjaa.PB Go.Proofs.Ytlidbaejhmamjaa.LA Go.Proofs.Ytlidbaejhmamjaa.AC Go.Proofs.Ytlidbaejhmamjaa.LW Go.Proofs.Ytlidbaejhmamjaa.SL Go.Proofs.Ytlidbaejhmamjaa.NW Go.Proofs.Ytlidbaejhmamjaa.TC
def pst.T1 : Bool × List (List Nat × List Nat) := (true, [([], []), ([0], [0]), ([], []), ([1, 2, 1], [1, 2]), ([3, 3], [3]), ([4], [4]), ([5, 4], [4, 5]), ([4], [4]), ([7, 4], [4, 7]), ([6, 8, 4, 4], [4, 6, 8]), ([4, 9], [4, 9]), ([10, 9], [10]), ([11], [11]), ([12, 11], [11, 12]), ([11], [11]), ([14, 11], [11, 14]), ([13, 15, 11, 11], [11, 13, 15]), ([11, 16], [11, 16]), ([17, 16], [17]), ([18], [18]), ([19, 18], [18, 19]), ([18], [18]), ([21, 18], [18, 21]), ([20, 22, 18, 18], [18, 20, 22]), ([18, 23], [18, 23]), ([24, 23, 0, 1, 2, 3, 4, 5, 6, 7, 8, 9, 10, 11, 12, 13, 14, 15, 16, 17, 18, 19, 20, 21, 22, 23, 24], [24])])
def pst.B1 : List Nat := [0, 1, 0, 7, 15, 31, 63, 31, 159, 511, 1023, 2047, 4095, 8191, 4095, 20479, 65535, 131071, 262143, 524287, 1048575, 524287, 2621439, 8388607, 16777215, 33554431]
theorem pst.tab1 : zbc .any (opsOf Try.f36 1) = pst.T1 := by kernel_rfl
theorem pst.bits1 : zal pst.T1.2 pst.B1 = true := by kernel_rfl
theorem pstands {v1 v2 v4 : Value} {e1 e2 e4 : Option Addr} {f1 f2 f4 : Nat} {l1 : List Int} {l2 l4 : List (List Int)} {y3 y5 y6 y7 : Int} {n1 n2 n4 : Nat} (w : World) (hn1 : n1 = l1.length) (hn2 : n2 = l2.length) (hn4 : n4 = l4.length)
  (oc : ∀ w', Below w.heap.size w w' → Calls Try.prog 28 #[.agg #[v1, v2, .int .i64 y3, v4, .int .i64 y5, .int .i64 y6, .int .i64 y7]] w' fun e w'' => ∃ a1 c1 a2 c2 a4 c4, e = .returned (.agg #[.slice a1 l1.length c1, .slice a2 l2.length c2, .int .i64 y3, .slice a4 l4.length c4, .int .i64 y5, .int .i64 y6, .int .i64 y7]) ∧ ((Kd.int .u64).C w'' a1 l1.length l1 ∧ dU.C w'' a2 l2.length l2 ∧ dU.C w'' a4 l4.length l4) ∧ Below w'.heap.size w' w'')
  (k1 : ∀ w', Below w.heap.size w w' → Calls Try.prog 62 #[v1, .slice e1 l1.length f1] w' fun e w'' => e = .returned (.bool true) ∧ zag w' w'')
  (k2 : ∀ w', Below w.heap.size w w' → Calls Try.prog 63 #[v2, .slice e2 l2.length f2] w' fun e w'' => e = .returned (.bool true) ∧ zag w' w'')
  (k4 : ∀ w', Below w.heap.size w w' → Calls Try.prog 63 #[v4, .slice e4 l4.length f4] w' fun e w'' => e = .returned (.bool true) ∧ zag w' w'')
  (q : (Kd.int .u64).C w e1 l1.length l1 ∧ dU.C w e2 l2.length l2 ∧ dU.C w e4 l4.length l4) :
  Calls Try.prog 36 #[.agg #[v1, v2, .int .i64 y3, v4, .int .i64 y5, .int .i64 y6, .int .i64 y7], .agg #[.slice e1 n1 f1, .slice e2 n2 f2, .int .i64 y3, .slice e4 n4 f4, .int .i64 y5, .int .i64 y6, .int .i64 y7]] w fun e w' => e = .returned (.bool true) ∧ Below w.heap.size w w' := by
 subst hn1 hn2 hn4; have hu := Try.underlying65; have hu2 := Try.underlying69; have OC := J oc; have C1 := J k1; have C2 := J k2; have C4 := J k4; have QQ := J q; clear oc k1 k2 k4 q; go_enter Try.func36, Try.ntmps36
 go_wp2_with (first
  | ((with_reducible refine zf (N := 2) rfl ?_); refine zah 2 (cs := #[v1, v2, .int .i64 y3, v4, .int .i64 y5, .int .i64 y6, .int .i64 y7]) (t := 65) ?_; intro g1 aD w1 aC aA; have HB := J aA; have K1 := J aC; clear aD aC aA)
  | ((with_reducible refine zf (N := 3) rfl ?_); refine zah 3 (cs := #[.slice e1 l1.length f1, .slice e2 l2.length f2, .int .i64 y3, .slice e4 l4.length f4, .int .i64 y5, .int .i64 y6, .int .i64 y7]) (t := 69) ?_; intro g2 aD w2 aC aA; replace HB := J (za HB.o aA); replace K1 := J (zd K1.o aA); have K2 := J aC; clear aD aC aA)
  | fail)
 have SK := J fun w' (hb : Below w2.heap.size w2 w') => And.intro (bx_ hb (cz_ K1.o 0 rfl)) (And.intro (bx_ hb (cz_ K1.o 1 rfl)) (And.intro (bx_ hb (cz_ K1.o 2 rfl)) (And.intro (bx_ hb (cz_ K1.o 3 rfl)) (And.intro (bx_ hb (cz_ K1.o 4 rfl)) (And.intro (bx_ hb (cz_ K1.o 5 rfl)) (And.intro (bx_ hb (cz_ K1.o 6 rfl)) (And.intro (bx_ hb (cz_ K2.o 0 rfl)) (And.intro (bx_ hb (cz_ K2.o 1 rfl)) (And.intro (bx_ hb (cz_ K2.o 2 rfl)) (And.intro (bx_ hb (cz_ K2.o 3 rfl)) (And.intro (bx_ hb (cz_ K2.o 4 rfl)) (And.intro (bx_ hb (cz_ K2.o 5 rfl)) (bx_ hb (cz_ K2.o 6 rfl))))))))))))))
 refine bg_ SK (Below.refl _ _) pst.tab1 pst.bits1 (ds := []) fun v0 HV hHeld HT_ HW_ => ?_
 refine p2_ 0 2 ?_; refine ca_ 1 Try.func28 _ ?_; refine (OC.o v0 (za HB.o HV.o)).mono ?_; rintro e_ v1 ⟨a1, c1, a2, c2, a4, c4, rfl, hq, aA⟩; replace HV := J (za HV.o aA); have RQ := J hq; clear aA hq; refine ⟨_, rfl, SK.o _ HV.o, fun hHeld => ?_⟩; refine nm_ ?_; refine ca_ 3 Try.func61 _ ?_; refine (same61 v1 RQ.o.1 RQ.o.2.1 RQ.o.2.2 (Kd.zm QQ.o.1 (za HB.o HV.o)) (Kd.zm QQ.o.2.1 (za HB.o HV.o)) (Kd.zm QQ.o.2.2 (za HB.o HV.o))).mono ?_; rintro e_ v2 ⟨rfl, aA⟩; replace HV := J (za HV.o aA); clear aA; refine ⟨_, rfl, SK.o _ HV.o, fun hHeld => ?_⟩; refine nm_ ?_; refine p4_ 4 5 6 7 ?_; refine p1_ 8 ?_; refine ca_ 9 Try.func62 _ ?_; refine (C1.o _ (za HB.o HV.o)).mono ?_; rintro e_ v3 ⟨rfl, aB⟩; replace HV := J (za HV.o aB.below); clear aB; refine ⟨_, rfl, SK.o _ HV.o, fun hHeld => ?_⟩; refine nm_ ?_; refine p4_ 10 11 12 13 ?_; refine p2_ 14 15 ?_; refine ca_ 16 Try.func63 _ ?_; refine (C2.o _ (za HB.o HV.o)).mono ?_; rintro e_ v4 ⟨rfl, aB⟩; replace HV := J (za HV.o aB.below); clear aB; refine ⟨_, rfl, SK.o _ HV.o, fun hHeld => ?_⟩; refine nm_ ?_; refine p4_ 17 18 19 20 ?_; refine p2_ 21 22 ?_; refine ca_ 23 Try.func63 _ ?_; refine (C4.o _ (za HB.o HV.o)).mono ?_; rintro e_ v5 ⟨rfl, aB⟩; replace HV := J (za HV.o aB.below); clear aB; refine ⟨_, rfl, SK.o _ HV.o, fun hHeld => ?_⟩; refine nm_ ?_; refine p2_ 24 25 ?_; refine zaL (zad HT_.o yK_) ?_; clear hHeld; go_wp2_with fail
 go_ret; exact ⟨rfl, za HB.o HV.o⟩
end Go.Proofs.Ytlidbaejhmamjaa.RM
namespace Go.Proofs.YtlidbaejhmamjaaW.PrintLast
open Go.RowKit
open Go.Proofs.YtlidbaejhmamjaaW.PrintWords (ze)
section
variable {P : Program} {ops : Array Oper} {Q : Exit → Act → World → Prop} {md : Region.Mode} {S : World → Prop} {ds : List Nat} {T : Bool × List (List Nat × List Nat)} {oi : Oper} {fuel : Nat} {a : Act} {w : World}
/-- A box made. -/
theorem bo_ {n m : Nat} {N : Tmp} {cs : Array Value} {t : TypeId} (i : Nat) (h : ∀ g w1, g = w.heap.size → w1.heap[g]? = some (.cells cs t (0, 0)) → Below w.heap.size w w1 → S w1 ∧ (S w1 → zC P md ops Q S ds fuel (bl_ n (m + 2 ^ i)) (a.put (some N) (.pointer (some ⟨g, 0, none⟩))) w1))
  (HT : ze (zbc md ops = T) := by exact HT_) (hi : ops[i]? = some oi := by rfl) (hN : oi.dst = some N := by rfl) (hc : (readyT T.2 (bl_ n m).toList == [i] && (bl_ n m).toList.set i true == (bl_ n (m + 2 ^ i)).toList) = true := by kernel_rfl) (hd : i ∉ ds := by decide)
  (hw : Region.wanted oi (yielded ops a.tmps) = true := by rfl) (hr : (execOp a.eval oi).run P w = .ok (.value (.pointer (some ⟨w.heap.size, 0, none⟩))) (w.alloc (.cells cs t (0, 0))) := by first | (go_simp; done) | (go_simp; rfl)) : zC P md ops Q S ds (fuel + 1) (bl_ n m) a w :=
 one_ _ hi hN (zaY HT.o hc) hd fun K hK => value_ hw hN hr (let ⟨h1, h2⟩ := h _ _ rfl (PrintWords.blk_new w _) (PrintWords.z7 (Below.refl _ _) _); hK.out _ _ h1 h2)
end
end Go.Proofs.YtlidbaejhmamjaaW.PrintLast
namespace Go.Proofs.Ytlidbaejhmamjaa.RM
open Go.RowKit Go.Proofs.YtlidbaejhmamjaaW.PrintWords Go.Proofs.YtlidbaejhmamjaaW.PrintLast Go.Proofs.YtlidbaejhmamjaaW.PrintMore Go.Proofs.Ytlidbaejhmamjaa.PB Go.Proofs.Ytlidbaejhmamjaa.LA Go.Proofs.Ytlidbaejhmamjaa.AC Go.Proofs.Ytlidbaejhmamjaa.LW Go.Proofs.Ytlidbaejhmamjaa.SL Go.Proofs.Ytlidbaejhmamjaa.NW Go.Proofs.Ytlidbaejhmamjaa.TC
theorem bp_ {w : World} {g t : Nat} {l : List Value} (h : w.heap[g]? = some (.cells l.toArray t (0, 0))) (i : Nat) (u : Value) : (w.setCell ⟨g, i, none⟩ u).heap[g]? = some (.cells (l.set i u).toArray t (0, 0)) := blk_put h i u (by simp)
def Rs (w : World) (b : Nat) (l : List (Value × List Int)) : Prop := ∀ p, p ∈ l → Kd.R (Kd.int .i64) 3 w b (fun _ => True) p.1 p.2
theorem Rs.step {w w' : World} {b : Nat} {l : List (Value × List Int)} (h : Rs w b l) (hb : Below w.heap.size w w') : Rs w' b l := fun p hp => Kd.zF (h p hp) hb
theorem Rs.put {w w' : World} {b g t : Nat} {cs : Array Value} {l : List (Value × List Int)} (h : Rs w b l) (k : w.heap[g]? = some (.cells cs t (0, 0))) (hg : w.grownBy w' (some g)) (ht : 3 ≠ t := by decide) : Rs w' b l := fun p hp => TC.r_put (h p hp) k (by intro q hq; rw [List.mem_singleton.1 hq]; exact ht) hg
theorem Rs.add {w w' : World} {b b' : Nat} {ok : Nat → Prop} {v : Value} {xs : List Int} {l : List (Value × List Int)} (h : Rs w b l) (hb : Below w.heap.size w w') (r : Kd.R (Kd.int .i64) 3 w' b' ok v xs) (hle : b ≤ b') : Rs w' b ((v, xs) :: l) := fun p hp => by
 rcases List.mem_cons.1 hp with rfl | hp
 ·exact Kd.zB (Kd.z9 r hle) (fun _ _ => trivial)
 ·exact h.step hb p hp
/-- A list told by a header. -/
def Lx (w : World) (xs : List Int) (v : Value) : Prop := ∃ A c, v = .slice A xs.length c ∧ Rd w A c xs
theorem Lx.of {w : World} {b : Nat} {A : Option Addr} {n c : Nat} {xs : List Int} (r : Kd.R (Kd.int .i64) 3 w b (fun _ => True) (.slice A n c) (xs ++ mk 6)) : Lx w xs (.slice A xs.length c) := by
 obtain ⟨h1, h2, h3⟩ := Kd.zK r; rw [List.length_append] at h1; exact ⟨A, c, rfl, C_pre h3, by omega⟩
theorem Lk.of {w : World} {b : Nat} {A B : Option Addr} {n c d : Nat} {xs : List Int} (hx : xs.length ≤ 2000000) (r : Kd.R (Kd.int .i64) 3 w b (fun _ => True) (.slice A n c) (xs ++ mk 6)) (q : Kd.R (Kd.int .i64) 3 w b (fun _ => True) (.slice B xs.length d) xs) : Lk w xs (.slice A n c) (.slice B xs.length d) := by
 obtain ⟨h1, h2, h3⟩ := Kd.zK r; exact ⟨A, n, c, B, d, rfl, rfl, by rw [h1]; exact h3, (Kd.zK q).2.2, hx⟩
def Ld (w : World) (g : Nat) (x1 x2 x3 x4 : List Int) : Prop := ∃ v0 v1 v2 v3 v4 v5 v6 v7 v8 v9 v10 v11, w.heap[g]? = some (.cells #[v0, v1, v2, v3, v4, v5, v6, v7, v8, v9, v10, v11] 82 (0, 0)) ∧ (Lk w x1 v4 v8 ∧ Lk w x2 v5 v9 ∧ Lk w x3 v6 v10 ∧ Lk w x4 v7 v11) ∧ Lx w x1 v0 ∧ Lx w x2 v1 ∧ Lx w x3 v2 ∧ Lx w x4 v3
theorem Lx.step {w w' : World} {xs : List Int} {v : Value} (h : Lx w xs v) (hb : Below w.heap.size w w') : Lx w' xs v := let ⟨A, c, e, r⟩ := h; ⟨A, c, e, r.step hb⟩
theorem Ld.step {w w' : World} {g : Nat} {x1 x2 x3 x4 : List Int} (h : Ld w g x1 x2 x3 x4) (hb : Below w.heap.size w w') : Ld w' g x1 x2 x3 x4 := by
 obtain ⟨v0, v1, v2, v3, v4, v5, v6, v7, v8, v9, v10, v11, k, ⟨h1, h2, h3, h4⟩, h5, h6, h7, h8⟩ := h; exact ⟨v0, v1, v2, v3, v4, v5, v6, v7, v8, v9, v10, v11, zd k hb, ⟨h1.step hb, h2.step hb, h3.step hb, h4.step hb⟩, h5.step hb, h6.step hb, h7.step hb, h8.step hb⟩
def lend.T1 : Bool × List (List Nat × List Nat) := (true, [([], []), ([0], [0]), ([1], [1]), ([], []), ([3], [3]), ([4, 2], [4]), ([], []), ([6, 5], [6]), ([], []), ([8, 7], [8]), ([], []), ([10, 9], [10]), ([2, 5, 7, 9, 11], [2, 5, 7, 9, 11]), ([12], [12]), ([13, 11, 0, 1, 2, 3, 4, 5, 6, 7, 8, 9, 10, 11, 12, 13], [13])])
def lend.B1 : List Nat := [0, 1, 3, 0, 8, 31, 0, 127, 0, 511, 0, 2047, 4095, 8191, 16383]
theorem lend.tab1 : zbc .any (opsOf Try.f33 1) = lend.T1 := by kernel_rfl
theorem lend.bits1 : zal lend.T1.2 lend.B1 = true := by kernel_rfl
def lend.T4 : Bool × List (List Nat × List Nat) := (true, [([], []), ([], []), ([1], [1]), ([2], [2]), ([3], [3]), ([], []), ([5], [5]), ([6], [6]), ([4, 7], [4, 7]), ([], []), ([9], [9]), ([10], [10]), ([11], [11]), ([], []), ([13], [13]), ([14], [14]), ([12, 15], [12, 15]), ([8, 16], [8, 16]), ([0, 0, 1, 2, 3, 4, 5, 6, 7, 8, 9, 10, 11, 12, 13, 14, 15, 16, 17], [0]), ([18, 0, 1, 2, 3, 4, 5, 6, 7, 8, 9, 10, 11, 12, 13, 14, 15, 16, 17], [18]), ([19, 17, 0, 1, 2, 3, 4, 5, 6, 7, 8, 9, 10, 11, 12, 13, 14, 15, 16, 17], [17, 19])])
def lend.B4 : List Nat := [0, 0, 2, 6, 14, 0, 32, 96, 254, 0, 512, 1536, 3584, 0, 8192, 24576, 65024, 131070, 262143, 524287, 1048575]
theorem lend.tab4 : zbc .any (opsOf Try.f33 4) = lend.T4 := by kernel_rfl
theorem lend.bits4 : zal lend.T4.2 lend.B4 = true := by kernel_rfl
theorem lend_calls {A0 A1 A2 A3 : Option Addr} {c0 c1 c2 c3 : Nat} {lv at_ sg es : List Int} (w : World) (r0 : Rd w A0 c0 lv) (r1 : Rd w A1 c1 at_) (r2 : Rd w A2 c2 sg) (r3 : Rd w A3 c3 es) (hn : lv.length ≤ 2000000 ∧ at_.length ≤ 2000000 ∧ sg.length ≤ 2000000 ∧ es.length ≤ 2000000) :
  Calls Try.prog 33 #[.agg #[.slice A0 lv.length c0, .slice A1 at_.length c1], .slice A2 sg.length c2, .slice A3 es.length c3] w fun e w' => ∃ g : Nat, e = .returned (.pointer (some ⟨g, 0, none⟩)) ∧ Ld w' g lv at_ sg es ∧ Below w.heap.size w w' := by
 have hu := Try.underlying24; have hu2 := Try.underlying82; have hu3 := Try.underlying22; have R0 := J r0; have R1 := J r1; have R2 := J r2; have R3 := J r3; have HN := J hn; clear r0 r1 r2 r3 hn; go_enter Try.func33, Try.ntmps33
 go_wp2_with (first
  | ((with_reducible refine zf (N := 3) rfl ?_); refine zah 3 (cs := #[.slice A0 lv.length c0, .slice A1 at_.length c1]) (t := 24) ?_; intro g3 hg_ w1 hw_ hb_; have HB := J hb_; have K3 := J hw_; have L3 := J (show w.heap.size ≤ g3 by omega); clear hg_ hw_ hb_)
  | fail)
 have SK := J fun w' (hb : Below w1.heap.size w1 w') => And.intro (bx_ hb (cz_ K3.o 0 rfl)) (bx_ hb (cz_ K3.o 1 rfl))
 have RS := J (show Rs w1 w.heap.size [] from fun _ h => by simp at h); refine bg_ SK (Below.refl _ _) lend.tab1 lend.bits1 (ds := []) fun v0 HV hHeld HT_ HW_ => ?_
 replace RS := J (RS.o.step HV.o); refine p4_ 0 1 3 4 ?_; refine p2_ 6 8 ?_; refine p1_ 10 ?_; refine ca_ 2 Try.func57 _ ?_; refine (roomy_calls _ (R0.o.step (za HB.o HV.o)) HN.o.1).mono ?_; rintro e_ v1 ⟨B4, d4, rfl, hr, hb⟩; have s4 := eq_true (show lv.length ≤ d4 by have := (Kd.zK hr).2.1; omega); replace RS := J (RS.o.add hb hr (za HB.o HV.o).size); replace HV := J (za HV.o hb); clear hr hb; refine ⟨_, rfl, SK.o _ HV.o, fun hHeld => ?_⟩; refine nm_ ?_; refine ca_ 5 Try.func57 _ ?_; refine (roomy_calls _ (R1.o.step (za HB.o HV.o)) HN.o.2.1).mono ?_; rintro e_ v2 ⟨B5, d5, rfl, hr, hb⟩; have s5 := eq_true (show at_.length ≤ d5 by have := (Kd.zK hr).2.1; omega); replace RS := J (RS.o.add hb hr (za HB.o HV.o).size); replace HV := J (za HV.o hb); clear hr hb; refine ⟨_, rfl, SK.o _ HV.o, fun hHeld => ?_⟩; refine nm_ ?_; refine ca_ 7 Try.func57 _ ?_; refine (roomy_calls _ (R2.o.step (za HB.o HV.o)) HN.o.2.2.1).mono ?_; rintro e_ v3 ⟨B6, d6, rfl, hr, hb⟩; have s6 := eq_true (show sg.length ≤ d6 by have := (Kd.zK hr).2.1; omega); replace RS := J (RS.o.add hb hr (za HB.o HV.o).size); replace HV := J (za HV.o hb); clear hr hb; refine ⟨_, rfl, SK.o _ HV.o, fun hHeld => ?_⟩; refine nm_ ?_; refine ca_ 9 Try.func57 _ ?_; refine (roomy_calls _ (R3.o.step (za HB.o HV.o)) HN.o.2.2.2).mono ?_; rintro e_ v4 ⟨B7, d7, rfl, hr, hb⟩; have s7 := eq_true (show es.length ≤ d7 by have := (Kd.zK hr).2.1; omega)
 replace RS := J (RS.o.add hb hr (za HB.o HV.o).size); replace HV := J (za HV.o hb); clear hr hb; refine ⟨_, rfl, SK.o _ HV.o, fun hHeld => ?_⟩; refine nm_ ?_; refine ca_ 11 Try.func26 _ ?_; refine (zam.calls _ _ lv _ _ at_ lv at_ v4 (R0.o.step (za HB.o HV.o)).row R0.o.cap (R1.o.step (za HB.o HV.o)).row R1.o.cap (by have := HN.o; unfold zam.f; rw [if_pos (by simp; omega), if_pos (by simp; omega)]; rfl)).mono ?_; rintro e_ v5 ⟨x8, x9, rfl, h8, h9, hb⟩; obtain ⟨B8, d8, rfl⟩ := Kd.zJ h8; obtain ⟨B9, d9, rfl⟩ := Kd.zJ h9; replace RS := J ((RS.o.add hb h8 (za HB.o HV.o).size).add (Below.refl _ _) h9 (za HB.o HV.o).size); replace HV := J (za HV.o hb); clear h8 h9 hb; refine ⟨_, rfl, SK.o _ HV.o, fun hHeld => ?_⟩; refine nm_ ?_; refine p1_ 12 ?_; refine bo_ 13 fun g v6 hg hk hb => ?_
 have LG := J (show w.heap.size ≤ g ∧ g ≠ g3 by have := zac K3.o; have := HV.o.size; have := HB.o.size; omega); clear hg; replace RS := J (RS.o.step hb); replace HV := J (za HV.o hb); have KG := J hk; refine ⟨SK.o _ HV.o, fun hHeld => ?_⟩; replace HB := J (za HB.o HV.o); replace K3 := J (zd K3.o HV.o); clear HV SK; refine nm_ ?_; refine p1_ 14 ?_; refine zaL (zad HT_.o yK_) ?_; clear hHeld HT_ HW_; have aB : v6.cell? ⟨g, 10, none⟩ = some (.slice none 0 0) := cz_ KG.o 10 rfl
 go_wp2_with (first
  | ((with_reducible refine zf (N := 28) rfl ?_); refine ar_ 26 27 22 3 8 0 (R2.o.step HB.o).row (by have := HN.o; omega) ?_ info3; intro v1 u1 r1 b1; obtain ⟨B10, d10, rfl⟩ := Kd.zJ r1.o; replace RS := J (RS.o.add b1.o r1.o HB.o.size); replace KG := J (zd KG.o b1.o); replace K3 := J (zd K3.o b1.o); replace HB := J (za HB.o b1.o); clear r1 b1; clear aB; have aB : u1.cell? ⟨g, 10, none⟩ = some (.slice none 0 0) := cz_ KG.o 10 rfl; have f10 := zb KG.o 10; have aC : u1.cell? ⟨g, 11, none⟩ = some (.slice none 0 0) := cz_ KG.o 11 rfl)
  | ((with_reducible refine zf (N := 37) rfl ?_); have hg := zx u1 g 10 (.slice B10 sg.length d10); replace RS := J (RS.o.put KG.o hg); replace K3 := J (zu hg K3.o (fun e => LG.o.2 (Option.some.inj e).symm)); replace KG := J (bp_ KG.o 10 (.slice B10 sg.length d10)); replace HB := J (HB.o.grown hg HB.o.size (fun k_ aA => by cases aA; exact LG.o.1)); clear hg; refine ar_ 35 36 22 3 8 0 (R3.o.step HB.o).row (by have := HN.o; omega) ?_ info3; intro v2 u2 r1 b1; obtain ⟨B11, d11, rfl⟩ := Kd.zJ r1.o; replace RS := J (RS.o.add b1.o r1.o HB.o.size); replace KG := J (zd KG.o b1.o); replace K3 := J (zd K3.o b1.o); replace HB := J (za HB.o b1.o); clear r1 b1; clear aB aC f10; have aC : u2.cell? ⟨g, 11, none⟩ = some (.slice none 0 0) := cz_ KG.o 11 rfl; have f11 := zb KG.o 11)
  | fail)
 have hg := zx u2 g 11 (.slice B11 es.length d11); replace RS := J (RS.o.put KG.o hg); replace K3 := J (zu hg K3.o (fun e => LG.o.2 (Option.some.inj e).symm)); replace KG := J (bp_ KG.o 11 (.slice B11 es.length d11)); replace HB := J (HB.o.grown hg HB.o.size (fun k_ aA => by cases aA; exact LG.o.1)); clear hg; clear aC f11; have SK := J fun w' (hb : Below (u2.setCell ⟨g, 11, none⟩ (.slice B11 es.length d11)).heap.size (u2.setCell ⟨g, 11, none⟩ (.slice B11 es.length d11)) w') => And.intro (bx_ hb (cz_ K3.o 0 rfl)) (And.intro (bx_ hb (cz_ K3.o 1 rfl)) (And.intro (bx_ hb (cz_ KG.o 4 rfl)) (bx_ hb (cz_ KG.o 5 rfl))))
 refine bg_ SK (Below.refl _ _) lend.tab4 lend.bits4 (ds := [20]) fun v0 HV hHeld HT_ HW_ => ?_
 replace RS := J (RS.o.step HV.o); replace KG := J (zd KG.o HV.o); replace HB := J (za HB.o HV.o); refine p4_ 0 1 2 3 ?_; refine p4_ 4 5 6 7 ?_; refine p4_ 8 9 10 11 ?_; refine p4_ 12 13 14 15 ?_; refine p4_ 16 17 18 19 ?_; refine last_ (i := 20) (N := none) (bl_ 21 2097151) rfl rfl (zaY HT_.o yK_) yD_ (fun K hK => ?_); have e0 : v0.cell? ⟨g, 0, none⟩ = some (.slice none 0 0) := cz_ KG.o 0 rfl; have z0 := zb KG.o 0; have e1 : v0.cell? ⟨g, 1, none⟩ = some (.slice none 0 0) := cz_ KG.o 1 rfl; have z1 := zb KG.o 1; have e2 : v0.cell? ⟨g, 2, none⟩ = some (.slice none 0 0) := cz_ KG.o 2 rfl; have z2 := zb KG.o 2; have e3 : v0.cell? ⟨g, 3, none⟩ = some (.slice none 0 0) := cz_ KG.o 3 rfl; have z3 := zb KG.o 3; refine skip_ (w1 := ?_) (by rfl) rfl ?_ ?_; rotate_left; (focus (go_simp; first | done | rfl)); refine hK.out _ _ ?_; clear hK K; refine zaL (zad HT_.o yK_) ?_; clear hHeld HT_ HW_; have e6 : v0.cell? ⟨g, 6, none⟩ = some (.slice B6 (sg.length + 6) d6) := cz_ KG.o 6 rfl; have e7 : v0.cell? ⟨g, 7, none⟩ = some (.slice B7 (es.length + 6) d7) := cz_ KG.o 7 rfl; go_wp2_with fail; have hg := zx (v0) g 0 (.slice B4 lv.length d4); replace RS := J (RS.o.put KG.o hg); replace KG := J (bp_ KG.o 0 (.slice B4 lv.length d4)); replace HB := J (HB.o.grown hg HB.o.size (fun k_ aA => by cases aA; exact LG.o.1)); clear hg
 have hg := zx ((v0).setCell ⟨g, 0, none⟩ (.slice B4 lv.length d4)) g 1 (.slice B5 at_.length d5); replace RS := J (RS.o.put KG.o hg); replace KG := J (bp_ KG.o 1 (.slice B5 at_.length d5)); replace HB := J (HB.o.grown hg HB.o.size (fun k_ aA => by cases aA; exact LG.o.1)); clear hg; have hg := zx (((v0).setCell ⟨g, 0, none⟩ (.slice B4 lv.length d4)).setCell ⟨g, 1, none⟩ (.slice B5 at_.length d5)) g 2 (.slice B6 sg.length d6); replace RS := J (RS.o.put KG.o hg); replace KG := J (bp_ KG.o 2 (.slice B6 sg.length d6)); replace HB := J (HB.o.grown hg HB.o.size (fun k_ aA => by cases aA; exact LG.o.1)); clear hg; have hg := zx ((((v0).setCell ⟨g, 0, none⟩ (.slice B4 lv.length d4)).setCell ⟨g, 1, none⟩ (.slice B5 at_.length d5)).setCell ⟨g, 2, none⟩ (.slice B6 sg.length d6)) g 3 (.slice B7 es.length d7); replace RS := J (RS.o.put KG.o hg); replace KG := J (bp_ KG.o 3 (.slice B7 es.length d7)); replace HB := J (HB.o.grown hg HB.o.size (fun k_ aA => by cases aA; exact LG.o.1)); clear hg; go_ret
 exact ⟨g, rfl, ⟨_, _, _, _, _, _, _, _, _, _, _, _, KG.o, ⟨Lk.of HN.o.1 (RS.o _ (.tail _ (.tail _ (.tail _ (.tail _ (.tail _ (.tail _ (.tail _ (.head _))))))))) (RS.o _ (.tail _ (.tail _ (.tail _ (.head _))))), Lk.of HN.o.2.1 (RS.o _ (.tail _ (.tail _ (.tail _ (.tail _ (.tail _ (.tail _ (.head _)))))))) (RS.o _ (.tail _ (.tail _ (.head _)))), Lk.of HN.o.2.2.1 (RS.o _ (.tail _ (.tail _ (.tail _ (.tail _ (.tail _ (.head _))))))) (RS.o _ (.tail _ (.head _))), Lk.of HN.o.2.2.2 (RS.o _ (.tail _ (.tail _ (.tail _ (.tail _ (.head _)))))) (RS.o _ (.head _))⟩, Lx.of (RS.o _ (.tail _ (.tail _ (.tail _ (.tail _ (.tail _ (.tail _ (.tail _ (.head _))))))))), Lx.of (RS.o _ (.tail _ (.tail _ (.tail _ (.tail _ (.tail _ (.tail _ (.head _)))))))), Lx.of (RS.o _ (.tail _ (.tail _ (.tail _ (.tail _ (.tail _ (.head _))))))), Lx.of (RS.o _ (.tail _ (.tail _ (.tail _ (.tail _ (.head _))))))⟩, HB.o⟩
end Go.Proofs.Ytlidbaejhmamjaa.RM
namespace Go.Proofs.Ytlidbaejhmamjaa.RM
open Go.RowKit YtlidbaejhmamjaaW.PrintWords YtlidbaejhmamjaaW.PrintLast YtlidbaejhmamjaaW.PrintMore PB LA AC LW SL NW TC
theorem kl_kff {w : World} {u : List (List Nat)} {v : Value} (m : kl.K w (LP u, tw) [v]) : ∃ b e, v = .slice b u.length e ∧ kff.C w b u.length u := by
 obtain ⟨b, e, h1, _, r⟩ := mark_get m; have r := C_pre r; have hl : (LP u).length = u.length := by simp [LP]
 refine ⟨b, e, by rw [h1]; simp [LP], rfl, by have := r.2.1; rw [hl] at this; exact this, fun hn => ?_⟩; obtain ⟨ad, e2, hc⟩ := r.2.2 (by show 0 < (LP u).length; omega); refine ⟨ad, e2, fun j us hj => ?_⟩; obtain ⟨c, hs, hk, hcell⟩ := hc j (us, mf 9) (by simp [LP, hj]); obtain ⟨x, rfl⟩ := List.length_eq_one_iff.1 hs; obtain ⟨A, c, rfl, hl, q⟩ := mark_get hk; exact ⟨_, rfl, ⟨A, c, rfl, Nat.le_trans (Nat.le_add_right _ _) hl, C_pre q⟩, hcell⟩
theorem pst_c {u1 : List Nat} {u2 u4 : List (List Nat)} {y3 y5 y6 y7 : Int} {p1 p2 p4 e1 e2 e4 : Option Addr} {i1 i2 i4 f1 f2 f4 n1 n2 n4 : Nat} (w : World) (hn : n1 = (ku u1).length ∧ n2 = (u2.map ku).length ∧ n4 = (u4.map ku).length) (ps : Ps ⟨u1, u2, y3, u4, y5, y6, y7⟩) (yr : Pr w ⟨u1, u2, y3, u4, y5, y6, y7⟩ ⟨p1, i1, p2, i2, p4, i4⟩)
  (mm : km.K w (u1, mf 9) [.slice p1 u1.length i1] ∧ kl.K w (LP u2, tw) [.slice p2 u2.length i2] ∧ kl.K w (LP u4, tw) [.slice p4 u4.length i4]) (qr : (Kd.int .u64).C w e1 (ku u1).length (ku u1) ∧ dU.C w e2 (u2.map ku).length (u2.map ku) ∧ dU.C w e4 (u4.map ku).length (u4.map ku))
  (ul : (u1.length ≤ 300 ∧ u2.length ≤ 300 ∧ u4.length ≤ 300) ∧ (∀ us, us ∈ u2 → us.length ≤ 300) ∧ ∀ us, us ∈ u4 → us.length ≤ 300) :
  Calls Try.prog 36 #[.agg #[.slice p1 u1.length i1, .slice p2 u2.length i2, .int .i64 y3, .slice p4 u4.length i4, .int .i64 y5, .int .i64 y6, .int .i64 y7], .agg #[.slice e1 n1 f1, .slice e2 n2 f2, .int .i64 y3, .slice e4 n4 f4, .int .i64 y5, .int .i64 y6, .int .i64 y7]] w fun e w' => e = .returned (.bool true) ∧ Below w.heap.size w w' := by
 refine pstands w hn.1 hn.2.1 hn.2.2 (fun w1 hb => ?_) (fun w1 hb => ?_) (fun w1 hb => ?_) (fun w1 hb => ?_) qr
 ·refine (ofprop_calls _ _ w1 (yr.step hb) ps).mono ?_; rintro e w2 ⟨q, rfl, h2, h3⟩; exact ⟨q.a1, q.c1, q.a2, q.c2, q.a4, q.c4, rfl, ⟨h2.r1, h2.r2, h2.r4⟩, h3⟩
 ·have h := Kd.zm qr.1 hb; rw [zaA] at h ⊢; exact st62 w1 (km.K_below hb mm.1) h yO_
 ·have h := Kd.zm qr.2.1 hb; rw [List.length_map] at h ⊢; exact st63 w1 (kl.K_below hb mm.2.1) h yO_ (fun us h => by have := ul.2.1 us h; omega)
 ·have h := Kd.zm qr.2.2 hb; rw [List.length_map] at h ⊢; exact st63 w1 (kl.K_below hb mm.2.2) h yO_ (fun us h => by have := ul.2.2 us h; omega)
def room.T9 : Bool × List (List Nat × List Nat) := (true, [([], []), ([0], [0]), ([1], [1]), ([2], [2]), ([], []), ([4], [4]), ([5], [5]), ([6], [6]), ([], []), ([3, 7, 8], [3, 7, 8]), ([9], [9]), ([10], [10]), ([10], [10]), ([11, 9, 0, 1, 2, 3, 4, 5, 6, 7, 8, 9, 10, 11], [11]), ([12, 13, 0, 1, 2, 3, 4, 5, 6, 7, 8, 9, 10, 11, 12, 13], [12])])
def room.B9 : List Nat := [0, 1, 3, 7, 0, 16, 48, 112, 0, 511, 1023, 2047, 2047, 4095, 16383]
theorem room.tab9 : zbc .any (opsOf Try.f10 9) = room.T9 := by kernel_rfl
theorem room.bits9 : zal room.T9.2 room.B9 = true := by kernel_rfl
def room.T15 : Bool × List (List Nat × List Nat) := (true, [([], []), ([0], [0]), ([1], [1]), ([2], [2]), ([], []), ([3, 4], [3, 4]), ([], []), ([], []), ([6, 7, 5], [6, 7]), ([5, 8], [5, 8]), ([9, 8], [9]), ([10], [10]), ([11, 10], [10, 11]), ([12, 10], [10, 12]), ([13, 10], [10, 13]), ([10], [10]), ([15, 10], [10, 15]), ([16, 10], [10, 16]), ([17, 10], [10, 17]), ([10], [10]), ([14, 18, 19, 10, 10], [10, 14, 18, 19]), ([10], [10]), ([10], [10]), ([10], [10]), ([21, 22, 23, 20, 10], [10, 21, 22, 23]), ([20, 24, 10], [10, 20, 24]), ([10, 25], [10, 25]), ([26, 24], [26]), ([27], [27]), ([27], [27]), ([27], [27]), ([27], [27]), ([31, 27], [27, 31]), ([32, 27], [27, 32]), ([33, 27], [27, 33]), ([28, 29, 30, 34, 27, 27], [27, 28, 29, 30, 34]), ([27], [27]), ([36, 35, 27], [27, 36]), ([27], [27]), ([38, 37, 27], [27, 38]), ([27], [27]), ([40, 27], [27, 40]), ([27], [27]), ([37, 39, 41, 42, 39, 27], [27, 37, 39, 41, 42]), ([35, 43, 27], [27, 35, 43]), ([27, 44], [27, 44])])
def room.B15 : List Nat := [0, 1, 3, 7, 0, 31, 0, 0, 255, 511, 1023, 2047, 4095, 8191, 16383, 2047, 34815, 100351, 231423, 2047, 1048575, 2047, 2047, 2047, 16777215, 33554431, 67108863, 134217727, 268435455, 268435455, 268435455, 268435455, 2415919103, 6710886399, 15300820991, 34359738367, 268435455, 137438953471, 268435455, 549755813887, 268435455, 1099780063231, 268435455, 8796093022207, 17592186044415, 35184372088831]
theorem room.tab15 : zbc .any (opsOf Try.f10 15) = room.T15 := by kernel_rfl
theorem room.bits15 : zal room.T15.2 room.B15 = true := by kernel_rfl
theorem room_calls (z : Zn) (h : Zh) (A : Option Addr) (c : Nat) (a : List Nat) (p : Pn) (q : Ph) {A0 : Option Addr} {c0 : Nat} {lv : List Int} {A1 : Option Addr} {c1 : Nat} {at_ : List Int} (k s : Int) {A6 : Option Addr} {c6 : Nat} {sg : List Int} {A7 : Option Addr} {c7 : Nat} {es : List Int} (dp : Int) (w : World)
  (hr : Zr w z h) (hf : Zf z) (hs : Small z) (hzs : Zs z) (ha : kf.C w A a.length a) (hwa : Wf a) (hn : a.length ≤ 2000000) (hp : Pr w p q) (hpc : p.C.length ≤ q.c1) (hpf : Pf p) (r0 : Rd w A0 c0 lv) (r1 : Rd w A1 c1 at_) (r6 : Rd w A6 c6 sg) (r7 : Rd w A7 c7 es) (hi : I64 es)
  (hl : lv.length ≤ 2000000 ∧ at_.length ≤ 2000000 ∧ sg.length ≤ 2000000 ∧ es.length ≤ 2000000) :
  Calls Try.prog 10 #[.agg (zc z h), .slice A a.length c, .agg (pcv p q), .agg #[.slice A0 lv.length c0, .slice A1 at_.length c1], .int .i64 k, .int .i64 s, .slice A6 sg.length c6, .slice A7 es.length c7, .int .i64 dp] w fun e w' => e = .returned (.bool true) ∧ Below w.heap.size w w' := by
 obtain ⟨y1, y2, y3, y4, y5, y6, y7⟩ := p; obtain ⟨b1, j1, b2, j2, b4, j4⟩ := q; have q1 : (y1.take 300).length ≤ 300 ∧ (ct y2).length ≤ 300 ∧ (ct y4).length ≤ 300 := by simp [ct]; omega
 have q2 : ∀ y us, us ∈ ct y → us.length ≤ 300 := fun y us h => by unfold ct at h; rw [List.mem_map] at h; obtain ⟨x, _, rfl⟩ := h; rw [List.length_take]; omega
 have q3 : ∀ us, us ∈ ct y2 → Wf us := fun us h => by unfold ct at h; rw [List.mem_map] at h; obtain ⟨x, hx, rfl⟩ := h; exact fun u hu => hpf.G x (List.mem_of_mem_take hx) u (List.mem_of_mem_take hu)
 have q4 := q2 y4; replace q2 := q2 y2; have hpc : y1.length ≤ j1 := hpc; have pc := fun w1 (x1 : Pr w1 ⟨y1, y2, y3, y4, y5, y6, y7⟩ ⟨b1, j1, b2, j2, b4, j4⟩) => prop_calls (y3 := y3) (y5 := y5) (y6 := y6) (y7 := y7) (c2 := j2) (c4 := j4) w1 x1.r1 hpc x1.r2 x1.r4
 have HP := J hp; clear hp hpc hpf; generalize y1.take 300 = u1 at *
 generalize ct y2 = u2 at *
 generalize ct y4 = u4 at *
 have ps : Ps ⟨u1, u2, y3, u4, y5, y6, y7⟩ := ⟨by simp only; omega, by simp only; omega, fun us h => by have := q2 us h; omega, by simp only; omega, fun us h => by have := q4 us h; omega⟩
 have n0 := hL_len lv at_ s; have n1 := hA_len lv at_ s; have n2 := hB_len lv at_ s; have n3 := eL_len lv at_ sg dp; have c15 := fun A0 A1 c0 c1 => @halve_c A0 A1 c0 c1 lv at_ s
 have c16 := fun A0 A1 c0 c1 => @rhalve_c A0 A1 c0 c1 lv at_ s
 have c17 := fun A0 A1 c0 c1 => @check_c A0 A1 c0 c1 lv at_ k
 have c18 := fun A0 A1 c0 c1 => @rcheck_c A0 A1 c0 c1 lv at_ k
 have c19 := fun A0 A1 c0 c1 => @way_c A0 A1 c0 c1 lv at_
 have c20 := fun A0 A1 c0 c1 => @rway_c A0 A1 c0 c1 lv at_
 have c21 := fun A0 A1 c0 c1 A2 c2 => @ends_c A0 A1 c0 c1 lv at_ A2 c2 sg dp
 have c22 := fun A0 A1 c0 c1 A2 c2 => @rends_c A0 A1 c0 c1 lv at_ A2 c2 sg dp
 obtain ⟨u, hu⟩ : ∃ u, decide (Win lv at_ es dp) = u := ⟨_, rfl⟩
 have c24 := fun A0 A1 c0 c1 A2 c2 w r0 r1 r2 => @win_c A0 A1 c0 c1 lv at_ A2 c2 es dp w r0 r1 r2 hi u hu
 have c25 := fun A0 A1 c0 c1 A2 c2 w r0 r1 r2 => @rwin_c A0 A1 c0 c1 lv at_ A2 c2 es dp w r0 r1 r2 hi u hu
 clear hu; have aQ := fun b1 j1 b2 j2 b4 j4 B0 d0 B1 d1 w1 (x1 : Zr w1 z h) (x2 : kf.C w1 A a.length a) x3 x4 x5 => choose_calls z h A c a ⟨u1, u2, y3, u4, y5, y6, y7⟩ ⟨b1, j1, b2, j2, b4, j4⟩ B0 d0 lv B1 d1 at_ w1 x1 hf x2 hwa yO_ x3 (fun us hu => ⟨q3 us hu, by have := q2 us hu; omega⟩) x4 x5
 have aS := fun w1 (x1 : Zr w1 z h) => of_calls z h w1 x1 hzs
 have c32 := fun w1 (x1 : kf.C w1 A a.length a) => za7 A c a w1 x1 yO_
 have bB := fun hq A2 c2 Bg d2 B0 d0 B1 d1 w1 x1 x2 x3 x4 x5 x6 => rchoose_calls z hq A2 c2 a u2 Bg d2 B0 d0 lv B1 d1 at_ w1 x1 hf hs x2 x3 hwa hn x4 (fun us hu => ⟨q3 us hu, by have := q2 us hu; omega⟩) x5 x6
 have bA := fun b1 j1 b2 j2 b4 j4 w1 x1 => ofprop_calls ⟨u1, u2, y3, u4, y5, y6, y7⟩ ⟨b1, j1, b2, j2, b4, j4⟩ w1 x1 ps
 generalize hL lv at_ s = l0 at *
 generalize hA lv at_ s = l1 at *
 generalize hB lv at_ s = l2 at *
 generalize hE lv at_ s = he at *
 generalize eL lv at_ sg dp = el at *
 generalize eE lv at_ sg dp = ee at *
 generalize chkE lv at_ k = ck at *
 generalize wayN lv at_ = wn at *
 generalize wayE lv at_ = we at *
 simp only at aQ; generalize chooseV z a u2 lv at_ = cv at *
 obtain ⟨Z, hz⟩ : ∃ Z, Z = z := ⟨_, rfl⟩
 obtain ⟨H, hh⟩ : ∃ H, H = h := ⟨_, rfl⟩
 obtain ⟨z1, z2, z3, z4, z5, z6⟩ := z; obtain ⟨a1, k1, a2, k2, a3, k3, a4, k4⟩ := h; have hv : zc Z H = #[.int .i64 z1, .slice a1 z2.length k1, .slice a2 z3.length k2, .slice a3 z4.length k3, .slice a4 z5.length k4, .bool z6] := by rw [hz, hh]; rfl
 rw [← hz, ← hh] at aQ aS hr; rw [← hz] at bB; rw [← hz, ← hh, hv]; rw [hv] at aS; simp only [hv, pcv] at aQ bA; simp only [pcv]; have PS := J ps; clear hv hz hh hf hs hzs hwa hn hi ps; have C15 := J c15; have C16 := J c16; have C17 := J c17; have C18 := J c18; have C19 := J c19; have C20 := J c20; have C21 := J c21; have C22 := J c22; have C24 := J c24; have C25 := J c25; have C28 := J bA; have C29 := J aQ; have C30 := J bB; have C31 := J aS; have C32 := J c32; have PC := J pc; have NN := J (And.intro n0 (And.intro n1 (And.intro n2 n3))); have UL := J (And.intro q1 (And.intro q2 q4)); have HR := J hr; have QA := J ha; have R0 := J r0; have R1 := J r1; have R6 := J r6; have R7 := J r7; have HL := J hl; clear c15 c16 c17 c18 c19 c20 c21 c22 c24 c25 bA aQ bB aS c32 pc n0 n1 n2 n3 q1 q2 q3 q4 hr ha r0 r1 r6 r7 hl; have hu63 := Try.underlying63; have hu65 := Try.underlying65; have hu24 := Try.underlying24; have hu69 := Try.underlying69; have hu74 := Try.underlying74; have hu82 := Try.underlying82; have HB := J (Below.refl w.heap.size w); go_enter Try.func10, Try.ntmps10
 go_wp2_with (first
  | ((with_reducible refine zf (N := 9) rfl ?_); refine zah 9 (cs := #[.int .i64 z1, .slice a1 z2.length k1, .slice a2 z3.length k2, .slice a3 z4.length k3, .slice a4 z5.length k4, .bool z6]) (t := 63) ?_; intro g9 aC w1 aB aA; replace HB := J (za HB.o aA); have K9 := J aB; clear aC aB aA)
  | ((with_reducible refine zf (N := 11) rfl ?_); refine zah 11 (cs := #[.slice b1 y1.length j1, .slice b2 y2.length j2, .int .i64 y3, .slice b4 y4.length j4, .int .i64 y5, .int .i64 y6, .int .i64 y7]) (t := 65) ?_; intro aO aC w2 aB aA; replace HB := J (za HB.o aA); replace K9 := J (zd K9.o aA); have aH := J aB; clear aC aB aA)
  | ((with_reducible refine zf (N := 12) rfl ?_); refine zah 12 (cs := #[.slice A0 lv.length c0, .slice A1 at_.length c1]) (t := 24) ?_; intro g12 aC w3 aB aA; replace HB := J (za HB.o aA); replace K9 := J (zd K9.o aA); replace aH := J (zd aH.o aA); have aD := J aB; clear aC aB aA; have d0 : w3.cell? ⟨g12, 0, none⟩ = some (.slice A0 lv.length c0) := cz_ aD.o 0 rfl; have d1 : w3.cell? ⟨g12, 1, none⟩ = some (.slice A1 at_.length c1) := cz_ aD.o 1 rfl)
  | fail)
 refine (lend_calls w3 (R0.o.step HB.o) (R1.o.step HB.o) (R6.o.step HB.o) (R7.o.step HB.o) HL.o).mono ?_; rintro e_ w4 ⟨gl, rfl, hd, aA⟩; have LD := J hd; replace HB := J (za HB.o aA); replace K9 := J (zd K9.o aA); replace aH := J (zd aH.o aA); replace aD := J (zd aD.o aA); clear aA hd d0 d1; have d0 : w4.cell? ⟨aO, 0, none⟩ = some (.slice b1 y1.length j1) := cz_ aH.o 0 rfl; have d1 : w4.cell? ⟨aO, 1, none⟩ = some (.slice b2 y2.length j2) := cz_ aH.o 1 rfl; have d2 : w4.cell? ⟨aO, 2, none⟩ = some (.int .i64 y3) := cz_ aH.o 2 rfl; have d3 : w4.cell? ⟨aO, 3, none⟩ = some (.slice b4 y4.length j4) := cz_ aH.o 3 rfl; have d4 : w4.cell? ⟨aO, 4, none⟩ = some (.int .i64 y5) := cz_ aH.o 4 rfl; have d5 : w4.cell? ⟨aO, 5, none⟩ = some (.int .i64 y6) := cz_ aH.o 5 rfl; have d6 : w4.cell? ⟨aO, 6, none⟩ = some (.int .i64 y7) := cz_ aH.o 6 rfl; go_wp2_with fail; refine (PC.o w4 (HP.o.step HB.o)).mono ?_; rintro e_ w5 ⟨v1, v2, v4, rfl, m1, m2, m4, aA⟩; clear d0 d1 d2 d3 d4 d5 d6; obtain ⟨p1, i1, rfl, _, aT⟩ := mark_get m1; obtain ⟨p2, i2, rfl, hy2⟩ := kl_kff m2; obtain ⟨p4, i4, rfl, hy4⟩ := kl_kff m4; replace aT := C_pre aT; have MM := J (And.intro m1 (And.intro m2 m4)); have YR := J (show Pr w5 ⟨u1, u2, y3, u4, y5, y6, y7⟩ ⟨p1, i1, p2, i2, p4, i4⟩ from ⟨aT, hy2, hy4⟩); replace LD := J (LD.o.step aA); replace HB := J (za HB.o aA); replace K9 := J (zd K9.o aA); replace aD := J (zd aD.o aA)
 clear aA m1 m2 m4 aT hy2 hy4 aH PC HP
 go_wp2_with (first
  | ((with_reducible refine zf (N := 20) rfl ?_); refine zah 20 (cs := #[.slice none 0 0, .slice none 0 0, .int .i64 0, .slice none 0 0, .int .i64 0, .int .i64 0, .int .i64 0]) (t := 65) ?_; intro aL aC w6 aB aA; have BQ := J aA; have aE := J aB; have L20 := J (show w5.heap.size ≤ aL by omega); clear aC aB aA)
  | ((with_reducible refine zj (t := 65) (p := 20) rfl ?_); refine zi rfl 65 rfl rfl aL #[.slice p1 u1.length i1, .slice p2 u2.length i2, .int .i64 y3, .slice p4 u4.length i4, .int .i64 y5, .int .i64 y6, .int .i64 y7] rfl rfl 65 _ aE.o (info65.trans rfl) rfl (by simp [Value.oneCell']) ?_; intro w7 aB aC; replace BQ := J (BQ.o.grown aC BQ.o.size (fun k_ aI => by cases aI; exact L20.o)); replace aE := J aB; clear aB aC; have d0 : w7.cell? ⟨aL, 0, none⟩ = some (.slice p1 u1.length i1) := cz_ aE.o 0 rfl; have d1 : w7.cell? ⟨aL, 1, none⟩ = some (.slice p2 u2.length i2) := cz_ aE.o 1 rfl; have d2 : w7.cell? ⟨aL, 2, none⟩ = some (.int .i64 y3) := cz_ aE.o 2 rfl; have d3 : w7.cell? ⟨aL, 3, none⟩ = some (.slice p4 u4.length i4) := cz_ aE.o 3 rfl; have d4 : w7.cell? ⟨aL, 4, none⟩ = some (.int .i64 y5) := cz_ aE.o 4 rfl; have d5 : w7.cell? ⟨aL, 5, none⟩ = some (.int .i64 y6) := cz_ aE.o 5 rfl; have d6 : w7.cell? ⟨aL, 6, none⟩ = some (.int .i64 y7) := cz_ aE.o 6 rfl)
  | fail)
 replace HB := J (za HB.o BQ.o); replace K9 := J (zd K9.o BQ.o); replace aD := J (zd aD.o BQ.o); replace LD := J (LD.o.step BQ.o); replace MM := J ((And.intro (km.K_below BQ.o MM.o.1) (And.intro (kl.K_below BQ.o MM.o.2.1) (kl.K_below BQ.o MM.o.2.2)))); replace YR := J (YR.o.step BQ.o); clear BQ L20; refine (C28.o p1 i1 p2 i2 p4 i4 w7 YR.o).mono ?_; rintro e_ w8 ⟨⟨e1, f1, e2, f2, e4, f4⟩, rfl, hq, aA⟩; clear d0 d1 d2 d3 d4 d5 d6; have QR := J (show (Kd.int .u64).C w8 e1 (ku u1).length (ku u1) ∧ dU.C w8 e2 (u2.map ku).length (u2.map ku) ∧ dU.C w8 e4 (u4.map ku).length (u4.map ku) from ⟨hq.r1, hq.r2, hq.r4⟩); replace HB := J (za HB.o aA); replace K9 := J (zd K9.o aA); replace aD := J (zd aD.o aA); replace aE := J (zd aE.o aA); replace LD := J (LD.o.step aA); replace MM := J ((And.intro (km.K_below aA MM.o.1) (And.intro (kl.K_below aA MM.o.2.1) (kl.K_below aA MM.o.2.2)))); replace YR := J (YR.o.step aA); clear aA hq; obtain ⟨n1, bH⟩ : ∃ m, m = (ku u1).length := ⟨_, rfl⟩
 obtain ⟨n2, bI⟩ : ∃ m, m = (u2.map ku).length := ⟨_, rfl⟩
 obtain ⟨n4, bJ⟩ : ∃ m, m = (u4.map ku).length := ⟨_, rfl⟩
 rw [show qcv ⟨u1, u2, y3, u4, y5, y6, y7⟩ ⟨e1, f1, e2, f2, e4, f4⟩ = #[.slice e1 n1 f1, .slice e2 n2 f2, .int .i64 y3, .slice e4 n4 f4, .int .i64 y5, .int .i64 y6, .int .i64 y7] by rw [bH, bI, bJ]; rfl]; have QN := J (And.intro bH (And.intro bI bJ)); clear bH bI bJ
 go_wp2_with (first
  | ((with_reducible refine zf (N := 21) rfl ?_); refine zah 21 (cs := #[.slice none 0 0, .slice none 0 0, .int .i64 0, .slice none 0 0, .int .i64 0, .int .i64 0, .int .i64 0]) (t := 69) ?_; intro g21 aC w9 aB aA; have BQ := J aA; have aV := J aB; have L21 := J (show w8.heap.size ≤ g21 by omega); clear aC aB aA)
  | ((with_reducible refine zj (t := 69) (p := 21) rfl ?_); refine zi rfl 69 rfl rfl g21 #[.slice e1 n1 f1, .slice e2 n2 f2, .int .i64 y3, .slice e4 n4 f4, .int .i64 y5, .int .i64 y6, .int .i64 y7] rfl rfl 69 _ aV.o (info69.trans rfl) rfl (by simp [Value.oneCell']) ?_; intro wW aB aC; replace BQ := J (BQ.o.grown aC BQ.o.size (fun k_ aI => by cases aI; exact L21.o)); replace aV := J aB; clear aB aC)
  | fail)
 replace HB := J (za HB.o BQ.o); replace K9 := J (zd K9.o BQ.o); replace aD := J (zd aD.o BQ.o); replace aE := J (zd aE.o BQ.o); replace LD := J (LD.o.step BQ.o); replace MM := J ((And.intro (km.K_below BQ.o MM.o.1) (And.intro (kl.K_below BQ.o MM.o.2.1) (kl.K_below BQ.o MM.o.2.2)))); replace YR := J (YR.o.step BQ.o); replace QR := J ((And.intro (Kd.zm QR.o.1 BQ.o) (And.intro (Kd.zm QR.o.2.1 BQ.o) (Kd.zm QR.o.2.2 BQ.o)))); clear BQ L21; obtain ⟨s0, s1, s2, s3, s4, s5, s6, s7, s8, s9, s10, s11, kl_, lk_, ⟨P0, o0, rfl, t0⟩, ⟨P1, o1, rfl, t1⟩, ⟨P2, o2, rfl, t2⟩, ⟨P3, o3, rfl, t3⟩⟩ := LD.o; have KL := J kl_; have LK := J lk_; have TT := J (And.intro t0 (And.intro t1 (And.intro t2 t3))); clear kl_ lk_ t0 t1 t2 t3 LD
 go_loopg [22] 2 (fun m v22 wr => ∃ i : Nat, v22 = .int .i64 (i : Int) ∧ ze (i + m = 2) ∧ ze (Below wW.heap.size wW wr))
 case atStart => exact ⟨0, rfl, ⟨rfl⟩, ⟨Below.refl _ _⟩⟩
 case round =>
  obtain ⟨i, rfl, hm, HW⟩ := hrel
  by_cases hx : i < 2
  ·have HX := J hx; have q1 := decide_eq_true (show (i : Int) < 2 by omega); have q3 := J (show wrap64 ((i : Int) + 1) = ((i + 1 : Nat) : Int) from w64 _ yO_ yO_); clear hx; have aY := bx_ HW.o (cz_ KL.o 0 rfl); have aZ := bx_ HW.o (cz_ KL.o 1 rfl); go_wp2_with fail; refine (C15.o _ _ _ _ wr (TT.o.1.step HW.o) (TT.o.2.1.step HW.o)).mono ?_; rintro e_ x1 ⟨Ba0, da0, Ba1, da1, Ba2, da2, Ba3, da3, rfl, h0, h1, h2, h3, aA⟩; have Ha := J (And.intro h0 (And.intro h1 (And.intro h2 h3))); replace HW := J (za HW.o aA); clear h0 h1 h2 h3 aA aY aZ
   go_wp2_with (first
    | ((with_reducible refine zf (N := 23) rfl ?_); refine zah 23 (cs := #[.slice none 0 0, .slice none 0 0]) (t := 24) ?_; intro bD aC x2 aB aA; have BQ := J aA; have aG := J aB; have L23 := J (show x1.heap.size ≤ bD by omega); clear aC aB aA)
    | ((with_reducible refine zf (N := 24) rfl ?_); refine zah 24 (cs := #[.slice none 0 0, .slice none 0 0]) (t := 24) ?_; intro bE aC x3 aB aA; have aW := J (show x1.heap.size ≤ bE ∧ bD ≠ bE by have := BQ.o.size; have := zac aG.o; omega); replace BQ := J (za BQ.o aA); replace aG := J (zd aG.o aA); have aJ := J aB; clear aC aB aA)
    | ((with_reducible refine zj (t := 24) (p := 23) rfl ?_); refine zi rfl 24 rfl rfl bD #[.slice Ba0 l0.length da0, .slice Ba1 l1.length da1] rfl rfl 24 _ aG.o (info24.trans rfl) rfl (slices_one _ _ _ _ _ _) ?_; intro x4 aB aC; replace BQ := J (BQ.o.grown aC BQ.o.size (fun k_ aI => by cases aI; exact L23.o)); replace aG := J aB; replace aJ := J (zu aC aJ.o (fun e => aW.o.2 (Option.some.inj e).symm)); clear aB aC)
    | ((with_reducible refine zj (t := 24) (p := 24) rfl ?_); refine zi rfl 24 rfl rfl bE #[.slice Ba2 l0.length da2, .slice Ba3 l2.length da3] rfl rfl 24 _ aJ.o (info24.trans rfl) rfl (slices_one _ _ _ _ _ _) ?_; intro x5 aB aC; replace BQ := J (BQ.o.grown aC BQ.o.size (fun k_ aI => by cases aI; exact aW.o.1)); replace aJ := J aB; replace aG := J (zu aC aG.o (fun e => aW.o.2 (Option.some.inj e))); clear aB aC; replace HW := J (za HW.o BQ.o); replace Ha := J (And.intro (Ha.o.1.step BQ.o) (And.intro (Ha.o.2.1.step BQ.o) (And.intro (Ha.o.2.2.1.step BQ.o) (Ha.o.2.2.2.step BQ.o)))); clear BQ; have aY := bx_ HW.o (cz_ aD.o 0 rfl); have aZ := bx_ HW.o (cz_ aD.o 1 rfl))
    | fail)
   refine (C16.o _ _ _ _ x5 (R0.o.step (za HB.o HW.o)) (R1.o.step (za HB.o HW.o))).mono ?_; rintro e_ y1 ⟨Bb0, db0, Bb1, db1, Bb2, db2, Bb3, db3, rfl, h0, h1, h2, h3, aA⟩; have Hb := J (And.intro h0 (And.intro h1 (And.intro h2 h3))); replace HW := J (za HW.o aA); replace Ha := J (And.intro (Ha.o.1.step aA) (And.intro (Ha.o.2.1.step aA) (And.intro (Ha.o.2.2.1.step aA) (Ha.o.2.2.2.step aA)))); replace aG := J (zd aG.o aA); replace aJ := J (zd aJ.o aA); clear h0 h1 h2 h3 aA aY aZ
   go_wp2_with (first
    | ((with_reducible refine zf (N := 26) rfl ?_); refine zah 26 (cs := #[.slice none 0 0, .slice none 0 0]) (t := 24) ?_; intro bF aC y2 aB aA; have BQ := J aA; have aK := J aB; have L26 := J (show y1.heap.size ≤ bF by omega); clear aC aB aA)
    | ((with_reducible refine zf (N := 27) rfl ?_); refine zah 27 (cs := #[.slice none 0 0, .slice none 0 0]) (t := 24) ?_; intro bG aC y3 aB aA; have aX := J (show y1.heap.size ≤ bG ∧ bF ≠ bG by have := BQ.o.size; have := zac aK.o; omega); replace BQ := J (za BQ.o aA); replace aK := J (zd aK.o aA); have aP := J aB; clear aC aB aA)
    | ((with_reducible refine zj (t := 24) (p := 26) rfl ?_); refine zi rfl 24 rfl rfl bF #[.slice Bb0 l0.length db0, .slice Bb1 l1.length db1] rfl rfl 24 _ aK.o (info24.trans rfl) rfl (slices_one _ _ _ _ _ _) ?_; intro y4 aB aC; replace BQ := J (BQ.o.grown aC BQ.o.size (fun k_ aI => by cases aI; exact L26.o)); replace aK := J aB; replace aP := J (zu aC aP.o (fun e => aX.o.2 (Option.some.inj e).symm)); clear aB aC)
    | ((with_reducible refine zj (t := 24) (p := 27) rfl ?_); refine zi rfl 24 rfl rfl bG #[.slice Bb2 l0.length db2, .slice Bb3 l2.length db3] rfl rfl 24 _ aP.o (info24.trans rfl) rfl (slices_one _ _ _ _ _ _) ?_; intro y5 aB aC; replace BQ := J (BQ.o.grown aC BQ.o.size (fun k_ aI => by cases aI; exact aX.o.1)); replace aP := J aB; replace aK := J (zu aC aK.o (fun e => aX.o.2 (Option.some.inj e))); clear aB aC; replace HW := J (za HW.o BQ.o); replace Hb := J (And.intro (Hb.o.1.step BQ.o) (And.intro (Hb.o.2.1.step BQ.o) (And.intro (Hb.o.2.2.1.step BQ.o) (Hb.o.2.2.2.step BQ.o)))); replace Ha := J (And.intro (Ha.o.1.step BQ.o) (And.intro (Ha.o.2.1.step BQ.o) (And.intro (Ha.o.2.2.1.step BQ.o) (Ha.o.2.2.2.step BQ.o)))); replace aG := J (zd aG.o BQ.o); replace aJ := J (zd aJ.o BQ.o); clear BQ)
    | fail)
   have JL := J (zd KL.o HW.o); have aU := J (zd aD.o HW.o); have J9 := J (zd K9.o HW.o); have aM := J (zd aE.o HW.o); have aN := J (zd aV.o HW.o)
   have SK := J fun w' (hb : Below y5.heap.size y5 w') => And.intro (bx_ hb (cz_ JL.o 0 rfl)) (And.intro (bx_ hb (cz_ JL.o 1 rfl)) (And.intro (bx_ hb (cz_ JL.o 2 rfl)) (And.intro (bx_ hb (cz_ JL.o 3 rfl)) (And.intro (bx_ hb (cz_ aU.o 0 rfl)) (And.intro (bx_ hb (cz_ aU.o 1 rfl)) (And.intro (bx_ hb (cz_ J9.o 0 rfl)) (And.intro (bx_ hb (cz_ J9.o 1 rfl)) (And.intro (bx_ hb (cz_ J9.o 2 rfl)) (And.intro (bx_ hb (cz_ J9.o 3 rfl)) (And.intro (bx_ hb (cz_ J9.o 4 rfl)) (And.intro (bx_ hb (cz_ J9.o 5 rfl)) (And.intro (bx_ hb (cz_ aM.o 0 rfl)) (And.intro (bx_ hb (cz_ aM.o 1 rfl)) (And.intro (bx_ hb (cz_ aM.o 2 rfl)) (And.intro (bx_ hb (cz_ aM.o 3 rfl)) (And.intro (bx_ hb (cz_ aM.o 4 rfl)) (And.intro (bx_ hb (cz_ aM.o 5 rfl)) (And.intro (bx_ hb (cz_ aM.o 6 rfl)) (And.intro (bx_ hb (cz_ aN.o 0 rfl)) (And.intro (bx_ hb (cz_ aN.o 1 rfl)) (And.intro (bx_ hb (cz_ aN.o 2 rfl)) (And.intro (bx_ hb (cz_ aN.o 3 rfl)) (And.intro (bx_ hb (cz_ aN.o 4 rfl)) (And.intro (bx_ hb (cz_ aN.o 5 rfl)) (And.intro (bx_ hb (cz_ aN.o 6 rfl)) (And.intro (bx_ hb (cz_ aG.o 0 rfl)) (And.intro (bx_ hb (cz_ aG.o 1 rfl)) (And.intro (bx_ hb (cz_ aJ.o 0 rfl)) (And.intro (bx_ hb (cz_ aJ.o 1 rfl)) (And.intro (bx_ hb (cz_ aK.o 0 rfl)) (And.intro (bx_ hb (cz_ aK.o 1 rfl)) (And.intro (bx_ hb (cz_ aP.o 0 rfl)) (bx_ hb (cz_ aP.o 1 rfl))))))))))))))))))))))))))))))))))
   clear JL aU J9 aM aN; refine bg_ SK (Below.refl _ _) room.tab9 room.bits9 (ds := []) fun v0 HV hHeld HT_ HW_ => ?_
   refine p4_ 0 1 2 3 ?_; refine p4_ 4 5 6 7 ?_; refine p1_ 8 ?_; refine ca_ 9 Try.func21 _ ?_; refine (C21.o _ _ _ _ _ _ v0 (TT.o.1.step (za HW.o HV.o)) (TT.o.2.1.step (za HW.o HV.o)) (TT.o.2.2.1.step (za HW.o HV.o))).mono ?_; rintro e_ v1 ⟨E0, g0, rfl, aR, aA⟩; have RE := J aR; replace HV := J (za HV.o aA); clear aA aR; refine ⟨_, rfl, SK.o _ HV.o, fun hHeld => ?_⟩; refine nm_ ?_; refine p4_ 10 11 12 13 ?_; refine p1_ 14 ?_; refine zaL (zad HT_.o yK_) ?_; clear hHeld HT_ HW_; have cf := SK.o _ HV.o; go_wp2_with fail; refine (C22.o _ _ _ _ _ _ v1 (R0.o.step (za HB.o (za HW.o HV.o))) (R1.o.step (za HB.o (za HW.o HV.o))) (R6.o.step (za HB.o (za HW.o HV.o)))).mono ?_; rintro e_ v2 ⟨E1, g1, rfl, aR, aA⟩; have RF := J aR; replace RE := J (RE.o.step aA); replace HV := J (za HV.o aA); clear cf aA aR; have cf := SK.o _ HV.o; go_wp2_with fail; refine (C19.o _ _ _ _ v2 (TT.o.1.step (za HW.o HV.o)) (TT.o.2.1.step (za HW.o HV.o))).mono ?_; rintro e_ v3 ⟨rfl, aA⟩; replace RE := J (RE.o.step aA); replace RF := J (RF.o.step aA); replace HV := J (za HV.o aA); clear cf aA; have cf := SK.o _ HV.o; go_wp2_with fail; refine (C20.o _ _ _ _ v3 (R0.o.step (za HB.o (za HW.o HV.o))) (R1.o.step (za HB.o (za HW.o HV.o)))).mono ?_; rintro e_ v4 ⟨rfl, aA⟩; replace RE := J (RE.o.step aA); replace RF := J (RF.o.step aA); replace HV := J (za HV.o aA)
   clear cf aA; have cf := SK.o _ HV.o; go_wp2_with fail; refine (same_c v4 (Ha.o.1.step HV.o) (Ha.o.2.1.step HV.o) (Hb.o.1.step HV.o) (Hb.o.2.1.step HV.o) NN.o.1 NN.o.2.1).mono ?_; rintro e_ v5 ⟨rfl, aA⟩; replace RE := J (RE.o.step aA); replace RF := J (RF.o.step aA); replace HV := J (za HV.o aA); clear cf aA; have cf := SK.o _ HV.o; go_wp2_with fail; refine (same_c v5 (Ha.o.2.2.1.step HV.o) (Ha.o.2.2.2.step HV.o) (Hb.o.2.2.1.step HV.o) (Hb.o.2.2.2.step HV.o) NN.o.1 NN.o.2.2.1).mono ?_; rintro e_ v6 ⟨rfl, aA⟩; replace RE := J (RE.o.step aA); replace RF := J (RF.o.step aA); replace HV := J (za HV.o aA); clear cf aA; have cf := SK.o _ HV.o; go_wp2_with fail; refine (ints_c v6 RE.o RF.o NN.o.2.2.2).mono ?_; rintro e_ v7 ⟨rfl, aA⟩; replace HV := J (za HV.o aA); clear cf aA; have cf := SK.o _ HV.o; go_wp2_with fail; clear cf; refine bg_ SK HV.o room.tab15 room.bits15 (ds := []) fun u0 HV hHeld HT_ HW_ => ?_
   refine p4_ 0 1 2 3 ?_; refine p2_ 4 6 ?_; refine p1_ 7 ?_; refine ca_ 5 Try.func17 _ ?_; refine (C17.o _ _ _ _ u0 (TT.o.1.step (za HW.o HV.o)) (TT.o.2.1.step (za HW.o HV.o))).mono ?_; rintro e_ x1 ⟨rfl, aA⟩; replace HV := J (za HV.o aA); clear aA; refine ⟨_, rfl, SK.o _ HV.o, fun hHeld => ?_⟩; refine nm_ ?_; refine ca_ 8 Try.func18 _ ?_; refine (C18.o _ _ _ _ x1 (R0.o.step (za HB.o (za HW.o HV.o))) (R1.o.step (za HB.o (za HW.o HV.o)))).mono ?_; rintro e_ x2 ⟨rfl, aA⟩; replace HV := J (za HV.o aA); clear aA; refine ⟨_, rfl, SK.o _ HV.o, fun hHeld => ?_⟩; refine nm_ ?_; refine p4_ 9 10 11 12 ?_; refine p4_ 13 14 15 16 ?_; refine p4_ 17 18 19 21 ?_; refine p2_ 22 23 ?_; refine ca_ 20 Try.func24 _ ?_; refine (C24.o _ _ _ _ _ _ x2 (TT.o.1.step (za HW.o HV.o)) (TT.o.2.1.step (za HW.o HV.o)) (TT.o.2.2.2.step (za HW.o HV.o))).mono ?_; rintro e_ x3 ⟨rfl, aA⟩; replace HV := J (za HV.o aA); clear aA; refine ⟨_, rfl, SK.o _ HV.o, fun hHeld => ?_⟩; refine nm_ ?_; refine ca_ 24 Try.func25 _ ?_; refine (C25.o _ _ _ _ _ _ x3 (R0.o.step (za HB.o (za HW.o HV.o))) (R1.o.step (za HB.o (za HW.o HV.o))) (R7.o.step (za HB.o (za HW.o HV.o)))).mono ?_; rintro e_ x4 ⟨rfl, aA⟩; replace HV := J (za HV.o aA); clear aA; refine ⟨_, rfl, SK.o _ HV.o, fun hHeld => ?_⟩; refine nm_ ?_; refine p4_ 25 26 27 28 ?_; refine p4_ 29 30 31 32 ?_; refine p4_ 33 34 36 38 ?_; refine p2_ 40 41 ?_
   refine p1_ 42 ?_; refine ca_ 35 Try.func29 _ ?_; refine (C29.o p1 i1 p2 i2 p4 i4 P0 o0 P1 o1 x4 (HR.o.step (za HB.o (za HW.o HV.o))) (Kd.zm QA.o (za HB.o (za HW.o HV.o))) (YR.o.step (za HW.o HV.o)) (TT.o.1.step (za HW.o HV.o)) (TT.o.2.1.step (za HW.o HV.o))).mono ?_; rintro e_ x5_ ⟨rfl, aA⟩; replace HV := J (za HV.o aA); clear aA; refine ⟨_, rfl, SK.o _ HV.o, fun hHeld => ?_⟩; refine nm_ ?_; refine ca_ 37 Try.func31 _ ?_; refine (C31.o x5_ (HR.o.step (za HB.o (za HW.o HV.o)))).mono ?_; rintro e_ x6 ⟨hq, rfl, hur, aA⟩; have RU := J hur; replace HV := J (za HV.o aA); clear aA hur; refine ⟨_, rfl, SK.o _ HV.o, fun hHeld => ?_⟩; refine nm_ ?_; refine ca_ 39 Try.func32 _ ?_; refine (C32.o x6 (Kd.zm QA.o (za HB.o (za HW.o HV.o)))).mono ?_; rintro e_ x7 ⟨Ba, da, rfl, hra, aA⟩; have RA := J (Kd.zK (show Kd.R (Kd.int .u64) 114 x7 x6.heap.size (fun _ => True) (.slice Ba (ku a).length da) (ku a) by rw [zaA]; exact hra)).2; replace RU := J (RU.o.step aA); replace HV := J (za HV.o aA); clear aA hra; refine ⟨_, rfl, SK.o _ HV.o, fun hHeld => ?_⟩; refine nm_ ?_; have bC := C30.o hq Ba da e2 f2 _ _ _ _ x7 RU.o RA.o.2 RA.o.1 (Kd.zm QR.o.2.1 (za HW.o HV.o)) (R0.o.step (za HB.o (za HW.o HV.o))) (R1.o.step (za HB.o (za HW.o HV.o))); rw [zaA, ← QN.o.2.1] at bC; refine ca_ 43 Try.func30 _ ?_; refine bC.mono ?_; rintro e_ x8 ⟨rfl, aA⟩; clear bC
   replace HV := J (za HV.o aA); clear aA; refine ⟨_, rfl, SK.o _ HV.o, fun hHeld => ?_⟩; refine nm_ ?_; refine p2_ 44 45 ?_; refine zaL (zad HT_.o yK_) ?_; clear hHeld HT_ HW_; have cf := SK.o _ HV.o; go_wp2_with fail; refine (stand_calls x8 (zd KL.o (za HW.o HV.o)) (LK.o.1.step (za HW.o HV.o)) (LK.o.2.1.step (za HW.o HV.o)) (LK.o.2.2.1.step (za HW.o HV.o)) (LK.o.2.2.2.step (za HW.o HV.o))).mono ?_; rintro e_ x9 ⟨rfl, aA⟩; replace HV := J (za HV.o aA.below); clear cf aA; have cf := SK.o _ HV.o; go_wp2_with fail; refine (pst_c x9 QN.o PS.o (YR.o.step (za HW.o HV.o)) (And.intro (km.K_below (za HW.o HV.o) MM.o.1) (And.intro (kl.K_below (za HW.o HV.o) MM.o.2.1) (kl.K_below (za HW.o HV.o) MM.o.2.2))) (And.intro (Kd.zm QR.o.1 (za HW.o HV.o)) (And.intro (Kd.zm QR.o.2.1 (za HW.o HV.o)) (Kd.zm QR.o.2.2 (za HW.o HV.o)))) UL.o).mono ?_; rintro e_ xE ⟨rfl, aA⟩; replace HW := J (za (za HW.o HV.o) aA); clear cf aA; go_wp2_with fail; go_roundg (gk - 1)
   case measure => have := hm.o; have := HX.o; omega
   case rel => exact ⟨i + 1, by rw [← q3.o], ⟨by have := hm.o; have := HX.o; omega⟩, HW⟩
  ·have q1 := decide_eq_false (show ¬ (i : Int) < 2 by omega); clear hx; go_wp2_with fail; refine (awake_calls wr).mono ?_; rintro e_ xE ⟨rfl, aA⟩; go_wp2_with fail; go_ret; exact ⟨rfl, za (za HB.o HW.o) aA⟩
end Go.Proofs.Ytlidbaejhmamjaa.RM
