/- Part 3 of the proof of SplitRoomUpto: what the functions below it compute, each shown by a walk or by plain reasoning; no condition of its own. -/
import Derived.Test.YtlidbaejhmamjaaRM1
import Derived.Test.YtlidbaejhmamjaaRM2
import Derived.Deep.SlicePairs
import Derived.Lib.SmallJoins
import Derived.ChangeSlices
import Derived.ProofKit
set_option linter.unusedVariables false
set_option linter.unusedSimpArgs false
set_option maxHeartbeats 16000000
set_option maxRecDepth 100000
namespace Go.Proofs.Ytlidbaejhmamjaa.PB
open Go.RowKit YtlidbaejhmamjaaW.PrintWords YtlidbaejhmamjaaW.PrintLast YtlidbaejhmamjaaW.PrintMore
attribute [local go_sem] zao zaq zaB zaC zae zaf zap zar   -- for this text's walks alone
mutual
def zw.j0 : Nat → List Int → Option (Int)
 | 0, _ => none
 | k + 1, x0 => if 0 < (x0.length : Int) then (zw.l0 k x0 (rd x0 0) 1) else (none)
def zw.l0 : Nat → List Int → Int → Int → Option (Int)
 | 0, _, _, _ => none
 | k + 1, x0, x3, x4 => if x4 < (x0.length : Int) then (if 0 ≤ x4 then (zw.l0 k x0 (mx x3 (rd x0 x4)) (wrap64 (x4 + 1))) else (none)) else (some x3)
end
def zw.f (k : Nat) (l0 : List Int) : Option (Int) := if (l0.length : Int) < 1 then (zw.j0 k l0) else (zw.j0 k l0)
theorem zw.calls (k : Nat) (A0 : Option Addr) (c0 : Nat) (l0 : List Int) (r : Int) (w : World) (hr0 : Kd.C (Kd.int .i64) w A0 l0.length l0) (hc0 : l0.length ≤ c0) (h : zw.f k l0 = some r) :
  Calls Try.prog 41 #[.slice A0 l0.length c0] w fun e w' => e = .returned (.int .i64 r) ∧ Below w.heap.size w w' := by
 have HR0 := J hr0; have HC0 := J hc0; clear hr0 hc0; have HB := J (Below.refl w.heap.size w); have H : (if (l0.length : Int) < 1 then (zw.j0 k l0) else (zw.j0 k l0)) = some r := h; clear h; have aO := J H; clear H; go_enter Try.func41, Try.ntmps41; go_upto_if 7 with (fail)
 go_cut [] (fun wc => ∃ (kq : Nat), ze (zw.j0 kq l0 = some r) ∧ ze (kq ≤ k) ∧ ze (Below w.heap.size w wc))
 case first =>
  have H := aO.o; clear aO
  by_cases c3 : (l0.length : Int) < 1
  ·rw [if_pos c3] at H
   exfalso
   cases k with
   | zero => exact absurd H (by simp [zw.j0])
   | succ k => simp only [zw.j0] at H; rw [if_neg yO_] at H; exact absurd H (by simp)
  ·rw [if_neg c3] at H; have aE := decide_eq_false c3; have aN : decide (l0.length < 1) = false := decide_eq_false yO_; clear c3
   (first | rw [aE] | (simp only [zat, zaM]; rw [aE]) | skip)
   have H' := J H; clear H; go_wp2; go_meet
   case rel => exact ⟨_, H', ⟨om_⟩, ⟨bw_⟩⟩
 case rest =>
  clear aO
  try clear p2
  try clear c3
  try clear aE
  try clear aN
  obtain ⟨kq, HA, HJ1, HB⟩ := hcut
  cases kq with
  | zero => exact absurd HA.o (by simp [zw.j0])
  | succ kj1 =>
   have H := HA.o; clear HA; simp only [zw.j0] at H
   by_cases c4 : 0 < (l0.length : Int)
   ·rw [if_pos c4] at H; have aP := decide_eq_true c4; have aQ : decide (0 < l0.length) = true := decide_eq_true yO_; clear c4; have H' := J H; clear H; have aH : 0 ≤ (0 : Int) := yO_
    have aI : 0 < (l0.length : Int) := od_; obtain ⟨aL, aS, aA⟩ := Kd.zQ HR0.o 0 aH aI; cases aS; have qi184 : (0 < l0.length) = True := eq_true yO_
    (try rw [show ((0 : Int)).toNat = 0 from rfl] at aA)
    (try rw [Addr.add_zero'] at aA)
    replace aA := bx_ HB.o aA; replace aH := eq_true aH; replace aI := eq_true aI; go_wp2
    go_loopg [3, 4] kj1 (fun kq v3 v4 w' => ∃ (aD : Int) (aB : Int), v3 = .int .i64 aD ∧ v4 = .int .i64 aB ∧ ze (zw.l0 kq l0 aD aB = some r) ∧ ze (kq ≤ kj1) ∧ ze (Below w.heap.size w w'))
    case atStart => exact ⟨(rd l0 0), (1), rs_, rs_, H', ⟨Nat.le_refl _⟩, ⟨bw_⟩⟩
    case round =>
     clear H'
     try clear p1
     try clear q1
     try clear hx1
     try clear qi1
     try clear p2
     try clear c3
     try clear aE
     try clear aN
     try clear c4
     try clear aP
     try clear aQ
     try clear aA
     try clear aH
     try clear p2
     try clear aI
     obtain ⟨aD, aB, rfl, rfl, HA, HK2, HB⟩ := hrel
     cases gk with
     | zero => exact absurd HA.o (by simp [zw.l0])
     | succ k2 =>
      have H := HA.o; clear HA; simp only [zw.l0] at H
      by_cases c5 : aB < (l0.length : Int)
      ·rw [if_pos c5] at H; have aR := decide_eq_true c5; clear c5
       by_cases c6 : 0 ≤ aB
       ·rw [if_pos c6] at H; have c6b0 := decide_eq_true c6; clear c6; obtain ⟨aU, aG⟩ : ∃ j_ : Int, (mx aD (rd l0 aB)) = j_ := ⟨_, rfl⟩
        replace H : (zw.l0 k2 l0 aU (wrap64 (aB + 1))) = some r := by first | (rw [aG] at H; exact H) | (simp only [aG] at H ⊢; exact H)
        have hji7_ : (if aD < (rd l0 aB) then (rd l0 aB) else aD) = aU := aG; have H' := J H; clear H; have aJ : 0 ≤ (aB : Int) := od_; have aK : aB < (l0.length : Int) := od_; obtain ⟨aM, aT, aC⟩ := Kd.zQ HR0.o aB aJ aK; obtain rfl : aL = aM := (by injection aT)
        replace aC := bx_ HB.o aC; replace aJ := eq_true aJ; replace aK := eq_true aK; go_wp2; go_roundg k2
        case measure => have := HJ1.o; have := HK2.o; omega
        case rel => exact ⟨(aU), (wrap64 (aB + 1)), (by first | rfl | (simp; done) | (simp only [← aG] <;> (first | rfl | simp)) | (simp [*]; done)), rs_, H', ⟨by have := HJ1.o; have := HK2.o; omega⟩, ⟨bw_⟩⟩
       ·rw [if_neg c6] at H; exact absurd H (by simp)
      ·rw [if_neg c5] at H; have aR := decide_eq_false c5; clear c5; obtain rfl := Option.some.inj H; go_wp2; go_ret; exact ⟨er_, bw_⟩
   ·rw [if_neg c4] at H; exact absurd H (by simp)
end Go.Proofs.Ytlidbaejhmamjaa.PB
namespace Go.Proofs.Ytlidbaejhmamjaa.PB
open Go.RowKit YtlidbaejhmamjaaW.PrintWords YtlidbaejhmamjaaW.PrintLast YtlidbaejhmamjaaW.PrintMore
attribute [local go_sem] zao zaq zaB zaC zae zaf zap zar   -- for this text's walks alone
mutual
def zv.l0 : Nat → List Int → Int → List Int → Int → Int → List Int → List Int → Option (List Int × Int)
 | 0, _, _, _, _, _, _, _ => none
 | k + 1, x1, x2, aD, x26, aC, aA, aB => if aC < x26 then (if 0 ≤ aC then (if aC < (aD.length : Int) then (if (rd aD aC) < (-1) then (some (([] : List Int), 1)) else (if (rd aD aC) > 1 then (some (([] : List Int), 1)) else (zv.l0 k x1 x2 aD x26 (wrap64 (aC + 1)) aA aB))) else (none)) else (none)) else (if x2 < 0 then (zv.j1 k x1 x2 true aA aB) else (if x2 > 8 then (zv.j1 k x1 x2 true aA aB) else (if (aA.length : Int) > 0 then ((zw.f k aA).bind fun aE => (zv.j1 k x1 x2 (decide (x2 < aE)) aA aB)) else (zv.j1 k x1 x2 false aA aB))))
def zv.j1 : Nat → List Int → Int → Bool → List Int → List Int → Option (List Int × Int)
 | 0, _, _, _, _, _ => none
 | k + 1, x1, x2, x56, aA, aB => if x56 = true then (some (([] : List Int), 1)) else (if 0 ≤ (x1.length : Int) then (if ((x1.length : Int) : Int).toNat ≤ 35184372088832 then ((zO.f k aA aB).bind fun aC => (zv.l1 k x1 x2 (List.replicate ((x1.length : Int) : Int).toNat 0) aC (aC.length : Int) 0)) else (none)) else (none))
def zv.l1 : Nat → List Int → Int → List Int → List (S90) → Int → Int → Option (List Int × Int)
 | 0, _, _, _, _, _, _ => none
 | k + 1, x1, x2, aC, aB, x62, aA => if aA < x62 then (if 0 ≤ aA then (if aA < (aB.length : Int) then (if 0 ≤ x2 then (if aA < (x1.length : Int) then (if 0 ≤ (wrap64 (x2 - ((zn aB aA).f0))) then (if aA < (aC.length : Int) then (zv.l1 k x1 x2 (aC.set (aA : Int).toNat (wrap64 ((shl .i64 (-1) x2) + (shl .i64 (wrap64 ((wrap64 ((wrap64 (2 * ((zn aB aA).f1))) + 1)) + (rd x1 aA))) (wrap64 (x2 - ((zn aB aA).f0))))))) aB x62 (wrap64 (aA + 1))) else (none)) else (none)) else (none)) else (none)) else (none)) else (none)) else (some (aC, 0))
end
def zv.f (k : Nat) (aA : List Int) (aB : List Int) (l1 : List Int) (a2 : Int) : Option (List Int × Int) := (zz.f k aA aB (aA.length : Int)).bind fun aC => (if aC = 0 then (if (l1.length : Int) = (aA.length : Int) then (zv.l0 k l1 a2 l1 (l1.length : Int) 0 aA aB) else (some (([] : List Int), 63))) else (some (([] : List Int), 180)))
def zv.T17 : Bool × List (List Nat × List Nat) := (true, [([], []), ([], []), ([], []), ([2], [2]), ([], []), ([4], [4]), ([5], [5]), ([6], [6]), ([], []), ([], []), ([8, 9], [8, 9]), ([10], [10]), ([7, 11], [7, 11]), ([], []), ([], []), ([14], [14]), ([13, 15], [13, 15]), ([12, 16], [12, 16]), ([3, 17], [3, 17]), ([0, 1, 0, 1, 2, 3, 4, 5, 6, 7, 8, 9, 10, 11, 12, 13, 14, 15, 16, 17, 18], [0, 1]), ([19, 18, 0, 1, 2, 3, 4, 5, 6, 7, 8, 9, 10, 11, 12, 13, 14, 15, 16, 17, 18], [18, 19])])
def zv.B17 : List Nat := [0, 0, 0, 4, 0, 16, 48, 112, 0, 0, 768, 1792, 4080, 0, 0, 16384, 57344, 131056, 262140, 524287, 1048575]
theorem zv.tab17 : zbc .any (opsOf Try.f21 17) = zv.T17 := by kernel_rfl
theorem zv.bits17 : zal zv.T17.2 zv.B17 = true := by kernel_rfl
theorem zv.calls (k : Nat) (aQ : Option Addr) (aS : Nat) (aD : List Int) (aR : Option Addr) (aT : Nat) (aG : List Int) (A1 : Option Addr) (c1 : Nat) (l1 : List Int) (a2 : Int) (r1 : List Int) (r2 : Int) (w : World) (dQ : Kd.C (Kd.int .i64) w aQ aD.length aD) (dO : aD.length ≤ aS) (dR : Kd.C (Kd.int .i64) w aR aG.length aG) (dP : aG.length ≤ aT) (hr1 : Kd.C (Kd.int .i64) w A1 l1.length l1) (hc1 : l1.length ≤ c1) (h : zv.f k aD aG l1 a2 = some (r1, r2)) :
  Calls Try.prog 21 #[.agg #[.slice aQ aD.length aS, .slice aR aG.length aT], .slice A1 l1.length c1, .int .i64 a2] w fun e w' => ∃ v0_ : Value, e = .returned (.tuple #[v0_, .int .i64 r2]) ∧ Kd.R (Kd.int .i64) 3 w' w.heap.size (fun _ => True) v0_ r1 ∧ Below w.heap.size w w' := by
 have hu24 := Try.underlying24; have hu90 := Try.underlying90; have bL := J dQ; have bK := J dO; clear dQ dO; have bV := J dR; have bU := J dP; clear dR dP; have fV := J hr1; have HC1 := J hc1; clear hr1 hc1; have HB := J (Below.refl w.heap.size w); have H : ((zz.f k aD aG (aD.length : Int)).bind fun bC => (if bC = 0 then (if (l1.length : Int) = (aD.length : Int) then (zv.l0 k l1 a2 l1 (l1.length : Int) 0 aD aG) else (some (([] : List Int), 63))) else (some (([] : List Int), 180)))) = some (r1, r2) := h; clear h; replace H := Option.bind_eq_some_iff.mp H; obtain ⟨bC, A40, H⟩ := H; replace H : (if bC = 0 then (if (l1.length : Int) = (aD.length : Int) then (zv.l0 k l1 a2 l1 (l1.length : Int) 0 aD aG) else (some (([] : List Int), 63))) else (some (([] : List Int), 180))) = some (r1, r2) := H; have A4 := J A40; clear A40
 by_cases c5 : bC = 0
 ·rw [if_pos c5] at H; have cS : (bC == 0) = true := beq_iff_eq.mpr c5; have cT : (bC != 0) = false := bne_eq_false_iff_eq.mpr c5; clear c5
  by_cases c6 : (l1.length : Int) = (aD.length : Int)
  ·rw [if_pos c6] at H; have cU : ((l1.length : Int) == (aD.length : Int)) = true := beq_iff_eq.mpr c6; have cV : ((l1.length : Int) != (aD.length : Int)) = false := bne_eq_false_iff_eq.mpr c6; have cW : (l1.length == aD.length) = true := by first | simpa using c6 | (simp at c6 ⊢; omega)
   clear c6; have H' := J H; clear H; go_enter Try.func21, Try.ntmps21; go_wp2_with (first | ((with_reducible refine zf (N := 3) rfl ?_); (try (refine zR (by rfl) ?_; dsimp only)); refine zah 3 (cs := #[.slice aQ aD.length aS, .slice aR aG.length aT]) (t := 24) ?_; intro aN hg w7 hbox hb; have aB := J (hbox); have bJ := J ((by rw [hg]; exact (zh bw_) : w.heap.size ≤ aN)); replace HB := J (za bw_ hb); have cH := bJ; clear hb hbox hg; have bQ := cz_ aB.o 0 rfl; have bR := cz_ aB.o 1 rfl; have bS := zb aB.o 0; have bT := zb aB.o 1) | ((with_reducible refine zM (f := 17) rfl ?_); refine gl_ 17 Try.func17 #[.agg #[.slice aQ aD.length aS, .slice aR aG.length aT], .int .i64 (aD.length : Int)] ?_; (with_reducible refine (zz.calls k _ _ aD _ _ aG (aD.length : Int) bC _ ?aO ?aP ?bA ?bB A4.o).mono ?_); (case aO => exact sc_ (Kd.zm bL.o HB.o)); (case aP => exact bK.o); (case bA => exact sc_ (Kd.zm bV.o HB.o)); (case bB => exact bU.o); rintro e w9 ⟨rfl, hb⟩; refine ⟨_, rfl, ?_⟩; replace aB := J (fr_ aB.o hb); replace HB := J (za bw_ hb); (try clear hb); have bE := cz_ aB.o 0 rfl; have bF := cz_ aB.o 1 rfl; have bG := zb aB.o 0; have bH := zb aB.o 1))
   go_loopg [27] k (fun kq v27 w' => ∃ (aH : Int), v27 = .int .i64 aH ∧ ze (zv.l0 kq l1 a2 l1 (l1.length : Int) aH aD aG = some (r1, r2)) ∧ ze (kq ≤ k) ∧ ze (w'.heap[aN]? = some (.cells #[(.slice aQ aD.length aS), (.slice aR aG.length aT)] 24 (0, 0))) ∧ ze (Below w.heap.size w w'))
   case atStart => exact ⟨(0), rs_, H', ⟨Nat.le_refl _⟩, ⟨pe_ aB.o⟩, ⟨bw_⟩⟩
   case round =>
    clear H'
    try clear c1
    try clear c2
    try clear p2
    try clear c5
    try clear cS
    try clear cT
    try clear c6
    try clear cU
    try clear cV
    try clear cW
    try clear bE
    try clear bF
    try clear bQ
    try clear bR
    try clear bG
    try clear bH
    try clear bS
    try clear bT
    obtain ⟨aH, rfl, HA, dC, aB, HB⟩ := hrel
    cases gk with
    | zero => exact absurd HA.o (by simp [zv.l0])
    | succ k1 =>
     have H := HA.o; clear HA; simp only [zv.l0] at H
     by_cases dG : aH < (l1.length : Int)
     ·rw [if_pos dG] at H; have cJ := decide_eq_true dG; clear dG
      by_cases eK : 0 ≤ aH
      ·rw [if_pos eK] at H; have dH := decide_eq_true eK; clear eK
       by_cases eM : aH < (l1.length : Int)
       ·rw [if_pos eM] at H; have dI := decide_eq_true eM; clear eM
        by_cases dJ : (rd l1 aH) < (-1)
        ·rw [if_pos dJ] at H; have cK := decide_eq_true dJ; clear dJ; simp only [Option.some.injEq, Prod.mk.injEq] at H; obtain ⟨rfl, rfl⟩ := H; have aU : 0 ≤ (aH : Int) := od_; have aV : aH < (l1.length : Int) := od_; obtain ⟨dF, cP, aI⟩ := Kd.zQ fV.o aH aU aV; cases cP; replace aI := bx_ HB.o aI; replace aU := eq_true aU; replace aV := eq_true aV; go_wp2; go_ret2; exact ⟨_, er_, by first | exact Kd.zaI _ _ _ _ _ | exact Kd.N_nil _ _ _ _ _ | exact Kd.V_nil _ _ _ _ _ | exact Kd.Q_nil _ _ _ _ _ | exact Kd.zaP _ _ _ _ _, bw_⟩
        ·rw [if_neg dJ] at H; have cK := decide_eq_false dJ; clear dJ
         by_cases dK : (rd l1 aH) > 1
         ·rw [if_pos dK] at H; have cL := decide_eq_true dK; clear dK; simp only [Option.some.injEq, Prod.mk.injEq] at H; obtain ⟨rfl, rfl⟩ := H; have aU : 0 ≤ (aH : Int) := od_; have aV : aH < (l1.length : Int) := od_; obtain ⟨dF, cP, aI⟩ := Kd.zQ fV.o aH aU aV; cases cP; replace aI := bx_ HB.o aI; replace aU := eq_true aU; replace aV := eq_true aV; go_wp2; go_ret2; exact ⟨_, er_, by first | exact Kd.zaI _ _ _ _ _ | exact Kd.N_nil _ _ _ _ _ | exact Kd.V_nil _ _ _ _ _ | exact Kd.Q_nil _ _ _ _ _ | exact Kd.zaP _ _ _ _ _, bw_⟩
         ·rw [if_neg dK] at H; have cL := decide_eq_false dK; clear dK; have H' := J H; clear H; have aU : 0 ≤ (aH : Int) := od_; have aV : aH < (l1.length : Int) := od_; obtain ⟨dF, cP, aI⟩ := Kd.zQ fV.o aH aU aV; cases cP; replace aI := bx_ HB.o aI; replace aU := eq_true aU; replace aV := eq_true aV; go_wp2; go_roundg k1
          case measure => have := dC.o; omega
          case rel => exact ⟨(wrap64 (aH + 1)), rs_, H', ⟨by have := dC.o; omega⟩, ⟨pe_ aB.o⟩, ⟨bw_⟩⟩
       ·rw [if_neg eM] at H; exact absurd H (by simp)
      ·rw [if_neg eK] at H; exact absurd H (by simp)
     ·rw [if_neg dG] at H; have cJ := decide_eq_false dG; clear dG; have dT := J H; clear H; go_upto_region 11 with (fail)
      go_cut [56] (fun v56 wc => ∃ (kq : Nat) (bI : Bool), v56 = .bool bI ∧ ze (zv.j1 kq l1 a2 bI aD aG = some (r1, r2)) ∧ ze (kq ≤ k1) ∧ ze (wc.heap[aN]? = some (.cells #[(.slice aQ aD.length aS), (.slice aR aG.length aT)] 24 (0, 0))) ∧ ze (Below w.heap.size w wc))
      case first =>
       have H := dT.o; clear dT
       by_cases dL : a2 < 0
       ·rw [if_pos dL] at H; have aX := decide_eq_true dL; clear dL
        (first | rw [aX] | (simp only [zat, zaM]; rw [aX]) | skip)
        have H' := J H; clear H; go_wp2; go_meet
        case rel => exact ⟨_, (true), rs_, H', ⟨by have := dC.o; first | omega | exact Nat.le_refl _⟩, ⟨pe_ aB.o⟩, ⟨bw_⟩⟩
       ·rw [if_neg dL] at H; have aX := decide_eq_false dL; clear dL
        (first | rw [aX] | (simp only [zat, zaM]; rw [aX]) | skip)
        by_cases dM : a2 > 8
        ·rw [if_pos dM] at H; have cM := decide_eq_true dM; clear dM; have H' := J H; clear H; go_wp2; go_meet
         case rel => exact ⟨_, (true), rs_, H', ⟨by have := dC.o; first | omega | exact Nat.le_refl _⟩, ⟨pe_ aB.o⟩, ⟨bw_⟩⟩
        ·rw [if_neg dM] at H; have cM := decide_eq_false dM; clear dM
         by_cases dN : (aD.length : Int) > 0
         ·rw [if_pos dN] at H; have cN := decide_eq_true dN; have cO : decide (0 < aD.length) = true := decide_eq_true yO_; clear dN; replace H := Option.bind_eq_some_iff.mp H; obtain ⟨eI, eW, H⟩ := H; replace H : (zv.j1 k1 l1 a2 (decide (a2 < eI)) aD aG) = some (r1, r2) := H; have A20 := J eW; clear eW; have H' := J H; clear H; have bW := cz_ aB.o 0 rfl; have bX := cz_ aB.o 1 rfl; have cA := zb aB.o 0; have cB := zb aB.o 1; go_wp2_with (first | (go_at_call 41; (with_reducible refine (zw.calls k1 _ _ aD eI _ ?aO ?aP A20.o).mono ?_); (case aO => exact sc_ (Kd.zm bL.o HB.o)); (case aP => exact bK.o); rintro e w22 ⟨rfl, hb⟩; replace aB := J (fr_ aB.o hb); replace HB := J (za bw_ hb); (try clear hb))); go_meet
          case rel => exact ⟨_, (decide (a2 < eI)), rs_, H', ⟨by have := dC.o; first | omega | exact Nat.le_refl _⟩, ⟨pe_ aB.o⟩, ⟨bw_⟩⟩
         ·rw [if_neg dN] at H; have cN := decide_eq_false dN; have cO : decide (0 < aD.length) = false := decide_eq_false yO_; clear dN; have H' := J H; clear H; have bY := cz_ aB.o 0 rfl; have bZ := cz_ aB.o 1 rfl; have cC := zb aB.o 0; have cD := zb aB.o 1; go_wp2; go_meet
          case rel => exact ⟨_, (false), rs_, H', ⟨by have := dC.o; first | omega | exact Nat.le_refl _⟩, ⟨pe_ aB.o⟩, ⟨bw_⟩⟩
      case rest =>
       clear dT
       try clear c1
       try clear p1
       try clear q1
       try clear hx1
       try clear c2
       try clear p2
       try clear c5
       try clear cS
       try clear cT
       try clear c6
       try clear cU
       try clear cV
       try clear cW
       try clear p6
       try clear dG
       try clear cJ
       try clear eK
       try clear dH
       try clear eM
       try clear dI
       try clear dJ
       try clear cK
       try clear dK
       try clear cL
       try clear dL
       try clear aX
       try clear dM
       try clear cM
       try clear p18
       try clear q18
       try clear gH
       try clear dN
       try clear cN
       try clear cO
       try clear c21
       try clear bE
       try clear bF
       try clear bW
       try clear bX
       try clear bY
       try clear bZ
       try clear bQ
       try clear bR
       try clear bG
       try clear bH
       try clear cA
       try clear cB
       try clear cC
       try clear cD
       try clear bS
       try clear bT
       try clear aI
       try clear aU
       try clear p2
       try clear aV
       obtain ⟨kq, bI, rfl, HA, fC, aB, HB⟩ := hcut
       cases kq with
       | zero => exact absurd HA.o (by simp [zv.j1])
       | succ bP =>
        have H := HA.o; clear HA; simp only [zv.j1] at H
        by_cases fH : bI = true
        ·subst fH; have H1 : (some (([] : List Int), 1)) = some (r1, r2) := by rw [if_pos rfl] at H; exact H
         clear H; have H := H1; clear H1; simp only [Option.some.injEq, Prod.mk.injEq] at H; obtain ⟨rfl, rfl⟩ := H; go_wp2; go_ret2; exact ⟨_, er_, by first | exact Kd.zaI _ _ _ _ _ | exact Kd.N_nil _ _ _ _ _ | exact Kd.V_nil _ _ _ _ _ | exact Kd.Q_nil _ _ _ _ _ | exact Kd.zaP _ _ _ _ _, bw_⟩
        ·replace fH := Bool.eq_false_iff.mpr fH; subst fH; have H1 : (if 0 ≤ (l1.length : Int) then (if ((l1.length : Int) : Int).toNat ≤ 35184372088832 then ((zO.f bP aD aG).bind fun aC => (zv.l1 bP l1 a2 (List.replicate ((l1.length : Int) : Int).toNat 0) aC (aC.length : Int) 0)) else (none)) else (none)) = some (r1, r2) := by rw [if_neg (show ¬ (false = true) by decide)] at H; exact H
         clear H; have H := H1; clear H1
         by_cases eN : 0 ≤ (l1.length : Int)
         ·rw [if_pos eN] at H; have fI := eq_true eN; have fJ := decide_eq_true eN; clear eN
          by_cases eO : ((l1.length : Int) : Int).toNat ≤ 35184372088832
          ·rw [if_pos eO] at H; have fK := eq_true eO; have fL := decide_eq_true eO; clear eO; obtain ⟨eJ, bM⟩ : ∃ y_ : List Int, y_ = (List.replicate ((l1.length : Int) : Int).toNat 0) := ⟨_, rfl⟩
           replace H : ((zO.f bP aD aG).bind fun aC => (zv.l1 bP l1 a2 eJ aC (aC.length : Int) 0)) = some (r1, r2) := by first | (rw [bM]; with_reducible exact H) | (have dS := (Option.bind_some _ _).symm.trans H; rw [bM]; with_reducible exact dS) | (have dS := (Option.bind_some _ _).symm.trans H; with_reducible exact dS) | with_reducible exact H | (rw [bM]; exact H) | exact H
           have dE := J bM; clear bM; replace H := Option.bind_eq_some_iff.mp H; obtain ⟨aC, eX, H⟩ := H; replace H : (zv.l1 bP l1 a2 eJ aC (aC.length : Int) 0) = some (r1, r2) := H; have A27 := J eX; clear eX; have H' := J H; clear H
           go_wp2_with (first | ((with_reducible refine zf (N := 59) rfl ?_); (try (refine zR (by rfl) ?_; dsimp only)); refine Kd.R_make (Kd.int .i64) _ 3 rfl (N := 59) rfl 22 _ _ rfl (l1.length : Int) rfl rfl Try.underlying22 (.int .i64 0) 8 info3 rfl yD_ yO_ 0 (ok := fun _ => True) (okp := fun _ => True) rfl (fun _ hk => hk) trivial (od_) (Nat.le_trans (Nat.mul_le_mul_right _ (od_ : (l1.length : Int).toNat ≤ 35184372088832)) yO_) (Below.refl _ _) (Nat.le_refl _) ?_; intro fT w28 cR hb hg_ fS; clear hg_ fS; (first | rw [← dE.o] at cR | (simp only [Int.reduceToNat] at cR; rw [← dE.o] at cR)); have cI := J (Kd.z9 cR (zh bw_)); replace aB := J (fr_ aB.o hb); replace HB := J (za bw_ hb); clear hb cR; have cX := cz_ aB.o 0 rfl; have cY := cz_ aB.o 1 rfl; have cZ := zb aB.o 0; have dA := zb aB.o 1) | ((with_reducible refine zM (f := 39) rfl ?_); refine gl_ 61 Try.func39 #[.agg #[.slice aQ aD.length aS, .slice aR aG.length aT]] ?_; (with_reducible refine (zO.calls bP _ _ aD _ _ aG aC _ ?aO ?aP ?bA ?bB A27.o).mono ?_); (case aO => exact sc_ (Kd.zm bL.o HB.o)); (case aP => exact bK.o); (case bA => exact sc_ (Kd.zm bV.o HB.o)); (case bB => exact bU.o); rintro e w31 ⟨v194, rfl, ho0, hb⟩; refine ⟨_, rfl, ?_⟩; replace cI := J (Kd.zF (pk_ cI.o) hb); have dD := J (Kd.z9 ho0 (zh bw_)); replace aB := J (fr_ aB.o hb); replace HB := J (za bw_ hb); (try clear hb ho0); obtain ⟨gA, fP, gE⟩ := Kd.zJ dD.o; subst gE))
           go_loopg [63] bP (fun kq v63 w' => ∃ (aL : List Int) (aA : Int), v63 = .int .i64 aA ∧ ze (zv.l1 kq l1 a2 aL aC (aC.length : Int) aA = some (r1, r2)) ∧ ze (kq ≤ bP) ∧ ze (Kd.R (Kd.int .i64) 3 w' w.heap.size (fun _ => True) fT aL) ∧ ze (Kd.R k90 90 w' w.heap.size (fun _ => True) (.slice gA aC.length fP) aC) ∧ ze (w'.heap[aN]? = some (.cells #[(.slice aQ aD.length aS), (.slice aR aG.length aT)] 24 (0, 0))) ∧ ze (Below w.heap.size w w'))
           case atStart => exact ⟨(eJ), (0), rs_, H', ⟨Nat.le_refl _⟩, ⟨pk_ cI.o⟩, ⟨pk_ dD.o⟩, ⟨pe_ aB.o⟩, ⟨bw_⟩⟩
           case round =>
            clear H'
            try clear c1
            try clear p1
            try clear q1
            try clear hx1
            try clear c2
            try clear p2
            try clear c3
            try clear c5
            try clear cS
            try clear cT
            try clear c6
            try clear cU
            try clear cV
            try clear cW
            try clear p6
            try clear dG
            try clear cJ
            try clear eK
            try clear dH
            try clear eM
            try clear dI
            try clear dJ
            try clear cK
            try clear dK
            try clear cL
            try clear dL
            try clear aX
            try clear dM
            try clear cM
            try clear p18
            try clear q18
            try clear gH
            try clear dN
            try clear cN
            try clear cO
            try clear c21
            try clear fH
            try clear eN
            try clear fI
            try clear fJ
            try clear eO
            try clear fK
            try clear fL
            try clear bE
            try clear bF
            try clear bW
            try clear bX
            try clear bY
            try clear bZ
            try clear cX
            try clear cY
            try clear bQ
            try clear bR
            try clear bG
            try clear bH
            try clear cA
            try clear cB
            try clear cC
            try clear cD
            try clear cZ
            try clear dA
            try clear bS
            try clear bT
            try clear aI
            try clear p1
            try clear p18
            try clear aU
            try clear p2
            try clear p6
            try clear q1
            try clear q18
            try clear aV
            obtain ⟨aL, aA, rfl, HA, HK3, aK, aM, aB, HB⟩ := hrel
            cases gk with
            | zero => exact absurd HA.o (by simp [zv.l1])
            | succ k3 =>
             have H := HA.o; clear HA; simp only [zv.l1] at H
             by_cases eP : aA < (aC.length : Int)
             ·rw [if_pos eP] at H; have fM := decide_eq_true eP; clear eP
              by_cases fW : 0 ≤ aA
              ·rw [if_pos fW] at H; have c34b0 := decide_eq_true fW; clear fW
               by_cases fX : aA < (aC.length : Int)
               ·rw [if_pos fX] at H; have c35b0 := decide_eq_true fX; clear fX
                by_cases fN : 0 ≤ a2
                ·rw [if_pos fN] at H; have c36b0 := eq_true fN; have c36b1 := decide_eq_true fN; clear fN; obtain ⟨aY, cE⟩ : ∃ j_ : Int, (shl .i64 (-1) a2) = j_ := ⟨_, rfl⟩
                 replace H : (if aA < (l1.length : Int) then (if 0 ≤ (wrap64 (a2 - ((zn aC aA).f0))) then (if aA < (aL.length : Int) then (zv.l1 k3 l1 a2 (aL.set (aA : Int).toNat (wrap64 ((aY) + (shl .i64 (wrap64 ((wrap64 ((wrap64 (2 * ((zn aC aA).f1))) + 1)) + (rd l1 aA))) (wrap64 (a2 - ((zn aC aA).f0))))))) aC (aC.length : Int) (wrap64 (aA + 1))) else (none)) else (none)) else (none)) = some (r1, r2) := by first | (rw [cE] at H; exact H) | (simp only [cE] at H ⊢; exact H)
                 have dX : (IntKind.i64.wrap ((-1) * 2 ^ min a2.toNat 64)) = aY := cE; have dZ : a2 ≤ 64 → (IntKind.i64.wrap ((-1) * 2 ^ a2.toNat)) = aY := shl_small cE; have dY : (wrap64 ((-1) * 2 ^ min a2.toNat 64)) = aY := (zat _).symm.trans dX; have hji37n : wrap64 (-2 ^ min a2.toNat 64) = aY := by have h_ := dY; rw [Int.neg_mul, Int.one_mul] at h_; exact h_
                 have hji37x : a2 ≤ 64 → (wrap64 ((-1) * 2 ^ a2.toNat)) = aY := fun h_ => (zat _).symm.trans (dZ h_)
                 by_cases fY : aA < (l1.length : Int)
                 ·rw [if_pos fY] at H; have c38b0 := decide_eq_true fY; clear fY; obtain ⟨aZ, cQ⟩ : ∃ j_ : Int, (wrap64 (a2 - ((zn aC aA).f0))) = j_ := ⟨_, rfl⟩
                  replace H : (if 0 ≤ (aZ) then (if aA < (aL.length : Int) then (zv.l1 k3 l1 a2 (aL.set (aA : Int).toNat (wrap64 ((aY) + (shl .i64 (wrap64 ((wrap64 ((wrap64 (2 * ((zn aC aA).f1))) + 1)) + (rd l1 aA))) (aZ))))) aC (aC.length : Int) (wrap64 (aA + 1))) else (none)) else (none)) = some (r1, r2) := by first | (rw [cQ] at H; exact H) | (simp only [cQ] at H ⊢; exact H)
                  have hji39w : (IntKind.i64.wrap (a2 - ((zn aC aA).f0))) = aZ := (zat _).trans cQ
                  by_cases fO : 0 ≤ (aZ)
                  ·rw [if_pos fO] at H; have c40b0 := eq_true fO; have c40b1 := decide_eq_true fO; clear fO; obtain ⟨bO, cF⟩ : ∃ j_ : Int, (shl .i64 (wrap64 ((wrap64 ((wrap64 (2 * ((zn aC aA).f1))) + 1)) + (rd l1 aA))) (aZ)) = j_ := ⟨_, rfl⟩
                   replace H : (if aA < (aL.length : Int) then (zv.l1 k3 l1 a2 (aL.set (aA : Int).toNat (wrap64 ((aY) + (bO)))) aC (aC.length : Int) (wrap64 (aA + 1))) else (none)) = some (r1, r2) := by first | (rw [cF] at H; exact H) | (simp only [cF] at H ⊢; exact H)
                   have eA : (IntKind.i64.wrap ((wrap64 ((wrap64 ((wrap64 (2 * ((zn aC aA).f1))) + 1)) + (rd l1 aA))) * 2 ^ min (aZ).toNat 64)) = bO := cF; have eB : (aZ) ≤ 64 → (IntKind.i64.wrap ((wrap64 ((wrap64 ((wrap64 (2 * ((zn aC aA).f1))) + 1)) + (rd l1 aA))) * 2 ^ (aZ).toNat)) = bO := shl_small cF; have hji41y : (wrap64 ((wrap64 ((wrap64 ((wrap64 (2 * ((zn aC aA).f1))) + 1)) + (rd l1 aA))) * 2 ^ min (aZ).toNat 64)) = bO := (zat _).symm.trans eA; have hji41x : (aZ) ≤ 64 → (wrap64 ((wrap64 ((wrap64 ((wrap64 (2 * ((zn aC aA).f1))) + 1)) + (rd l1 aA))) * 2 ^ (aZ).toNat)) = bO := fun h_ => (zat _).symm.trans (eB h_)
                   by_cases fZ : aA < (aL.length : Int)
                   ·rw [if_pos fZ] at H; have c42b0 := decide_eq_true fZ; clear fZ; obtain ⟨fU, bN⟩ : ∃ y_ : List Int, y_ = (aL.set (aA : Int).toNat (wrap64 ((aY) + (bO)))) := ⟨_, rfl⟩
                    replace H : (zv.l1 k3 l1 a2 fU aC (aC.length : Int) (wrap64 (aA + 1))) = some (r1, r2) := by first | (rw [bN]; with_reducible exact H) | (have dS := (Option.bind_some _ _).symm.trans H; rw [bN]; with_reducible exact dS) | (have dS := (Option.bind_some _ _).symm.trans H; with_reducible exact dS) | with_reducible exact H | (rw [bN]; exact H) | exact H
                    have fE := J bN; clear bN; have H' := J H; clear H; have eD : 0 ≤ (aA : Int) := od_; have eG : aA < (aC.length : Int) := od_; obtain ⟨fF, gC, hx196_0, hx196_1⟩ := at_T90 (Kd.zK aM.o).2.2 aA eD eG; cases gC; replace eD := eq_true eD; replace eG := eq_true eG
                    try go_wp2_with (first | ((with_reducible refine zf (N := 12) rfl ?_); (try (refine zR (by rfl) ?_; dsimp only)); refine zah 12 (cs := #[.int .i64 0, .int .i64 0]) (t := 90) ?_; intro aE hg eV hbox hb; replace aK := J (Kd.zF (pk_ aK.o) hb); replace aM := J (Kd.zF (Kd.R_elderB (pk_ aM.o) aE (Nat.le_of_eq hg.symm)) hb); have aJ := J (hbox); have fA := J ((by rw [hg]; exact (zh bw_) : w.heap.size ≤ aE)); replace HB := J (za bw_ hb); have eY := fA; have bD := J ((by rw [hg]; exact Nat.ne_of_lt (fl_ aB.o) : aN ≠ aE)); replace aB := J (fr_ aB.o hb); have cG := J bD.o.symm; clear hb hbox hg; have hnb45 := cG.o; have hnc45 := bD.o; have hcz46_0 := cz_ aJ.o 0 rfl; have hcz46_1 := cz_ aJ.o 1 rfl; have hfz46_0 := zb aJ.o 0; have hfz46_1 := zb aJ.o 1))
                    have eQ : ze (Kd.R (Kd.int .i64) 3 ((eV.setCell ⟨aE, 0, none⟩ (.int .i64 ((zn aC aA).f0))).setCell ⟨aE, 1, none⟩ (.int .i64 ((zn aC aA).f1))) w.heap.size (fun _ => True) fT aL) := ⟨by (with_reducible repeat (first | apply Kd.R_alloc | apply Kd.zH | apply Kd.zI)); exact Kd.zB (Kd.zT (p := ⟨aE, 1, none⟩) (Kd.zT (p := ⟨aE, 0, none⟩) (Kd.zV aK.o aJ.o yD_) (fun _ hk => hk.2) (.int .i64 ((zn aC aA).f0))) (fun _ hk => hk.2) (.int .i64 ((zn aC aA).f1))) (fun _ hk => trivial)⟩
                    have eR : ze (Kd.R k90 90 ((eV.setCell ⟨aE, 0, none⟩ (.int .i64 ((zn aC aA).f0))).setCell ⟨aE, 1, none⟩ (.int .i64 ((zn aC aA).f1))) w.heap.size (fun k_ => k_ ≠ aE) (.slice (some fF) aC.length fP) aC) := ⟨by (with_reducible repeat (first | apply Kd.R_alloc | apply Kd.zH | apply Kd.zI)); exact Kd.zB (Kd.zT (p := ⟨aE, 1, none⟩) (Kd.zT (p := ⟨aE, 0, none⟩) (Kd.zB aM.o (fun k_ hk => (⟨hk, hk.2⟩ : _ ∧ k_ ≠ aE))) (fun _ hk => hk.2) (.int .i64 ((zn aC aA).f0))) (fun _ hk => hk.2) (.int .i64 ((zn aC aA).f1))) (fun _ hk => hk.1.2)⟩
                    have eS : ze (((eV.setCell ⟨aE, 0, none⟩ (.int .i64 ((zn aC aA).f0))).setCell ⟨aE, 1, none⟩ (.int .i64 ((zn aC aA).f1))).heap[aN]? = some (.cells #[.slice aQ aD.length aS, .slice aR aG.length aT] 24 (0, 0))) := ⟨hp_ aB.o⟩
                    have eT : ze (((eV.setCell ⟨aE, 0, none⟩ (.int .i64 ((zn aC aA).f0))).setCell ⟨aE, 1, none⟩ (.int .i64 ((zn aC aA).f1))).heap[aE]? = some (.cells #[.int .i64 ((zn aC aA).f0), .int .i64 ((zn aC aA).f1)] 90 (0, 0))) := ⟨hp_ aJ.o⟩
                    have eU : ze (Below w.heap.size w ((eV.setCell ⟨aE, 0, none⟩ (.int .i64 ((zn aC aA).f0))).setCell ⟨aE, 1, none⟩ (.int .i64 ((zn aC aA).f1)))) := ⟨bw_⟩
                    (try clear aK)
                    (try clear aM)
                    (try clear aB)
                    (try clear aJ)
                    (try clear HB)
                    generalize ((eV.setCell ⟨aE, 0, none⟩ (.int .i64 ((zn aC aA).f0))).setCell ⟨aE, 1, none⟩ (.int .i64 ((zn aC aA).f1))) = w47 at eQ eR eS eT eU ⊢; have aK := eQ; have aM := eR; have aB := eS; have aJ := eT; have HB := eU; clear eQ eR eS eT eU; have eQ := J (Kd.zI aK.o); have eR := J (Kd.zI aM.o); have eS := J (zA aB.o); have eT := J (zA aJ.o); have eU := J (zax HB.o); clear aK; clear aM; clear aB; clear aJ; clear HB; have aK := eQ; have aM := eR; have aB := eS; have aJ := eT; have HB := eU; clear eQ eR eS eT eU; have eF : 0 ≤ (aA : Int) := od_; have eH : aA < (l1.length : Int) := od_; obtain ⟨fG, gD, aW⟩ := Kd.zQ fV.o aA eF eH; have dB := aW; cases gD; replace aW := bx_ HB.o aW; replace eF := eq_true eF; replace eH := eq_true eH; have gI : 0 ≤ (aA : Int) := od_; have gJ : (aA : Int) < ((aL.length : Int) : Int) := od_; obtain ⟨gG, co43, fQ, fR, gF, cl43, fB⟩ := Kd.R_form aK.o yO_
                    (first | cases fQ | (injection fQ with ea_ en_ ec_; (first | subst ea_ | (injection ea_ with ea_; subst ea_)); subst ec_; clear en_))
                    have gB := J fR; have eZ := J fB; clear fR gF fB; obtain ⟨eC, dW⟩ := Kd.zaQ 0 aK.o (aA : Int) gI gJ; replace gI := eq_true gI; replace gJ := eq_true gJ; have dV := Kd.R_putn aK.o (aA : Int) (wrap64 ((aY) + (bO))); rw [← fE.o] at dV; have fD := J dV; clear dV; refine zaw (n := 21) (S := fun w' => w'.cell? ⟨aE, 0, none⟩ = some (.int .i64 ((zn aC aA).f0)) ∧ w'.cell? ⟨aE, 1, none⟩ = some (.int .i64 ((zn aC aA).f1)) ∧ w'.cell? (fG.add (aA).toNat) = some (.int .i64 (rd l1 aA))) (ds := [20]) (bl_ 21 0) yK_ rfl rfl ⟨(zg aJ.o 0).trans rfl, (zg aJ.o 1).trans rfl, (bx_ HB.o dB)⟩ (fun hHeld => ?_); refine zS zv.tab17 zv.bits17 (fun HT_ HW_ => ?_); generalize w47.drew = w48 at aK aM aB aJ HB eZ fD dW aW eC hHeld ⊢; refine pu_ 0 ?_; refine pu_ 1 ?_; refine pu_ 2 ?_; refine pu_ 3 ?_; refine pu_ 4 ?_; refine pu_ 8 ?_; refine pu_ 9 ?_; refine pu_ 10 ?_; refine pu_ 13 ?_; refine pu_ 14 ?_; refine tk_ 5 ?_; refine pu_ 6 ?_; refine pu_ 7 ?_; refine tk_ 11 ?_; refine pu_ 12 ?_; refine tk_ 15 ?_; refine pu_ 16 ?_; refine pu_ 17 ?_; refine pu_ 18 ?_; refine pu_ 19 ?_; refine last_ (i := 20) (N := none) (bl_ 21 2097151) rfl rfl (zaY HT_.o yK_) yD_ (fun K hK => ?_); refine skip_ (w1 := ?_) (by rfl) rfl ?_ ?_; rotate_left
                    ·go_simp; rfl
                    refine hK.out _ _ ?_; clear hK K; refine zaL (zad HT_.o yK_) ?_
                    try go_wp2
                    go_roundg k3
                    case measure => have := dC.o; have := fC.o; have := HK3.o; omega
                    case rel => exact ⟨(fU), (wrap64 (aA + 1)), rs_, H', ⟨by have := dC.o; have := fC.o; have := HK3.o; omega⟩, ⟨pk_ fD.o⟩, ⟨by (with_reducible repeat (first | apply Kd.R_alloc | apply Kd.zH | apply Kd.zI)); exact Kd.zB (Kd.zT (p := ⟨gG, (aA : Int).toNat, none⟩) (Kd.zV aM.o eZ.o yD_) (fun _ hk => hk.2) (.int .i64 (wrap64 ((aY) + (bO))))) (fun _ hk => trivial)⟩, ⟨by (with_reducible repeat (first | refine zab ?_ _ | refine zA ?_ | refine zZ ?_ _)); refine za1 ?_ (by have h_ := Kd.R_ne aK.o aB.o yD_; intro e_; exact h_ (by rw [e_]; rfl)) _; (with_reducible repeat (first | refine zab ?_ _ | refine zA ?_ | refine zZ ?_ _)); exact aB.o⟩, ⟨by repeat (first | (with_reducible first | exact HB.o | apply z7 | apply zas | apply zax | refine zN ?_ gB.o | refine zN ?_ cH.o | refine zN ?_ eY.o) | exact HB.o)⟩⟩
                   ·rw [if_neg fZ] at H; exact absurd H (by simp)
                  ·rw [if_neg fO] at H; exact absurd H (by simp)
                 ·rw [if_neg fY] at H; exact absurd H (by simp)
                ·rw [if_neg fN] at H; exact absurd H (by simp)
               ·rw [if_neg fX] at H; exact absurd H (by simp)
              ·rw [if_neg fW] at H; exact absurd H (by simp)
             ·rw [if_neg eP] at H; have fM := decide_eq_false eP; clear eP; simp only [Option.some.injEq, Prod.mk.injEq] at H; obtain ⟨rfl, rfl⟩ := H; go_wp2; go_ret2; exact ⟨_, er_, pk_ aK.o, bw_⟩
          ·rw [if_neg eO] at H; exact absurd H (by simp)
         ·rw [if_neg eN] at H; exact absurd H (by simp)
  ·rw [if_neg c6] at H; have cU : ((l1.length : Int) == (aD.length : Int)) = false := beq_eq_false_iff_ne.mpr c6; have cV : ((l1.length : Int) != (aD.length : Int)) = true := bne_iff_ne.mpr c6; have cW : (l1.length == aD.length) = false := by first | simpa using c6 | (simp at c6 ⊢; omega)
   simp only [Option.some.injEq, Prod.mk.injEq] at H; obtain ⟨rfl, rfl⟩ := H; go_enter Try.func21, Try.ntmps21; go_wp2_with (first | ((with_reducible refine zf (N := 3) rfl ?_); (try (refine zR (by rfl) ?_; dsimp only)); refine zah 3 (cs := #[.slice aQ aD.length aS, .slice aR aG.length aT]) (t := 24) ?_; intro aN hg w50 hbox hb; have aB := J (hbox); have bJ := J ((by rw [hg]; exact (zh bw_) : w.heap.size ≤ aN)); replace HB := J (za bw_ hb); have cH := bJ; clear hb hbox hg; have hcz51_0 := cz_ aB.o 0 rfl; have hcz51_1 := cz_ aB.o 1 rfl; have hfz51_0 := zb aB.o 0; have hfz51_1 := zb aB.o 1) | ((with_reducible refine zM (f := 17) rfl ?_); refine gl_ 17 Try.func17 #[.agg #[.slice aQ aD.length aS, .slice aR aG.length aT], .int .i64 (aD.length : Int)] ?_; (with_reducible refine (zz.calls k _ _ aD _ _ aG (aD.length : Int) bC _ ?aO ?aP ?bA ?bB A4.o).mono ?_); (case aO => exact sc_ (Kd.zm bL.o HB.o)); (case aP => exact bK.o); (case bA => exact sc_ (Kd.zm bV.o HB.o)); (case bB => exact bU.o); rintro e w52 ⟨rfl, hb⟩; refine ⟨_, rfl, ?_⟩; replace aB := J (fr_ aB.o hb); replace HB := J (za bw_ hb); (try clear hb); have hcz53_0 := cz_ aB.o 0 rfl; have hcz53_1 := cz_ aB.o 1 rfl; have hfz53_0 := zb aB.o 0; have hfz53_1 := zb aB.o 1)); go_ret2; exact ⟨_, er_, by first | exact Kd.zaI _ _ _ _ _ | exact Kd.N_nil _ _ _ _ _ | exact Kd.V_nil _ _ _ _ _ | exact Kd.Q_nil _ _ _ _ _ | exact Kd.zaP _ _ _ _ _, bw_⟩
 ·rw [if_neg c5] at H; have cS : (bC == 0) = false := beq_eq_false_iff_ne.mpr c5; have cT : (bC != 0) = true := bne_iff_ne.mpr c5; simp only [Option.some.injEq, Prod.mk.injEq] at H; obtain ⟨rfl, rfl⟩ := H; go_enter Try.func21, Try.ntmps21; go_wp2_with (first | ((with_reducible refine zf (N := 3) rfl ?_); (try (refine zR (by rfl) ?_; dsimp only)); refine zah 3 (cs := #[.slice aQ aD.length aS, .slice aR aG.length aT]) (t := 24) ?_; intro aN hg w54 hbox hb; have aB := J (hbox); have bJ := J ((by rw [hg]; exact (zh bw_) : w.heap.size ≤ aN)); replace HB := J (za bw_ hb); have cH := bJ; clear hb hbox hg; have hcz55_0 := cz_ aB.o 0 rfl; have hcz55_1 := cz_ aB.o 1 rfl; have hfz55_0 := zb aB.o 0; have hfz55_1 := zb aB.o 1) | ((with_reducible refine zM (f := 17) rfl ?_); refine gl_ 17 Try.func17 #[.agg #[.slice aQ aD.length aS, .slice aR aG.length aT], .int .i64 (aD.length : Int)] ?_; (with_reducible refine (zz.calls k _ _ aD _ _ aG (aD.length : Int) bC _ ?aO ?aP ?bA ?bB A4.o).mono ?_); (case aO => exact sc_ (Kd.zm bL.o HB.o)); (case aP => exact bK.o); (case bA => exact sc_ (Kd.zm bV.o HB.o)); (case bB => exact bU.o); rintro e w56 ⟨rfl, hb⟩; refine ⟨_, rfl, ?_⟩; replace aB := J (fr_ aB.o hb); replace HB := J (za bw_ hb); (try clear hb))); go_ret2; exact ⟨_, er_, by first | exact Kd.zaI _ _ _ _ _ | exact Kd.N_nil _ _ _ _ _ | exact Kd.V_nil _ _ _ _ _ | exact Kd.Q_nil _ _ _ _ _ | exact Kd.zaP _ _ _ _ _, bw_⟩
end Go.Proofs.Ytlidbaejhmamjaa.PB
namespace Go.Proofs.Ytlidbaejhmamjaa.PB
open Go.RowKit YtlidbaejhmamjaaW.PrintWords YtlidbaejhmamjaaW.PrintLast YtlidbaejhmamjaaW.PrintMore
attribute [local go_sem] zao zaq zaB zaC zae zaf zap zar   -- for this text's walks alone
def zq.l0 : Nat → List Int → List Int → Int → Option (Bool)
 | 0, _, _, _ => none
 | k + 1, x0, x1, x5 => if x5 < (x0.length : Int) then (if 0 ≤ x5 then (if x5 < (x1.length : Int) then (if (rd x0 x5) = (rd x1 x5) then (zq.l0 k x0 x1 (wrap64 (x5 + 1))) else (some false)) else (none)) else (none)) else (some true)
def zq.f (k : Nat) (l0 : List Int) (l1 : List Int) : Option (Bool) := if (l0.length : Int) = (l1.length : Int) then (zq.l0 k l0 l1 0) else (some false)
theorem zq.calls (k : Nat) (A0 : Option Addr) (c0 : Nat) (l0 : List Int) (A1 : Option Addr) (c1 : Nat) (l1 : List Int) (r : Bool) (w : World) (hr0 : Kd.C (Kd.int .i64) w A0 l0.length l0) (hc0 : l0.length ≤ c0) (hr1 : Kd.C (Kd.int .i64) w A1 l1.length l1) (hc1 : l1.length ≤ c1) (h : zq.f k l0 l1 = some r) :
  Calls Try.prog 23 #[.slice A0 l0.length c0, .slice A1 l1.length c1] w fun e w' => e = .returned (.bool r) ∧ zag w w' := by
 have HR0 := J hr0; have HC0 := J hc0; clear hr0 hc0; have HR1 := J hr1; have HC1 := J hc1; clear hr1 hc1; have H : (if (l0.length : Int) = (l1.length : Int) then (zq.l0 k l0 l1 0) else (some false)) = some r := h; clear h
 by_cases c3 : (l0.length : Int) = (l1.length : Int)
 ·rw [if_pos c3] at H; have aM : ((l0.length : Int) == (l1.length : Int)) = true := beq_iff_eq.mpr c3; have aN : ((l0.length : Int) != (l1.length : Int)) = false := bne_eq_false_iff_eq.mpr c3; have aO : (l0.length == l1.length) = true := by first | simpa using c3 | (simp at c3 ⊢; omega)
  clear c3; have H' := J H; clear H; go_enter Try.func23, Try.ntmps23; go_wp2
  repeat (go_quiet (fail); try go_wp2)
  go_loopg [5] k (fun kq v5 w' => ∃ (aA : Int), v5 = .int .i64 aA ∧ ze (zq.l0 kq l0 l1 aA = some r) ∧ ze (kq ≤ k) ∧ zag w w')
  case atStart => exact ⟨(0), rs_, H', ⟨Nat.le_refl _⟩, by repeat (first | exact zag.refl _ | apply zag.step)⟩
  case round =>
   clear H'
   try clear c1
   try clear c2
   try clear p2
   try clear c3
   try clear aM
   try clear aN
   try clear aO
   obtain ⟨aA, rfl, HA, HK1, ⟨m1, rfl⟩⟩ := hrel
   cases gk with
   | zero => exact absurd HA.o (by simp [zq.l0])
   | succ k1 =>
    have H := HA.o; clear HA; simp only [zq.l0] at H
    by_cases c4 : aA < (l0.length : Int)
    ·rw [if_pos c4] at H; have aP := decide_eq_true c4; clear c4
     by_cases c5 : 0 ≤ aA
     ·rw [if_pos c5] at H; have c5b0 := decide_eq_true c5; clear c5
      by_cases c6 : aA < (l1.length : Int)
      ·rw [if_pos c6] at H; have c6b0 := decide_eq_true c6; clear c6
       by_cases c7 : (rd l0 aA) = (rd l1 aA)
       ·rw [if_pos c7] at H; have aQ : ((rd l0 aA) == (rd l1 aA)) = true := beq_iff_eq.mpr c7; have aR : ((rd l0 aA) != (rd l1 aA)) = false := bne_eq_false_iff_eq.mpr c7; clear c7; have H' := J H; clear H; have aB : 0 ≤ (aA : Int) := od_; have aD : aA < (l0.length : Int) := od_; obtain ⟨aK, aI, aG⟩ := Kd.zQ HR0.o aA aB aD; cases aI; replace aB := eq_true aB; replace aD := eq_true aD; have aC : 0 ≤ (aA : Int) := od_; have aE : aA < (l1.length : Int) := od_; obtain ⟨aL, aJ, aH⟩ := Kd.zQ HR1.o aA aC aE; cases aJ; replace aC := eq_true aC; replace aE := eq_true aE; go_wp2
        repeat (go_quiet (fail); try go_wp2)
        go_roundg k1
        case measure => have := HK1.o; omega
        case rel => exact ⟨(wrap64 (aA + 1)), rs_, H', ⟨by have := HK1.o; omega⟩, by repeat (first | exact zag.refl _ | apply zag.step)⟩
       ·rw [if_neg c7] at H; have aQ : ((rd l0 aA) == (rd l1 aA)) = false := beq_eq_false_iff_ne.mpr c7; have aR : ((rd l0 aA) != (rd l1 aA)) = true := bne_iff_ne.mpr c7; obtain rfl := Option.some.inj H; have aB : 0 ≤ (aA : Int) := od_; have aD : aA < (l0.length : Int) := od_; obtain ⟨aK, aI, aG⟩ := Kd.zQ HR0.o aA aB aD; cases aI; replace aB := eq_true aB; replace aD := eq_true aD; have aC : 0 ≤ (aA : Int) := od_; have aE : aA < (l1.length : Int) := od_; obtain ⟨aL, aJ, aH⟩ := Kd.zQ HR1.o aA aC aE; cases aJ; replace aC := eq_true aC; replace aE := eq_true aE; go_wp2
        repeat (go_quiet (fail); try go_wp2)
        go_ret; exact ⟨rs_, by repeat (first | exact zag.refl _ | apply zag.step)⟩
      ·rw [if_neg c6] at H; exact absurd H (by simp)
     ·rw [if_neg c5] at H; exact absurd H (by simp)
    ·rw [if_neg c4] at H; have aP := decide_eq_false c4; clear c4; obtain rfl := Option.some.inj H; go_wp2
     repeat (go_quiet (fail); try go_wp2)
     go_ret; exact ⟨rs_, by repeat (first | exact zag.refl _ | apply zag.step)⟩
 ·rw [if_neg c3] at H; have aM : ((l0.length : Int) == (l1.length : Int)) = false := beq_eq_false_iff_ne.mpr c3; have aN : ((l0.length : Int) != (l1.length : Int)) = true := bne_iff_ne.mpr c3; have aO : (l0.length == l1.length) = false := by first | simpa using c3 | (simp at c3 ⊢; omega)
  obtain rfl := Option.some.inj H; go_enter Try.func23, Try.ntmps23; go_wp2
  repeat (go_quiet (fail); try go_wp2)
  go_ret; exact ⟨rs_, by repeat (first | exact zag.refl _ | apply zag.step)⟩
end Go.Proofs.Ytlidbaejhmamjaa.PB
namespace Go.Proofs.Ytlidbaejhmamjaa.LW
open Go.RowKit YtlidbaejhmamjaaW.PrintWords YtlidbaejhmamjaaW.PrintLast YtlidbaejhmamjaaW.PrintMore PB LA AC
/-- A row of whole numbers that is read. -/
structure Rd (w : World) (A : Option Addr) (c : Nat) (xs : List Int) : Prop where
 row : Kd.C (Kd.int .i64) w A xs.length xs
 cap : xs.length ≤ c
/-- A region's box. -/
def Bx (w : World) (g : Nat) (A0 : Option Addr) (n0 c0 : Nat) (A1 : Option Addr) (n1 c1 : Nat) : Prop := w.heap[g]? = some (.cells #[.slice A0 n0 c0, .slice A1 n1 c1] 24 (0, 0))
theorem Rd.step {w w' : World} {A : Option Addr} {c : Nat} {xs : List Int} (h : Rd w A c xs) (hb : Below w.heap.size w w') : Rd w' A c xs := ⟨Kd.zm h.row hb, h.cap⟩
theorem Rd.of_R {w : World} {base : Nat} {ok : Nat → Prop} {v : Value} {xs : List Int} (h : Kd.R (Kd.int .i64) 3 w base ok v xs) : ∃ A c, v = .slice A xs.length c ∧ Rd w A c xs := by
 obtain ⟨A, c, rfl⟩ := Kd.zJ h; have := Kd.zK h; exact ⟨A, c, rfl, this.2.2, this.2.1⟩
theorem Rd.put {w w' : World} {A : Option Addr} {c : Nat} {xs : List Int} (h : Rd w A c xs) {g : Nat} {A0 A1 : Option Addr} {n0 c0 n1 c1 : Nat} (hk : Bx w g A0 n0 c0 A1 n1 c1) (hg : w.grownBy w' (some g)) : Rd w' A c xs := by
 refine ⟨⟨h.row.1, h.row.2.1, fun hn => ?_⟩, h.cap⟩; obtain ⟨ad, e, hc⟩ := h.row.2.2 hn; refine ⟨ad, e, fun j p hj => ?_⟩; obtain ⟨cs, hs, hr, hcell⟩ := hc j p hj; refine ⟨cs, hs, hr, fun i u hu => ?_⟩; have hold := hcell i u hu
 have hu2 : u = .int .i64 p := by
  have hr2 : cs = [Value.int .i64 p] := hr; subst hr2
  cases i with
  | zero => exact (Option.some.inj hu).symm
  | succ i => cases hu
 by_cases hb : (ad.add (j * (Kd.int .i64).sz + i)).block = g
 ·exfalso
  unfold World.cell? at hold; rw [hb, hk, hu2] at hold; simp only at hold
  split at hold
  ·cases hold
  ·generalize (ad.add (j * (Kd.int .i64).sz + i)).off = o at hold
   match o with
   | 0 => simp at hold
   | 1 => simp at hold
   | o + 2 => simp at hold
 ·rw [World.cell?_of_block (w := w) (hg.block _ (by
   unfold World.cell? at hold
   split at hold
   ·rename_i h1; exact zac h1
   ·cases hold) (fun e => hb (Option.some.inj e)))]
  exact hold
theorem Bx.step {w w' : World} {g : Nat} {A0 A1 : Option Addr} {n0 c0 n1 c1 : Nat} (h : Bx w g A0 n0 c0 A1 n1 c1) (hb : Below w.heap.size w w') : Bx w' g A0 n0 c0 A1 n1 c1 := zd h hb
theorem Bx.put {w w' : World} {g g' : Nat} {A0 A1 : Option Addr} {n0 c0 n1 c1 : Nat} (h : Bx w g A0 n0 c0 A1 n1 c1) (hg : w.grownBy w' (some g')) (hne : g ≠ g') : Bx w' g A0 n0 c0 A1 n1 c1 := zu hg h (fun e => hne (Option.some.inj e))
theorem Bx.lt {w : World} {g : Nat} {A0 A1 : Option Addr} {n0 c0 n1 c1 : Nat} (h : Bx w g A0 n0 c0 A1 n1 c1) : g < w.heap.size := zac h
theorem Bx.c0 {w : World} {g : Nat} {A0 A1 : Option Addr} {n0 c0 n1 c1 : Nat} (h : Bx w g A0 n0 c0 A1 n1 c1) : w.cell? ⟨g, 0, none⟩ = some (.slice A0 n0 c0) := (zg h 0).trans rfl
theorem Bx.c1 {w : World} {g : Nat} {A0 A1 : Option Addr} {n0 c0 n1 c1 : Nat} (h : Bx w g A0 n0 c0 A1 n1 c1) : w.cell? ⟨g, 1, none⟩ = some (.slice A1 n1 c1) := (zg h 1).trans rfl
theorem info24 : (Try.prog.info? 24).map (·.size) = some 2 := by kernel_rfl
theorem slices_one (A0 A1 : Option Addr) (n0 c0 n1 c1 : Nat) : (#[Value.slice A0 n0 c0, .slice A1 n1 c1] : Array Value).all (·.oneCell') = true := by simp [Value.oneCell']
theorem awake_vals : ∃ (p0 p1 a0 a1 b0 b1 l y1 y2 y3 y4 y5 : List Int), split_Whole.f 40 2 = some (p0, p1, 0) ∧ zX.f 40 p0 p1 1 = some (a0, a1, b0, b1, 0) ∧ zaJ.f 40 b0 b1 = some (1, 0) ∧ zv.f 40 b0 b1 y1 1 = some (l, 0) ∧
  zq.f 40 l y2 = some true ∧ zz.f 40 p0 p1 2 = some 0 ∧ decide (Win a0 a1 y3 0) = true ∧ decide (Win b0 b1 y4 0) = false ∧ zq.f 40 b1 y5 = some true ∧
  y1 = [1, -1] ∧ y2 = [2, 0] ∧ y3 = [0, -1] ∧ y4 = [0, -1] ∧ y5 = [0, 1] :=
 ⟨[0, 0], [0, 0], [0, 1], [0, 0], [0, 1], [0, 1], [2, 0], _, _, _, _, _, by kernel_rfl, by kernel_rfl, by kernel_rfl, by kernel_rfl, by kernel_rfl, by kernel_rfl, by decide +kernel, by decide +kernel, by kernel_rfl, rfl, rfl, rfl, rfl, rfl⟩
theorem drawn0_below {w w' : World} (h : zag w w') : Below w.heap.size w w' := by
 obtain ⟨n, rfl⟩ := h; exact below_drewN (Below.refl _ _) n
theorem awake_calls (w : World) : Calls Try.prog 14 #[] w fun e w' => e = .returned (.bool true) ∧ Below w.heap.size w w' := by
 obtain ⟨p0, p1, a0, a1, b0, b1, l, y1, y2, y3, y4, y5, h1, h2, h3, h4, h5, h6, h7, h8, h9, e1, e2, e3, e4, e5⟩ := awake_vals; have F1 := J h1; have F2 := J h2; have F3 := J h3; have F4 := J h4; have F5 := J h5; have F6 := J h6; have F7 := J h7; have F8 := J h8; have F9 := J h9; have E1 := J e1; have E2 := J e2; have E3 := J e3; have E4 := J e4; have E5 := J e5; have HI3 := J (show I64 y3 by rw [e3]; intro x hx; simp at hx; omega); have HI4 := J (show I64 y4 by rw [e4]; intro x hx; simp at hx; omega); clear h1 h2 h3 h4 h5 h6 h7 h8 h9 e1 e2 e3 e4 e5; have hu24 := Try.underlying24; have HB := J (Below.refl w.heap.size w); go_enter Try.func14, Try.ntmps14; go_wp2_with fail; refine (split_Whole.calls 40 2 p0 p1 0 w F1.o).mono ?_; rintro e w1 ⟨v0, v1, rfl, h0, h1, hb⟩; obtain ⟨bB, bD, rfl, bP⟩ := Rd.of_R h0; obtain ⟨bC, bE, rfl, bQ⟩ := Rd.of_R h1; replace HB := J (za HB.o hb); have aB := J bP; have aC := J bQ; clear hb bP h0 bQ h1
 go_wp2_with (first
  | ((with_reducible refine zf (N := 1) rfl ?_); refine zah 1 (cs := #[.slice none 0 0, .slice none 0 0]) (t := 24) ?_; intro g_p aI w2 aU aA; have L_p := J (show w.heap.size ≤ g_p by have := HB.o.size; omega); replace aB := J (aB.o.step aA); replace aC := J (aC.o.step aA); replace HB := J (za HB.o aA); have K_p := J (show Bx w2 g_p none 0 0 none 0 0 from aU); clear aI aU aA)
  | ((with_reducible refine zj (t := 24) (p := 1) rfl ?_); refine zi rfl 24 rfl rfl g_p #[.slice bB p0.length bD, .slice bC p1.length bE] rfl rfl 24 _ K_p.o (info24.trans rfl) rfl (slices_one _ _ _ _ _ _) ?_; intro w3 aU aI; replace aB := J (aB.o.put K_p.o aI); replace aC := J (aC.o.put K_p.o aI); replace HB := J (HB.o.grown aI HB.o.size (fun k_ bK => by cases bK; exact L_p.o)); replace K_p := J (show Bx w3 g_p bB p0.length bD bC p1.length bE from aU); clear aU aI; have aP := K_p.o.c0; have aQ := K_p.o.c1)
  | fail)
 refine (zX.calls 40 bB bD p0 bC bE p1 1 a0 a1 b0 b1 0 w3 aB.o.row aB.o.cap aC.o.row aC.o.cap F2.o).mono ?_; rintro e w4 ⟨v0, v1, v2, v3, rfl, h0, h1, h2, h3, hb⟩; clear aP aQ; obtain ⟨bF, bH, rfl, bL⟩ := Rd.of_R h0; obtain ⟨bG, bI, rfl, bM⟩ := Rd.of_R h1; obtain ⟨aZ, bA, rfl, bN⟩ := Rd.of_R h2; obtain ⟨aW, aY, rfl, bO⟩ := Rd.of_R h3; replace aB := J (aB.o.step hb); replace aC := J (aC.o.step hb); replace K_p := J (K_p.o.step hb); replace HB := J (za HB.o hb); have aG := J bL; have aH := J bM; have aE := J bN; have aD := J bO; clear hb bL h0 bM h1 bN h2 bO h3
 go_wp2_with (first
  | ((with_reducible refine zf (N := 3) rfl ?_); refine zah 3 (cs := #[.slice none 0 0, .slice none 0 0]) (t := 24) ?_; intro g_a aI w5 aU aA; have N_a_p := J (show g_p ≠ g_a by have := K_p.o.lt; omega); have L_a := J (show w.heap.size ≤ g_a by have := HB.o.size; omega); replace aB := J (aB.o.step aA); replace aC := J (aC.o.step aA); replace aG := J (aG.o.step aA); replace aH := J (aH.o.step aA); replace aE := J (aE.o.step aA); replace aD := J (aD.o.step aA); replace K_p := J (K_p.o.step aA); replace HB := J (za HB.o aA); have K_a := J (show Bx w5 g_a none 0 0 none 0 0 from aU); clear aI aU aA)
  | ((with_reducible refine zf (N := 4) rfl ?_); refine zah 4 (cs := #[.slice none 0 0, .slice none 0 0]) (t := 24) ?_; intro g_b aI w6 aU aA; have N_b_p := J (show g_p ≠ g_b by have := K_p.o.lt; omega); have N_b_a := J (show g_a ≠ g_b by have := K_a.o.lt; omega); have L_b := J (show w.heap.size ≤ g_b by have := HB.o.size; omega); replace aB := J (aB.o.step aA); replace aC := J (aC.o.step aA); replace aG := J (aG.o.step aA); replace aH := J (aH.o.step aA); replace aE := J (aE.o.step aA); replace aD := J (aD.o.step aA); replace K_p := J (K_p.o.step aA); replace K_a := J (K_a.o.step aA); replace HB := J (za HB.o aA); have K_b := J (show Bx w6 g_b none 0 0 none 0 0 from aU); clear aI aU aA)
  | ((with_reducible refine zj (t := 24) (p := 3) rfl ?_); refine zi rfl 24 rfl rfl g_a #[.slice bF a0.length bH, .slice bG a1.length bI] rfl rfl 24 _ K_a.o (info24.trans rfl) rfl (slices_one _ _ _ _ _ _) ?_; intro w7 aU aI; replace aB := J (aB.o.put K_a.o aI); replace aC := J (aC.o.put K_a.o aI); replace aG := J (aG.o.put K_a.o aI); replace aH := J (aH.o.put K_a.o aI); replace aE := J (aE.o.put K_a.o aI); replace aD := J (aD.o.put K_a.o aI); replace K_p := J (K_p.o.put aI N_a_p.o); replace K_b := J (K_b.o.put aI N_b_a.o.symm); replace HB := J (HB.o.grown aI HB.o.size (fun k_ bK => by cases bK; exact L_a.o)); replace K_a := J (show Bx w7 g_a bF a0.length bH bG a1.length bI from aU); clear aU aI; have aN := K_a.o.c0; have aO := K_a.o.c1)
  | ((with_reducible refine zj (t := 24) (p := 4) rfl ?_); refine zi rfl 24 rfl rfl g_b #[.slice aZ b0.length bA, .slice aW b1.length aY] rfl rfl 24 _ K_b.o (info24.trans rfl) rfl (slices_one _ _ _ _ _ _) ?_; intro w8 aU aI; replace aB := J (aB.o.put K_b.o aI); replace aC := J (aC.o.put K_b.o aI); replace aG := J (aG.o.put K_b.o aI); replace aH := J (aH.o.put K_b.o aI); replace aE := J (aE.o.put K_b.o aI); replace aD := J (aD.o.put K_b.o aI); replace K_p := J (K_p.o.put aI N_b_p.o); replace K_a := J (K_a.o.put aI N_b_a.o); replace HB := J (HB.o.grown aI HB.o.size (fun k_ bK => by cases bK; exact L_b.o)); replace K_b := J (show Bx w8 g_b aZ b0.length bA aW b1.length aY from aU); clear aU aI; have aK := K_b.o.c0; have aL := K_b.o.c1)
  | fail)
 refine (zaJ.calls 40 aZ bA b0 aW aY b1 1 0 w8 aE.o.row aE.o.cap aD.o.row aD.o.cap F3.o).mono ?_; rintro e w9 ⟨rfl, hb⟩; clear aN aO aK aL; replace aB := J (aB.o.step hb); replace aC := J (aC.o.step hb); replace aG := J (aG.o.step hb); replace aH := J (aH.o.step hb); replace aE := J (aE.o.step hb); replace aD := J (aD.o.step hb); replace K_p := J (K_p.o.step hb); replace K_a := J (K_a.o.step hb); replace K_b := J (K_b.o.step hb); replace HB := J (za HB.o hb); clear hb; have aK := K_b.o.c0; have aL := K_b.o.c1
 go_wp2_with (first
  | ((with_reducible refine zf (N := 27) rfl ?_); (try (refine zR (by rfl) ?_; dsimp only)); refine Kd.R_lit (Kd.int .i64) _ 3 ?hg (N := 27) ?hd (xs := ([1, (-1)] : List Int)) (inner := [.int .i64 1, .int .i64 (-1)]) (ok := fun _ => True) (okp := fun _ => True) ?hr ?hp (fun _ hk => hk) trivial (Below.refl _ _) (Nat.le_refl _) (by simp) ?_; (case hd => rfl); (case hg => rfl); (case hr => first | (go_simp; done) | (go_simp; rfl)); (case hp => exact (zbj.one (show Kd.M (Kd.int .i64) _ _ _ 1 [.int .i64 1] from rfl) (zbj.one (show Kd.M (Kd.int .i64) _ _ _ (-1) [.int .i64 (-1)] from rfl) (zbj.none _ _)))); intro v_ w10 aT aA aI aR; clear aI aR; rw [← E1.o] at aT; obtain ⟨bR, bW, rfl, aV⟩ := Rd.of_R aT; replace aB := J (aB.o.step aA); replace aC := J (aC.o.step aA); replace aG := J (aG.o.step aA); replace aH := J (aH.o.step aA); replace aE := J (aE.o.step aA); replace aD := J (aD.o.step aA); replace K_p := J (K_p.o.step aA); replace K_a := J (K_a.o.step aA); replace K_b := J (K_b.o.step aA); replace HB := J (za HB.o aA); have aJ := J aV; clear aT aA aV)
  | fail)
 refine (zv.calls 40 aZ bA b0 aW aY b1 bR bW y1 1 l 0 w10 aE.o.row aE.o.cap aD.o.row aD.o.cap aJ.o.row aJ.o.cap F4.o).mono ?_; rintro e w11 ⟨v0, rfl, h0, hb⟩; clear aK aL; obtain ⟨A_l, c_l, rfl, r_l⟩ := Rd.of_R h0; replace aB := J (aB.o.step hb); replace aC := J (aC.o.step hb); replace aG := J (aG.o.step hb); replace aH := J (aH.o.step hb); replace aE := J (aE.o.step hb); replace aD := J (aD.o.step hb); replace aJ := J (aJ.o.step hb); replace K_p := J (K_p.o.step hb); replace K_a := J (K_a.o.step hb); replace K_b := J (K_b.o.step hb); replace HB := J (za HB.o hb); have R_l := J r_l; clear hb r_l h0
 go_wp2_with (first
  | ((with_reducible refine zf (N := 51) rfl ?_); (try (refine zR (by rfl) ?_; dsimp only)); refine Kd.R_lit (Kd.int .i64) _ 3 ?hg (N := 51) ?hd (xs := ([2, 0] : List Int)) (inner := [.int .i64 2, .int .i64 0]) (ok := fun _ => True) (okp := fun _ => True) ?hr ?hp (fun _ hk => hk) trivial (Below.refl _ _) (Nat.le_refl _) (by simp) ?_; (case hd => rfl); (case hg => rfl); (case hr => first | (go_simp; done) | (go_simp; rfl)); (case hp => exact (zbj.one (show Kd.M (Kd.int .i64) _ _ _ 2 [.int .i64 2] from rfl) (zbj.one (show Kd.M (Kd.int .i64) _ _ _ 0 [.int .i64 0] from rfl) (zbj.none _ _)))); intro v_ w12 aT aA aI aR; clear aI aR; rw [← E2.o] at aT; obtain ⟨bS, bX, rfl, aV⟩ := Rd.of_R aT; replace aB := J (aB.o.step aA); replace aC := J (aC.o.step aA); replace aG := J (aG.o.step aA); replace aH := J (aH.o.step aA); replace aE := J (aE.o.step aA); replace aD := J (aD.o.step aA); replace aJ := J (aJ.o.step aA); replace R_l := J (R_l.o.step aA); replace K_p := J (K_p.o.step aA); replace K_a := J (K_a.o.step aA); replace K_b := J (K_b.o.step aA); replace HB := J (za HB.o aA); have aM := J aV; clear aT aA aV)
  | fail)
 refine (zq.calls 40 A_l c_l l bS bX y2 true w12 R_l.o.row R_l.o.cap aM.o.row aM.o.cap F5.o).mono ?_; rintro e w13 ⟨rfl, hd⟩; have hb := drawn0_below hd; clear hd; replace aB := J (aB.o.step hb); replace aC := J (aC.o.step hb); replace aG := J (aG.o.step hb); replace aH := J (aH.o.step hb); replace aE := J (aE.o.step hb); replace aD := J (aD.o.step hb); replace aJ := J (aJ.o.step hb); replace R_l := J (R_l.o.step hb); replace aM := J (aM.o.step hb); replace K_p := J (K_p.o.step hb); replace K_a := J (K_a.o.step hb); replace K_b := J (K_b.o.step hb); replace HB := J (za HB.o hb); clear hb; have aP := K_p.o.c0; have aN := K_a.o.c0; have aK := K_b.o.c0; have aQ := K_p.o.c1; have aO := K_a.o.c1; have aL := K_b.o.c1; go_wp2_with fail; refine (zz.calls 40 bB bD p0 bC bE p1 2 0 w13 aB.o.row aB.o.cap aC.o.row aC.o.cap F6.o).mono ?_; rintro e w14 ⟨rfl, hb⟩; clear aP aQ aN aO aK aL; replace aB := J (aB.o.step hb); replace aC := J (aC.o.step hb); replace aG := J (aG.o.step hb); replace aH := J (aH.o.step hb); replace aE := J (aE.o.step hb); replace aD := J (aD.o.step hb); replace aJ := J (aJ.o.step hb); replace R_l := J (R_l.o.step hb); replace aM := J (aM.o.step hb); replace K_p := J (K_p.o.step hb); replace K_a := J (K_a.o.step hb); replace K_b := J (K_b.o.step hb); replace HB := J (za HB.o hb); clear hb; have aP := K_p.o.c0; have aN := K_a.o.c0
 have aK := K_b.o.c0; have aQ := K_p.o.c1; have aO := K_a.o.c1; have aL := K_b.o.c1
 go_wp2_with (first
  | ((with_reducible refine zf (N := 60) rfl ?_); (try (refine zR (by rfl) ?_; dsimp only)); refine Kd.R_lit (Kd.int .i64) _ 3 ?hg (N := 60) ?hd (xs := ([0, (-1)] : List Int)) (inner := [.int .i64 0, .int .i64 (-1)]) (ok := fun _ => True) (okp := fun _ => True) ?hr ?hp (fun _ hk => hk) trivial (Below.refl _ _) (Nat.le_refl _) (by simp) ?_; (case hd => rfl); (case hg => rfl); (case hr => first | (go_simp; done) | (go_simp; rfl)); (case hp => exact (zbj.one (show Kd.M (Kd.int .i64) _ _ _ 0 [.int .i64 0] from rfl) (zbj.one (show Kd.M (Kd.int .i64) _ _ _ (-1) [.int .i64 (-1)] from rfl) (zbj.none _ _)))); intro v_ w15 aT aA aI aR; clear aI aR; rw [← E3.o] at aT; obtain ⟨bT, bY, rfl, aV⟩ := Rd.of_R aT; replace aB := J (aB.o.step aA); replace aC := J (aC.o.step aA); replace aG := J (aG.o.step aA); replace aH := J (aH.o.step aA); replace aE := J (aE.o.step aA); replace aD := J (aD.o.step aA); replace aJ := J (aJ.o.step aA); replace R_l := J (R_l.o.step aA); replace aM := J (aM.o.step aA); replace K_p := J (K_p.o.step aA); replace K_a := J (K_a.o.step aA); replace K_b := J (K_b.o.step aA); replace HB := J (za HB.o aA); have aS := J aV; clear aT aA aV)
  | fail)
 refine (within_calls bF bH a0 bG bI a1 bT bY y3 0 w15 aG.o.row aG.o.cap aH.o.row aH.o.cap aS.o.row aS.o.cap HI3.o).mono ?_; rw [F7.o]; rintro e w16 ⟨rfl, hb⟩; clear aP aQ aN aO aK aL; replace aB := J (aB.o.step hb); replace aC := J (aC.o.step hb); replace aG := J (aG.o.step hb); replace aH := J (aH.o.step hb); replace aE := J (aE.o.step hb); replace aD := J (aD.o.step hb); replace aJ := J (aJ.o.step hb); replace R_l := J (R_l.o.step hb); replace aM := J (aM.o.step hb); replace aS := J (aS.o.step hb); replace K_p := J (K_p.o.step hb); replace K_a := J (K_a.o.step hb); replace K_b := J (K_b.o.step hb); replace HB := J (za HB.o hb); clear hb; have aP := K_p.o.c0; have aN := K_a.o.c0; have aK := K_b.o.c0; have aQ := K_p.o.c1; have aO := K_a.o.c1; have aL := K_b.o.c1
 go_wp2_with (first
  | ((with_reducible refine zf (N := 65) rfl ?_); (try (refine zR (by rfl) ?_; dsimp only)); refine Kd.R_lit (Kd.int .i64) _ 3 ?hg (N := 65) ?hd (xs := ([0, (-1)] : List Int)) (inner := [.int .i64 0, .int .i64 (-1)]) (ok := fun _ => True) (okp := fun _ => True) ?hr ?hp (fun _ hk => hk) trivial (Below.refl _ _) (Nat.le_refl _) (by simp) ?_; (case hd => rfl); (case hg => rfl); (case hr => first | (go_simp; done) | (go_simp; rfl)); (case hp => exact (zbj.one (show Kd.M (Kd.int .i64) _ _ _ 0 [.int .i64 0] from rfl) (zbj.one (show Kd.M (Kd.int .i64) _ _ _ (-1) [.int .i64 (-1)] from rfl) (zbj.none _ _)))); intro v_ w17 aT aA aI aR; clear aI aR; rw [← E4.o] at aT; obtain ⟨bU, bZ, rfl, aV⟩ := Rd.of_R aT; replace aB := J (aB.o.step aA); replace aC := J (aC.o.step aA); replace aG := J (aG.o.step aA); replace aH := J (aH.o.step aA); replace aE := J (aE.o.step aA); replace aD := J (aD.o.step aA); replace aJ := J (aJ.o.step aA); replace R_l := J (R_l.o.step aA); replace aM := J (aM.o.step aA); replace aS := J (aS.o.step aA); replace K_p := J (K_p.o.step aA); replace K_a := J (K_a.o.step aA); replace K_b := J (K_b.o.step aA); replace HB := J (za HB.o aA); have aX := J aV; clear aT aA aV)
  | fail)
 refine (within_calls aZ bA b0 aW aY b1 bU bZ y4 0 w17 aE.o.row aE.o.cap aD.o.row aD.o.cap aX.o.row aX.o.cap HI4.o).mono ?_; rw [F8.o]; rintro e w18 ⟨rfl, hb⟩; clear aP aQ aN aO aK aL; replace aB := J (aB.o.step hb); replace aC := J (aC.o.step hb); replace aG := J (aG.o.step hb); replace aH := J (aH.o.step hb); replace aE := J (aE.o.step hb); replace aD := J (aD.o.step hb); replace aJ := J (aJ.o.step hb); replace R_l := J (R_l.o.step hb); replace aM := J (aM.o.step hb); replace aS := J (aS.o.step hb); replace aX := J (aX.o.step hb); replace K_p := J (K_p.o.step hb); replace K_a := J (K_a.o.step hb); replace K_b := J (K_b.o.step hb); replace HB := J (za HB.o hb); clear hb; have aP := K_p.o.c0; have aN := K_a.o.c0; have aK := K_b.o.c0; have aQ := K_p.o.c1; have aO := K_a.o.c1; have aL := K_b.o.c1
 go_wp2_with (first
  | ((with_reducible refine zf (N := 72) rfl ?_); (try (refine zR (by rfl) ?_; dsimp only)); refine Kd.R_lit (Kd.int .i64) _ 3 ?hg (N := 72) ?hd (xs := ([0, 1] : List Int)) (inner := [.int .i64 0, .int .i64 1]) (ok := fun _ => True) (okp := fun _ => True) ?hr ?hp (fun _ hk => hk) trivial (Below.refl _ _) (Nat.le_refl _) (by simp) ?_; (case hd => rfl); (case hg => rfl); (case hr => first | (go_simp; done) | (go_simp; rfl)); (case hp => exact (zbj.one (show Kd.M (Kd.int .i64) _ _ _ 0 [.int .i64 0] from rfl) (zbj.one (show Kd.M (Kd.int .i64) _ _ _ 1 [.int .i64 1] from rfl) (zbj.none _ _)))); intro v_ w19 aT aA aI aR; clear aI aR; rw [← E5.o] at aT; obtain ⟨bV, cA, rfl, aV⟩ := Rd.of_R aT; replace aB := J (aB.o.step aA); replace aC := J (aC.o.step aA); replace aG := J (aG.o.step aA); replace aH := J (aH.o.step aA); replace aE := J (aE.o.step aA); replace aD := J (aD.o.step aA); replace aJ := J (aJ.o.step aA); replace R_l := J (R_l.o.step aA); replace aM := J (aM.o.step aA); replace aS := J (aS.o.step aA); replace aX := J (aX.o.step aA); replace K_p := J (K_p.o.step aA); replace K_a := J (K_a.o.step aA); replace K_b := J (K_b.o.step aA); replace HB := J (za HB.o aA); have bJ := J aV; clear aT aA aV)
  | fail)
 refine (zq.calls 40 aW aY b1 bV cA y5 true w19 aD.o.row aD.o.cap bJ.o.row bJ.o.cap F9.o).mono ?_; rintro e w20 ⟨rfl, hd⟩; have hb := drawn0_below hd; clear hd; replace HB := J (za HB.o hb); clear hb; clear aP aQ aN aO aK aL; go_wp2_with fail; go_ret; exact ⟨by first | done | rfl, HB.o⟩
end Go.Proofs.Ytlidbaejhmamjaa.LW
namespace Go.Proofs.Ytlidbaejhmamjaa.LW
open Go.RowKit Go.ChangeShapes Go.WideShapes YtlidbaejhmamjaaW.PrintWords YtlidbaejhmamjaaW.PrintLast YtlidbaejhmamjaaW.PrintMore PB LA AC
section
variable {H : Type} {enc : TypeId × Value → H} {W : World} {base : Nat} {spare : Nat → Bool} {held : Bool}
theorem wf_i64 {n : Int} (h : (Lit.int .i64 n).wf = true) : -9223372036854775808 ≤ n ∧ n < 9223372036854775808 := by
 simp [Lit.wf, IntKind.min, IntKind.max, IntKind.signed, IntKind.bits] at h
 omega
theorem ints_of_trod {fuel : Nat} {v : Value} {x : DataW H × List MemPlace} (h : DataW.trod enc Try.prog W base spare held fuel 22 [v] = some x) : ∃ A c xs, v = .slice A xs.length c ∧ Rd W A c xs ∧ I64 xs := by
 rcases open_ints Try.underlying22 Try.underlying3 yK_ h with ⟨hcs, _⟩ | ⟨a, len, cap, zs, hcs, _, hl, hm, hz, _, hcell, hwz⟩
 ·obtain rfl := (List.cons.inj hcs).1; exact ⟨none, 0, [], rfl, ⟨Kd.C_nil _ _, Nat.le_refl _⟩, fun x hx => by simp at hx⟩
 ·obtain rfl := (List.cons.inj hcs).1; have hlz : len ≤ zs.length := by rw [hz]; split <;> omega
  have hlen : (zs.take len).length = len := by rw [List.length_take]; omega
  refine ⟨some a, cap, zs.take len, by rw [hlen], ⟨⟨rfl, by rw [hlen]; simp [maxLen] at hm; omega, fun _ => ⟨a, rfl, fun j p hj => ⟨[.int .i64 p], rfl, rfl, fun i u hu => ?_⟩⟩⟩, by rw [hlen]; exact hl⟩, fun x hx => wf_i64 (hwz x (List.mem_of_mem_take hx))⟩
  cases i with
  | succ i => cases hu
  | zero =>
   obtain rfl := Option.some.inj hu
   have hj2 : j < (zs.take len).length := by
    rcases Nat.lt_or_ge j (zs.take len).length with h1 | h1
    ·exact h1
    ·rw [List.getElem?_eq_none h1] at hj; cases hj
   have hj3 : zs[j]? = some p := by
    rw [List.getElem?_take] at hj
    split at hj
    ·exact hj
    ·cases hj
   have := hcell j yO_; rw [List.getD_eq_getElem?_getD, hj3] at this
   show W.cell? (a.add (j * 1 + 0)) = _
   rw [Nat.mul_one, Nat.add_zero]; exact this
end
end Go.Proofs.Ytlidbaejhmamjaa.LW
namespace Go.Proofs.Ytlidbaejhmamjaa.PB
open Go.RowKit YtlidbaejhmamjaaW.PrintWords YtlidbaejhmamjaaW.PrintLast YtlidbaejhmamjaaW.PrintMore
attribute [local go_sem] zao zaq zaB zaC zae zaf zap zar   -- for this text's walks alone
def zo.l0 : Nat → List Int → Int → Option (List Int)
 | 0, _, _ => none
 | k + 1, x0, x3 => if x3 > 0 then (if 0 ≤ (wrap64 (x3 - 1)) then (if (wrap64 (x3 - 1)) < (x0.length : Int) then (if (rd x0 (wrap64 (x3 - 1))) = 0 then (zo.l0 k x0 (wrap64 (x3 - 1))) else (if 0 ≤ x3 then (if x3 ≤ (x0.length : Int) then (some (x0.take (x3 : Int).toNat)) else (none)) else (none))) else (none)) else (none)) else (if 0 ≤ x3 then (if x3 ≤ (x0.length : Int) then (some (x0.take (x3 : Int).toNat)) else (none)) else (none))
def zo.f (k : Nat) (l0 : List Int) : Option (List Int) := zo.l0 k l0 (l0.length : Int)
theorem zo.calls (k : Nat) (aT : Nat → Prop) (aI : Value) (l0 : List Int) (r : List Int) (w0 w : World) (hB : Below w0.heap.size w0 w) (ho0 : Kd.R (Kd.int .u32) 134 w w0.heap.size aT aI l0) (h : zo.f k l0 = some r) :
  Calls Try.prog 69 #[aI] w fun e w' => ∃ v0_ : Value, e = .returned (v0_) ∧ Kd.R (Kd.int .u32) 134 w' w0.heap.size (fun k_ => (aT k_ ∨ w.heap.size ≤ k_)) v0_ r ∧ Below w0.heap.size w0 w' ∧ Kept w w' (fun k_ => aT k_) := by
 have HO0 := J (show Kd.R (Kd.int .u32) 134 w w0.heap.size (fun k_ => (aT k_ ∨ w.heap.size ≤ k_)) aI l0 from Kd.zB ho0 (fun k_ hk => (.inl hk))); have HK := J (Kept.refl w (fun k_ => aT k_)); have HW0 := J hB.size; have HB := J hB; clear hB; have H : (zo.l0 k l0 (l0.length : Int)) = some r := h; clear h; have H' := J H; clear H; obtain ⟨Ao2, bK, eo2⟩ := Kd.zJ HO0.o; subst eo2; go_enter Try.func69, Try.ntmps69; go_wp2
 go_loopg [3] k (fun kq v3 w' => ∃ (aA : Int), v3 = .int .i64 aA ∧ ze (zo.l0 kq l0 aA = some r) ∧ ze (kq ≤ k) ∧ ze (Kd.R (Kd.int .u32) 134 w' w0.heap.size (fun k_ => (aT k_ ∨ w.heap.size ≤ k_)) (.slice Ao2 l0.length bK) l0) ∧ ze (Kept w w' (fun k_ => aT k_)) ∧ ze (Below w0.heap.size w0 w'))
 case atStart => exact ⟨((l0.length : Int)), rs_, H', ⟨Nat.le_refl _⟩, ⟨pk_ HO0.o⟩, ⟨by repeat (first | (with_reducible first | exact HK.o | apply Kept.alloc | apply Kept.drewN | apply Kept.drew) | exact HK.o)⟩, ⟨bw_⟩⟩
 case round =>
  clear H'
  try clear p2
  obtain ⟨aA, rfl, HA, HK1, aB, HK, HB⟩ := hrel
  cases gk with
  | zero => exact absurd HA.o (by simp [zo.l0])
  | succ k1 =>
   have H := HA.o; clear HA; simp only [zo.l0] at H
   by_cases c3 : aA > 0
   ·rw [if_pos c3] at H; have bH := decide_eq_true c3; clear c3; obtain ⟨aC, aJ⟩ : ∃ j_ : Int, (wrap64 (aA - 1)) = j_ := ⟨_, rfl⟩
    replace H : (if 0 ≤ (aC) then (if (aC) < (l0.length : Int) then (if (rd l0 (aC)) = 0 then (zo.l0 k1 l0 aC) else (if 0 ≤ aA then (if aA ≤ (l0.length : Int) then (some (l0.take (aA : Int).toNat)) else (none)) else (none))) else (none)) else (none)) = some r := by first | (rw [aJ] at H; exact H) | (simp only [aJ] at H ⊢; exact H)
    have hji4w : (IntKind.i64.wrap (aA - 1)) = aC := (zat _).trans aJ
    by_cases c5 : 0 ≤ (aC)
    ·rw [if_pos c5] at H; have c5b0 := decide_eq_true c5; clear c5
     by_cases c6 : (aC) < (l0.length : Int)
     ·rw [if_pos c6] at H; have c6b0 := decide_eq_true c6; clear c6
      by_cases c7 : (rd l0 (aC)) = 0
      ·rw [if_pos c7] at H; have bI : ((rd l0 (aC)) == 0) = true := beq_iff_eq.mpr c7; have bJ : ((rd l0 (aC)) != 0) = false := bne_eq_false_iff_eq.mpr c7; clear c7; have H' := J H; clear H; have aG : 0 ≤ ((aC) : Int) := od_; have aH : (aC) < (l0.length : Int) := od_; obtain ⟨aP, aU, aM⟩ := Kd.zQ (Kd.zK aB.o).2.2 (aC) aG aH; cases aU; replace aG := eq_true aG; replace aH := eq_true aH; go_wp2; go_roundg k1
       case measure => have := HK1.o; omega
       case rel => exact ⟨(aC), (by first | rfl | (simp; done) | (simp only [← aJ] <;> (first | rfl | simp)) | (simp [*]; done)), H', ⟨by have := HK1.o; omega⟩, ⟨pk_ aB.o⟩, ⟨by repeat (first | (with_reducible first | exact HK.o | apply Kept.alloc | apply Kept.drewN | apply Kept.drew) | exact HK.o)⟩, ⟨bw_⟩⟩
      ·rw [if_neg c7] at H; have bI : ((rd l0 (aC)) == 0) = false := beq_eq_false_iff_ne.mpr c7; have bJ : ((rd l0 (aC)) != 0) = true := bne_iff_ne.mpr c7
       by_cases c8 : 0 ≤ aA
       ·rw [if_pos c8] at H; have c8b0 := eq_true c8; have c8b1 := decide_eq_true c8; clear c8
        by_cases c9 : aA ≤ (l0.length : Int)
        ·rw [if_pos c9] at H; have c9b0 := eq_true c9; have c9b1 := decide_eq_true c9; clear c9; obtain ⟨bF, aD⟩ : ∃ y_ : List Int, y_ = (l0.take (aA : Int).toNat) := ⟨_, rfl⟩
         replace H : (some bF) = some r := by first | (rw [aD]; with_reducible exact H) | (have aS := (Option.bind_some _ _).symm.trans H; rw [aD]; with_reducible exact aS) | (have aS := (Option.bind_some _ _).symm.trans H; with_reducible exact aS) | with_reducible exact H | (rw [aD]; exact H) | exact H
         have aN := J aD; clear aD; obtain rfl := Option.some.inj H; have aG : 0 ≤ ((aC) : Int) := od_; have aH : (aC) < (l0.length : Int) := od_; obtain ⟨aP, aU, aM⟩ := Kd.zQ (Kd.zK aB.o).2.2 (aC) aG aH; cases aU; replace aG := eq_true aG; replace aH := eq_true aH; have bL : (aA : Int) ≤ ((l0.length : Int) : Int) := od_; obtain ⟨i010, aQ, _, bB, _⟩ := info_parts info134; have aV := cut_to (P := Try.prog) 99 134 .i64 Try.underlying99 aQ (some aP) l0.length bK aA (od_) bL (Kd.zK aB.o).2.1; have aK := Kd.R_take (m := (aA : Int).toNat) aB.o yO_; have bD : bF.length = (aA : Int).toNat := (by rw [aN.o, List.length_take]; omega)
         rw [← aN.o] at aK; rw [← bD] at aK aV; clear bD aQ bB aB; have aX := J aK; clear aK; replace bL := eq_true bL; go_wp2; go_ret; exact ⟨_, by first | rfl | (simp [zaE, zaF] <;> rfl) | (simp only [← aJ]; first | rfl | (simp [zaE, zaF] <;> rfl)) | (simp [*, zaE, zaF] <;> rfl), pk_ aX.o, bw_, by repeat (first | (with_reducible first | exact HK.o | apply Kept.alloc | apply Kept.drewN | apply Kept.drew) | exact HK.o)⟩
        ·rw [if_neg c9] at H; exact absurd H (by simp)
       ·rw [if_neg c8] at H; exact absurd H (by simp)
     ·rw [if_neg c6] at H; exact absurd H (by simp)
    ·rw [if_neg c5] at H; exact absurd H (by simp)
   ·rw [if_neg c3] at H; have bH := decide_eq_false c3; clear c3
    by_cases aZ : 0 ≤ aA
    ·rw [if_pos aZ] at H; have c11b0 := eq_true aZ; have c11b1 := decide_eq_true aZ; clear aZ
     by_cases bA : aA ≤ (l0.length : Int)
     ·rw [if_pos bA] at H; have c12b0 := eq_true bA; have c12b1 := decide_eq_true bA; clear bA; obtain ⟨bG, aE⟩ : ∃ y_ : List Int, y_ = (l0.take (aA : Int).toNat) := ⟨_, rfl⟩
      replace H : (some bG) = some r := by first | (rw [aE]; with_reducible exact H) | (have aS := (Option.bind_some _ _).symm.trans H; rw [aE]; with_reducible exact aS) | (have aS := (Option.bind_some _ _).symm.trans H; with_reducible exact aS) | with_reducible exact H | (rw [aE]; exact H) | exact H
      have aO := J aE; clear aE; obtain rfl := Option.some.inj H; have bM : (aA : Int) ≤ ((l0.length : Int) : Int) := od_; obtain ⟨i013, aR, _, bC, _⟩ := info_parts info134; have aW := cut_to (P := Try.prog) 99 134 .i64 Try.underlying99 aR Ao2 l0.length bK aA (od_) bM (Kd.zK aB.o).2.1; have aL := Kd.R_take (m := (aA : Int).toNat) aB.o yO_; have bE : bG.length = (aA : Int).toNat := (by rw [aO.o, List.length_take]; omega)
      rw [← aO.o] at aL; rw [← bE] at aL aW; clear bE aR bC aB; have aY := J aL; clear aL; replace bM := eq_true bM; go_wp2; go_ret; exact ⟨_, er_, pk_ aY.o, bw_, by repeat (first | (with_reducible first | exact HK.o | apply Kept.alloc | apply Kept.drewN | apply Kept.drew) | exact HK.o)⟩
     ·rw [if_neg bA] at H; exact absurd H (by simp)
    ·rw [if_neg aZ] at H; exact absurd H (by simp)
end Go.Proofs.Ytlidbaejhmamjaa.PB
namespace Go.Proofs.Ytlidbaejhmamjaa.PB
open Go.RowKit YtlidbaejhmamjaaW.PrintWords YtlidbaejhmamjaaW.PrintLast YtlidbaejhmamjaaW.PrintMore
attribute [local go_sem] zao zaq zaB zaC zae zaf zap zar   -- for this text's walks alone
def zau.f (k : Nat) (a0 : Int) : Option (Bool × List Int × Int) := if a0 < 0 then (if a0 = 0 then (some (false, ([] : List Int), 0)) else ((zo.f k (([(IntKind.u64.wrap (-(IntKind.u64.wrap (a0)))) % 4294967296, ((IntKind.u64.wrap (-(IntKind.u64.wrap (a0)))) / 4294967296) % 4294967296] : List Int))).bind fun aA => (some (decide (a0 < 0), aA, 0)))) else (if a0 = 0 then (some (false, ([] : List Int), 0)) else ((zo.f k (([(IntKind.u64.wrap (a0)) % 4294967296, ((IntKind.u64.wrap (a0)) / 4294967296) % 4294967296] : List Int))).bind fun aB => (some (decide (a0 < 0), aB, 0))))
theorem zau.calls (k : Nat) (a0 : Int) (r1 : Bool) (r2 : List Int) (r3 : Int) (w : World) (h : zau.f k a0 = some (r1, r2, r3)) :
  Calls Try.prog 47 #[.int .i64 a0] w fun e w' => ∃ v1_ : Value, e = .returned (.agg #[.bool r1, v1_, .int .i64 r3]) ∧ Kd.R (Kd.int .u32) 134 w' w.heap.size (fun _ => True) v1_ r2 ∧ Below w.heap.size w w' := by
 have hu101 := Try.underlying101; have HB := J (Below.refl w.heap.size w); have H : (if a0 < 0 then (if a0 = 0 then (some (false, ([] : List Int), 0)) else ((zo.f k (([(IntKind.u64.wrap (-(IntKind.u64.wrap (a0)))) % 4294967296, ((IntKind.u64.wrap (-(IntKind.u64.wrap (a0)))) / 4294967296) % 4294967296] : List Int))).bind fun aG => (some (decide (a0 < 0), aG, 0)))) else (if a0 = 0 then (some (false, ([] : List Int), 0)) else ((zo.f k (([(IntKind.u64.wrap (a0)) % 4294967296, ((IntKind.u64.wrap (a0)) / 4294967296) % 4294967296] : List Int))).bind fun aH => (some (decide (a0 < 0), aH, 0))))) = some (r1, r2, r3) := h; clear h
 by_cases c2 : a0 < 0
 ·rw [if_pos c2] at H; have aL := decide_eq_true c2; clear c2
  by_cases c3 : a0 = 0
  ·rw [if_pos c3] at H; have bL : (a0 == 0) = true := beq_iff_eq.mpr c3; have bM : (a0 != 0) = false := bne_eq_false_iff_eq.mpr c3; clear c3; simp only [Option.some.injEq, Prod.mk.injEq] at H; try rw [aL] at H
   obtain ⟨rfl, rfl, rfl⟩ := H; go_enter Try.func47, Try.ntmps47; go_wp2_with (first | ((with_reducible refine zf (N := 2) rfl ?_); refine zah 2 (cs := #[.bool false, .slice none 0 0, .int .i64 0]) (t := 101) ?_; intro aB hg w4 hbox hb; have aA := J (hbox); have aC := J ((by rw [hg]; exact (zh bw_) : w.heap.size ≤ aB)); replace HB := J (za bw_ hb); have aK := aC; clear hb hbox hg; have hcz5_0 := cz_ aA.o 0 rfl; have hcz5_1 := cz_ aA.o 1 rfl; have hcz5_2 := cz_ aA.o 2 rfl; have hfz5_0 := zb aA.o 0; have hfz5_1 := zb aA.o 1; have hfz5_2 := zb aA.o 2)); refine bodyPost_ret (results_cell_row rfl _ _ aB 101 #[.bool false, .slice none 0 0, .int .i64 0] (0, 0) _ rfl (hp_ aA.o) Try.underlying101 rfl yK_) rfl ?_; exact ⟨_, er_, by first | exact Kd.zaI _ _ _ _ _ | exact Kd.N_nil _ _ _ _ _ | exact Kd.V_nil _ _ _ _ _ | exact Kd.Q_nil _ _ _ _ _ | exact Kd.zaP _ _ _ _ _, bw_⟩
  ·rw [if_neg c3] at H; have bL : (a0 == 0) = false := beq_eq_false_iff_ne.mpr c3; have bM : (a0 != 0) = true := bne_iff_ne.mpr c3; obtain ⟨aQ, aD⟩ : ∃ y_ : List Int, y_ = (([(IntKind.u64.wrap (-(IntKind.u64.wrap (a0)))) % 4294967296, ((IntKind.u64.wrap (-(IntKind.u64.wrap (a0)))) / 4294967296) % 4294967296] : List Int)) := ⟨_, rfl⟩
   replace H : ((zo.f k aQ).bind fun aG => (some (decide (a0 < 0), aG, 0))) = some (r1, r2, r3) := by first | (rw [aD]; with_reducible exact H) | (have aY := (Option.bind_some _ _).symm.trans H; rw [aD]; with_reducible exact aY) | (have aY := (Option.bind_some _ _).symm.trans H; with_reducible exact aY) | with_reducible exact H | (rw [aD]; exact H) | exact H
   have aU := J aD; clear aD; replace H := Option.bind_eq_some_iff.mp H; obtain ⟨aG, A60, H⟩ := H; replace H : (some (decide (a0 < 0), aG, 0)) = some (r1, r2, r3) := H; have A6 := J A60; clear A60; simp only [Option.some.injEq, Prod.mk.injEq] at H; try rw [aL] at H
   obtain ⟨rfl, rfl, rfl⟩ := H; go_enter Try.func47, Try.ntmps47
   go_wp2_with (first | ((with_reducible refine zf (N := 2) rfl ?_); refine zah 2 (cs := #[.bool false, .slice none 0 0, .int .i64 0]) (t := 101) ?_; intro aB hg w7 hbox hb; have aA := J (hbox); have aC := J ((by rw [hg]; exact (zh bw_) : w.heap.size ≤ aB)); replace HB := J (za bw_ hb); have aK := aC; clear hb hbox hg) | ((with_reducible refine zf (N := 20) rfl ?_); refine Kd.R_lit (Kd.int .u32) _ 134 ?hg (N := 20) ?hd (xs := ([(IntKind.u64.wrap (-(IntKind.u64.wrap (a0)))) % 4294967296, ((IntKind.u64.wrap (-(IntKind.u64.wrap (a0)))) / 4294967296) % 4294967296] : List Int)) (inner := [.int .u32 ((IntKind.u64.wrap (-(IntKind.u64.wrap (a0)))) % 4294967296), .int .u32 (((IntKind.u64.wrap (-(IntKind.u64.wrap (a0)))) / 4294967296) % 4294967296)]) (ok := fun _ => True) (okp := fun _ => True) ?hr ?hp (fun _ hk => hk) trivial (Below.refl _ _) (Nat.le_refl _) (by simp) ?_; (case hd => rfl); (case hg => rfl); (case hr => first | (go_simp; done) | (go_simp; rfl)); (case hp => exact (zbj.one (show Kd.M (Kd.int .u32) _ _ _ ((IntKind.u64.wrap (-(IntKind.u64.wrap (a0)))) % 4294967296) [.int .u32 ((IntKind.u64.wrap (-(IntKind.u64.wrap (a0)))) % 4294967296)] from rfl) (zbj.one (show Kd.M (Kd.int .u32) _ _ _ (((IntKind.u64.wrap (-(IntKind.u64.wrap (a0)))) / 4294967296) % 4294967296) [.int .u32 (((IntKind.u64.wrap (-(IntKind.u64.wrap (a0)))) / 4294967296) % 4294967296)] from rfl) (zbj.none _ _)))); intro v316 w8 bK hb bR aM; clear bR aM; (first | rw [← aU.o] at bK | (simp only [Int.reduceToNat] at bK; rw [← aU.o] at bK)); have aI := J (Kd.z9 bK (zh bw_)); replace aA := J (fr_ aA.o hb); replace HB := J (za bw_ hb); clear hb bK; obtain ⟨aW, bA, bN⟩ := Kd.zJ aI.o; subst bN) | ((with_reducible refine zM (f := 69) rfl ?_); refine gl_ 21 Try.func69 #[.slice aW aQ.length bA] ?_; (with_reducible refine (zo.calls k (fun k_ => some k_ = (.slice aW aQ.length bA : Value).ownBlock) (.slice aW aQ.length bA) aQ aG w _ ?aO ?aP A6.o).mono ?_); (case aO => exact bw_); (case aP => exact Kd.R_tight rfl aI.o); rintro e w11 ⟨v319, rfl, bJ, hb, hkp⟩; refine ⟨_, rfl, ?_⟩; replace aA := J (blk_kept (pe_ aA.o) hkp (fun bS => (fun e_ => (Kd.R_ne aI.o aA.o yD_) e_) bS)); have aS := J (Kd.zB (ok' := fun k_ => True) bJ (fun k_ hk_ => trivial)); replace HB := J (hb); clear aI; (try clear hb hkp bJ); obtain ⟨bD, bH, bO⟩ := Kd.zJ aS.o; subst bO; have hcz13_0 := cz_ aA.o 0 rfl; have hcz13_1 := cz_ aA.o 1 rfl; have hcz13_2 := cz_ aA.o 2 rfl; have hfz13_0 := zb aA.o 0; have hfz13_1 := zb aA.o 1; have hfz13_2 := zb aA.o 2))
   refine bodyPost_ret (results_cell_row rfl _ _ aB 101 #[.bool true, .slice bD aG.length bH, .int .i64 0] (0, 0) _ rfl (hp_ aA.o) Try.underlying101 rfl yK_) rfl ?_; exact ⟨_, er_, by (with_reducible repeat (first | apply Kd.R_alloc | apply Kd.zH | apply Kd.zI)); exact Kd.zB (Kd.zT (p := ⟨aB, 2, none⟩) (Kd.zT (p := ⟨aB, 1, none⟩) (Kd.zT (p := ⟨aB, 0, none⟩) (Kd.zV aS.o aA.o yD_) (fun _ hk => hk.2) (.bool true)) (fun _ hk => hk.2) (.slice bD aG.length bH)) (fun _ hk => hk.2) (.int .i64 0)) (fun _ hk => trivial), bw_⟩
 ·rw [if_neg c2] at H; have aL := decide_eq_false c2; clear c2
  by_cases aZ : a0 = 0
  ·rw [if_pos aZ] at H; have bF : (a0 == 0) = true := beq_iff_eq.mpr aZ; have bG : (a0 != 0) = false := bne_eq_false_iff_eq.mpr aZ; clear aZ; simp only [Option.some.injEq, Prod.mk.injEq] at H; try rw [aL] at H
   obtain ⟨rfl, rfl, rfl⟩ := H; go_enter Try.func47, Try.ntmps47; go_wp2_with (first | ((with_reducible refine zf (N := 2) rfl ?_); refine zah 2 (cs := #[.bool false, .slice none 0 0, .int .i64 0]) (t := 101) ?_; intro aB hg w15 hbox hb; have aA := J (hbox); have aC := J ((by rw [hg]; exact (zh bw_) : w.heap.size ≤ aB)); replace HB := J (za bw_ hb); have aK := aC; clear hb hbox hg; have hcz16_0 := cz_ aA.o 0 rfl; have hcz16_1 := cz_ aA.o 1 rfl; have hcz16_2 := cz_ aA.o 2 rfl; have hfz16_0 := zb aA.o 0; have hfz16_1 := zb aA.o 1; have hfz16_2 := zb aA.o 2)); refine bodyPost_ret (results_cell_row rfl _ _ aB 101 #[.bool false, .slice none 0 0, .int .i64 0] (0, 0) _ rfl (hp_ aA.o) Try.underlying101 rfl yK_) rfl ?_; exact ⟨_, er_, by first | exact Kd.zaI _ _ _ _ _ | exact Kd.N_nil _ _ _ _ _ | exact Kd.V_nil _ _ _ _ _ | exact Kd.Q_nil _ _ _ _ _ | exact Kd.zaP _ _ _ _ _, bw_⟩
  ·rw [if_neg aZ] at H; have bF : (a0 == 0) = false := beq_eq_false_iff_ne.mpr aZ; have bG : (a0 != 0) = true := bne_iff_ne.mpr aZ; obtain ⟨aR, aE⟩ : ∃ y_ : List Int, y_ = (([(IntKind.u64.wrap (a0)) % 4294967296, ((IntKind.u64.wrap (a0)) / 4294967296) % 4294967296] : List Int)) := ⟨_, rfl⟩
   replace H : ((zo.f k aR).bind fun aH => (some (decide (a0 < 0), aH, 0))) = some (r1, r2, r3) := by first | (rw [aE]; with_reducible exact H) | (have aY := (Option.bind_some _ _).symm.trans H; rw [aE]; with_reducible exact aY) | (have aY := (Option.bind_some _ _).symm.trans H; with_reducible exact aY) | with_reducible exact H | (rw [aE]; exact H) | exact H
   have aV := J aE; clear aE; replace H := Option.bind_eq_some_iff.mp H; obtain ⟨aH, bC, H⟩ := H; replace H : (some (decide (a0 < 0), aH, 0)) = some (r1, r2, r3) := H; have A17 := J bC; clear bC; simp only [Option.some.injEq, Prod.mk.injEq] at H; try rw [aL] at H
   obtain ⟨rfl, rfl, rfl⟩ := H; go_enter Try.func47, Try.ntmps47
   go_wp2_with (first | ((with_reducible refine zf (N := 2) rfl ?_); refine zah 2 (cs := #[.bool false, .slice none 0 0, .int .i64 0]) (t := 101) ?_; intro aB hg w18 hbox hb; have aA := J (hbox); have aC := J ((by rw [hg]; exact (zh bw_) : w.heap.size ≤ aB)); replace HB := J (za bw_ hb); have aK := aC; clear hb hbox hg) | ((with_reducible refine zf (N := 20) rfl ?_); refine Kd.R_lit (Kd.int .u32) _ 134 ?hg (N := 20) ?hd (xs := ([(IntKind.u64.wrap (a0)) % 4294967296, ((IntKind.u64.wrap (a0)) / 4294967296) % 4294967296] : List Int)) (inner := [.int .u32 ((IntKind.u64.wrap (a0)) % 4294967296), .int .u32 (((IntKind.u64.wrap (a0)) / 4294967296) % 4294967296)]) (ok := fun _ => True) (okp := fun _ => True) ?hr ?hp (fun _ hk => hk) trivial (Below.refl _ _) (Nat.le_refl _) (by simp) ?_; (case hd => rfl); (case hg => rfl); (case hr => first | (go_simp; done) | (go_simp; rfl)); (case hp => exact (zbj.one (show Kd.M (Kd.int .u32) _ _ _ ((IntKind.u64.wrap (a0)) % 4294967296) [.int .u32 ((IntKind.u64.wrap (a0)) % 4294967296)] from rfl) (zbj.one (show Kd.M (Kd.int .u32) _ _ _ (((IntKind.u64.wrap (a0)) / 4294967296) % 4294967296) [.int .u32 (((IntKind.u64.wrap (a0)) / 4294967296) % 4294967296)] from rfl) (zbj.none _ _)))); intro v322 w19 aN hb bR aM; clear bR aM; (first | rw [← aV.o] at aN | (simp only [Int.reduceToNat] at aN; rw [← aV.o] at aN)); have aJ := J (Kd.z9 aN (zh bw_)); replace aA := J (fr_ aA.o hb); replace HB := J (za bw_ hb); clear hb aN; obtain ⟨aX, bB, bP⟩ := Kd.zJ aJ.o; subst bP) | ((with_reducible refine zM (f := 69) rfl ?_); refine gl_ 21 Try.func69 #[.slice aX aR.length bB] ?_; (with_reducible refine (zo.calls k (fun k_ => some k_ = (.slice aX aR.length bB : Value).ownBlock) (.slice aX aR.length bB) aR aH w _ ?aO ?aP A17.o).mono ?_); (case aO => exact bw_); (case aP => exact Kd.R_tight rfl aJ.o); rintro e w22 ⟨v325, rfl, bJ, hb, hkp⟩; refine ⟨_, rfl, ?_⟩; replace aA := J (blk_kept (pe_ aA.o) hkp (fun bS => (fun e_ => (Kd.R_ne aJ.o aA.o yD_) e_) bS)); have aT := J (Kd.zB (ok' := fun k_ => True) bJ (fun k_ hk_ => trivial)); replace HB := J (hb); clear aJ; (try clear hb hkp bJ); obtain ⟨bE, bI, bQ⟩ := Kd.zJ aT.o; subst bQ; have hcz24_0 := cz_ aA.o 0 rfl; have hcz24_1 := cz_ aA.o 1 rfl; have hcz24_2 := cz_ aA.o 2 rfl; have hfz24_0 := zb aA.o 0; have hfz24_1 := zb aA.o 1; have hfz24_2 := zb aA.o 2))
   refine bodyPost_ret (results_cell_row rfl _ _ aB 101 #[.bool false, .slice bE aH.length bI, .int .i64 0] (0, 0) _ rfl (hp_ aA.o) Try.underlying101 rfl yK_) rfl ?_; exact ⟨_, er_, by (with_reducible repeat (first | apply Kd.R_alloc | apply Kd.zH | apply Kd.zI)); exact Kd.zB (Kd.zT (p := ⟨aB, 2, none⟩) (Kd.zT (p := ⟨aB, 1, none⟩) (Kd.zT (p := ⟨aB, 0, none⟩) (Kd.zV aT.o aA.o yD_) (fun _ hk => hk.2) (.bool false)) (fun _ hk => hk.2) (.slice bE aH.length bI)) (fun _ hk => hk.2) (.int .i64 0)) (fun _ hk => trivial), bw_⟩
end Go.Proofs.Ytlidbaejhmamjaa.PB
namespace Go.Proofs.Ytlidbaejhmamjaa.PB
open Go.RowKit YtlidbaejhmamjaaW.PrintWords YtlidbaejhmamjaaW.PrintLast YtlidbaejhmamjaaW.PrintMore
attribute [local go_sem] zao zaq zaB zaC zae zaf zap zar   -- for this text's walks alone
mutual
def zE.j0 : Nat → List Int → List Int → Option (List Int)
 | 0, _, _ => none
 | k + 1, x0, x1 => if 0 ≤ (wrap64 ((x0.length : Int) + 1)) then (if (wrap64 ((x0.length : Int) + 1) : Int).toNat ≤ 70368744177664 then (zE.l0 k x0 x1 (List.replicate (wrap64 ((x0.length : Int) + 1) : Int).toNat 0) 0 0) else (none)) else (none)
def zE.l0 : Nat → List Int → List Int → List Int → Int → Int → Option (List Int)
 | 0, _, _, _, _, _ => none
 | k + 1, x0, x1, x5, x6, x7 => if x7 < (x0.length : Int) then (if 0 ≤ x7 then (if x7 < (x1.length : Int) then (if x7 < (x5.length : Int) then (zE.l0 k x0 x1 (x5.set (x7 : Int).toNat ((IntKind.u64.wrap ((IntKind.u64.wrap (x6 + (IntKind.u64.wrap (rd x0 x7)))) + (IntKind.u64.wrap (rd x1 x7)))) % 4294967296)) ((IntKind.u64.wrap ((IntKind.u64.wrap (x6 + (IntKind.u64.wrap (rd x0 x7)))) + (IntKind.u64.wrap (rd x1 x7)))) / 4294967296) (wrap64 (x7 + 1))) else (none)) else (if x7 < (x5.length : Int) then (zE.l0 k x0 x1 (x5.set (x7 : Int).toNat ((IntKind.u64.wrap (x6 + (IntKind.u64.wrap (rd x0 x7)))) % 4294967296)) ((IntKind.u64.wrap (x6 + (IntKind.u64.wrap (rd x0 x7)))) / 4294967296) (wrap64 (x7 + 1))) else (none))) else (none)) else (if 0 ≤ (x0.length : Int) then (if (x0.length : Int) < (x5.length : Int) then ((zo.f k (x5.set ((x0.length : Int) : Int).toNat ((x6) % 4294967296))).bind fun aA => (some aA)) else (none)) else (none))
end
def zE.f (k : Nat) (l0 : List Int) (l1 : List Int) : Option (List Int) := if (l0.length : Int) < (l1.length : Int) then (zE.j0 k l1 l0) else (zE.j0 k l0 l1)
theorem zE.calls (k : Nat) (A0 : Option Addr) (c0 : Nat) (l0 : List Int) (A1 : Option Addr) (c1 : Nat) (l1 : List Int) (r : List Int) (w : World) (hr0 : Kd.C (Kd.int .u32) w A0 l0.length l0) (hc0 : l0.length ≤ c0) (hr1 : Kd.C (Kd.int .u32) w A1 l1.length l1) (hc1 : l1.length ≤ c1) (h : zE.f k l0 l1 = some r) :
  Calls Try.prog 97 #[.slice A0 l0.length c0, .slice A1 l1.length c1] w fun e w' => ∃ v0_ : Value, e = .returned (v0_) ∧ Kd.R (Kd.int .u32) 134 w' w.heap.size (fun _ => True) v0_ r ∧ Below w.heap.size w w' := by
 have bL := J hr0; have cP := J hc0; clear hr0 hc0; have bU := J hr1; have cQ := J hc1; clear hr1 hc1; have HB := J (Below.refl w.heap.size w); have H : (if (l0.length : Int) < (l1.length : Int) then (zE.j0 k l1 l0) else (zE.j0 k l0 l1)) = some r := h; clear h; have dB := J H; clear H; go_enter Try.func97, Try.ntmps97; go_upto_if 12 with (fail)
 go_cut [0, 1] (fun v0 v1 wc => ∃ (kq : Nat) (A0' : Option Addr) (c0' : Nat) (cK : List Int) (A1' : Option Addr) (c1' : Nat) (cL : List Int), v0 = .slice A0' cK.length c0' ∧ v1 = .slice A1' cL.length c1' ∧ ze (Kd.C (Kd.int .u32) w A0' cK.length cK) ∧ ze (cK.length ≤ c0') ∧ ze (Kd.C (Kd.int .u32) w A1' cL.length cL) ∧ ze (cL.length ≤ c1') ∧ ze (zE.j0 kq cK cL = some r) ∧ ze (kq ≤ k) ∧ ze (Below w.heap.size w wc))
 case first =>
  have H := dB.o; clear dB
  by_cases c4 : (l0.length : Int) < (l1.length : Int)
  ·rw [if_pos c4] at H; have aL := decide_eq_true c4; have aQ : decide (l0.length < l1.length) = true := decide_eq_true (Int.ofNat_lt.mp c4); clear c4
   (first | rw [aQ] | rw [aL] | (simp only [zat, zaM]; rw [aL]) | skip)
   have H' := J H; clear H; go_wp2; go_meet
   case rel => exact ⟨_, A1, c1, l1, A0, c0, l0, rfl, rfl, bU, cQ, bL, cP, H', ⟨om_⟩, ⟨bw_⟩⟩
  ·rw [if_neg c4] at H; have aL := decide_eq_false c4; have aQ : decide (l0.length < l1.length) = false := decide_eq_false (fun h => c4 (Int.ofNat_lt.mpr h)); clear c4
   (first | rw [aQ] | rw [aL] | (simp only [zat, zaM]; rw [aL]) | skip)
   have H' := J H; clear H; go_wp2; go_meet
   case rel => exact ⟨_, A0, c0, l0, A1, c1, l1, rfl, rfl, bL, cP, bU, cQ, H', ⟨om_⟩, ⟨bw_⟩⟩
 case rest =>
  clear dB
  try clear c1
  try clear p2
  try clear c4
  try clear aL
  try clear aQ
  clear bL cP bU cQ; obtain ⟨kq, A0, c0, l0, A1, c1, l1, rfl, rfl, bL, cP, bU, cQ, HA, cR, HB⟩ := hcut
  cases kq with
  | zero => exact absurd HA.o (by simp [zE.j0])
  | succ cX =>
   have H := HA.o; clear HA; simp only [zE.j0] at H; obtain ⟨aT, aS⟩ : ∃ j_ : Int, (wrap64 ((l0.length : Int) + 1)) = j_ := ⟨_, rfl⟩
   replace H : (if 0 ≤ (aT) then (if (aT : Int).toNat ≤ 70368744177664 then (zE.l0 cX l0 l1 (List.replicate (aT : Int).toNat 0) 0 0) else (none)) else (none)) = some r := by first | (rw [aS] at H; exact H) | (simp only [aS] at H ⊢; exact H)
   have hji5w : (IntKind.i64.wrap ((l0.length : Int) + 1)) = aT := (zat _).trans aS
   by_cases c6 : 0 ≤ (aT)
   ·rw [if_pos c6] at H; have dC := eq_true c6; have dD := decide_eq_true c6; clear c6
    by_cases c7 : (aT : Int).toNat ≤ 70368744177664
    ·rw [if_pos c7] at H; have dE := eq_true c7; have dF := decide_eq_true c7; clear c7; obtain ⟨cO, aG⟩ : ∃ y_ : List Int, y_ = (List.replicate (aT : Int).toNat 0) := ⟨_, rfl⟩
     replace H : (zE.l0 cX l0 l1 cO 0 0) = some r := by first | (rw [aG]; with_reducible exact H) | (have aK := (Option.bind_some _ _).symm.trans H; rw [aG]; with_reducible exact aK) | (have aK := (Option.bind_some _ _).symm.trans H; with_reducible exact aK) | with_reducible exact H | (rw [aG]; exact H) | exact H
     have aV := J aG; clear aG; have H' := J H; clear H; go_wp2_with (first | ((with_reducible refine zf (N := 18) rfl ?_); refine Kd.R_make (Kd.int .u32) _ 134 rfl (N := 18) rfl 99 _ _ rfl aT rfl rfl Try.underlying99 (.int .u32 0) 4 info134 rfl yD_ yO_ 0 (ok := fun _ => True) (okp := fun _ => True) rfl (fun _ hk => hk) trivial (od_) (Nat.le_trans (Nat.mul_le_mul_right _ (od_ : aT.toNat ≤ 70368744177664)) yO_) (Below.refl _ _) (Nat.le_refl _) ?_; intro dS w8 cJ hb hg_ cI; clear hg_ cI; (first | rw [← aV.o] at cJ | (simp only [Int.reduceToNat] at cJ; rw [← aV.o] at cJ)); have bS := J (Kd.z9 cJ (zh bw_)); replace HB := J (za bw_ hb); clear hb cJ))
     go_loopg [6, 7] cX (fun kq v6 v7 w' => ∃ (aB : List Int) (aD : Int) (aA : Int), v6 = .int .u64 aD ∧ v7 = .int .i64 aA ∧ ze (zE.l0 kq l0 l1 aB aD aA = some r) ∧ ze (kq ≤ cX) ∧ ze (Kd.R (Kd.int .u32) 134 w' w.heap.size (fun _ => True) dS aB) ∧ ze (Below w.heap.size w w'))
     case atStart => exact ⟨(cO), (0), (0), rs_, rs_, H', ⟨Nat.le_refl _⟩, ⟨pk_ bS.o⟩, ⟨bw_⟩⟩
     case round =>
      clear H'
      try clear c1
      try clear p2
      try clear c4
      try clear aL
      try clear aQ
      try clear c6
      try clear dC
      try clear dD
      try clear p6
      try clear c7
      try clear dE
      try clear dF
      try clear c9
      try clear p2
      obtain ⟨aB, aD, aA, rfl, rfl, HA, cS, aC, HB⟩ := hrel
      cases gk with
      | zero => exact absurd HA.o (by simp [zE.l0])
      | succ k2 =>
       have H := HA.o; clear HA; simp only [zE.l0] at H
       by_cases bM : aA < (l0.length : Int)
       ·rw [if_pos bM] at H; have bZ := decide_eq_true bM; clear bM
        by_cases cT : 0 ≤ aA
        ·rw [if_pos cT] at H; have c11b0 := decide_eq_true cT; clear cT
         by_cases bN : aA < (l1.length : Int)
         ·rw [if_pos bN] at H; have cA := decide_eq_true bN; clear bN
          by_cases cU : aA < (aB.length : Int)
          ·rw [if_pos cU] at H; have c13b0 := decide_eq_true cU; clear cU; obtain ⟨bI, aH⟩ : ∃ y_ : List Int, y_ = (aB.set (aA : Int).toNat ((IntKind.u64.wrap ((IntKind.u64.wrap (aD + (IntKind.u64.wrap (rd l0 aA)))) + (IntKind.u64.wrap (rd l1 aA)))) % 4294967296)) := ⟨_, rfl⟩
           replace H : (zE.l0 k2 l0 l1 bI ((IntKind.u64.wrap ((IntKind.u64.wrap (aD + (IntKind.u64.wrap (rd l0 aA)))) + (IntKind.u64.wrap (rd l1 aA)))) / 4294967296) (wrap64 (aA + 1))) = some r := by first | (rw [aH]; with_reducible exact H) | (have aK := (Option.bind_some _ _).symm.trans H; rw [aH]; with_reducible exact aK) | (have aK := (Option.bind_some _ _).symm.trans H; with_reducible exact aK) | with_reducible exact H | (rw [aH]; exact H) | exact H
           have bV := J aH; clear aH; have H' := J H; clear H; have aM : 0 ≤ (aA : Int) := od_; have aN : aA < (l0.length : Int) := od_; obtain ⟨bY, aZ, aE⟩ := Kd.zQ bL.o aA aM aN; cases aZ; replace aE := bx_ HB.o aE; replace aM := eq_true aM; replace aN := eq_true aN; have bG : 0 ≤ (aA : Int) := od_; have bH : aA < (l1.length : Int) := od_; obtain ⟨ad351, dI, aO⟩ := Kd.zQ bU.o aA bG bH; cases dI; replace aO := bx_ HB.o aO; replace bG := eq_true bG; replace bH := eq_true bH; have dM : 0 ≤ (aA : Int) := od_; have dP : (aA : Int) < ((aB.length : Int) : Int) := od_; obtain ⟨bA, dG, cC, cF, dJ, cl14, bP⟩ := Kd.R_form aC.o yO_
           (first | cases cC | (injection cC with ea_ en_ ec_; (first | subst ea_ | (injection ea_ with ea_; subst ea_)); subst ec_; clear en_))
           have cY := J cF; have GG14 := J bP; clear cF dJ bP; obtain ⟨hx14_0, hf14_0⟩ := Kd.zaQ 0 aC.o (aA : Int) dM dP; replace dM := eq_true dM; replace dP := eq_true dP; have aW := Kd.zbd aC.o (aA : Int) ((IntKind.u64.wrap ((IntKind.u64.wrap (aD + (IntKind.u64.wrap (rd l0 aA)))) + (IntKind.u64.wrap (rd l1 aA)))) % 4294967296); go_wp2_with (first | ((with_reducible refine zj (t := 134) (p := 47) rfl ?_); refine store_ 134 47 ((wr.setCell ⟨bA, (aA : Int).toNat, none⟩ (.int .u32 ((IntKind.u64.wrap ((IntKind.u64.wrap (aD + (IntKind.u64.wrap (rd l0 aA)))) + (IntKind.u64.wrap (rd l1 aA)))) % 4294967296)))) ?_; intro dT hw; have hg : wr.grownBy dT (some bA) := (by rw [hw]; exact aW.2); have hp_ : Kd.R (Kd.int .u32) 134 dT w.heap.size (fun _ => True) (.slice (some ⟨bA, 0, none⟩) aB.length dG) bI := (by rw [hw, bV.o]; exact aW.1); clear aW; replace aC := J (hp_); replace HB := J ((by rw [hw]; exact zN (HB.o) cY.o : Below w.heap.size w dT)); clear hg hw hp_)); go_roundg k2
           case measure => have := cR.o; have := cS.o; omega
           case rel => exact ⟨(bI), ((IntKind.u64.wrap ((IntKind.u64.wrap (aD + (IntKind.u64.wrap (rd l0 aA)))) + (IntKind.u64.wrap (rd l1 aA)))) / 4294967296), (wrap64 (aA + 1)), rs_, rs_, H', ⟨by have := cR.o; have := cS.o; omega⟩, ⟨pk_ aC.o⟩, ⟨bw_⟩⟩
          ·rw [if_neg cU] at H; exact absurd H (by simp)
         ·rw [if_neg bN] at H; have cA := decide_eq_false bN; clear bN
          by_cases cV : aA < (aB.length : Int)
          ·rw [if_pos cV] at H; have c17b0 := decide_eq_true cV; clear cV; obtain ⟨bJ, aI⟩ : ∃ y_ : List Int, y_ = (aB.set (aA : Int).toNat ((IntKind.u64.wrap (aD + (IntKind.u64.wrap (rd l0 aA)))) % 4294967296)) := ⟨_, rfl⟩
           replace H : (zE.l0 k2 l0 l1 bJ ((IntKind.u64.wrap (aD + (IntKind.u64.wrap (rd l0 aA)))) / 4294967296) (wrap64 (aA + 1))) = some r := by first | (rw [aI]; with_reducible exact H) | (have aK := (Option.bind_some _ _).symm.trans H; rw [aI]; with_reducible exact aK) | (have aK := (Option.bind_some _ _).symm.trans H; with_reducible exact aK) | with_reducible exact H | (rw [aI]; exact H) | exact H
           have bW := J aI; clear aI; have H' := J H; clear H; have aM : 0 ≤ (aA : Int) := od_; have aN : aA < (l0.length : Int) := od_; obtain ⟨bY, aZ, aE⟩ := Kd.zQ bL.o aA aM aN; cases aZ; replace aE := bx_ HB.o aE; replace aM := eq_true aM; replace aN := eq_true aN; have dN : 0 ≤ (aA : Int) := od_; have dQ : (aA : Int) < ((aB.length : Int) : Int) := od_; obtain ⟨bB, dH, cD, cG, dK, cl18, bQ⟩ := Kd.R_form aC.o yO_
           (first | cases cD | (injection cD with ea_ en_ ec_; (first | subst ea_ | (injection ea_ with ea_; subst ea_)); subst ec_; clear en_))
           have cZ := J cG; have GG18 := J bQ; clear cG dK bQ; obtain ⟨hx18_0, hf18_0⟩ := Kd.zaQ 0 aC.o (aA : Int) dN dQ; replace dN := eq_true dN; replace dQ := eq_true dQ; have aX := Kd.zbd aC.o (aA : Int) ((IntKind.u64.wrap (aD + (IntKind.u64.wrap (rd l0 aA)))) % 4294967296); go_wp2_with (first | ((with_reducible refine zj (t := 134) (p := 47) rfl ?_); refine store_ 134 47 ((wr.setCell ⟨bB, (aA : Int).toNat, none⟩ (.int .u32 ((IntKind.u64.wrap (aD + (IntKind.u64.wrap (rd l0 aA)))) % 4294967296)))) ?_; intro dV hw; have hg : wr.grownBy dV (some bB) := (by rw [hw]; exact aX.2); have hp_ : Kd.R (Kd.int .u32) 134 dV w.heap.size (fun _ => True) (.slice (some ⟨bB, 0, none⟩) aB.length dH) bJ := (by rw [hw, bW.o]; exact aX.1); clear aX; replace aC := J (hp_); replace HB := J ((by rw [hw]; exact zN (HB.o) cZ.o : Below w.heap.size w dV)); clear hg hw hp_)); go_roundg k2
           case measure => have := cR.o; have := cS.o; omega
           case rel => exact ⟨(bJ), ((IntKind.u64.wrap (aD + (IntKind.u64.wrap (rd l0 aA)))) / 4294967296), (wrap64 (aA + 1)), rs_, rs_, H', ⟨by have := cR.o; have := cS.o; omega⟩, ⟨pk_ aC.o⟩, ⟨bw_⟩⟩
          ·rw [if_neg cV] at H; exact absurd H (by simp)
        ·rw [if_neg cT] at H; exact absurd H (by simp)
       ·rw [if_neg bM] at H; have bZ := decide_eq_false bM; clear bM
        by_cases cW : 0 ≤ (l0.length : Int)
        ·rw [if_pos cW] at H; have c21b0 := decide_eq_true cW; have c21b1 : decide (0 ≤ l0.length) = true := decide_eq_true yO_; clear cW
         by_cases cB : (l0.length : Int) < (aB.length : Int)
         ·rw [if_pos cB] at H; have c22b0 := decide_eq_true cB; have c22b1 : decide (l0.length < aB.length) = true := decide_eq_true (Int.ofNat_lt.mp cB); clear cB; obtain ⟨bK, aJ⟩ : ∃ y_ : List Int, y_ = (aB.set ((l0.length : Int) : Int).toNat ((aD) % 4294967296)) := ⟨_, rfl⟩
          replace H : ((zo.f k2 bK).bind fun aU => (some aU)) = some r := by first | (rw [aJ]; with_reducible exact H) | (have aK := (Option.bind_some _ _).symm.trans H; rw [aJ]; with_reducible exact aK) | (have aK := (Option.bind_some _ _).symm.trans H; with_reducible exact aK) | with_reducible exact H | (rw [aJ]; exact H) | exact H
          have bX := J aJ; clear aJ; replace H := Option.bind_eq_some_iff.mp H; obtain ⟨aU, bO, H⟩ := H; replace H : (some aU) = some r := H; have A24 := J bO; clear bO; obtain rfl := Option.some.inj H; have dO : 0 ≤ ((l0.length : Int) : Int) := od_; have dR : ((l0.length : Int) : Int) < ((aB.length : Int) : Int) := od_; obtain ⟨aP, aR, cE, cH, dL, cl23, bR⟩ := Kd.R_form aC.o yO_
          (first | cases cE | (injection cE with ea_ en_ ec_; (first | subst ea_ | (injection ea_ with ea_; subst ea_)); subst ec_; clear en_))
          have dA := J cH; have GG23 := J bR; clear cH dL bR; obtain ⟨bE, bC⟩ := Kd.zaQ 0 aC.o ((l0.length : Int) : Int) dO dR; have bF := bE; have bD := bC; rw [Int.toNat_natCast] at bF bD; replace dO := eq_true dO; replace dR := eq_true dR; have aY := Kd.zbd aC.o ((l0.length : Int) : Int) ((aD) % 4294967296); go_wp2_with (first | ((with_reducible refine zj (t := 134) (p := 55) rfl ?_); refine store_ 134 55 ((wr.setCell ⟨aP, ((l0.length : Int) : Int).toNat, none⟩ (.int .u32 ((aD) % 4294967296)))) ?_; intro dW hw; have hg : wr.grownBy dW (some aP) := (by rw [hw]; exact aY.2); have hp_ : Kd.R (Kd.int .u32) 134 dW w.heap.size (fun _ => True) (.slice (some ⟨aP, 0, none⟩) aB.length aR) bK := (by rw [hw, bX.o]; exact aY.1); clear aY; replace aC := J (hp_); replace HB := J ((by rw [hw]; exact zN (HB.o) dA.o : Below w.heap.size w dW)); clear hg hw hp_) | ((with_reducible refine zM (f := 69) rfl ?_); refine gl_ 57 Try.func69 #[.slice (some ⟨aP, 0, none⟩) aB.length aR] ?_; (with_reducible refine (zo.calls k2 (fun k_ => some k_ = (.slice (some ⟨aP, 0, none⟩) aB.length aR : Value).ownBlock) (.slice (some ⟨aP, 0, none⟩) aB.length aR) bK aU w _ ?cM ?cN A24.o).mono ?_); (case cM => exact bw_); (case cN => exact Kd.R_tight rfl aC.o); rintro e w27 ⟨v356, rfl, ho0, hb, hkp⟩; refine ⟨_, rfl, ?_⟩; have bT := J (Kd.zB (ok' := fun k_ => True) ho0 (fun k_ hk_ => trivial)); replace HB := J (hb); clear aC; (try clear hb hkp ho0))); go_ret
          exact ⟨_, by first | rfl | (simp [zaE, zaF] <;> rfl) | (simp only [← aS]; first | rfl | (simp [zaE, zaF] <;> rfl)) | (simp [*, zaE, zaF] <;> rfl), pk_ bT.o, bw_⟩
         ·rw [if_neg cB] at H; exact absurd H (by simp)
        ·rw [if_neg cW] at H; exact absurd H (by simp)
    ·rw [if_neg c7] at H; exact absurd H (by simp)
   ·rw [if_neg c6] at H; exact absurd H (by simp)
end Go.Proofs.Ytlidbaejhmamjaa.PB
namespace Go.Proofs.Ytlidbaejhmamjaa.PB
open Go.RowKit YtlidbaejhmamjaaW.PrintWords YtlidbaejhmamjaaW.PrintLast YtlidbaejhmamjaaW.PrintMore
attribute [local go_sem] zao zaq zaB zaC zae zaf zap zar   -- for this text's walks alone
def zaa.l0 : Nat → List Int → List Int → Int → Option (Int)
 | 0, _, _, _ => none
 | k + 1, x0, x1, x5 => if x5 ≥ 0 then (if 0 ≤ x5 then (if x5 < (x0.length : Int) then (if x5 < (x1.length : Int) then (if (rd x0 x5) < (rd x1 x5) then (some (-1)) else (if (rd x0 x5) > (rd x1 x5) then (some 1) else (zaa.l0 k x0 x1 (wrap64 (x5 - 1))))) else (none)) else (none)) else (none)) else (some 0)
def zaa.f (k : Nat) (l0 : List Int) (l1 : List Int) : Option (Int) := if (l0.length : Int) = (l1.length : Int) then (zaa.l0 k l0 l1 (wrap64 ((l0.length : Int) - 1))) else (if (l0.length : Int) < (l1.length : Int) then (some (-1)) else (some 1))
theorem zaa.calls (k : Nat) (A0 : Option Addr) (c0 : Nat) (l0 : List Int) (A1 : Option Addr) (c1 : Nat) (l1 : List Int) (r : Int) (w : World) (hr0 : Kd.C (Kd.int .u32) w A0 l0.length l0) (hc0 : l0.length ≤ c0) (hr1 : Kd.C (Kd.int .u32) w A1 l1.length l1) (hc1 : l1.length ≤ c1) (h : zaa.f k l0 l1 = some r) :
  Calls Try.prog 98 #[.slice A0 l0.length c0, .slice A1 l1.length c1] w fun e w' => e = .returned (.int .i64 r) ∧ zag w w' := by
 have aX := J hr0; have HC0 := J hc0; clear hr0 hc0; have aY := J hr1; have HC1 := J hc1; clear hr1 hc1; have H : (if (l0.length : Int) = (l1.length : Int) then (zaa.l0 k l0 l1 (wrap64 ((l0.length : Int) - 1))) else (if (l0.length : Int) < (l1.length : Int) then (some (-1)) else (some 1))) = some r := h; clear h
 by_cases c3 : (l0.length : Int) = (l1.length : Int)
 ·rw [if_pos c3] at H; have bB : ((l0.length : Int) == (l1.length : Int)) = true := beq_iff_eq.mpr c3; have bC : ((l0.length : Int) != (l1.length : Int)) = false := bne_eq_false_iff_eq.mpr c3; have bD : (l0.length == l1.length) = true := by first | simpa using c3 | (simp at c3 ⊢; omega)
  clear c3; have H' := J H; clear H; go_enter Try.func98, Try.ntmps98; go_wp2
  repeat (go_quiet (fail); try go_wp2)
  go_loopg [5] k (fun kq v5 w' => ∃ (aA : Int), v5 = .int .i64 aA ∧ ze (zaa.l0 kq l0 l1 aA = some r) ∧ ze (kq ≤ k) ∧ zag w w')
  case atStart => exact ⟨(wrap64 ((l0.length : Int) - 1)), rs_, H', ⟨Nat.le_refl _⟩, by repeat (first | exact zag.refl _ | apply zag.step)⟩
  case round =>
   clear H'
   try clear c1
   try clear p2
   try clear c3
   try clear bB
   try clear bC
   try clear bD
   obtain ⟨aA, rfl, HA, HK1, ⟨m1, rfl⟩⟩ := hrel
   cases gk with
   | zero => exact absurd HA.o (by simp [zaa.l0])
   | succ k1 =>
    have H := HA.o; clear HA; simp only [zaa.l0] at H
    by_cases c4 : aA ≥ 0
    ·rw [if_pos c4] at H; have bE := decide_eq_true c4; clear c4
     by_cases c5 : 0 ≤ aA
     ·rw [if_pos c5] at H; have c5b0 := decide_eq_true c5; clear c5
      by_cases c6 : aA < (l0.length : Int)
      ·rw [if_pos c6] at H; have c6b0 := decide_eq_true c6; clear c6
       by_cases c7 : aA < (l1.length : Int)
       ·rw [if_pos c7] at H; have c7b0 := decide_eq_true c7; clear c7
        by_cases c8 : (rd l0 aA) < (rd l1 aA)
        ·rw [if_pos c8] at H; have bF := decide_eq_true c8; clear c8; obtain rfl := Option.some.inj H; have aB : 0 ≤ (aA : Int) := od_; have aD : aA < (l0.length : Int) := od_; obtain ⟨aK, aQ, aM⟩ := Kd.zQ aX.o aA aB aD; cases aQ; replace aB := eq_true aB; replace aD := eq_true aD; have aC : 0 ≤ (aA : Int) := od_; have aE : aA < (l1.length : Int) := od_; obtain ⟨aL, aR, aN⟩ := Kd.zQ aY.o aA aC aE; cases aR; replace aC := eq_true aC; replace aE := eq_true aE; go_wp2
         repeat (go_quiet (fail); try go_wp2)
         go_ret; exact ⟨rs_, by repeat (first | exact zag.refl _ | apply zag.step)⟩
        ·rw [if_neg c8] at H; have bF := decide_eq_false c8; clear c8
         by_cases c9 : (rd l0 aA) > (rd l1 aA)
         ·rw [if_pos c9] at H; have bG := decide_eq_true c9; clear c9; obtain rfl := Option.some.inj H; have aB : 0 ≤ (aA : Int) := od_; have aD : aA < (l0.length : Int) := od_; obtain ⟨aK, aQ, aM⟩ := Kd.zQ aX.o aA aB aD; cases aQ; replace aB := eq_true aB; replace aD := eq_true aD; have aC : 0 ≤ (aA : Int) := od_; have aE : aA < (l1.length : Int) := od_; obtain ⟨aL, aR, aN⟩ := Kd.zQ aY.o aA aC aE; cases aR; replace aC := eq_true aC; replace aE := eq_true aE; have aG : 0 ≤ (aA : Int) := od_; have aI : aA < (l0.length : Int) := od_; obtain ⟨aO, aV, aS⟩ := Kd.zQ aX.o aA aG aI; obtain rfl : aK = aO := (by injection aV)
          replace aG := eq_true aG; replace aI := eq_true aI; have aH : 0 ≤ (aA : Int) := od_; have aJ : aA < (l1.length : Int) := od_; obtain ⟨aP, aW, aT⟩ := Kd.zQ aY.o aA aH aJ; obtain rfl : aL = aP := (by injection aW)
          replace aH := eq_true aH; replace aJ := eq_true aJ; go_wp2
          repeat (go_quiet (fail); try go_wp2)
          go_ret; exact ⟨rs_, by repeat (first | exact zag.refl _ | apply zag.step)⟩
         ·rw [if_neg c9] at H; have bG := decide_eq_false c9; clear c9; have H' := J H; clear H; have aB : 0 ≤ (aA : Int) := od_; have aD : aA < (l0.length : Int) := od_; obtain ⟨aK, aQ, aM⟩ := Kd.zQ aX.o aA aB aD; cases aQ; replace aB := eq_true aB; replace aD := eq_true aD; have aC : 0 ≤ (aA : Int) := od_; have aE : aA < (l1.length : Int) := od_; obtain ⟨aL, aR, aN⟩ := Kd.zQ aY.o aA aC aE; cases aR; replace aC := eq_true aC; replace aE := eq_true aE; have aG : 0 ≤ (aA : Int) := od_; have aI : aA < (l0.length : Int) := od_; obtain ⟨aO, aV, aS⟩ := Kd.zQ aX.o aA aG aI; obtain rfl : aK = aO := (by injection aV)
          replace aG := eq_true aG; replace aI := eq_true aI; have aH : 0 ≤ (aA : Int) := od_; have aJ : aA < (l1.length : Int) := od_; obtain ⟨aP, aW, aT⟩ := Kd.zQ aY.o aA aH aJ; obtain rfl : aL = aP := (by injection aW)
          replace aH := eq_true aH; replace aJ := eq_true aJ; go_wp2
          repeat (go_quiet (fail); try go_wp2)
          go_roundg k1
          case measure => have := HK1.o; omega
          case rel => exact ⟨(wrap64 (aA - 1)), rs_, H', ⟨by have := HK1.o; omega⟩, by repeat (first | exact zag.refl _ | apply zag.step)⟩
       ·rw [if_neg c7] at H; exact absurd H (by simp)
      ·rw [if_neg c6] at H; exact absurd H (by simp)
     ·rw [if_neg c5] at H; exact absurd H (by simp)
    ·rw [if_neg c4] at H; have bE := decide_eq_false c4; clear c4; obtain rfl := Option.some.inj H; go_wp2
     repeat (go_quiet (fail); try go_wp2)
     go_ret; exact ⟨rs_, by repeat (first | exact zag.refl _ | apply zag.step)⟩
 ·rw [if_neg c3] at H; have bB : ((l0.length : Int) == (l1.length : Int)) = false := beq_eq_false_iff_ne.mpr c3; have bC : ((l0.length : Int) != (l1.length : Int)) = true := bne_iff_ne.mpr c3; have bD : (l0.length == l1.length) = false := by first | simpa using c3 | (simp at c3 ⊢; omega)
  by_cases aU : (l0.length : Int) < (l1.length : Int)
  ·rw [if_pos aU] at H; have aZ := decide_eq_true aU; have bA : decide (l0.length < l1.length) = true := decide_eq_true (Int.ofNat_lt.mp aU); clear aU; obtain rfl := Option.some.inj H; go_enter Try.func98, Try.ntmps98; go_wp2
   repeat (go_quiet (fail); try go_wp2)
   go_ret; exact ⟨rs_, by repeat (first | exact zag.refl _ | apply zag.step)⟩
  ·rw [if_neg aU] at H; have aZ := decide_eq_false aU; have bA : decide (l0.length < l1.length) = false := decide_eq_false (fun h => aU (Int.ofNat_lt.mpr h)); clear aU; obtain rfl := Option.some.inj H; go_enter Try.func98, Try.ntmps98; go_wp2
   repeat (go_quiet (fail); try go_wp2)
   go_ret; exact ⟨rs_, by repeat (first | exact zag.refl _ | apply zag.step)⟩
end Go.Proofs.Ytlidbaejhmamjaa.PB
namespace Go.Proofs.Ytlidbaejhmamjaa.PB
open Go.RowKit YtlidbaejhmamjaaW.PrintWords YtlidbaejhmamjaaW.PrintLast YtlidbaejhmamjaaW.PrintMore
attribute [local go_sem] zao zaq zaB zaC zae zaf zap zar   -- for this text's walks alone
def zG.l0 : Nat → List Int → List Int → List Int → Int → Int → Option (List Int)
 | 0, _, _, _, _, _ => none
 | k + 1, x0, x1, x5, x6, x7 => if x7 < (x0.length : Int) then (if x7 < (x1.length : Int) then (if 0 ≤ x7 then (if (IntKind.u64.wrap (rd x0 x7)) < (IntKind.u64.wrap (x6 + (IntKind.u64.wrap (rd x1 x7)))) then (if x7 < (x5.length : Int) then (zG.l0 k x0 x1 (x5.set (x7 : Int).toNat ((IntKind.u64.wrap ((IntKind.u64.wrap ((IntKind.u64.wrap (rd x0 x7)) + 4294967296)) - (IntKind.u64.wrap (x6 + (IntKind.u64.wrap (rd x1 x7)))))) % 4294967296)) 1 (wrap64 (x7 + 1))) else (none)) else (if x7 < (x5.length : Int) then (zG.l0 k x0 x1 (x5.set (x7 : Int).toNat ((IntKind.u64.wrap ((IntKind.u64.wrap (rd x0 x7)) - (IntKind.u64.wrap (x6 + (IntKind.u64.wrap (rd x1 x7)))))) % 4294967296)) 0 (wrap64 (x7 + 1))) else (none))) else (none)) else (if 0 ≤ x7 then (if (IntKind.u64.wrap (rd x0 x7)) < x6 then (if x7 < (x5.length : Int) then (zG.l0 k x0 x1 (x5.set (x7 : Int).toNat ((IntKind.u64.wrap ((IntKind.u64.wrap ((IntKind.u64.wrap (rd x0 x7)) + 4294967296)) - x6)) % 4294967296)) 1 (wrap64 (x7 + 1))) else (none)) else (if x7 < (x5.length : Int) then (zG.l0 k x0 x1 (x5.set (x7 : Int).toNat ((IntKind.u64.wrap ((IntKind.u64.wrap (rd x0 x7)) - x6)) % 4294967296)) 0 (wrap64 (x7 + 1))) else (none))) else (none))) else ((zo.f k x5).bind fun aA => (some aA))
def zG.f (k : Nat) (l0 : List Int) (l1 : List Int) : Option (List Int) := if 0 ≤ (l0.length : Int) then (if ((l0.length : Int) : Int).toNat ≤ 70368744177664 then (zG.l0 k l0 l1 (List.replicate ((l0.length : Int) : Int).toNat 0) 0 0) else (none)) else (none)
theorem zG.calls (k : Nat) (A0 : Option Addr) (c0 : Nat) (l0 : List Int) (A1 : Option Addr) (c1 : Nat) (l1 : List Int) (r : List Int) (w : World) (hr0 : Kd.C (Kd.int .u32) w A0 l0.length l0) (hc0 : l0.length ≤ c0) (hr1 : Kd.C (Kd.int .u32) w A1 l1.length l1) (hc1 : l1.length ≤ c1) (h : zG.f k l0 l1 = some r) :
  Calls Try.prog 99 #[.slice A0 l0.length c0, .slice A1 l1.length c1] w fun e w' => ∃ v0_ : Value, e = .returned (v0_) ∧ Kd.R (Kd.int .u32) 134 w' w.heap.size (fun _ => True) v0_ r ∧ Below w.heap.size w w' := by
 have cT := J hr0; have HC0 := J hc0; clear hr0 hc0; have HR1 := J hr1; have HC1 := J hc1; clear hr1 hc1; have HB := J (Below.refl w.heap.size w); have H : (if 0 ≤ (l0.length : Int) then (if ((l0.length : Int) : Int).toNat ≤ 70368744177664 then (zG.l0 k l0 l1 (List.replicate ((l0.length : Int) : Int).toNat 0) 0 0) else (none)) else (none)) = some r := h; clear h
 by_cases c3 : 0 ≤ (l0.length : Int)
 ·rw [if_pos c3] at H; have dD := eq_true c3; have dE := decide_eq_true c3; clear c3
  by_cases c4 : ((l0.length : Int) : Int).toNat ≤ 70368744177664
  ·rw [if_pos c4] at H; have dF := eq_true c4; have dG := decide_eq_true c4; clear c4; obtain ⟨cS, aJ⟩ : ∃ y_ : List Int, y_ = (List.replicate ((l0.length : Int) : Int).toNat 0) := ⟨_, rfl⟩
   replace H : (zG.l0 k l0 l1 cS 0 0) = some r := by first | (rw [aJ]; with_reducible exact H) | (have aI := (Option.bind_some _ _).symm.trans H; rw [aJ]; with_reducible exact aI) | (have aI := (Option.bind_some _ _).symm.trans H; with_reducible exact aI) | with_reducible exact H | (rw [aJ]; exact H) | exact H
   have aV := J aJ; clear aJ; have H' := J H; clear H; go_enter Try.func99, Try.ntmps99; go_wp2_with (first | ((with_reducible refine zf (N := 12) rfl ?_); refine Kd.R_make (Kd.int .u32) _ 134 rfl (N := 12) rfl 99 _ _ rfl (l0.length : Int) rfl rfl Try.underlying99 (.int .u32 0) 4 info134 rfl yD_ yO_ 0 (ok := fun _ => True) (okp := fun _ => True) rfl (fun _ hk => hk) trivial (od_) (Nat.le_trans (Nat.mul_le_mul_right _ (od_ : (l0.length : Int).toNat ≤ 70368744177664)) yO_) (Below.refl _ _) (Nat.le_refl _) ?_; intro eB w5 cO hb hg_ cN; clear hg_ cN; (first | rw [← aV.o] at cO | (simp only [Int.reduceToNat] at cO; rw [← aV.o] at cO)); have bU := J (Kd.z9 cO (zh bw_)); replace HB := J (za bw_ hb); clear hb cO))
   go_loopg [6, 7] k (fun kq v6 v7 w' => ∃ (aC : List Int) (aD : Int) (aA : Int), v6 = .int .u64 aD ∧ v7 = .int .i64 aA ∧ ze (zG.l0 kq l0 l1 aC aD aA = some r) ∧ ze (kq ≤ k) ∧ ze (Kd.R (Kd.int .u32) 134 w' w.heap.size (fun _ => True) eB aC) ∧ ze (Below w.heap.size w w'))
   case atStart => exact ⟨(cS), (0), (0), rs_, rs_, H', ⟨Nat.le_refl _⟩, ⟨pk_ bU.o⟩, ⟨bw_⟩⟩
   case round =>
    clear H'
    try clear c1
    try clear p2
    try clear c3
    try clear dD
    try clear dE
    try clear c4
    try clear dF
    try clear dG
    obtain ⟨aC, aD, aA, rfl, rfl, HA, aU, aB, HB⟩ := hrel
    cases gk with
    | zero => exact absurd HA.o (by simp [zG.l0])
    | succ k1 =>
     have H := HA.o; clear HA; simp only [zG.l0] at H
     by_cases c7 : aA < (l0.length : Int)
     ·rw [if_pos c7] at H; have dH := decide_eq_true c7; clear c7
      by_cases c8 : aA < (l1.length : Int)
      ·rw [if_pos c8] at H; have dI := decide_eq_true c8; clear c8
       by_cases c9 : 0 ≤ aA
       ·rw [if_pos c9] at H; have c9b0 := decide_eq_true c9; clear c9
        by_cases bN : (IntKind.u64.wrap (rd l0 aA)) < (IntKind.u64.wrap (aD + (IntKind.u64.wrap (rd l1 aA))))
        ·rw [if_pos bN] at H; have cD := decide_eq_true bN; clear bN
         by_cases cU : aA < (aC.length : Int)
         ·rw [if_pos cU] at H; have c11b0 := decide_eq_true cU; clear cU; obtain ⟨bJ, aK⟩ : ∃ y_ : List Int, y_ = (aC.set (aA : Int).toNat ((IntKind.u64.wrap ((IntKind.u64.wrap ((IntKind.u64.wrap (rd l0 aA)) + 4294967296)) - (IntKind.u64.wrap (aD + (IntKind.u64.wrap (rd l1 aA)))))) % 4294967296)) := ⟨_, rfl⟩
          replace H : (zG.l0 k1 l0 l1 bJ 1 (wrap64 (aA + 1))) = some r := by first | (rw [aK]; with_reducible exact H) | (have aI := (Option.bind_some _ _).symm.trans H; rw [aK]; with_reducible exact aI) | (have aI := (Option.bind_some _ _).symm.trans H; with_reducible exact aI) | with_reducible exact H | (rw [aK]; exact H) | exact H
          have bW := J aK; clear aK; have H' := J H; clear H; have aO : 0 ≤ (aA : Int) := od_; have aR : aA < (l1.length : Int) := od_; obtain ⟨cA, bC, aE⟩ := Kd.zQ HR1.o aA aO aR; cases bC; replace aE := bx_ HB.o aE; replace aO := eq_true aO; replace aR := eq_true aR; have aP : 0 ≤ (aA : Int) := od_; have aS : aA < (l0.length : Int) := od_; obtain ⟨cB, bD, aG⟩ := Kd.zQ cT.o aA aP aS; cases bD; replace aG := bx_ HB.o aG; replace aP := eq_true aP; replace aS := eq_true aS; have dS : 0 ≤ (aA : Int) := od_; have dX : (aA : Int) < ((aC.length : Int) : Int) := od_; obtain ⟨bF, dJ, cF, cJ, dO, cl12, bQ⟩ := Kd.R_form aB.o yO_
          (first | cases cF | (injection cF with ea_ en_ ec_; (first | subst ea_ | (injection ea_ with ea_; subst ea_)); subst ec_; clear en_))
          have cZ := J cJ; have GG12 := J bQ; clear cJ dO bQ; obtain ⟨hx12_0, hf12_0⟩ := Kd.zaQ 0 aB.o (aA : Int) dS dX; replace dS := eq_true dS; replace dX := eq_true dX; have aX := Kd.zbd aB.o (aA : Int) ((IntKind.u64.wrap ((IntKind.u64.wrap ((IntKind.u64.wrap (rd l0 aA)) + 4294967296)) - (IntKind.u64.wrap (aD + (IntKind.u64.wrap (rd l1 aA)))))) % 4294967296); go_wp2_with (first | ((with_reducible refine zj (t := 134) (p := 47) rfl ?_); refine store_ 134 47 ((wr.setCell ⟨bF, (aA : Int).toNat, none⟩ (.int .u32 ((IntKind.u64.wrap ((IntKind.u64.wrap ((IntKind.u64.wrap (rd l0 aA)) + 4294967296)) - (IntKind.u64.wrap (aD + (IntKind.u64.wrap (rd l1 aA)))))) % 4294967296)))) ?_; intro eC hw; have hg : wr.grownBy eC (some bF) := (by rw [hw]; exact aX.2); have hp_ : Kd.R (Kd.int .u32) 134 eC w.heap.size (fun _ => True) (.slice (some ⟨bF, 0, none⟩) aC.length dJ) bJ := (by rw [hw, bW.o]; exact aX.1); clear aX; replace aB := J (hp_); replace HB := J ((by rw [hw]; exact zN (HB.o) cZ.o : Below w.heap.size w eC)); clear hg hw hp_)); go_roundg k1
          case measure => have := aU.o; omega
          case rel => exact ⟨(bJ), (1), (wrap64 (aA + 1)), rs_, rs_, H', ⟨by have := aU.o; omega⟩, ⟨pk_ aB.o⟩, ⟨bw_⟩⟩
         ·rw [if_neg cU] at H; exact absurd H (by simp)
        ·rw [if_neg bN] at H; have cD := decide_eq_false bN; clear bN
         by_cases cV : aA < (aC.length : Int)
         ·rw [if_pos cV] at H; have c15b0 := decide_eq_true cV; clear cV; obtain ⟨bK, aL⟩ : ∃ y_ : List Int, y_ = (aC.set (aA : Int).toNat ((IntKind.u64.wrap ((IntKind.u64.wrap (rd l0 aA)) - (IntKind.u64.wrap (aD + (IntKind.u64.wrap (rd l1 aA)))))) % 4294967296)) := ⟨_, rfl⟩
          replace H : (zG.l0 k1 l0 l1 bK 0 (wrap64 (aA + 1))) = some r := by first | (rw [aL]; with_reducible exact H) | (have aI := (Option.bind_some _ _).symm.trans H; rw [aL]; with_reducible exact aI) | (have aI := (Option.bind_some _ _).symm.trans H; with_reducible exact aI) | with_reducible exact H | (rw [aL]; exact H) | exact H
          have bX := J aL; clear aL; have H' := J H; clear H; have aO : 0 ≤ (aA : Int) := od_; have aR : aA < (l1.length : Int) := od_; obtain ⟨cA, bC, aE⟩ := Kd.zQ HR1.o aA aO aR; cases bC; replace aE := bx_ HB.o aE; replace aO := eq_true aO; replace aR := eq_true aR; have aP : 0 ≤ (aA : Int) := od_; have aS : aA < (l0.length : Int) := od_; obtain ⟨cB, bD, aG⟩ := Kd.zQ cT.o aA aP aS; cases bD; replace aG := bx_ HB.o aG; replace aP := eq_true aP; replace aS := eq_true aS; have dT : 0 ≤ (aA : Int) := od_; have dY : (aA : Int) < ((aC.length : Int) : Int) := od_; obtain ⟨bG, dK, cG, cK, dP, cl16, bR⟩ := Kd.R_form aB.o yO_
          (first | cases cG | (injection cG with ea_ en_ ec_; (first | subst ea_ | (injection ea_ with ea_; subst ea_)); subst ec_; clear en_))
          have dA := J cK; have GG16 := J bR; clear cK dP bR; obtain ⟨hx16_0, hf16_0⟩ := Kd.zaQ 0 aB.o (aA : Int) dT dY; replace dT := eq_true dT; replace dY := eq_true dY; have aY := Kd.zbd aB.o (aA : Int) ((IntKind.u64.wrap ((IntKind.u64.wrap (rd l0 aA)) - (IntKind.u64.wrap (aD + (IntKind.u64.wrap (rd l1 aA)))))) % 4294967296); go_wp2_with (first | ((with_reducible refine zj (t := 134) (p := 47) rfl ?_); refine store_ 134 47 ((wr.setCell ⟨bG, (aA : Int).toNat, none⟩ (.int .u32 ((IntKind.u64.wrap ((IntKind.u64.wrap (rd l0 aA)) - (IntKind.u64.wrap (aD + (IntKind.u64.wrap (rd l1 aA)))))) % 4294967296)))) ?_; intro eD hw; have hg : wr.grownBy eD (some bG) := (by rw [hw]; exact aY.2); have hp_ : Kd.R (Kd.int .u32) 134 eD w.heap.size (fun _ => True) (.slice (some ⟨bG, 0, none⟩) aC.length dK) bK := (by rw [hw, bX.o]; exact aY.1); clear aY; replace aB := J (hp_); replace HB := J ((by rw [hw]; exact zN (HB.o) dA.o : Below w.heap.size w eD)); clear hg hw hp_)); go_roundg k1
          case measure => have := aU.o; omega
          case rel => exact ⟨(bK), (0), (wrap64 (aA + 1)), rs_, rs_, H', ⟨by have := aU.o; omega⟩, ⟨pk_ aB.o⟩, ⟨bw_⟩⟩
         ·rw [if_neg cV] at H; exact absurd H (by simp)
       ·rw [if_neg c9] at H; exact absurd H (by simp)
      ·rw [if_neg c8] at H; have dI := decide_eq_false c8; clear c8
       by_cases cW : 0 ≤ aA
       ·rw [if_pos cW] at H; have c19b0 := decide_eq_true cW; clear cW
        by_cases bO : (IntKind.u64.wrap (rd l0 aA)) < aD
        ·rw [if_pos bO] at H; have cE := decide_eq_true bO; clear bO
         by_cases cX : aA < (aC.length : Int)
         ·rw [if_pos cX] at H; have c21b0 := decide_eq_true cX; clear cX; obtain ⟨bL, aM⟩ : ∃ y_ : List Int, y_ = (aC.set (aA : Int).toNat ((IntKind.u64.wrap ((IntKind.u64.wrap ((IntKind.u64.wrap (rd l0 aA)) + 4294967296)) - aD)) % 4294967296)) := ⟨_, rfl⟩
          replace H : (zG.l0 k1 l0 l1 bL 1 (wrap64 (aA + 1))) = some r := by first | (rw [aM]; with_reducible exact H) | (have aI := (Option.bind_some _ _).symm.trans H; rw [aM]; with_reducible exact aI) | (have aI := (Option.bind_some _ _).symm.trans H; with_reducible exact aI) | with_reducible exact H | (rw [aM]; exact H) | exact H
          have bY := J aM; clear aM; have H' := J H; clear H; have aQ : 0 ≤ (aA : Int) := od_; have aT : aA < (l0.length : Int) := od_; obtain ⟨cC, bE, aH⟩ := Kd.zQ cT.o aA aQ aT; cases bE; replace aH := bx_ HB.o aH; replace aQ := eq_true aQ; replace aT := eq_true aT; have dV : 0 ≤ (aA : Int) := od_; have dZ : (aA : Int) < ((aC.length : Int) : Int) := od_; obtain ⟨bH, dL, cH, cL, dQ, cl22, bS⟩ := Kd.R_form aB.o yO_
          (first | cases cH | (injection cH with ea_ en_ ec_; (first | subst ea_ | (injection ea_ with ea_; subst ea_)); subst ec_; clear en_))
          have dB := J cL; have GG22 := J bS; clear cL dQ bS; obtain ⟨hx22_0, hf22_0⟩ := Kd.zaQ 0 aB.o (aA : Int) dV dZ; replace dV := eq_true dV; replace dZ := eq_true dZ; have aZ := Kd.zbd aB.o (aA : Int) ((IntKind.u64.wrap ((IntKind.u64.wrap ((IntKind.u64.wrap (rd l0 aA)) + 4294967296)) - aD)) % 4294967296); go_wp2_with (first | ((with_reducible refine zj (t := 134) (p := 47) rfl ?_); refine store_ 134 47 ((wr.setCell ⟨bH, (aA : Int).toNat, none⟩ (.int .u32 ((IntKind.u64.wrap ((IntKind.u64.wrap ((IntKind.u64.wrap (rd l0 aA)) + 4294967296)) - aD)) % 4294967296)))) ?_; intro eF hw; have hg : wr.grownBy eF (some bH) := (by rw [hw]; exact aZ.2); have hp_ : Kd.R (Kd.int .u32) 134 eF w.heap.size (fun _ => True) (.slice (some ⟨bH, 0, none⟩) aC.length dL) bL := (by rw [hw, bY.o]; exact aZ.1); clear aZ; replace aB := J (hp_); replace HB := J ((by rw [hw]; exact zN (HB.o) dB.o : Below w.heap.size w eF)); clear hg hw hp_)); go_roundg k1
          case measure => have := aU.o; omega
          case rel => exact ⟨(bL), (1), (wrap64 (aA + 1)), rs_, rs_, H', ⟨by have := aU.o; omega⟩, ⟨pk_ aB.o⟩, ⟨bw_⟩⟩
         ·rw [if_neg cX] at H; exact absurd H (by simp)
        ·rw [if_neg bO] at H; have cE := decide_eq_false bO; clear bO
         by_cases cY : aA < (aC.length : Int)
         ·rw [if_pos cY] at H; have c25b0 := decide_eq_true cY; clear cY; obtain ⟨bM, aN⟩ : ∃ y_ : List Int, y_ = (aC.set (aA : Int).toNat ((IntKind.u64.wrap ((IntKind.u64.wrap (rd l0 aA)) - aD)) % 4294967296)) := ⟨_, rfl⟩
          replace H : (zG.l0 k1 l0 l1 bM 0 (wrap64 (aA + 1))) = some r := by first | (rw [aN]; with_reducible exact H) | (have aI := (Option.bind_some _ _).symm.trans H; rw [aN]; with_reducible exact aI) | (have aI := (Option.bind_some _ _).symm.trans H; with_reducible exact aI) | with_reducible exact H | (rw [aN]; exact H) | exact H
          have bZ := J aN; clear aN; have H' := J H; clear H; have aQ : 0 ≤ (aA : Int) := od_; have aT : aA < (l0.length : Int) := od_; obtain ⟨cC, bE, aH⟩ := Kd.zQ cT.o aA aQ aT; cases bE; replace aH := bx_ HB.o aH; replace aQ := eq_true aQ; replace aT := eq_true aT; have dW : 0 ≤ (aA : Int) := od_; have eA : (aA : Int) < ((aC.length : Int) : Int) := od_; obtain ⟨bI, dM, cI, cM, dR, cl26, bT⟩ := Kd.R_form aB.o yO_
          (first | cases cI | (injection cI with ea_ en_ ec_; (first | subst ea_ | (injection ea_ with ea_; subst ea_)); subst ec_; clear en_))
          have dC := J cM; have GG26 := J bT; clear cM dR bT; obtain ⟨hx26_0, hf26_0⟩ := Kd.zaQ 0 aB.o (aA : Int) dW eA; replace dW := eq_true dW; replace eA := eq_true eA; have bA := Kd.zbd aB.o (aA : Int) ((IntKind.u64.wrap ((IntKind.u64.wrap (rd l0 aA)) - aD)) % 4294967296); go_wp2_with (first | ((with_reducible refine zj (t := 134) (p := 47) rfl ?_); refine store_ 134 47 ((wr.setCell ⟨bI, (aA : Int).toNat, none⟩ (.int .u32 ((IntKind.u64.wrap ((IntKind.u64.wrap (rd l0 aA)) - aD)) % 4294967296)))) ?_; intro eG hw; have hg : wr.grownBy eG (some bI) := (by rw [hw]; exact bA.2); have hp_ : Kd.R (Kd.int .u32) 134 eG w.heap.size (fun _ => True) (.slice (some ⟨bI, 0, none⟩) aC.length dM) bM := (by rw [hw, bZ.o]; exact bA.1); clear bA; replace aB := J (hp_); replace HB := J ((by rw [hw]; exact zN (HB.o) dC.o : Below w.heap.size w eG)); clear hg hw hp_)); go_roundg k1
          case measure => have := aU.o; omega
          case rel => exact ⟨(bM), (0), (wrap64 (aA + 1)), rs_, rs_, H', ⟨by have := aU.o; omega⟩, ⟨pk_ aB.o⟩, ⟨bw_⟩⟩
         ·rw [if_neg cY] at H; exact absurd H (by simp)
       ·rw [if_neg cW] at H; exact absurd H (by simp)
     ·rw [if_neg c7] at H; have dH := decide_eq_false c7; clear c7; replace H := Option.bind_eq_some_iff.mp H; obtain ⟨cR, bP, H⟩ := H; replace H : (some cR) = some r := H; have A29 := J bP; clear bP; obtain rfl := Option.some.inj H; obtain ⟨aW, bB, dN⟩ := Kd.zJ aB.o; subst dN; go_wp2_with (first | ((with_reducible refine zM (f := 69) rfl ?_); refine gl_ 49 Try.func69 #[.slice aW aC.length bB] ?_; (with_reducible refine (zo.calls k1 (fun k_ => some k_ = (.slice aW aC.length bB : Value).ownBlock) (.slice aW aC.length bB) aC cR w _ ?cP ?cQ A29.o).mono ?_); (case cP => exact bw_); (case cQ => exact Kd.R_tight rfl aB.o); rintro e w31 ⟨v366, rfl, ho0, hb, hkp⟩; refine ⟨_, rfl, ?_⟩; have bV := J (Kd.zB (ok' := fun k_ => True) ho0 (fun k_ hk_ => trivial)); replace HB := J (hb); clear aB; (try clear hb hkp ho0))); go_ret; exact ⟨_, er_, pk_ bV.o, bw_⟩
  ·rw [if_neg c4] at H; exact absurd H (by simp)
 ·rw [if_neg c3] at H; exact absurd H (by simp)
end Go.Proofs.Ytlidbaejhmamjaa.PB
namespace Go.Proofs.Ytlidbaejhmamjaa.PB
open Go.RowKit YtlidbaejhmamjaaW.PrintWords YtlidbaejhmamjaaW.PrintLast YtlidbaejhmamjaaW.PrintMore
attribute [local go_sem] zao zaq zaB zaC zae zaf zap zar   -- for this text's walks alone
def zL.l0 : Nat → List Int → Int → List Int → Int → Option (List Int)
 | 0, _, _, _, _ => none
 | k + 1, x0, x1, x5, x6 => if x6 < (x0.length : Int) then (if 0 ≤ x6 then (if 0 ≤ (Int.tmod x1 32) then (if 0 ≤ (wrap64 (x6 + (wrap64 (Int.tdiv x1 32)))) then (if (wrap64 (x6 + (wrap64 (Int.tdiv x1 32)))) < (x5.length : Int) then ((some (x5.set ((wrap64 (x6 + (wrap64 (Int.tdiv x1 32)))) : Int).toNat (Go.bits .or .u32 (rd x5 (wrap64 (x6 + (wrap64 (Int.tdiv x1 32))))) ((shl .u64 (IntKind.u64.wrap (rd x0 x6)) (Int.tmod x1 32)) % 4294967296)) : List Int)).bind fun aA => (if 0 ≤ (wrap64 ((wrap64 (x6 + (wrap64 (Int.tdiv x1 32)))) + 1)) then (if (wrap64 ((wrap64 (x6 + (wrap64 (Int.tdiv x1 32)))) + 1)) < (x5.length : Int) then (zL.l0 k x0 x1 (aA.set ((wrap64 ((wrap64 (x6 + (wrap64 (Int.tdiv x1 32)))) + 1)) : Int).toNat (Go.bits .or .u32 (rd aA (wrap64 ((wrap64 (x6 + (wrap64 (Int.tdiv x1 32)))) + 1))) (((shl .u64 (IntKind.u64.wrap (rd x0 x6)) (Int.tmod x1 32)) / 4294967296) % 4294967296))) (wrap64 (x6 + 1))) else (none)) else (none))) else (none)) else (none)) else (none)) else (none)) else ((zo.f k x5).bind fun aB => (some aB))
def zL.f (k : Nat) (l0 : List Int) (a1 : Int) : Option (List Int) := if (l0.length : Int) = 0 then (some ([] : List Int)) else (if 0 ≤ (wrap64 ((wrap64 ((l0.length : Int) + (wrap64 (Int.tdiv a1 32)))) + 1)) then (if (wrap64 ((wrap64 ((l0.length : Int) + (wrap64 (Int.tdiv a1 32)))) + 1) : Int).toNat ≤ 70368744177664 then (zL.l0 k l0 a1 (List.replicate (wrap64 ((wrap64 ((l0.length : Int) + (wrap64 (Int.tdiv a1 32)))) + 1) : Int).toNat 0) 0) else (none)) else (none))
theorem zL.calls (k : Nat) (A0 : Option Addr) (c0 : Nat) (l0 : List Int) (a1 : Int) (r : List Int) (w : World) (hr0 : Kd.C (Kd.int .u32) w A0 l0.length l0) (hc0 : l0.length ≤ c0) (h : zL.f k l0 a1 = some r) :
  Calls Try.prog 103 #[.slice A0 l0.length c0, .int .i64 a1] w fun e w' => ∃ v0_ : Value, e = .returned (v0_) ∧ Kd.R (Kd.int .u32) 134 w' w.heap.size (fun _ => True) v0_ r ∧ Below w.heap.size w w' := by
 have HR0 := J hr0; have HC0 := J hc0; clear hr0 hc0; have HB := J (Below.refl w.heap.size w); have H : (if (l0.length : Int) = 0 then (some ([] : List Int)) else (if 0 ≤ (wrap64 ((wrap64 ((l0.length : Int) + (wrap64 (Int.tdiv a1 32)))) + 1)) then (if (wrap64 ((wrap64 ((l0.length : Int) + (wrap64 (Int.tdiv a1 32)))) + 1) : Int).toNat ≤ 70368744177664 then (zL.l0 k l0 a1 (List.replicate (wrap64 ((wrap64 ((l0.length : Int) + (wrap64 (Int.tdiv a1 32)))) + 1) : Int).toNat 0) 0) else (none)) else (none))) = some r := h; clear h
 by_cases c3 : (l0.length : Int) = 0
 ·rw [if_pos c3] at H; have bS : ((l0.length : Int) == 0) = true := beq_iff_eq.mpr c3; have bT : ((l0.length : Int) != 0) = false := bne_eq_false_iff_eq.mpr c3; clear c3; obtain rfl := Option.some.inj H; go_enter Try.func103, Try.ntmps103; go_wp2; go_ret; exact ⟨_, er_, by first | exact Kd.zaI _ _ _ _ _ | exact Kd.N_nil _ _ _ _ _ | exact Kd.V_nil _ _ _ _ _ | exact Kd.Q_nil _ _ _ _ _ | exact Kd.zaP _ _ _ _ _, bw_⟩
 ·rw [if_neg c3] at H; have bS : ((l0.length : Int) == 0) = false := beq_eq_false_iff_ne.mpr c3; have bT : ((l0.length : Int) != 0) = true := bne_iff_ne.mpr c3; have cJ : ¬ (l0 = []) := fun h_ => c3 (by rw [h_]; rfl)
  obtain ⟨aV, aT⟩ : ∃ j_ : Int, (wrap64 ((wrap64 ((l0.length : Int) + (wrap64 (Int.tdiv a1 32)))) + 1)) = j_ := ⟨_, rfl⟩
  replace H : (if 0 ≤ (aV) then (if (aV : Int).toNat ≤ 70368744177664 then (zL.l0 k l0 a1 (List.replicate (aV : Int).toNat 0) 0) else (none)) else (none)) = some r := by first | (rw [aT] at H; exact H) | (simp only [aT] at H ⊢; exact H)
  have hji4w : (IntKind.i64.wrap ((wrap64 ((l0.length : Int) + (wrap64 (Int.tdiv a1 32)))) + 1)) = aV := (zat _).trans aT
  by_cases c5 : 0 ≤ (aV)
  ·rw [if_pos c5] at H; have cK := eq_true c5; have cL := decide_eq_true c5; clear c5
   by_cases c6 : (aV : Int).toNat ≤ 70368744177664
   ·rw [if_pos c6] at H; have cM := eq_true c6; have cN := decide_eq_true c6; clear c6; obtain ⟨cD, aJ⟩ : ∃ y_ : List Int, y_ = (List.replicate (aV : Int).toNat 0) := ⟨_, rfl⟩
    replace H : (zL.l0 k l0 a1 cD 0) = some r := by first | (rw [aJ]; with_reducible exact H) | (have aQ := (Option.bind_some _ _).symm.trans H; rw [aJ]; with_reducible exact aQ) | (have aQ := (Option.bind_some _ _).symm.trans H; with_reducible exact aQ) | with_reducible exact H | (rw [aJ]; exact H) | exact H
    have aW := J aJ; clear aJ; have H' := J H; clear H; go_enter Try.func103, Try.ntmps103; go_wp2_with (first | ((with_reducible refine zf (N := 17) rfl ?_); refine Kd.R_make (Kd.int .u32) _ 134 rfl (N := 17) rfl 99 _ _ rfl aV rfl rfl Try.underlying99 (.int .u32 0) 4 info134 rfl yD_ yO_ 0 (ok := fun _ => True) (okp := fun _ => True) rfl (fun _ hk => hk) trivial (od_) (Nat.le_trans (Nat.mul_le_mul_right _ (od_ : aV.toNat ≤ 70368744177664)) yO_) (Below.refl _ _) (Nat.le_refl _) ?_; intro cZ w7 bY hb hg_ bX; clear hg_ bX; (first | rw [← aW.o] at bY | (simp only [Int.reduceToNat] at bY; rw [← aW.o] at bY)); have bN := J (Kd.z9 bY (zh bw_)); replace HB := J (za bw_ hb); clear hb bY))
    go_loopg [6] k (fun kq v6 w' => ∃ (aB : List Int) (aA : Int), v6 = .int .i64 aA ∧ ze (zL.l0 kq l0 a1 aB aA = some r) ∧ ze (kq ≤ k) ∧ ze (Kd.R (Kd.int .u32) 134 w' w.heap.size (fun _ => True) cZ aB) ∧ ze (Below w.heap.size w w'))
    case atStart => exact ⟨(cD), (0), rs_, H', ⟨Nat.le_refl _⟩, ⟨pk_ bN.o⟩, ⟨bw_⟩⟩
    case round =>
     clear H'
     try clear c1
     try clear p2
     try clear c3
     try clear bS
     try clear bT
     try clear cJ
     try clear c5
     try clear cK
     try clear cL
     try clear c6
     try clear cM
     try clear cN
     try clear p6
     obtain ⟨aB, aA, rfl, HA, HK1, aG, HB⟩ := hrel
     cases gk with
     | zero => exact absurd HA.o (by simp [zL.l0])
     | succ k1 =>
      have H := HA.o; clear HA; simp only [zL.l0] at H
      by_cases c9 : aA < (l0.length : Int)
      ·rw [if_pos c9] at H; have cO := decide_eq_true c9; clear c9
       by_cases cE : 0 ≤ aA
       ·rw [if_pos cE] at H; have c10b0 := decide_eq_true cE; clear cE; obtain ⟨aM, aY⟩ : ∃ j_ : Int, (Int.tmod a1 32) = j_ := ⟨_, rfl⟩
        replace H : (if 0 ≤ (aM) then (if 0 ≤ (wrap64 (aA + (wrap64 (Int.tdiv a1 32)))) then (if (wrap64 (aA + (wrap64 (Int.tdiv a1 32)))) < (aB.length : Int) then ((some (aB.set ((wrap64 (aA + (wrap64 (Int.tdiv a1 32)))) : Int).toNat (Go.bits .or .u32 (rd aB (wrap64 (aA + (wrap64 (Int.tdiv a1 32))))) ((shl .u64 (IntKind.u64.wrap (rd l0 aA)) (aM)) % 4294967296)) : List Int)).bind fun aE => (if 0 ≤ (wrap64 ((wrap64 (aA + (wrap64 (Int.tdiv a1 32)))) + 1)) then (if (wrap64 ((wrap64 (aA + (wrap64 (Int.tdiv a1 32)))) + 1)) < (aB.length : Int) then (zL.l0 k1 l0 a1 (aE.set ((wrap64 ((wrap64 (aA + (wrap64 (Int.tdiv a1 32)))) + 1)) : Int).toNat (Go.bits .or .u32 (rd aE (wrap64 ((wrap64 (aA + (wrap64 (Int.tdiv a1 32)))) + 1))) (((shl .u64 (IntKind.u64.wrap (rd l0 aA)) (aM)) / 4294967296) % 4294967296))) (wrap64 (aA + 1))) else (none)) else (none))) else (none)) else (none)) else (none)) = some r := by first | (rw [aY] at H; exact H) | (simp only [aY] at H ⊢; exact H)
        by_cases bR : 0 ≤ (aM)
        ·rw [if_pos bR] at H; have c12b0 := eq_true bR; have c12b1 := decide_eq_true bR; clear bR; obtain ⟨aH, aO⟩ : ∃ j_ : Int, (shl .u64 (IntKind.u64.wrap (rd l0 aA)) (aM)) = j_ := ⟨_, rfl⟩
         replace H : (if 0 ≤ (wrap64 (aA + (wrap64 (Int.tdiv a1 32)))) then (if (wrap64 (aA + (wrap64 (Int.tdiv a1 32)))) < (aB.length : Int) then ((some (aB.set ((wrap64 (aA + (wrap64 (Int.tdiv a1 32)))) : Int).toNat (Go.bits .or .u32 (rd aB (wrap64 (aA + (wrap64 (Int.tdiv a1 32))))) ((aH) % 4294967296)) : List Int)).bind fun aE => (if 0 ≤ (wrap64 ((wrap64 (aA + (wrap64 (Int.tdiv a1 32)))) + 1)) then (if (wrap64 ((wrap64 (aA + (wrap64 (Int.tdiv a1 32)))) + 1)) < (aB.length : Int) then (zL.l0 k1 l0 a1 (aE.set ((wrap64 ((wrap64 (aA + (wrap64 (Int.tdiv a1 32)))) + 1)) : Int).toNat (Go.bits .or .u32 (rd aE (wrap64 ((wrap64 (aA + (wrap64 (Int.tdiv a1 32)))) + 1))) (((aH) / 4294967296) % 4294967296))) (wrap64 (aA + 1))) else (none)) else (none))) else (none)) else (none)) = some r := by first | (rw [aO] at H; exact H) | (simp only [aO] at H ⊢; exact H)
         have hji13_ : (IntKind.u64.wrap ((IntKind.u64.wrap (rd l0 aA)) * 2 ^ min (aM).toNat 64)) = aH := aO; have hji13z : (aM) ≤ 64 → (IntKind.u64.wrap ((IntKind.u64.wrap (rd l0 aA)) * 2 ^ (aM).toNat)) = aH := shl_small aO; obtain ⟨aC, aR⟩ : ∃ j_ : Int, (wrap64 (aA + (wrap64 (Int.tdiv a1 32)))) = j_ := ⟨_, rfl⟩
         replace H : (if 0 ≤ (aC) then (if (aC) < (aB.length : Int) then ((some (aB.set ((aC) : Int).toNat (Go.bits .or .u32 (rd aB (aC)) ((aH) % 4294967296)) : List Int)).bind fun aE => (if 0 ≤ (wrap64 ((aC) + 1)) then (if (wrap64 ((aC) + 1)) < (aB.length : Int) then (zL.l0 k1 l0 a1 (aE.set ((wrap64 ((aC) + 1)) : Int).toNat (Go.bits .or .u32 (rd aE (wrap64 ((aC) + 1))) (((aH) / 4294967296) % 4294967296))) (wrap64 (aA + 1))) else (none)) else (none))) else (none)) else (none)) = some r := by first | (rw [aR] at H; exact H) | (simp only [aR] at H ⊢; exact H)
         have hji14w : (IntKind.i64.wrap (aA + (wrap64 (Int.tdiv a1 32)))) = aC := (zat _).trans aR
         by_cases cF : 0 ≤ (aC)
         ·rw [if_pos cF] at H; have c15b0 := decide_eq_true cF; clear cF
          by_cases cG : (aC) < (aB.length : Int)
          ·rw [if_pos cG] at H; have c16b0 := decide_eq_true cG; clear cG; obtain ⟨aE, aK⟩ : ∃ y_ : List Int, y_ = (aB.set ((aC) : Int).toNat (Go.bits .or .u32 (rd aB (aC)) ((aH) % 4294967296))) := ⟨_, rfl⟩
           replace H : (if 0 ≤ (wrap64 ((aC) + 1)) then (if (wrap64 ((aC) + 1)) < (aB.length : Int) then (zL.l0 k1 l0 a1 (aE.set ((wrap64 ((aC) + 1)) : Int).toNat (Go.bits .or .u32 (rd aE (wrap64 ((aC) + 1))) (((aH) / 4294967296) % 4294967296))) (wrap64 (aA + 1))) else (none)) else (none)) = some r := by first | (rw [aK]; with_reducible exact H) | (have aQ := (Option.bind_some _ _).symm.trans H; rw [aK]; with_reducible exact aQ) | (have aQ := (Option.bind_some _ _).symm.trans H; with_reducible exact aQ) | with_reducible exact H | (rw [aK]; exact H) | exact H
           have aX := J aK; clear aK; obtain ⟨aD, aS⟩ : ∃ j_ : Int, (wrap64 ((aC) + 1)) = j_ := ⟨_, rfl⟩
           replace H : (if 0 ≤ (aD) then (if (aD) < (aB.length : Int) then (zL.l0 k1 l0 a1 (aE.set ((aD) : Int).toNat (Go.bits .or .u32 (rd aE (aD)) (((aH) / 4294967296) % 4294967296))) (wrap64 (aA + 1))) else (none)) else (none)) = some r := by first | (rw [aS] at H; exact H) | (simp only [aS] at H ⊢; exact H)
           have hji18w : (IntKind.i64.wrap ((aC) + 1)) = aD := (zat _).trans aS
           by_cases cH : 0 ≤ (aD)
           ·rw [if_pos cH] at H; have c19b0 := decide_eq_true cH; clear cH
            by_cases cI : (aD) < (aB.length : Int)
            ·rw [if_pos cI] at H; have c20b0 := decide_eq_true cI; clear cI; obtain ⟨bJ, aL⟩ : ∃ y_ : List Int, y_ = (aE.set ((aD) : Int).toNat (Go.bits .or .u32 (rd aE (aD)) (((aH) / 4294967296) % 4294967296))) := ⟨_, rfl⟩
             replace H : (zL.l0 k1 l0 a1 bJ (wrap64 (aA + 1))) = some r := by first | (rw [aL]; with_reducible exact H) | (have aQ := (Option.bind_some _ _).symm.trans H; rw [aL]; with_reducible exact aQ) | (have aQ := (Option.bind_some _ _).symm.trans H; with_reducible exact aQ) | with_reducible exact H | (rw [aL]; exact H) | exact H
             have bP := J aL; clear aL; have H' := J H; clear H; have bD : 0 ≤ (aA : Int) := od_; have bG : aA < (l0.length : Int) := od_; obtain ⟨ad331, cP, aP⟩ := Kd.zQ HR0.o aA bD bG; cases cP; replace aP := bx_ HB.o aP; replace bD := eq_true bD; replace bG := eq_true bG; obtain ⟨Ao22, bU, cS⟩ := Kd.zJ aG.o; subst cS; have bE : 0 ≤ ((aC) : Int) := od_; have bH : (aC) < (aB.length : Int) := od_; obtain ⟨ad332, cQ, aU⟩ := Kd.zQ (Kd.zK aG.o).2.2 (aC) bE bH; cases cQ; replace bE := eq_true bE; replace bH := eq_true bH; have cV : 0 ≤ ((aC) : Int) := od_; have cX : ((aC) : Int) < ((aB.length : Int) : Int) := od_; obtain ⟨aN, co17, bV, bW, cU, cl17, bM⟩ := Kd.R_form aG.o yO_
             (first | cases bV | (injection bV with ea_ en_ ec_; (first | subst ea_ | (injection ea_ with ea_; subst ea_)); subst ec_; clear en_))
             have bL := J bW; have GG17 := J bM; clear bW cU bM
             (first | simp only [add_plain] at aU | skip)
             obtain ⟨hx17_0, hf17_0⟩ := Kd.zaQ 0 aG.o ((aC) : Int) cV cX; replace cV := eq_true cV; replace cX := eq_true cX; have bA := Kd.zbd aG.o ((aC) : Int) (Go.bits .or .u32 (rd aB (aC)) ((aH) % 4294967296))
             go_wp2_with (first | ((with_reducible refine zj (t := 134) (p := 47) rfl ?_); refine store_ 134 47 ((wr.setCell ⟨aN, ((aC) : Int).toNat, none⟩ (.int .u32 (Go.bits .or .u32 (rd aB (aC)) ((aH) % 4294967296))))) ?_; intro cC hw; have hg : wr.grownBy cC (some aN) := (by rw [hw]; exact bA.2); have hp_ : Kd.R (Kd.int .u32) 134 cC w.heap.size (fun _ => True) (.slice (some ⟨aN, 0, none⟩) aB.length bU) aE := (by rw [hw, aX.o]; exact bA.1); clear bA; replace aG := J (hp_); replace HB := J ((by rw [hw]; exact zN (HB.o) bL.o : Below w.heap.size w cC)); clear hg hw hp_; have bF : 0 ≤ ((aD) : Int) := od_; have bI : (aD) < (aE.length : Int) := (by have h_ : ((aD) : Int) < ((aB.length : Int) : Int) := od_; first | (have e_ := (Kd.zK aG.o).1; omega) | simpa only [aX.o, List.length_set] using h_); have ql334 : (((aD) : Int) < ((aB.length : Int) : Int)) = True := eq_true (od_); obtain ⟨bQ, cR, aI⟩ := Kd.zQ (Kd.zK aG.o).2.2 (aD) bF bI; obtain rfl : (⟨aN, 0, none⟩ : Addr) = bQ := (by injection cR); (first | simp only [add_plain] at aI | simp only [add_at] at aI | simp only [Addr.add, Nat.zero_add] at aI | skip); replace bF := eq_true bF; replace bI := eq_true bI; have cW : 0 ≤ ((aD) : Int) := od_; have cY : ((aD) : Int) < ((aB.length : Int) : Int) := od_; obtain ⟨hx21_0, hf21_0⟩ := Kd.zaQ 0 aG.o ((aD) : Int) cW cY; replace cW := eq_true cW; replace cY := eq_true cY; obtain ⟨hy25_, hz25_⟩ := Kd.zaQ 0 aG.o ((aD) : Int) (od_) (od_); have bB := Kd.zbd aG.o ((aD) : Int) (Go.bits .or .u32 (rd aE (aD)) (((aH) / 4294967296) % 4294967296))) | ((with_reducible refine zj (t := 134) (p := 66) rfl ?_); refine store_ 134 66 ((cC.setCell ⟨aN, ((aD) : Int).toNat, none⟩ (.int .u32 (Go.bits .or .u32 (rd aE (aD)) (((aH) / 4294967296) % 4294967296))))) ?_; intro dA hw; have hg : cC.grownBy dA (some aN) := (by rw [hw]; exact bB.2); have hp_ : Kd.R (Kd.int .u32) 134 dA w.heap.size (fun _ => True) (.slice (some ⟨aN, 0, none⟩) aB.length bU) bJ := (by rw [hw, bP.o]; exact bB.1); clear bB; replace aG := J (hp_); replace HB := J ((by rw [hw]; exact zN (HB.o) bL.o : Below w.heap.size w dA)); clear hg hw hp_))
             go_roundg k1
             case measure => have := HK1.o; omega
             case rel => exact ⟨(bJ), (wrap64 (aA + 1)), rs_, H', ⟨by have := HK1.o; omega⟩, ⟨pk_ aG.o⟩, ⟨bw_⟩⟩
            ·rw [if_neg cI] at H; exact absurd H (by simp)
           ·rw [if_neg cH] at H; exact absurd H (by simp)
          ·rw [if_neg cG] at H; exact absurd H (by simp)
         ·rw [if_neg cF] at H; exact absurd H (by simp)
        ·rw [if_neg bR] at H; exact absurd H (by simp)
       ·rw [if_neg cE] at H; exact absurd H (by simp)
      ·rw [if_neg c9] at H; have cO := decide_eq_false c9; clear c9; replace H := Option.bind_eq_some_iff.mp H; obtain ⟨cB, bK, H⟩ := H; replace H : (some cB) = some r := H; have A27 := J bK; clear bK; obtain rfl := Option.some.inj H; obtain ⟨aZ, bC, cT⟩ := Kd.zJ aG.o; subst cT; go_wp2_with (first | ((with_reducible refine zM (f := 69) rfl ?_); refine gl_ 68 Try.func69 #[.slice aZ aB.length bC] ?_; (with_reducible refine (zo.calls k1 (fun k_ => some k_ = (.slice aZ aB.length bC : Value).ownBlock) (.slice aZ aB.length bC) aB cB w _ ?bZ ?cA A27.o).mono ?_); (case bZ => exact bw_); (case cA => exact Kd.R_tight rfl aG.o); rintro e w29 ⟨v337, rfl, ho0, hb, hkp⟩; refine ⟨_, rfl, ?_⟩; have bO := J (Kd.zB (ok' := fun k_ => True) ho0 (fun k_ hk_ => trivial)); replace HB := J (hb); clear aG; (try clear hb hkp ho0))); go_ret; exact ⟨_, by first | rfl | (simp [zaE, zaF] <;> rfl) | (simp only [← aT]; first | rfl | (simp [zaE, zaF] <;> rfl)) | (simp [*, zaE, zaF] <;> rfl), pk_ bO.o, bw_⟩
   ·rw [if_neg c6] at H; exact absurd H (by simp)
  ·rw [if_neg c5] at H; exact absurd H (by simp)
end Go.Proofs.Ytlidbaejhmamjaa.PB
namespace Go.Proofs.Ytlidbaejhmamjaa.NW
open Go.RowKit YtlidbaejhmamjaaW.PrintWords YtlidbaejhmamjaaW.PrintLast YtlidbaejhmamjaaW.PrintMore PB LA AC
def nv : List Int → Int
 | [] => 0
 | x :: xs => x + 4294967296 * nv xs
def U32 (l : List Int) : Prop := ∀ x, x ∈ l → 0 ≤ x ∧ x < 4294967296
def B (i : Nat) : Int := 2 ^ (32 * i)
theorem B_zero : B 0 = 1 := rfl
theorem B_succ (i : Nat) : B (i + 1) = 4294967296 * B i := by
 unfold B; rw [show 32 * (i + 1) = 32 + 32 * i by omega, Int.pow_add]; rfl
theorem B_pos (i : Nat) : 0 < B i := Int.pow_pos yD_
theorem B_mono {i j : Nat} (h : i ≤ j) : B i ≤ B j := za3 yO_
theorem nv_append : ∀ a b : List Int, nv (a ++ b) = nv a + B a.length * nv b
 | [], b => by simp [nv, B_zero]
 | x :: a, b => by
  have ih := nv_append a b; simp only [List.cons_append, nv, List.length_cons, ih, B_succ]; rw [Int.mul_add, Int.mul_assoc]
  omega
theorem nv_zeros : ∀ n : Nat, nv (List.replicate n 0) = 0
 | 0 => rfl
 | n + 1 => by rw [List.replicate_succ]; simp only [nv, nv_zeros n]; rfl
theorem nv_one (x : Int) : nv [x] = x := by simp [nv]
theorem nv_snoc (l : List Int) (x : Int) : nv (l ++ [x]) = nv l + B l.length * x := by rw [nv_append, nv_one]
theorem nv_take (l : List Int) (i : Nat) (h : i < l.length) : nv (l.take (i + 1)) = nv (l.take i) + B i * rd l (i : Nat) := by
 rw [List.take_add_one, List.getElem?_eq_getElem h, Option.toList_some, nv_snoc, List.length_take, Nat.min_eq_left yO_]; simp [rd, h]
theorem nv_bound : ∀ l : List Int, U32 l → 0 ≤ nv l ∧ nv l < B l.length
 | [], _ => by simp [nv, B_zero]
 | x :: l, h => by
  have hx := h x (by simp); have ih := nv_bound l (fun y hy => h y (by simp [hy])); simp only [nv, List.length_cons, B_succ]; generalize B l.length = P at *
  omega
theorem u32_rd {l : List Int} (h : U32 l) (i : Nat) (hi : i < l.length) : 0 ≤ rd l (i : Int) ∧ rd l (i : Int) < 4294967296 := by
 have : rd l (i : Int) = l[i] := by simp [rd, hi]
 rw [this]; exact h _ (List.getElem_mem hi)
theorem U32.snoc {l : List Int} (h : U32 l) {x : Int} (h0 : 0 ≤ x) (h1 : x < 4294967296) : U32 (l ++ [x]) := by
 intro y hy; simp at hy
 rcases hy with hy | rfl
 ·exact h y hy
 ·exact ⟨h0, h1⟩
theorem U32.take {l : List Int} (h : U32 l) (i : Nat) : U32 (l.take i) := fun x hx => h x (List.mem_of_mem_take hx)
theorem U32.zeros (n : Nat) : U32 (List.replicate n 0) := fun x hx => by
 obtain ⟨_, rfl⟩ := List.mem_replicate.1 hx
 decide
/-- Its last word is not 0. -/
def Tr (l : List Int) : Prop := ∀ i : Nat, i + 1 = l.length → rd l (i : Nat) ≠ 0
theorem set_at (ds : List Int) (m i : Nat) (v : Int) (h : ds.length = i) : (ds ++ List.replicate (m + 1) 0).set i v = (ds ++ [v]) ++ List.replicate m 0 := by
 subst h; rw [List.replicate_succ, List.set_append_right _ _ (Nat.le_refl _), Nat.sub_self, s0_, List.append_assoc]; rfl
theorem trim_ev (l : List Int) (hu : U32 l) (hn : l.length ≤ 100000000) : ∃ t, EvS (fun k => zo.f k l) t ∧ nv t = nv l ∧ U32 t ∧ Tr t ∧ t.length ≤ l.length := by
 unfold zo.f
 have key : ∀ i : Nat, i ≤ l.length → nv (l.take i) = nv l → ∃ t, EvS (fun k => zo.l0 k l (i : Int)) t ∧ nv t = nv l ∧ U32 t ∧ Tr t ∧ t.length ≤ l.length := by
  intro i
  induction i with
  | zero =>
   intro _ h; refine ⟨[], EvS.done fun k => ?_, h ▸ rfl, fun x hx => by simp at hx, fun i hi => by simp at hi, by simp⟩; simp only [zo.l0]; rw [if_neg yO_, if_pos yO_, if_pos yO_]; rfl
  | succ i ih =>
   intro hi h; have e : wrap64 (((i + 1 : Nat) : Int) - 1) = (i : Int) := by rw [w64 _ yO_ yO_]; omega
   by_cases hz : rd l (i : Int) = 0
   ·have h2 := nv_take l i yO_; rw [hz, Int.mul_zero, Int.add_zero, h] at h2; obtain ⟨t, ht, r⟩ := ih yO_ h2.symm; refine ⟨t, EvS.succ (fun k => ?_) ht, r⟩; simp only [zo.l0]; rw [if_pos yO_, e, if_pos yO_, if_pos yO_, if_pos hz]
   ·refine ⟨l.take (i + 1), EvS.done fun k => ?_, h, hu.take _, fun j hj => ?_, by rw [List.length_take]; omega⟩
    ·simp only [zo.l0]; rw [if_pos yO_, e, if_pos yO_, if_pos yO_, if_neg hz, if_pos yO_, if_pos yO_, Int.toNat_natCast]
    ·rw [List.length_take, Nat.min_eq_left hi] at hj; obtain rfl : j = i := by omega
     intro h0
     apply hz
     rw [← h0]; simp [rd, List.getElem?_take]
 exact key l.length (Nat.le_refl _) (by rw [List.take_length])
theorem zaZ (x : Int) (h0 : 0 ≤ x) (h1 : x < 18446744073709551616) : IntKind.u64.wrap x = x := wraps_u64 x h0 (by
 have : (2 : Int) ^ 64 = 18446744073709551616 := by decide
 omega)
theorem plus_core (a b : List Int) (ha : U32 a) (hb : U32 b) (hl : b.length ≤ a.length) (hn : a.length ≤ 10000000) :
  ∃ t, EvS (fun k => zE.j0 k a b) t ∧ nv t = nv a + nv b ∧ U32 t ∧ Tr t ∧ t.length ≤ a.length + 1 := by
 have key : ∀ (m i : Nat) (ds : List Int) (c : Int), a.length = i + m → ds.length = i → U32 ds → 0 ≤ c → c < 4294967296 → nv ds + B i * c = nv (a.take i) + nv (b.take i) →
   ∃ t, EvS (fun k => zE.l0 k a b (ds ++ List.replicate (m + 1) 0) c (i : Int)) t ∧ nv t = nv a + nv b ∧ U32 t ∧ Tr t ∧ t.length ≤ a.length + 1 := by
  intro m
  induction m with
  | zero =>
   intro i ds c e hd hu c0 c1 h; obtain ⟨t, ht, r0, r1, r2, r3⟩ := trim_ev (ds ++ [c]) (hu.snoc c0 c1) (by simp; omega); have e1 : a.take i = a := List.take_of_length_le yO_; have e2 : b.take i = b := List.take_of_length_le yO_; rw [e1, e2] at h; refine ⟨t, ?_, by rw [r0, nv_snoc, hd]; exact h, r1, r2, by simp at r3; omega⟩; have hs := set_at ds 0 i c hd; rw [show (0 : Nat) + 1 = 1 from rfl] at *
   refine EvS.succ (G := fun k => (zo.f k (ds ++ [c])).bind fun aA => some aA) (fun k => ?_) (EvS.bind ht (EvS.pure _)); simp only [zE.l0]; rw [if_neg yO_, if_pos yO_, if_pos (by simp; omega), Int.emod_eq_of_lt c0 c1, Int.toNat_natCast, show a.length = i by omega, hs, List.replicate_zero, List.append_nil]
  | succ m ih =>
   intro i ds c e hd hu c0 c1 h; have hx := u32_rd ha i yO_; have ta := nv_take a i yO_
   by_cases hi : i < b.length
   ·have hy := u32_rd hb i hi; have tb := nv_take b i hi; obtain ⟨v, hv⟩ : ∃ v, v = c + rd a (i : Int) + rd b (i : Int) := ⟨_, rfl⟩
    have v1 : 0 ≤ v % 4294967296 ∧ v % 4294967296 < 4294967296 := by omega
    have v2 : v = v % 4294967296 + 4294967296 * (v / 4294967296) := by omega
    obtain ⟨t, ht, r⟩ := ih (i + 1) (ds ++ [v % 4294967296]) (v / 4294967296) yO_ (by simp; omega) (hu.snoc v1.1 v1.2) yO_ yO_ (by
     rw [nv_snoc, hd, B_succ, ta, tb, Int.mul_comm 4294967296, Int.mul_assoc, Int.add_assoc, ← Int.mul_add, ← v2, hv, Int.mul_add, Int.mul_add]
     omega)
    refine ⟨t, EvS.succ (fun k => ?_) ht, r⟩; simp only [zE.l0]; rw [if_pos yO_, if_pos yO_, if_pos yO_, if_pos (by simp; omega), zaZ (rd a (i : Int)) yO_ yO_, zaZ (rd b (i : Int)) yO_ yO_, zaZ (c + rd a (i : Int)) yO_ yO_, zaZ (c + rd a (i : Int) + rd b (i : Int)) yO_ yO_, ← hv, wnext i yO_, Int.toNat_natCast, set_at ds (m + 1) i _ hd]
   ·obtain ⟨v, hv⟩ : ∃ v, v = c + rd a (i : Int) := ⟨_, rfl⟩
    have v1 : 0 ≤ v % 4294967296 ∧ v % 4294967296 < 4294967296 := by omega
    have v2 : v = v % 4294967296 + 4294967296 * (v / 4294967296) := by omega
    have e2 : b.take i = b := List.take_of_length_le yO_; have e3 : b.take (i + 1) = b := List.take_of_length_le yO_; rw [e2] at h
    obtain ⟨t, ht, r⟩ := ih (i + 1) (ds ++ [v % 4294967296]) (v / 4294967296) yO_ (by simp; omega) (hu.snoc v1.1 v1.2) yO_ yO_ (by
     rw [nv_snoc, hd, B_succ, ta, e3, Int.mul_comm 4294967296, Int.mul_assoc, Int.add_assoc, ← Int.mul_add, ← v2, hv, Int.mul_add]
     omega)
    refine ⟨t, EvS.succ (fun k => ?_) ht, r⟩; simp only [zE.l0]; rw [if_pos yO_, if_pos yO_, if_neg yO_, if_pos (by simp; omega), zaZ (rd a (i : Int)) yO_ yO_, zaZ (c + rd a (i : Int)) yO_ yO_, ← hv, wnext i yO_, Int.toNat_natCast, set_at ds (m + 1) i _ hd]
 obtain ⟨t, ht, r⟩ := key a.length 0 [] 0 yO_ rfl (fun x hx => by simp at hx) yO_ yO_ (by simp [nv]); refine ⟨t, EvS.succ (fun k => ?_) ht, r⟩; simp only [zE.j0]; rw [w64 _ yO_ yO_, if_pos yO_, show (((a.length : Int) + 1).toNat) = a.length + 1 by omega, if_pos yO_]; rfl
theorem plus_ev (a b : List Int) (ha : U32 a) (hb : U32 b) (hn : a.length ≤ 10000000) (hm : b.length ≤ 10000000) :
  ∃ t, EvS (fun k => zE.f k a b) t ∧ nv t = nv a + nv b ∧ U32 t ∧ Tr t ∧ t.length ≤ max a.length b.length + 1 := by
 by_cases h : a.length < b.length
 ·obtain ⟨t, ht, r0, r1, r2, r3⟩ := plus_core b a hb ha yO_ hm; exact ⟨t, EvS.of (fun k => by unfold zE.f; rw [if_pos yO_]) ht, by omega, r1, r2, by omega⟩
 ·obtain ⟨t, ht, r0, r1, r2, r3⟩ := plus_core a b ha hb yO_ hn; exact ⟨t, EvS.of (fun k => by unfold zE.f; rw [if_neg yO_]) ht, by omega, r1, r2, by omega⟩
theorem tr_pos {a : List Int} (h : U32 a) (ht : Tr a) (hn : 0 < a.length) : B (a.length - 1) ≤ nv a := by
 have h1 := nv_take a (a.length - 1) yO_; rw [show a.length - 1 + 1 = a.length by omega, List.take_length] at h1; have h2 := ht (a.length - 1) yO_; have h3 := u32_rd h (a.length - 1) yO_; have h4 := (nv_bound _ (h.take (a.length - 1))).1; have h5 : B (a.length - 1) * 1 ≤ B (a.length - 1) * rd a ((a.length - 1 : Nat) : Int) := Int.mul_le_mul_of_nonneg_left yO_ (Int.le_of_lt (B_pos _))
 omega
theorem nv_pos {a : List Int} (h : U32 a) (ht : Tr a) (hn : 0 < a.length) : 0 < nv a := by
 have := tr_pos h ht hn; have := B_pos (a.length - 1)
 omega
theorem len_le {a b : List Int} (ha : U32 a) (hb : U32 b) (ht : Tr b) (h : nv b ≤ nv a) : b.length ≤ a.length := by
 apply Classical.byContradiction
 intro hc; have h1 := tr_pos hb ht yO_; have h2 := (nv_bound a ha).2; have h3 := B_mono (show a.length ≤ b.length - 1 by omega)
 omega
theorem minus_ev (a b : List Int) (ha : U32 a) (hb : U32 b) (hl : b.length ≤ a.length) (hv : nv b ≤ nv a) (hn : a.length ≤ 10000000) :
  ∃ t, EvS (fun k => zG.f k a b) t ∧ nv t = nv a - nv b ∧ U32 t ∧ Tr t ∧ t.length ≤ a.length := by
 have key : ∀ (m i : Nat) (ds : List Int) (c : Int), a.length = i + m → ds.length = i → U32 ds → 0 ≤ c → c ≤ 1 → nv ds - B i * c = nv (a.take i) - nv (b.take i) →
   ∃ t, EvS (fun k => zG.l0 k a b (ds ++ List.replicate m 0) c (i : Int)) t ∧ nv t = nv a - nv b ∧ U32 t ∧ Tr t ∧ t.length ≤ a.length := by
  intro m
  induction m with
  | zero =>
   intro i ds c e hd hu c0 c1 h; obtain ⟨t, ht, r0, r1, r2, r3⟩ := trim_ev ds hu yO_; have e1 : a.take i = a := List.take_of_length_le yO_; have e2 : b.take i = b := List.take_of_length_le yO_; rw [e1, e2] at h; have hb2 := nv_bound ds hu; rw [hd] at hb2
   have hc : c = 0 := by
    apply Classical.byContradiction
    intro hc; obtain rfl : c = 1 := by omega
    omega
   subst hc; refine ⟨t, ?_, by omega, r1, r2, by omega⟩; refine EvS.succ (G := fun k => (zo.f k ds).bind fun aA => some aA) (fun k => ?_) (EvS.bind ht (EvS.pure _)); simp only [zG.l0]; rw [if_neg yO_, List.replicate_zero, List.append_nil]
  | succ m ih =>
   intro i ds c e hd hu c0 c1 h; have hx := u32_rd ha i yO_; have ta := nv_take a i yO_
   have step : ∀ (y : Int), 0 ≤ y → y < 4294967296 → nv (b.take (i + 1)) = nv (b.take i) + B i * y → ∃ (v c' : Int), v = (if rd a (i : Int) < c + y then rd a (i : Int) + 4294967296 - (c + y) else rd a (i : Int) - (c + y)) ∧ c' = (if rd a (i : Int) < c + y then 1 else 0) ∧ 0 ≤ v ∧ v < 4294967296 ∧ 
     (∃ t, EvS (fun k => zG.l0 k a b (ds ++ [v] ++ List.replicate m 0) c' ((i + 1 : Nat) : Int)) t ∧ nv t = nv a - nv b ∧ U32 t ∧ Tr t ∧ t.length ≤ a.length) := by
    intro y y0 y1 tb; refine ⟨_, _, rfl, rfl, by split <;> omega, by split <;> omega, ?_⟩; obtain ⟨v, hv⟩ : ∃ v, v = (if rd a (i : Int) < c + y then rd a (i : Int) + 4294967296 - (c + y) else rd a (i : Int) - (c + y)) := ⟨_, rfl⟩
    obtain ⟨c', hc'⟩ : ∃ c' : Int, c' = (if rd a (i : Int) < c + y then 1 else 0) := ⟨_, rfl⟩
    rw [← hv, ← hc']; have v1 : 0 ≤ v ∧ v < 4294967296 := by rw [hv]; split <;> omega
    have v2 : v - 4294967296 * c' = rd a (i : Int) - c - y := by rw [hv, hc']; split <;> omega
    refine ih (i + 1) (ds ++ [v]) c' yO_ (by simp; omega) (hu.snoc v1.1 v1.2) (by rw [hc']; split <;> omega) (by rw [hc']; split <;> omega) ?_; rw [nv_snoc, hd, B_succ, ta, tb, Int.mul_comm 4294967296, Int.mul_assoc]; have v3 : B i * v - B i * (4294967296 * c') = B i * rd a (i : Int) - B i * c - B i * y := by rw [← Int.mul_sub, v2, Int.mul_sub, Int.mul_sub]
    omega
   by_cases hi : i < b.length
   ·have hy := u32_rd hb i hi; obtain ⟨v, c', hv, hc', v0, v1, t, ht, r⟩ := step (rd b (i : Int)) hy.1 hy.2 (nv_take b i hi); refine ⟨t, EvS.succ (fun k => ?_) ht, r⟩; simp only [zG.l0]; rw [if_pos yO_, if_pos yO_, if_pos yO_, zaZ (rd a (i : Int)) yO_ yO_, zaZ (rd b (i : Int)) yO_ yO_, zaZ (c + rd b (i : Int)) yO_ yO_]
    by_cases hlt : rd a (i : Int) < c + rd b (i : Int)
    ·rw [if_pos hlt] at hv hc' ⊢; subst hc'; rw [if_pos (by simp; omega), zaZ (rd a (i : Int) + 4294967296) yO_ yO_, zaZ _ yO_ yO_, ← hv, Int.emod_eq_of_lt v0 v1, wnext i yO_, Int.toNat_natCast, set_at ds m i _ hd]
    ·rw [if_neg hlt] at hv hc' ⊢; subst hc'; rw [if_pos (by simp; omega), zaZ _ yO_ yO_, ← hv, Int.emod_eq_of_lt v0 v1, wnext i yO_, Int.toNat_natCast, set_at ds m i _ hd]
   ·have e2 : b.take i = b := List.take_of_length_le yO_; have e3 : b.take (i + 1) = b := List.take_of_length_le yO_; obtain ⟨v, c', hv, hc', v0, v1, t, ht, r⟩ := step 0 yO_ yO_ (by rw [e2, e3]; omega); rw [Int.add_zero] at hv hc'; refine ⟨t, EvS.succ (fun k => ?_) ht, r⟩; simp only [zG.l0]; rw [if_pos yO_, if_neg yO_, if_pos yO_, zaZ (rd a (i : Int)) yO_ yO_]
    by_cases hlt : rd a (i : Int) < c
    ·rw [if_pos hlt] at hv hc' ⊢; subst hc'; rw [if_pos (by simp; omega), zaZ (rd a (i : Int) + 4294967296) yO_ yO_, zaZ _ yO_ yO_, ← hv, Int.emod_eq_of_lt v0 v1, wnext i yO_, Int.toNat_natCast, set_at ds m i _ hd]
    ·rw [if_neg hlt] at hv hc' ⊢; subst hc'; rw [if_pos (by simp; omega), zaZ _ yO_ yO_, ← hv, Int.emod_eq_of_lt v0 v1, wnext i yO_, Int.toNat_natCast, set_at ds m i _ hd]
 obtain ⟨t, ht, r⟩ := key a.length 0 [] 0 yO_ rfl (fun x hx => by simp at hx) yO_ yO_ (by simp [nv]); refine ⟨t, EvS.of (fun k => ?_) ht, r⟩; unfold zG.f; rw [if_pos yO_, Int.toNat_natCast, if_pos yO_]; rfl
theorem cmp_ev (a b : List Int) (ha : U32 a) (hb : U32 b) (ta : Tr a) (tb : Tr b) (hn : a.length ≤ 10000000) (hm : b.length ≤ 10000000) : EvS (fun k => zaa.f k a b) (sgnI (nv a - nv b)) := by
 by_cases h : a.length = b.length
 ·have key : ∀ i : Nat, i ≤ a.length → nv a - nv b = nv (a.take i) - nv (b.take i) → EvS (fun k => zaa.l0 k a b ((i : Int) - 1)) (sgnI (nv a - nv b)) := by
   intro i
   induction i with
   | zero =>
    intro _ hd; refine EvS.done fun k => ?_
    simp only [zaa.l0]; rw [if_neg yO_, hd]; exact (congrArg some (sgnI_zero (by simp [nv]))).symm
   | succ i ih =>
    intro hi hd; have h1 := nv_take a i yO_; have h2 := nv_take b i yO_; have b1 := nv_bound _ (ha.take i); have b2 := nv_bound _ (hb.take i); rw [List.length_take, Nat.min_eq_left yO_] at b1 b2
    by_cases c1 : rd a (i : Int) < rd b (i : Int)
    ·have h5 : B i * rd a (i : Int) + B i ≤ B i * rd b (i : Int) := by
      have := Int.mul_le_mul_of_nonneg_left (show rd a (i : Int) + 1 ≤ rd b (i : Int) by omega) (Int.le_of_lt (B_pos i)); rw [Int.mul_add, Int.mul_one] at this; exact this
     refine EvS.done fun k => ?_
     simp only [zaa.l0]; rw [show ((i + 1 : Nat) : Int) - 1 = (i : Int) by omega, if_pos yO_, if_pos yO_, if_pos yO_, if_pos yO_, if_pos c1]; rw [zbh yO_]
    ·by_cases c2 : rd a (i : Int) > rd b (i : Int)
     ·have h5 : B i * rd b (i : Int) + B i ≤ B i * rd a (i : Int) := by
       have := Int.mul_le_mul_of_nonneg_left (show rd b (i : Int) + 1 ≤ rd a (i : Int) by omega) (Int.le_of_lt (B_pos i)); rw [Int.mul_add, Int.mul_one] at this; exact this
      refine EvS.done fun k => ?_
      simp only [zaa.l0]; rw [show ((i + 1 : Nat) : Int) - 1 = (i : Int) by omega, if_pos yO_, if_pos yO_, if_pos yO_, if_pos yO_, if_neg c1, if_pos c2]; rw [zbi yO_]
     ·have e : rd a (i : Int) = rd b (i : Int) := by omega
      refine EvS.succ (fun k => ?_) (ih yO_ (by rw [hd, h1, h2, e]; omega)); simp only [zaa.l0]; rw [show ((i + 1 : Nat) : Int) - 1 = (i : Int) by omega, if_pos yO_, if_pos yO_, if_pos yO_, if_pos yO_, if_neg c1, if_neg c2, w64 _ yO_ yO_]
  refine EvS.of (fun k => ?_) (key a.length (Nat.le_refl _) (by rw [List.take_length, h, List.take_length])); unfold zaa.f; rw [if_pos yO_, w64 _ yO_ yO_]
 ·have b1 := nv_bound a ha; have b2 := nv_bound b hb
  by_cases h2 : a.length < b.length
  ·have h3 := tr_pos hb tb yO_; have h4 := B_mono (show a.length ≤ b.length - 1 by omega); refine EvS.of (G := fun _ => some (sgnI (nv a - nv b))) (fun k => ?_) (EvS.pure _); unfold zaa.f; rw [if_neg yO_, if_pos yO_]; rw [zbh yO_]
  ·have h3 := tr_pos ha ta yO_; have h4 := B_mono (show b.length ≤ a.length - 1 by omega); refine EvS.of (G := fun _ => some (sgnI (nv a - nv b))) (fun k => ?_) (EvS.pure _); unfold zaa.f; rw [if_neg yO_, if_neg yO_]; rw [zbi yO_]
theorem whole_ev (z : Int) (h : -9223372036854775808 ≤ z ∧ z < 9223372036854775808) : ∃ t, EvS (fun k => zau.f k z) (decide (z < 0), t, 0) ∧ nv t = zaS z ∧ U32 t ∧ Tr t ∧ t.length ≤ 2 := by
 have two : ∀ u : Int, 0 ≤ u → u < 18446744073709551616 → ∃ t, EvS (fun k => zo.f k [u % 4294967296, (u / 4294967296) % 4294967296]) t ∧ nv t = u ∧ U32 t ∧ Tr t ∧ t.length ≤ 2 := by
  intro u u0 u1
  obtain ⟨t, ht, r0, r1, r2, r3⟩ := trim_ev [u % 4294967296, (u / 4294967296) % 4294967296] (fun x hx => by
   simp at hx
   rcases hx with rfl | rfl <;> omega) (by simp)
  refine ⟨t, ht, ?_, r1, r2, by simpa using r3⟩; rw [r0]; simp only [nv]; omega
 by_cases hz : z = 0
 ·subst hz; refine ⟨[], EvS.of (G := fun _ => some (decide ((0 : Int) < 0), [], 0)) (fun k => ?_) (EvS.pure _), by simp [nv, zaS], fun x hx => by simp at hx, fun i hi => by simp at hi, by simp⟩; unfold zau.f; rw [if_neg yO_, if_pos rfl]; rfl
 ·by_cases hn : z < 0
  ·obtain ⟨t, ht, r0, r⟩ := two (-z) yO_ yO_; refine ⟨t, EvS.of (fun k => ?_) (EvS.bind (G := fun _ t => some (decide (z < 0), t, 0)) ht (EvS.pure _)), by rw [r0]; unfold zaS; rw [if_pos hn], r⟩; unfold zau.f; have e : IntKind.u64.wrap (-(IntKind.u64.wrap z)) = -z := by simp only [IntKind.wrap_u64]; omega
   rw [if_pos hn, if_neg hz, e]
  ·obtain ⟨t, ht, r0, r⟩ := two z yO_ yO_; refine ⟨t, EvS.of (fun k => ?_) (EvS.bind (G := fun _ t => some (decide (z < 0), t, 0)) ht (EvS.pure _)), by rw [r0]; unfold zaS; rw [if_neg hn], r⟩; unfold zau.f; rw [if_neg hn, if_neg hz, zaZ z yO_ yO_]
theorem or_low (x y : Int) (r : Nat) (hr : r < 32) (hx0 : 0 ≤ x) (hx : x < 2 ^ r) (hy0 : 0 ≤ y) (hy : y < 4294967296) (hm : y % 2 ^ r = 0) : bits .or .u32 x y = x + y := by
 have e32 : (2 : Int) ^ 32 = 4294967296 := by decide
 have hp : (2 : Int) ^ r ≤ 2 ^ 32 := za3 yO_
 have hk : ∀ n : Int, 0 ≤ n → n < 2 ^ 32 → IntKind.u32.wrap n = n := fun n h0 h1 => by
  rw [IntKind.wrap_u32]; omega
 obtain ⟨a, rfl⟩ := Int.eq_ofNat_of_zero_le hx0; obtain ⟨b, rfl⟩ := Int.eq_ofNat_of_zero_le hy0; have h1 := (bits_nat .u32 32 yD_ hk a b yO_ yO_).2; have h2 := (bits_nat .u32 32 yD_ hk b a yO_ yO_).2; have h3 := bits_join .u32 32 yD_ hk r (b : Int) (a : Int) hy0 hm yO_ hx0 hx yO_; rw [h1, Nat.or_comm, ← h2, h3]
 omega
theorem left_step (y h : Int) (r : Nat) (aC : r < 32) (y0 : 0 ≤ y) (y1 : y < 4294967296) (h0 : 0 ≤ h) (h1 : h < 2 ^ r) :
  ∃ x lo hi : Int, x = y * 2 ^ r ∧ shl .u64 (IntKind.u64.wrap y) (r : Int) = x ∧ lo = x % 4294967296 ∧ hi = x / 4294967296 ∧ bits .or .u32 h lo = h + lo ∧ bits .or .u32 0 hi = 0 + hi ∧ 0 ≤ h + lo ∧ h + lo < 4294967296 ∧ 0 ≤ hi ∧ hi < 2 ^ r ∧ hi < 4294967296 ∧ x = lo + 4294967296 * hi := by
 have pr : (0 : Int) < 2 ^ r := zY r
 have pr32 : (2 : Int) ^ r ≤ 2147483648 := by
  have : (2 : Int) ^ r ≤ 2 ^ 31 := za3 yO_; have e : (2 : Int) ^ 31 = 2147483648 := by decide
  omega
 have aA : (4294967296 : Int) = 2 ^ r * 2 ^ (32 - r) := by rw [← zaG, show r + (32 - r) = 32 by omega]; decide
 obtain ⟨x, hxe⟩ : ∃ x, x = y * 2 ^ r := ⟨_, rfl⟩
 have x0 : 0 ≤ x := by rw [hxe]; exact Int.mul_nonneg y0 (Int.le_of_lt pr)
 have x1 : x < 4294967296 * 2 ^ r := by rw [hxe]; exact Int.mul_lt_mul_of_pos_right y1 pr
 have x64 : x < 18446744073709551616 := by
  generalize (2 : Int) ^ r = P at *
  omega
 have esh : shl .u64 (IntKind.u64.wrap y) (r : Int) = x := by
  unfold shl; rw [zaZ _ y0 yO_, Int.toNat_natCast, show min r IntKind.u64.bits = r from Nat.min_eq_left (by show r ≤ 64; omega), ← hxe, zaZ x x0 x64]
 obtain ⟨lo, hlo⟩ : ∃ lo, lo = x % 4294967296 := ⟨_, rfl⟩
 obtain ⟨hi, hhi⟩ : ∃ hi, hi = x / 4294967296 := ⟨_, rfl⟩
 have aB : 0 ≤ lo ∧ lo < 4294967296 := by clear aA; omega
 have h01 : 0 ≤ hi := by clear aA; omega
 have h02 : hi < 2 ^ r := by rw [hhi]; exact Int.ediv_lt_of_lt_mul yD_ (by rw [Int.mul_comm]; exact x1)
 have hxs : x = lo + 4294967296 * hi := by clear aA; omega
 have lom : lo % 2 ^ r = 0 := by
  have : lo = 2 ^ r * (y - 2 ^ (32 - r) * hi) := by
   rw [Int.mul_sub, ← Int.mul_assoc, ← aA, Int.mul_comm (2 ^ r), ← hxe]; clear aA; omega
  rw [this]; exact Int.mul_emod_right _ _
 have h03 : hi < 4294967296 := by clear aA; omega
 have or1 := or_low h lo r aC h0 h1 aB.1 aB.2 lom; have or2 := or_low 0 hi 0 yO_ yO_ yD_ h01 h03 (by rw [Int.pow_zero]; exact Int.emod_one _)
 have hle : h + lo < 4294967296 := by
  have d1 : lo ≤ 4294967296 - 2 ^ r := by
   have d2 : lo / 2 ^ r * 2 ^ r = lo := by have := Int.mul_ediv_add_emod lo (2 ^ r); rw [lom, Int.add_zero, Int.mul_comm] at this; exact this
   have lt : lo / 2 ^ r < 2 ^ (32 - r) := Int.ediv_lt_of_lt_mul pr (by rw [Int.mul_comm, ← aA]; exact aB.2); have d3 : (lo / 2 ^ r + 1) * 2 ^ r ≤ 2 ^ (32 - r) * 2 ^ r := Int.mul_le_mul_of_nonneg_right yO_ (Int.le_of_lt pr); rw [Int.mul_comm (2 ^ (32 - r)), ← aA, Int.add_mul, d2] at d3; clear aA lom d2
   omega
  clear aA lom
  omega
 exact ⟨x, lo, hi, hxe, esh, hlo, hhi, or1, or2, Int.add_nonneg h0 aB.1, hle, h01, h02, h03, hxs⟩
theorem rd_mid (p : List Int) (h : Int) (q : List Int) (i : Nat) (hp : p.length = i) : rd (p ++ h :: q) (i : Int) = h := by
 subst hp; simp [rd]
theorem set_mid (p : List Int) (h v : Int) (q : List Int) (i : Nat) (hp : p.length = i) : (p ++ h :: q).set i v = p ++ v :: q := by
 subst hp; rw [List.set_append_right _ _ (Nat.le_refl _), Nat.sub_self, s0_]
theorem set_mid1 (p : List Int) (h g v : Int) (q : List Int) (i : Nat) (hp : p.length = i) : (p ++ h :: g :: q).set (i + 1) v = p ++ h :: v :: q := by
 subst hp; rw [List.set_append_right _ _ yO_, show p.length + 1 - p.length = 0 + 1 by omega, s1_, s0_]
theorem rd_mid1 (p : List Int) (h g : Int) (q : List Int) (i : Nat) (hp : p.length = i) : rd (p ++ h :: g :: q) ((i + 1 : Nat) : Int) = g := by
 rw [show p ++ h :: g :: q = (p ++ [h]) ++ g :: q by simp]; exact rd_mid _ _ _ _ (by simp [hp])
theorem left_unf (k : Nat) (a : List Int) (n q r i m : Nat) (pre : List Int) (h lo hi x : Int) (hi1 : i < a.length) (hi2 : i < 100000000) (hq : q < 100000000)
  (hp : pre.length = i + q) : (et : Int.tmod (n : Int) 32 = (r : Int)) → (ed : Int.tdiv (n : Int) 32 = (q : Int)) → (esh : shl .u64 (IntKind.u64.wrap (rd a (i : Int))) (r : Int) = x) → (hlo : lo = x % 4294967296) → (hhi : hi = x / 4294967296) → (or1 : bits .or .u32 h lo = h + lo) → (or2 : bits .or .u32 0 hi = 0 + hi) → (h01 : 0 ≤ hi) → (h03 : hi < 4294967296) →
  zL.l0 (k + 1) a (n : Int) (pre ++ h :: List.replicate (m + 1) 0) (i : Int) = zL.l0 k a (n : Int) (pre ++ [h + lo] ++ hi :: List.replicate m 0) ((i + 1 : Nat) : Int) := by
 have ei : wrap64 ((i : Int) + wrap64 (q : Int)) = ((i + q : Nat) : Int) := by rw [w64 (q : Int) yO_ yO_, w64 _ yO_ yO_]; omega
 have ei1 : wrap64 (((i + q : Nat) : Int) + 1) = ((i + q + 1 : Nat) : Int) := wnext (i + q) yO_; have ei2 : wrap64 ((i : Int) + 1) = ((i + 1 : Nat) : Int) := wnext i yO_; have f1 : (i : Int) < (a.length : Int) := by omega
 have f2 : (0 : Int) ≤ (i : Int) := by omega
 have f3 : (0 : Int) ≤ (r : Int) := by omega
 have f4 : (0 : Int) ≤ ((i + q : Nat) : Int) := by omega
 have f5 : (0 : Int) ≤ ((i + q + 1 : Nat) : Int) := by omega
 have g1 : ((i + q : Nat) : Int) < ((pre ++ h :: List.replicate (m + 1) 0).length : Int) := by rw [List.length_append, hp, List.length_cons]; omega
 have g2 : ((i + q + 1 : Nat) : Int) < ((pre ++ h :: List.replicate (m + 1) 0).length : Int) := by rw [List.length_append, hp, List.length_cons, List.length_replicate]; omega
 have s1 : rd (pre ++ h :: List.replicate (m + 1) 0) ((i + q : Nat) : Int) = h := rd_mid _ _ _ _ hp; have s2 : (pre ++ h :: List.replicate (m + 1) 0).set (i + q) (h + lo) = pre ++ (h + lo) :: List.replicate (m + 1) 0 := set_mid _ _ _ _ _ hp; have s3 : rd (pre ++ (h + lo) :: List.replicate (m + 1) 0) ((i + q + 1 : Nat) : Int) = 0 := by rw [List.replicate_succ]; exact rd_mid1 _ _ _ _ _ hp
 have s4 : (pre ++ (h + lo) :: List.replicate (m + 1) 0).set (i + q + 1) hi = pre ++ [h + lo] ++ hi :: List.replicate m 0 := by
  rw [List.replicate_succ, set_mid1 _ _ _ _ _ _ hp, List.append_assoc]; rfl
 have g3 : ((i + q + 1 : Nat) : Int) < ((i + q + (m + 1 + 1) : Nat) : Int) := by omega
 intro et ed esh hlo hhi or1 or2 h01 h03; simp only [zL.l0]; rw [if_pos f1, if_pos f2, et, ed, if_pos f3, ei, if_pos f4, if_pos g1, esh, Option.bind_some, ei1, if_pos f5]; rw [Int.toNat_natCast, s1, ← hlo, or1, s2, ← hhi, s3, Int.emod_eq_of_lt h01 h03, or2, Int.zero_add, Int.toNat_natCast, s4, ei2]; rw [List.length_append, hp, List.length_cons, List.length_replicate, if_pos g3]
theorem left_ev (a : List Int) (ha : U32 a) (n : Nat) (hn : a.length ≤ 10000000) (hnn : n ≤ 1000000) :
  ∃ t, EvS (fun k => zL.f k a (n : Int)) t ∧ nv t = nv a * 2 ^ n ∧ U32 t ∧ Tr t ∧ t.length ≤ a.length + n / 32 + 1 := by
 by_cases h0 : a.length = 0
 ·obtain rfl := List.length_eq_zero_iff.1 h0; refine ⟨[], EvS.of (G := fun _ => some []) (fun k => ?_) (EvS.pure _), by simp [nv], fun x hx => by simp at hx, fun i hi => by simp at hi, by simp⟩; unfold zL.f; rw [if_pos (by simp)]
 ·obtain ⟨q, hq⟩ : ∃ q, q = n / 32 := ⟨_, rfl⟩
  obtain ⟨r, hr⟩ : ∃ r, r = n % 32 := ⟨_, rfl⟩
  have aB : r < 32 := by omega
  have hnq : n = 32 * q + r := by omega
  have et : Int.tmod (n : Int) 32 = (r : Int) := by rw [Int.tmod_eq_emod_of_nonneg yO_]; omega
  have ed : Int.tdiv (n : Int) 32 = (q : Int) := by rw [Int.tdiv_eq_ediv_of_nonneg yO_]; omega
  have aA : (2 : Int) ^ n = B q * 2 ^ r := by rw [hnq, zaG]; rfl
  have pr : (0 : Int) < 2 ^ r := zY r
  have aC : (2 : Int) ^ r ≤ 2147483648 := by
   have : (2 : Int) ^ r ≤ 2 ^ 31 := za3 yO_; have e : (2 : Int) ^ 31 = 2147483648 := by decide
   omega
  have e32 : (4294967296 : Int) = 2 ^ r * 2 ^ (32 - r) := by rw [← zaG, show r + (32 - r) = 32 by omega]; decide
  have key : ∀ (m i : Nat) (pre : List Int) (h : Int), a.length = i + m → pre.length = i + q → U32 pre → 0 ≤ h → h < 2 ^ r → nv pre + B (i + q) * h = nv (a.take i) * 2 ^ n →
    ∃ t, EvS (fun k => zL.l0 k a (n : Int) (pre ++ h :: List.replicate m 0) (i : Int)) t ∧ nv t = nv a * 2 ^ n ∧ U32 t ∧ Tr t ∧ t.length ≤ a.length + n / 32 + 1 := by
   intro m
   induction m with
   | zero =>
    intro i pre h e hp hu h0 h1 hv; obtain ⟨t, ht, r0, r1, r2, r3⟩ := trim_ev (pre ++ [h]) (hu.snoc h0 yO_) (by simp; omega); rw [show a.take i = a from List.take_of_length_le yO_] at hv; refine ⟨t, ?_, by rw [r0, nv_snoc, hp]; exact hv, r1, r2, by simp at r3; omega⟩; refine EvS.succ (G := fun k => (zo.f k (pre ++ [h])).bind fun aD => some aD) (fun k => ?_) (EvS.bind ht (EvS.pure _)); simp only [zL.l0]; rw [if_neg yO_, List.replicate_zero]
   | succ m ih =>
    intro i pre h e hp hu h0 h1 hv; clear aC e32; have u1 : i < a.length := by clear et ed aA pr h1 hv ih; omega
    have u2 : i < 100000000 := by clear et ed aA pr h1 hv ih; omega
    have u3 : q < 100000000 := by clear et ed aA pr h1 hv ih; omega
    have u4 : a.length = i + 1 + m := by clear et ed aA pr h1 hv ih; omega
    have u5 : pre.length + 1 = i + 1 + q := by clear et ed aA pr h1 hv ih; omega
    have hx := u32_rd ha i u1; have ta := nv_take a i u1; obtain ⟨x, lo, hi, hxe, esh, hlo, hhi, or1, or2, hl0, hle, h01, h02, h03, hxs⟩ := left_step (rd a (i : Int)) h r aB hx.1 hx.2 h0 h1
    obtain ⟨t, ht, rr⟩ := ih (i + 1) (pre ++ [h + lo]) hi u4 (by rw [List.length_append]; exact u5) (hu.snoc hl0 hle) h01 h02 (by
     rw [nv_snoc, hp, show i + 1 + q = (i + q) + 1 by omega, B_succ, ta, Int.add_mul, ← hv, Int.mul_add, Int.mul_comm 4294967296, Int.mul_assoc, Int.add_assoc, Int.add_assoc, ← Int.mul_add, ← hxs, hxe, aA]; have eb : B (i + q) = B i * B q := by unfold B; rw [show 32 * (i + q) = 32 * i + 32 * q by omega, zaG]
     rw [eb]; generalize B i = b1; generalize B q = b2; generalize rd a (i : Int) = y; generalize (2 : Int) ^ r = z
     have e1 : b1 * b2 * (y * z) = b1 * y * (b2 * z) := by
      rw [Int.mul_assoc b1 b2, Int.mul_left_comm b2, ← Int.mul_assoc]
     rw [e1, Int.add_assoc])
    refine ⟨t, EvS.succ (fun k => ?_) ht, rr⟩; exact left_unf k a n q r i m pre h lo hi x u1 u2 u3 hp et ed esh hlo hhi or1 or2 h01 h03
  obtain ⟨t, ht, rr⟩ := key a.length 0 (List.replicate q 0) 0 yO_ (by simp) (U32.zeros q) yO_ pr (by rw [nv_zeros]; simp [nv]); refine ⟨t, EvS.of (fun k => ?_) ht, rr⟩; unfold zL.f; rw [if_neg yO_, ed, w64 (q : Int) yO_ yO_, w64 ((a.length : Int) + q) yO_ yO_, w64 _ yO_ yO_, if_pos yO_, if_pos yO_]; rw [show ((a.length : Int) + (q : Int) + 1).toNat = q + (a.length + 1) by omega, ← List.replicate_append_replicate]; rfl
end Go.Proofs.Ytlidbaejhmamjaa.NW
namespace Go.Proofs.Ytlidbaejhmamjaa.PB
open Go.RowKit YtlidbaejhmamjaaW.PrintWords YtlidbaejhmamjaaW.PrintLast YtlidbaejhmamjaaW.PrintMore
attribute [local go_sem] zao zaq zaB zaC zae zaf zap zar   -- for this text's walks alone
def zaN.f (aA : Bool) (aB : List Int) (a0_2 : Int) : Option (Int) := if (aB.length : Int) = 0 then (some 0) else (if aA = true then (some (-1)) else (some 1))
theorem zaN.calls (aG : Bool) (aE : Option Addr) (aI : Nat) (aB : List Int) (aH : Int) (r : Int) (w : World) (aL : Kd.C (Kd.int .u32) w aE aB.length aB) (aK : aB.length ≤ aI) (h : zaN.f aG aB aH = some r) :
  Calls Try.prog 70 #[.agg #[.bool aG, .slice aE aB.length aI, .int .i64 aH]] w fun e w' => e = .returned (.int .i64 r) ∧ Below w.heap.size w w' := by
 have hu101 := Try.underlying101; have HR0_1 := J aL; have HC0_1 := J aK; clear aL aK; have HB := J (Below.refl w.heap.size w); have H : (if (aB.length : Int) = 0 then (some 0) else (if aG = true then (some (-1)) else (some 1))) = some r := h; clear h
 by_cases c2 : (aB.length : Int) = 0
 ·rw [if_pos c2] at H; have aM : ((aB.length : Int) == 0) = true := beq_iff_eq.mpr c2; have aN : ((aB.length : Int) != 0) = false := bne_eq_false_iff_eq.mpr c2; clear c2; obtain rfl := Option.some.inj H; go_enter Try.func70, Try.ntmps70; go_wp2_with (first | ((with_reducible refine zf (N := 1) rfl ?_); refine zah 1 (cs := #[.bool aG, .slice aE aB.length aI, .int .i64 aH]) (t := 101) ?_; intro aD hg w3 hbox hb; have aA := J (hbox); have aC := J ((by rw [hg]; exact (zh bw_) : w.heap.size ≤ aD)); replace HB := J (za bw_ hb); have aJ := aC; clear hb hbox hg; have hcz4_0 := cz_ aA.o 0 rfl; have hcz4_1 := cz_ aA.o 1 rfl; have hcz4_2 := cz_ aA.o 2 rfl; have hfz4_0 := zb aA.o 0; have hfz4_1 := zb aA.o 1; have hfz4_2 := zb aA.o 2)); go_ret; exact ⟨er_, bw_⟩
 ·rw [if_neg c2] at H; have aM : ((aB.length : Int) == 0) = false := beq_eq_false_iff_ne.mpr c2; have aN : ((aB.length : Int) != 0) = true := bne_iff_ne.mpr c2; have c2b2 : ¬ (aB = []) := fun h_ => c2 (by rw [h_]; rfl)
  by_cases c5 : aG = true
  ·subst c5; have H1 : (some (-1)) = some r := by rw [if_pos rfl] at H; exact H
   clear H; have H := H1; clear H1; obtain rfl := Option.some.inj H; go_enter Try.func70, Try.ntmps70; go_wp2_with (first | ((with_reducible refine zf (N := 1) rfl ?_); refine zah 1 (cs := #[.bool true, .slice aE aB.length aI, .int .i64 aH]) (t := 101) ?_; intro aD hg w6 hbox hb; have aA := J (hbox); have aC := J ((by rw [hg]; exact (zh bw_) : w.heap.size ≤ aD)); replace HB := J (za bw_ hb); have aJ := aC; clear hb hbox hg; have hcz7_0 := cz_ aA.o 0 rfl; have hcz7_1 := cz_ aA.o 1 rfl; have hcz7_2 := cz_ aA.o 2 rfl; have hfz7_0 := zb aA.o 0; have hfz7_1 := zb aA.o 1; have hfz7_2 := zb aA.o 2)); go_ret; exact ⟨er_, bw_⟩
  ·replace c5 := Bool.eq_false_iff.mpr c5; subst c5; have H1 : (some 1) = some r := by rw [if_neg (show ¬ (false = true) by decide)] at H; exact H
   clear H; have H := H1; clear H1; obtain rfl := Option.some.inj H; go_enter Try.func70, Try.ntmps70; go_wp2_with (first | ((with_reducible refine zf (N := 1) rfl ?_); refine zah 1 (cs := #[.bool false, .slice aE aB.length aI, .int .i64 aH]) (t := 101) ?_; intro aD hg w8 hbox hb; have aA := J (hbox); have aC := J ((by rw [hg]; exact (zh bw_) : w.heap.size ≤ aD)); replace HB := J (za bw_ hb); have aJ := aC; clear hb hbox hg; have hcz9_0 := cz_ aA.o 0 rfl; have hcz9_1 := cz_ aA.o 1 rfl; have hcz9_2 := cz_ aA.o 2 rfl; have hfz9_0 := zb aA.o 0; have hfz9_1 := zb aA.o 1; have hfz9_2 := zb aA.o 2)); go_ret; exact ⟨er_, bw_⟩
end Go.Proofs.Ytlidbaejhmamjaa.PB
namespace Go.Proofs.Ytlidbaejhmamjaa.NW
open Go.RowKit YtlidbaejhmamjaaW.PrintWords YtlidbaejhmamjaaW.PrintLast YtlidbaejhmamjaaW.PrintMore PB LA AC LW
/-- A row of words that is read. -/
structure Ru (w : World) (A : Option Addr) (c : Nat) (xs : List Int) (N : Nat) : Prop where
 row : Kd.C (Kd.int .u32) w A xs.length xs
 cap : xs.length ≤ c
 u : U32 xs
 t : Tr xs
 n : xs.length ≤ N
theorem Ru.step {w w' : World} {A : Option Addr} {c : Nat} {xs : List Int} {N : Nat} (h : Ru w A c xs N) (hb : Below w.heap.size w w') : Ru w' A c xs N := ⟨Kd.zm h.row hb, h.cap, h.u, h.t, h.n⟩
theorem Ru.le {w : World} {A : Option Addr} {c : Nat} {xs : List Int} {N M : Nat} (h : Ru w A c xs N) (hm : N ≤ M) : Ru w A c xs M := ⟨h.row, h.cap, h.u, h.t, Nat.le_trans h.n hm⟩
/-- A number's box. -/
def B3 (w : World) (g : Nat) (nb : Bool) (A : Option Addr) (n c : Nat) (e : Int) : Prop := w.heap[g]? = some (.cells #[.bool nb, .slice A n c, .int .i64 e] 101 (0, 0))
theorem B3.step {w w' : World} {g : Nat} {nb : Bool} {A : Option Addr} {n c : Nat} {e : Int} (h : B3 w g nb A n c e) (hb : Below w.heap.size w w') : B3 w' g nb A n c e := zd h hb
theorem B3.put {w w' : World} {g g' : Nat} {nb : Bool} {A : Option Addr} {n c : Nat} {e : Int} (h : B3 w g nb A n c e) (hg : w.grownBy w' (some g')) (hne : g ≠ g') : B3 w' g nb A n c e := zu hg h (fun e => hne (Option.some.inj e))
theorem B3.lt {w : World} {g : Nat} {nb : Bool} {A : Option Addr} {n c : Nat} {e : Int} (h : B3 w g nb A n c e) : g < w.heap.size := zac h
theorem B3.c0 {w : World} {g : Nat} {nb : Bool} {A : Option Addr} {n c : Nat} {e : Int} (h : B3 w g nb A n c e) : w.cell? ⟨g, 0, none⟩ = some (.bool nb) := (zg h 0).trans rfl
theorem B3.c1 {w : World} {g : Nat} {nb : Bool} {A : Option Addr} {n c : Nat} {e : Int} (h : B3 w g nb A n c e) : w.cell? ⟨g, 1, none⟩ = some (.slice A n c) := (zg h 1).trans rfl
theorem B3.c2 {w : World} {g : Nat} {nb : Bool} {A : Option Addr} {n c : Nat} {e : Int} (h : B3 w g nb A n c e) : w.cell? ⟨g, 2, none⟩ = some (.int .i64 e) := (zg h 2).trans rfl
theorem B3.f {w : World} {g : Nat} {nb : Bool} {A : Option Addr} {n c : Nat} {e : Int} (h : B3 w g nb A n c e) (i : Nat) : w.frozen? ⟨g, i, none⟩ = false := zb h i
theorem Ru.put {w w' : World} {A : Option Addr} {c : Nat} {xs : List Int} {N : Nat} (h : Ru w A c xs N) {g : Nat} {nb : Bool} {A1 : Option Addr} {n c1 : Nat} {e : Int} (hk : B3 w g nb A1 n c1 e) (hg : w.grownBy w' (some g)) : Ru w' A c xs N := by
 refine ⟨⟨h.row.1, h.row.2.1, fun hn => ?_⟩, h.cap, h.u, h.t, h.n⟩; obtain ⟨ad, e, hc⟩ := h.row.2.2 hn; refine ⟨ad, e, fun j p hj => ?_⟩; obtain ⟨cs, hs, hr, hcell⟩ := hc j p hj; refine ⟨cs, hs, hr, fun i u hu => ?_⟩; have hold := hcell i u hu
 have hu2 : u = .int .u32 p := by
  have hr2 : cs = [Value.int .u32 p] := hr; subst hr2
  cases i with
  | zero => exact (Option.some.inj hu).symm
  | succ i => cases hu
 by_cases hb : (ad.add (j * (Kd.int .u32).sz + i)).block = g
 ·exfalso
  unfold World.cell? at hold; rw [hb, hk, hu2] at hold; simp only at hold
  split at hold
  ·cases hold
  ·generalize (ad.add (j * (Kd.int .u32).sz + i)).off = o at hold
   match o with
   | 0 => simp at hold
   | 1 => simp at hold
   | 2 => simp at hold
   | o + 3 => simp at hold
 ·rw [World.cell?_of_block (w := w) (hg.block _ (by
   unfold World.cell? at hold
   split at hold
   ·rename_i h1; exact zac h1
   ·cases hold) (fun e => hb (Option.some.inj e)))]
  exact hold
theorem zx (w : World) (b i : Nat) (v : Value) : w.grownBy (w.setCell ⟨b, i, none⟩ v) (some b) :=
 ⟨rfl, rfl, rfl, by simp [World.setCell], fun k _ hk => Below.heap_setCell _ _ _ _ (fun e => hk (by simp [e]))⟩
theorem zaz : (Try.prog.info? 101).map (·.size) = some 3 := by kernel_rfl
theorem zaH (nb : Bool) (A : Option Addr) (n c : Nat) (e : Int) : (#[Value.bool nb, .slice A n c, .int .i64 e] : Array Value).all (·.oneCell') = true := by simp [Value.oneCell']
theorem Ru.of_R {w : World} {base : Nat} {ok : Nat → Prop} {v : Value} {xs : List Int} {N : Nat} (h : Kd.R (Kd.int .u32) 134 w base ok v xs) (hu : U32 xs) (ht : Tr xs) (hn : xs.length ≤ N) : ∃ A c, v = .slice A xs.length c ∧ Ru w A c xs N := by
 obtain ⟨A, c, rfl⟩ := Kd.zJ h; have := Kd.zK h; exact ⟨A, c, rfl, this.2.2, this.2.1, hu, ht, hn⟩
theorem Ru.nil (w : World) (M : Nat) : Ru w none 0 [] M := ⟨Kd.C_nil _ w, Nat.le_refl 0, fun x hx => by simp at hx, fun i hi => by simp at hi, Nat.zero_le _⟩
theorem moved_calls (nb : Bool) (A : Option Addr) (n c : Nat) (e d : Int) (w : World) :
  Calls Try.prog 46 #[.agg #[.bool nb, .slice A n c, .int .i64 e], .int .i64 d] w fun o w' => o = .returned (.agg #[.bool nb, .slice A n c, .int .i64 (if n = 0 then e else wrap64 (e + d))]) ∧ Below w.heap.size w w' := by
 have hu101 := Try.underlying101; have HB := J (Below.refl w.heap.size w)
 by_cases hn : n = 0
 ·rw [if_pos hn]; subst hn; go_enter Try.func46, Try.ntmps46; go_wp2_with (first
  | ((with_reducible refine zf (N := 2) rfl ?_); refine zah 2 (cs := #[.bool nb, .slice A 0 c, .int .i64 e]) (t := 101) ?_; intro g_x aB w1 aA aC; have L_x := J (show w.heap.size ≤ g_x by have := HB.o.size; omega); replace HB := J (za HB.o aC); have K_x := J (show B3 w1 g_x nb A 0 c e from aA); clear aB aA aC)
  | ((with_reducible refine zf (N := 4) rfl ?_); refine zah 4 (cs := #[.bool false, .slice none 0 0, .int .i64 0]) (t := 101) ?_; intro g_r aB w2 aA aC; have N_r_x := J (show g_x ≠ g_r by have := K_x.o.lt; omega); have L_r := J (show w.heap.size ≤ g_r by have := HB.o.size; omega); replace K_x := J (K_x.o.step aC); replace HB := J (za HB.o aC); have K_r := J (show B3 w2 g_r false none 0 0 0 from aA); clear aB aA aC; have aH := K_x.o.c0; have aI := K_x.o.c1; have aJ := K_x.o.c2; have aD := K_r.o.c0; have aE := K_r.o.c1; have aG := K_r.o.c2; have aK := K_x.o.f 0; have aL := K_x.o.f 1; have aM := K_x.o.f 2)
  | ((with_reducible refine zj (t := 101) (p := 4) rfl ?_); refine zi rfl 101 rfl rfl g_r #[.bool nb, .slice A 0 c, .int .i64 e] rfl rfl 101 _ K_r.o (zaz.trans rfl) rfl (zaH _ _ _ _ _) ?_; intro w3 aA aB; replace K_x := J (K_x.o.put aB N_r_x.o); replace HB := J (HB.o.grown aB HB.o.size (fun k_ aN => by cases aN; exact L_r.o)); replace K_r := J (show B3 w3 g_r nb A 0 c e from aA); clear aA aB; have aO := K_r.o.c0; have aP := K_r.o.c1; have aQ := K_r.o.c2)
  | fail)
  refine bodyPost_ret (results_cell_row rfl _ _ g_r 101 #[.bool nb, .slice A 0 c, .int .i64 e] (0, 0) _ rfl K_r.o Try.underlying101 rfl yK_) rfl ?_; exact ⟨by first | done | rfl, HB.o⟩
 ·rw [if_neg hn]; replace hn : 0 < n := by omega
  go_enter Try.func46, Try.ntmps46; go_wp2_with (first
  | ((with_reducible refine zf (N := 2) rfl ?_); refine zah 2 (cs := #[.bool nb, .slice A n c, .int .i64 e]) (t := 101) ?_; intro g_x aB w1 aA aC; have L_x := J (show w.heap.size ≤ g_x by have := HB.o.size; omega); replace HB := J (za HB.o aC); have K_x := J (show B3 w1 g_x nb A n c e from aA); clear aB aA aC)
  | ((with_reducible refine zf (N := 4) rfl ?_); refine zah 4 (cs := #[.bool false, .slice none 0 0, .int .i64 0]) (t := 101) ?_; intro g_r aB w2 aA aC; have N_r_x := J (show g_x ≠ g_r by have := K_x.o.lt; omega); have L_r := J (show w.heap.size ≤ g_r by have := HB.o.size; omega); replace K_x := J (K_x.o.step aC); replace HB := J (za HB.o aC); have K_r := J (show B3 w2 g_r false none 0 0 0 from aA); clear aB aA aC; have aH := K_x.o.c0; have aI := K_x.o.c1; have aJ := K_x.o.c2; have aD := K_r.o.c0; have aE := K_r.o.c1; have aG := K_r.o.c2; have aK := K_x.o.f 0; have aL := K_x.o.f 1; have aM := K_x.o.f 2)
  | ((with_reducible refine zj (t := 101) (p := 4) rfl ?_); have aR := zx w2 g_x 2 (.int .i64 (wrap64 (e + d))); replace K_r := J (K_r.o.put aR N_r_x.o.symm); replace HB := J (HB.o.grown aR HB.o.size (fun k_ aN => by cases aN; exact L_x.o)); replace K_x := J (show B3 (w2.setCell ⟨g_x, 2, none⟩ (.int .i64 (wrap64 (e + d)))) g_x nb A n c (wrap64 (e + d)) from zav K_x.o 2 _); clear aR; generalize w2.setCell ⟨g_x, 2, none⟩ (.int .i64 (wrap64 (e + d))) = w3 at HB K_x K_r ⊢; refine zi rfl 101 rfl rfl g_r #[.bool nb, .slice A n c, .int .i64 (wrap64 (e + d))] rfl rfl 101 _ K_r.o (zaz.trans rfl) rfl (zaH _ _ _ _ _) ?_; intro w4 aA aB; replace K_x := J (K_x.o.put aB N_r_x.o); replace HB := J (HB.o.grown aB HB.o.size (fun k_ aN => by cases aN; exact L_r.o)); replace K_r := J (show B3 w4 g_r nb A n c (wrap64 (e + d)) from aA); clear aA aB; have aO := K_r.o.c0; have aP := K_r.o.c1; have aQ := K_r.o.c2)
  | fail)
  refine bodyPost_ret (results_cell_row rfl _ _ g_r 101 #[.bool nb, .slice A n c, .int .i64 (wrap64 (e + d))] (0, 0) _ rfl K_r.o Try.underlying101 rfl yK_) rfl ?_; exact ⟨by first | done | rfl, HB.o⟩
theorem turned_calls (nb : Bool) (A : Option Addr) (n c : Nat) (e : Int) (w : World) :
  Calls Try.prog 87 #[.agg #[.bool nb, .slice A n c, .int .i64 e]] w fun o w' => o = .returned (.agg #[.bool (if n = 0 then nb else !nb), .slice A n c, .int .i64 e]) ∧ Below w.heap.size w w' := by
 have hu101 := Try.underlying101; have HB := J (Below.refl w.heap.size w)
 by_cases hn : n = 0
 ·rw [if_pos hn]; subst hn; go_enter Try.func87, Try.ntmps87; go_wp2_with (first
  | ((with_reducible refine zf (N := 1) rfl ?_); refine zah 1 (cs := #[.bool nb, .slice A 0 c, .int .i64 e]) (t := 101) ?_; intro g_x aB w1 aA aC; have L_x := J (show w.heap.size ≤ g_x by have := HB.o.size; omega); replace HB := J (za HB.o aC); have K_x := J (show B3 w1 g_x nb A 0 c e from aA); clear aB aA aC)
  | ((with_reducible refine zf (N := 2) rfl ?_); refine zah 2 (cs := #[.bool false, .slice none 0 0, .int .i64 0]) (t := 101) ?_; intro g_r aB w2 aA aC; have N_r_x := J (show g_x ≠ g_r by have := K_x.o.lt; omega); have L_r := J (show w.heap.size ≤ g_r by have := HB.o.size; omega); replace K_x := J (K_x.o.step aC); replace HB := J (za HB.o aC); have K_r := J (show B3 w2 g_r false none 0 0 0 from aA); clear aB aA aC; have aH := K_x.o.c0; have aI := K_x.o.c1; have aJ := K_x.o.c2; have aD := K_r.o.c0; have aE := K_r.o.c1; have aG := K_r.o.c2; have aK := K_x.o.f 0; have aL := K_x.o.f 1; have aM := K_x.o.f 2)
  | ((with_reducible refine zj (t := 101) (p := 2) rfl ?_); refine zi rfl 101 rfl rfl g_r #[.bool nb, .slice A 0 c, .int .i64 e] rfl rfl 101 _ K_r.o (zaz.trans rfl) rfl (zaH _ _ _ _ _) ?_; intro w3 aA aB; replace K_x := J (K_x.o.put aB N_r_x.o); replace HB := J (HB.o.grown aB HB.o.size (fun k_ aN => by cases aN; exact L_r.o)); replace K_r := J (show B3 w3 g_r nb A 0 c e from aA); clear aA aB; have aO := K_r.o.c0; have aP := K_r.o.c1; have aQ := K_r.o.c2)
  | fail)
  refine bodyPost_ret (results_cell_row rfl _ _ g_r 101 #[.bool nb, .slice A 0 c, .int .i64 e] (0, 0) _ rfl K_r.o Try.underlying101 rfl yK_) rfl ?_; exact ⟨by first | done | rfl, HB.o⟩
 ·rw [if_neg hn]; replace hn : 0 < n := by omega
  go_enter Try.func87, Try.ntmps87; go_wp2_with (first
  | ((with_reducible refine zf (N := 1) rfl ?_); refine zah 1 (cs := #[.bool nb, .slice A n c, .int .i64 e]) (t := 101) ?_; intro g_x aB w1 aA aC; have L_x := J (show w.heap.size ≤ g_x by have := HB.o.size; omega); replace HB := J (za HB.o aC); have K_x := J (show B3 w1 g_x nb A n c e from aA); clear aB aA aC)
  | ((with_reducible refine zf (N := 2) rfl ?_); refine zah 2 (cs := #[.bool false, .slice none 0 0, .int .i64 0]) (t := 101) ?_; intro g_r aB w2 aA aC; have N_r_x := J (show g_x ≠ g_r by have := K_x.o.lt; omega); have L_r := J (show w.heap.size ≤ g_r by have := HB.o.size; omega); replace K_x := J (K_x.o.step aC); replace HB := J (za HB.o aC); have K_r := J (show B3 w2 g_r false none 0 0 0 from aA); clear aB aA aC; have aH := K_x.o.c0; have aI := K_x.o.c1; have aJ := K_x.o.c2; have aD := K_r.o.c0; have aE := K_r.o.c1; have aG := K_r.o.c2; have aK := K_x.o.f 0; have aL := K_x.o.f 1; have aM := K_x.o.f 2)
  | ((with_reducible refine zj (t := 101) (p := 2) rfl ?_); have aR := zx w2 g_x 0 (.bool (!nb)); replace K_r := J (K_r.o.put aR N_r_x.o.symm); replace HB := J (HB.o.grown aR HB.o.size (fun k_ aN => by cases aN; exact L_x.o)); replace K_x := J (show B3 (w2.setCell ⟨g_x, 0, none⟩ (.bool (!nb))) g_x (!nb) A n c e from zav K_x.o 0 _); clear aR; generalize w2.setCell ⟨g_x, 0, none⟩ (.bool (!nb)) = w3 at HB K_x K_r ⊢; refine zi rfl 101 rfl rfl g_r #[.bool (!nb), .slice A n c, .int .i64 e] rfl rfl 101 _ K_r.o (zaz.trans rfl) rfl (zaH _ _ _ _ _) ?_; intro w4 aA aB; replace K_x := J (K_x.o.put aB N_r_x.o); replace HB := J (HB.o.grown aB HB.o.size (fun k_ aN => by cases aN; exact L_r.o)); replace K_r := J (show B3 w4 g_r (!nb) A n c e from aA); clear aA aB; have aO := K_r.o.c0; have aP := K_r.o.c1; have aQ := K_r.o.c2)
  | fail)
  refine bodyPost_ret (results_cell_row rfl _ _ g_r 101 #[.bool (!nb), .slice A n c, .int .i64 e] (0, 0) _ rfl K_r.o Try.underlying101 rfl yK_) rfl ?_; exact ⟨by first | done | rfl, HB.o⟩
def lvE (l1 : List Int) (e1 : Int) (l2 : List Int) (e2 : Int) : Int := if l1.length = 0 then e2 else if l2.length = 0 then e1 else if e2 < e1 then e2 else e1
def level.T6 : Bool × List (List Nat × List Nat) := (true, [([], []), ([0], [0]), ([], []), ([2], [2]), ([], []), ([4], [4]), ([3, 5], [3, 5]), ([1, 6], [1, 6]), ([], []), ([8], [8]), ([], []), ([10], [10]), ([7, 7, 0, 1, 2, 3, 4, 5, 6, 7], [7]), ([9, 12, 0, 1, 2, 3, 4, 5, 6, 7, 8, 9, 12], [9]), ([11, 13, 0, 1, 2, 3, 4, 5, 6, 7, 8, 9, 10, 11, 12, 13], [11])])
def level.B6 : List Nat := [0, 1, 0, 4, 0, 16, 60, 127, 0, 256, 0, 1024, 255, 5119, 16383]
theorem level.tab6 : zbc .any (opsOf Try.f96 6) = level.T6 := by kernel_rfl
theorem level.bits6 : zal level.T6.2 level.B6 = true := by kernel_rfl
def level.T7 : Bool × List (List Nat × List Nat) := (true, [([], []), ([0], [0]), ([], []), ([2], [2]), ([], []), ([4], [4]), ([], []), ([6], [6]), ([5, 7], [5, 7]), ([3, 8], [3, 8]), ([], []), ([10], [10]), ([1, 9, 0, 1], [1]), ([9, 12, 0, 1, 2, 3, 4, 5, 6, 7, 8, 9, 12], [9]), ([11, 13, 0, 1, 2, 3, 4, 5, 6, 7, 8, 9, 10, 11, 12, 13], [11])])
def level.B7 : List Nat := [0, 1, 0, 4, 0, 16, 0, 64, 240, 508, 0, 1024, 1023, 5119, 16383]
theorem level.tab7 : zbc .any (opsOf Try.f96 7) = level.T7 := by kernel_rfl
theorem level.bits7 : zal level.T7.2 level.B7 = true := by kernel_rfl
theorem level_calls (n1 n2 : Bool) (A1 : Option Addr) (c1 : Nat) (l1 : List Int) (e1 : Int) (A2 : Option Addr) (c2 : Nat) (l2 : List Int) (e2 : Int) (N : Nat) (w : World) (r1 : Ru w A1 c1 l1 N) (r2 : Ru w A2 c2 l2 N) (hN : N ≤ 1000000) (hE : (-100000 ≤ e1 ∧ e1 ≤ 100000) ∧ (-100000 ≤ e2 ∧ e2 ≤ 100000)) :
  Calls Try.prog 96 #[.agg #[.bool n1, .slice A1 l1.length c1, .int .i64 e1], .agg #[.bool n2, .slice A2 l2.length c2, .int .i64 e2]] w fun o w' => ∃ A ca la B cb lb, o = .returned (.tuple #[.slice A (la : List Int).length ca, .slice B (lb : List Int).length cb, .int .i64 (lvE l1 e1 l2 e2)]) ∧ Ru w' A ca la (N + 10000) ∧ Ru w' B cb lb (N + 10000) ∧ nv la = nv l1 * 2 ^ (e1 - lvE l1 e1 l2 e2).toNat ∧ nv lb = nv l2 * 2 ^ (e2 - lvE l1 e1 l2 e2).toNat ∧ Below w.heap.size w w' := by
 have hu101 := Try.underlying101; have HB := J (Below.refl w.heap.size w); have R1 := J r1; have R2 := J r2; have HE := J hE; clear r1 r2 hE
 by_cases h1 : l1.length = 0
 ·have e0 : lvE l1 e1 l2 e2 = e2 := by unfold lvE; rw [if_pos h1]
  rw [e0]; clear e0; obtain rfl := List.length_eq_zero_iff.1 h1; clear h1; go_enter Try.func96, Try.ntmps96; go_wp2_with (first
  | ((with_reducible refine zf (N := 2) rfl ?_); refine zah 2 (cs := #[.bool n1, .slice A1 0 c1, .int .i64 e1]) (t := 101) ?_; intro g_x aJ w1 aI aA; have L_x := J (show w.heap.size ≤ g_x by have := HB.o.size; omega); replace R1 := J (R1.o.step aA); replace R2 := J (R2.o.step aA); replace HB := J (za HB.o aA); have K_x := J (show B3 w1 g_x n1 A1 0 c1 e1 from aI); clear aJ aI aA)
  | ((with_reducible refine zf (N := 3) rfl ?_); refine zah 3 (cs := #[.bool n2, .slice A2 l2.length c2, .int .i64 e2]) (t := 101) ?_; intro g_y aJ w2 aI aA; have N_y_x := J (show g_x ≠ g_y by have := K_x.o.lt; omega); have L_y := J (show w.heap.size ≤ g_y by have := HB.o.size; omega); replace R1 := J (R1.o.step aA); replace R2 := J (R2.o.step aA); replace K_x := J (K_x.o.step aA); replace HB := J (za HB.o aA); have K_y := J (show B3 w2 g_y n2 A2 l2.length c2 e2 from aI); clear aJ aI aA; have aB := K_x.o.c0; have aC := K_x.o.c1; have aD := K_x.o.c2; have aE := K_y.o.c0; have aG := K_y.o.c1; have aH := K_y.o.c2)
  | fail)
  repeat (go_quiet (fail); try go_wp2_with fail)
  go_ret3; exact ⟨none, 0, [], A2, c2, l2, by first | done | rfl, Ru.nil _ _, (R2.o.step (below_drewN (Below.refl _ _) _)).le yO_, by simp [nv], by simp, below_drewN HB.o _⟩
 ·by_cases h2 : l2.length = 0
  ·have e0 : lvE l1 e1 l2 e2 = e1 := by unfold lvE; rw [if_neg h1, if_pos h2]
   rw [e0]; clear e0; obtain rfl := List.length_eq_zero_iff.1 h2; clear h2; have q10 : ((l1.length : Int) == 0) = false := beq_eq_false_iff_ne.mpr yO_; have q11 : ¬ (l1 = []) := fun h_ => h1 (by rw [h_]; rfl)
   clear h1; go_enter Try.func96, Try.ntmps96; go_wp2_with (first
  | ((with_reducible refine zf (N := 2) rfl ?_); refine zah 2 (cs := #[.bool n1, .slice A1 l1.length c1, .int .i64 e1]) (t := 101) ?_; intro g_x aJ w1 aI aA; have L_x := J (show w.heap.size ≤ g_x by have := HB.o.size; omega); replace R1 := J (R1.o.step aA); replace R2 := J (R2.o.step aA); replace HB := J (za HB.o aA); have K_x := J (show B3 w1 g_x n1 A1 l1.length c1 e1 from aI); clear aJ aI aA)
  | ((with_reducible refine zf (N := 3) rfl ?_); refine zah 3 (cs := #[.bool n2, .slice A2 0 c2, .int .i64 e2]) (t := 101) ?_; intro g_y aJ w2 aI aA; have N_y_x := J (show g_x ≠ g_y by have := K_x.o.lt; omega); have L_y := J (show w.heap.size ≤ g_y by have := HB.o.size; omega); replace R1 := J (R1.o.step aA); replace R2 := J (R2.o.step aA); replace K_x := J (K_x.o.step aA); replace HB := J (za HB.o aA); have K_y := J (show B3 w2 g_y n2 A2 0 c2 e2 from aI); clear aJ aI aA; have aB := K_x.o.c0; have aC := K_x.o.c1; have aD := K_x.o.c2; have aE := K_y.o.c0; have aG := K_y.o.c1; have aH := K_y.o.c2)
  | fail)
   repeat (go_quiet (fail); try go_wp2_with fail)
   go_ret3; exact ⟨A1, c1, l1, none, 0, [], by first | done | rfl, (R1.o.step (below_drewN (Below.refl _ _) _)).le yO_, Ru.nil _ _, by simp, by simp [nv], below_drewN HB.o _⟩
  ·by_cases h3 : e2 < e1
   ·have e0 : lvE l1 e1 l2 e2 = e2 := by unfold lvE; rw [if_neg h1, if_neg h2, if_pos h3]
    rw [e0]; clear e0; obtain ⟨D, hD⟩ : ∃ D : Nat, (D : Int) = e1 - e2 := ⟨(e1 - e2).toNat, by omega⟩
    have aK : D ≤ 200000 := by have := HE.o; omega
    have hw := w64 (e1 - e2) yO_ yO_; obtain ⟨t, ht, tv, tu, tt, tn⟩ := left_ev l1 R1.o.u D (by have := R1.o.n; omega) yO_; obtain ⟨kl, hl⟩ := ht.get; rw [hD, ← hw] at hl; have FL := J hl; have FT := J (show nv t = nv l1 * 2 ^ (e1 - e2).toNat by rw [tv, ← hD, Int.toNat_natCast]); have FU := J tu; have FR := J tt; have FN := J (show t.length ≤ N + 10000 by have := R1.o.n; omega); clear ht tv tu tt tn hl hD aK hw D; have h3b : decide (e2 < e1) = true := decide_eq_true h3; clear h3; have q10 : ((l1.length : Int) == 0) = false := beq_eq_false_iff_ne.mpr yO_; have q11 : ¬ (l1 = []) := fun h_ => h1 (by rw [h_]; rfl)
    clear h1; have q20 : ((l2.length : Int) == 0) = false := beq_eq_false_iff_ne.mpr yO_; have q21 : ¬ (l2 = []) := fun h_ => h2 (by rw [h_]; rfl)
    clear h2; go_enter Try.func96, Try.ntmps96; go_wp2_with (first
  | ((with_reducible refine zf (N := 2) rfl ?_); refine zah 2 (cs := #[.bool n1, .slice A1 l1.length c1, .int .i64 e1]) (t := 101) ?_; intro g_x aJ w1 aI aA; have L_x := J (show w.heap.size ≤ g_x by have := HB.o.size; omega); replace R1 := J (R1.o.step aA); replace R2 := J (R2.o.step aA); replace HB := J (za HB.o aA); have K_x := J (show B3 w1 g_x n1 A1 l1.length c1 e1 from aI); clear aJ aI aA)
  | ((with_reducible refine zf (N := 3) rfl ?_); refine zah 3 (cs := #[.bool n2, .slice A2 l2.length c2, .int .i64 e2]) (t := 101) ?_; intro g_y aJ w2 aI aA; have N_y_x := J (show g_x ≠ g_y by have := K_x.o.lt; omega); have L_y := J (show w.heap.size ≤ g_y by have := HB.o.size; omega); replace R1 := J (R1.o.step aA); replace R2 := J (R2.o.step aA); replace K_x := J (K_x.o.step aA); replace HB := J (za HB.o aA); have K_y := J (show B3 w2 g_y n2 A2 l2.length c2 e2 from aI); clear aJ aI aA; have aB := K_x.o.c0; have aC := K_x.o.c1; have aD := K_x.o.c2; have aE := K_y.o.c0; have aG := K_y.o.c1; have aH := K_y.o.c2)
  | fail)
    have hb : Below w2.heap.size w2 w2.drew := zU (Below.refl _ _); replace R1 := J (R1.o.step hb); replace R2 := J (R2.o.step hb); replace K_x := J (K_x.o.step hb); replace K_y := J (K_y.o.step hb); replace HB := J (za HB.o hb); clear aB aC aD aE aG aH; clear hb; have aB := K_x.o.c0; have aC := K_x.o.c1; have aD := K_x.o.c2; have aE := K_y.o.c0; have aG := K_y.o.c1; have aH := K_y.o.c2; refine zaw (n := 15) (S := fun w' => w'.cell? ⟨g_x, 0, none⟩ = some (.bool n1) ∧ w'.cell? ⟨g_x, 1, none⟩ = some (.slice A1 l1.length c1) ∧ w'.cell? ⟨g_x, 2, none⟩ = some (.int .i64 e1) ∧ w'.cell? ⟨g_y, 0, none⟩ = some (.bool n2) ∧ w'.cell? ⟨g_y, 1, none⟩ = some (.slice A2 l2.length c2) ∧ w'.cell? ⟨g_y, 2, none⟩ = some (.int .i64 e2)) (ds := []) (bl_ 15 0) yK_ rfl rfl ⟨K_x.o.c0, K_x.o.c1, K_x.o.c2, K_y.o.c0, K_y.o.c1, K_y.o.c2⟩ (fun hHeld => ?_); refine zS level.tab6 level.bits6 (fun HT_ HW_ => ?_); generalize w2.drew = w3 at R1 R2 K_x K_y HB hHeld ⊢; refine pu_ 0 ?_; refine pu_ 2 ?_; refine pu_ 4 ?_; refine pu_ 8 ?_; refine pu_ 10 ?_; refine tk_ 1 ?_; refine tk_ 3 ?_; refine tk_ 5 ?_; refine pu_ 6 ?_; refine tk_ 9 ?_; refine tk_ 11 ?_; refine on_ HT_ 7 (some 35) (bl_ 15 4095) fun K hK => ?_
    refine go1_ Try.func103 #[.slice A1 l1.length c1, .int .i64 (wrap64 (e1 - e2))] ?_; refine (zL.calls kl A1 c1 l1 (wrap64 (e1 - e2)) t w3 R1.o.row R1.o.cap FL.o).mono ?_; rintro e_ w4 ⟨v0, rfl, h0, hb⟩; refine ⟨_, rfl, ?_⟩; obtain ⟨At, ct, rfl, r_t⟩ := Ru.of_R h0 FU.o FR.o FN.o; replace R1 := J (R1.o.step hb); replace R2 := J (R2.o.step hb); replace K_x := J (K_x.o.step hb); replace K_y := J (K_y.o.step hb); replace HB := J (za HB.o hb); have R_t := J r_t; clear hb h0 r_t; refine hK.out _ _ ⟨K_x.o.c0, K_x.o.c1, K_x.o.c2, K_y.o.c0, K_y.o.c1, K_y.o.c2⟩ (fun hHeld => ?_); clear hK K; refine nm_ ?_; refine pu_ 12 ?_; refine pu_ 13 ?_; refine pu_ 14 ?_; refine zaL (zad HT_.o yK_) ?_; go_wp2_with fail; go_ret3; exact ⟨At, ct, t, A2, c2, l2, by first | done | rfl, R_t.o, R2.o.le yO_, FT.o, by simp, HB.o⟩
   ·have e0 : lvE l1 e1 l2 e2 = e1 := by unfold lvE; rw [if_neg h1, if_neg h2, if_neg h3]
    rw [e0]; clear e0; obtain ⟨D, hD⟩ : ∃ D : Nat, (D : Int) = e2 - e1 := ⟨(e2 - e1).toNat, by omega⟩
    have aK : D ≤ 200000 := by have := HE.o; omega
    have hw := w64 (e2 - e1) yO_ yO_; obtain ⟨t, ht, tv, tu, tt, tn⟩ := left_ev l2 R2.o.u D (by have := R2.o.n; omega) yO_; obtain ⟨kl, hl⟩ := ht.get; rw [hD, ← hw] at hl; have FL := J hl; have FT := J (show nv t = nv l2 * 2 ^ (e2 - e1).toNat by rw [tv, ← hD, Int.toNat_natCast]); have FU := J tu; have FR := J tt; have FN := J (show t.length ≤ N + 10000 by have := R2.o.n; omega); clear ht tv tu tt tn hl hD aK hw D; have h3b : decide (e2 < e1) = false := decide_eq_false h3; clear h3; have q10 : ((l1.length : Int) == 0) = false := beq_eq_false_iff_ne.mpr yO_; have q11 : ¬ (l1 = []) := fun h_ => h1 (by rw [h_]; rfl)
    clear h1; have q20 : ((l2.length : Int) == 0) = false := beq_eq_false_iff_ne.mpr yO_; have q21 : ¬ (l2 = []) := fun h_ => h2 (by rw [h_]; rfl)
    clear h2; go_enter Try.func96, Try.ntmps96; go_wp2_with (first
  | ((with_reducible refine zf (N := 2) rfl ?_); refine zah 2 (cs := #[.bool n1, .slice A1 l1.length c1, .int .i64 e1]) (t := 101) ?_; intro g_x aJ w1 aI aA; have L_x := J (show w.heap.size ≤ g_x by have := HB.o.size; omega); replace R1 := J (R1.o.step aA); replace R2 := J (R2.o.step aA); replace HB := J (za HB.o aA); have K_x := J (show B3 w1 g_x n1 A1 l1.length c1 e1 from aI); clear aJ aI aA)
  | ((with_reducible refine zf (N := 3) rfl ?_); refine zah 3 (cs := #[.bool n2, .slice A2 l2.length c2, .int .i64 e2]) (t := 101) ?_; intro g_y aJ w2 aI aA; have N_y_x := J (show g_x ≠ g_y by have := K_x.o.lt; omega); have L_y := J (show w.heap.size ≤ g_y by have := HB.o.size; omega); replace R1 := J (R1.o.step aA); replace R2 := J (R2.o.step aA); replace K_x := J (K_x.o.step aA); replace HB := J (za HB.o aA); have K_y := J (show B3 w2 g_y n2 A2 l2.length c2 e2 from aI); clear aJ aI aA; have aB := K_x.o.c0; have aC := K_x.o.c1; have aD := K_x.o.c2; have aE := K_y.o.c0; have aG := K_y.o.c1; have aH := K_y.o.c2)
  | fail)
    have hb : Below w2.heap.size w2 w2.drew := zU (Below.refl _ _); replace R1 := J (R1.o.step hb); replace R2 := J (R2.o.step hb); replace K_x := J (K_x.o.step hb); replace K_y := J (K_y.o.step hb); replace HB := J (za HB.o hb); clear aB aC aD aE aG aH; clear hb; have aB := K_x.o.c0; have aC := K_x.o.c1; have aD := K_x.o.c2; have aE := K_y.o.c0; have aG := K_y.o.c1; have aH := K_y.o.c2; refine zaw (n := 15) (S := fun w' => w'.cell? ⟨g_x, 0, none⟩ = some (.bool n1) ∧ w'.cell? ⟨g_x, 1, none⟩ = some (.slice A1 l1.length c1) ∧ w'.cell? ⟨g_x, 2, none⟩ = some (.int .i64 e1) ∧ w'.cell? ⟨g_y, 0, none⟩ = some (.bool n2) ∧ w'.cell? ⟨g_y, 1, none⟩ = some (.slice A2 l2.length c2) ∧ w'.cell? ⟨g_y, 2, none⟩ = some (.int .i64 e2)) (ds := []) (bl_ 15 0) yK_ rfl rfl ⟨K_x.o.c0, K_x.o.c1, K_x.o.c2, K_y.o.c0, K_y.o.c1, K_y.o.c2⟩ (fun hHeld => ?_); refine zS level.tab7 level.bits7 (fun HT_ HW_ => ?_); generalize w2.drew = w3 at R1 R2 K_x K_y HB hHeld ⊢; refine pu_ 0 ?_; refine pu_ 2 ?_; refine pu_ 4 ?_; refine pu_ 6 ?_; refine pu_ 10 ?_; refine tk_ 1 ?_; refine tk_ 3 ?_; refine tk_ 5 ?_; refine tk_ 7 ?_; refine pu_ 8 ?_; refine tk_ 11 ?_; refine on_ HT_ 9 (some 49) (bl_ 15 4095) fun K hK => ?_
    refine go1_ Try.func103 #[.slice A2 l2.length c2, .int .i64 (wrap64 (e2 - e1))] ?_; refine (zL.calls kl A2 c2 l2 (wrap64 (e2 - e1)) t w3 R2.o.row R2.o.cap FL.o).mono ?_; rintro e_ w4 ⟨v0, rfl, h0, hb⟩; refine ⟨_, rfl, ?_⟩; obtain ⟨At, ct, rfl, r_t⟩ := Ru.of_R h0 FU.o FR.o FN.o; replace R1 := J (R1.o.step hb); replace R2 := J (R2.o.step hb); replace K_x := J (K_x.o.step hb); replace K_y := J (K_y.o.step hb); replace HB := J (za HB.o hb); have R_t := J r_t; clear hb h0 r_t; refine hK.out _ _ ⟨K_x.o.c0, K_x.o.c1, K_x.o.c2, K_y.o.c0, K_y.o.c1, K_y.o.c2⟩ (fun hHeld => ?_); clear hK K; refine nm_ ?_; refine pu_ 12 ?_; refine pu_ 13 ?_; refine pu_ 14 ?_; refine zaL (zad HT_.o yK_) ?_; go_wp2_with fail; go_ret3; exact ⟨A1, c1, l1, At, ct, t, by first | done | rfl, R1.o.le yO_, R_t.o, by simp, FT.o, HB.o⟩
/-- A number with its sign. -/
def sv (nb : Bool) (v : Int) : Int := if nb = true then -v else v
theorem zbm (nb : Bool) : sv nb 0 = 0 := by cases nb <;> rfl
theorem sv_mul (nb : Bool) (v p : Int) : sv nb v * p = sv nb (v * p) := by cases nb <;> simp [sv, Int.neg_mul]
theorem sv_not (nb : Bool) (v : Int) : sv (!nb) v = - sv nb v := by cases nb <;> simp [sv]
theorem nv_zero_len {l : List Int} (hu : U32 l) (ht : Tr l) (h : nv l = 0) : l.length = 0 := by
 apply Classical.byContradiction
 intro hc; have := nv_pos hu ht yO_
 omega
theorem scaled_zero {v : Int} {k : Nat} (h : v * 2 ^ k = 0) : v = 0 := by
 rcases Int.mul_eq_zero.1 h with h | h
 ·exact h
 ·exact absurd h (Int.ne_of_gt (zY k))
theorem plus_calls (n1 n2 : Bool) (A1 : Option Addr) (c1 : Nat) (l1 : List Int) (e1 : Int) (A2 : Option Addr) (c2 : Nat) (l2 : List Int) (e2 : Int) (N : Nat) (w : World) (r1 : Ru w A1 c1 l1 N) (r2 : Ru w A2 c2 l2 N) (hN : N ≤ 1000000) (hE : (-100000 ≤ e1 ∧ e1 ≤ 100000) ∧ (-100000 ≤ e2 ∧ e2 ≤ 100000)) :
  Calls Try.prog 80 #[.agg #[.bool n1, .slice A1 l1.length c1, .int .i64 e1], .agg #[.bool n2, .slice A2 l2.length c2, .int .i64 e2]] w fun o w' => ∃ nb A c l e, o = .returned (.agg #[.bool nb, .slice A (l : List Int).length c, .int .i64 e]) ∧ Ru w' A c l (N + 20000) ∧ sv nb (nv l) = sv n1 (nv l1) * 2 ^ (e1 - lvE l1 e1 l2 e2).toNat + sv n2 (nv l2) * 2 ^ (e2 - lvE l1 e1 l2 e2).toNat ∧ ((l.length = 0 ∧ e = 0) ∨ e = lvE l1 e1 l2 e2) ∧ Below w.heap.size w w' := by
 have hu101 := Try.underlying101; have HB := J (Below.refl w.heap.size w); have R1 := J r1; have R2 := J r2; obtain ⟨E, bE⟩ : ∃ E, E = lvE l1 e1 l2 e2 := ⟨_, rfl⟩
 rw [← bE]; have bD := J bE; clear bE; go_enter Try.func80, Try.ntmps80
 go_wp2_with (first
  | ((with_reducible refine zf (N := 2) rfl ?_); refine zah 2 (cs := #[.bool n1, .slice A1 l1.length c1, .int .i64 e1]) (t := 101) ?_; intro g_x aA w1 aD aB; have L_x := J (show w.heap.size ≤ g_x by have := HB.o.size; omega); replace R1 := J (R1.o.step aB); replace R2 := J (R2.o.step aB); replace HB := J (za HB.o aB); have K_x := J (show B3 w1 g_x n1 A1 l1.length c1 e1 from aD); clear aA aD aB)
  | ((with_reducible refine zf (N := 3) rfl ?_); refine zah 3 (cs := #[.bool n2, .slice A2 l2.length c2, .int .i64 e2]) (t := 101) ?_; intro g_y aA w2 aD aB; have N_y_x := J (show g_x ≠ g_y by have := K_x.o.lt; omega); have L_y := J (show w.heap.size ≤ g_y by have := HB.o.size; omega); replace R1 := J (R1.o.step aB); replace R2 := J (R2.o.step aB); replace K_x := J (K_x.o.step aB); replace HB := J (za HB.o aB); have K_y := J (show B3 w2 g_y n2 A2 l2.length c2 e2 from aD); clear aA aD aB)
  | ((with_reducible refine zf (N := 4) rfl ?_); refine zah 4 (cs := #[.bool false, .slice none 0 0, .int .i64 0]) (t := 101) ?_; intro g_r aA w3 aD aB; have N_r_x := J (show g_x ≠ g_r by have := K_x.o.lt; omega); have N_r_y := J (show g_y ≠ g_r by have := K_y.o.lt; omega); have L_r := J (show w.heap.size ≤ g_r by have := HB.o.size; omega); replace R1 := J (R1.o.step aB); replace R2 := J (R2.o.step aB); replace K_x := J (K_x.o.step aB); replace K_y := J (K_y.o.step aB); replace HB := J (za HB.o aB); have K_r := J (show B3 w3 g_r false none 0 0 0 from aD); clear aA aD aB; have aE := K_x.o.c0; have aG := K_x.o.c1; have aH := K_x.o.c2; have aI := K_y.o.c0; have aJ := K_y.o.c1; have aK := K_y.o.c2; have aL := K_r.o.c0; have aM := K_r.o.c1; have aN := K_r.o.c2)
  | fail)
 have lvc := level_calls n1 n2 A1 c1 l1 e1 A2 c2 l2 e2 N w3 R1.o R2.o hN hE; rw [← bD.o] at lvc; refine lvc.mono ?_; clear lvc; rintro o_ w4 ⟨A, ca, la, B, cb, lb, rfl, r_a, r_b, va, vb, hb⟩; replace R1 := J (R1.o.step hb); replace R2 := J (R2.o.step hb); replace K_x := J (K_x.o.step hb); replace K_y := J (K_y.o.step hb); replace K_r := J (K_r.o.step hb); replace HB := J (za HB.o hb); have RA := J r_a; have RB := J r_b; clear hb r_a r_b; clear aE aG aH aI aJ aK aL aM aN; have E1 := J (show l1.length = 0 → E = e2 from fun h => by rw [bD.o]; unfold lvE; rw [if_pos h]); have E2 := J (show l1.length ≠ 0 → l2.length = 0 → E = e1 from fun h h' => by rw [bD.o]; unfold lvE; rw [if_neg h, if_pos h']); have VA := J va; have VB := J vb; clear va vb r1 r2 hE; have HT := J (show sv n1 (nv l1) * 2 ^ (e1 - E).toNat + sv n2 (nv l2) * 2 ^ (e2 - E).toNat = sv n1 (nv la) + sv n2 (nv lb) by rw [VA.o, VB.o, sv_mul, sv_mul]); have Q1 := J (show la.length = 0 → l1.length = 0 from fun h => nv_zero_len R1.o.u R1.o.t (scaled_zero (by rw [← VA.o, List.length_eq_zero_iff.1 h]; rfl))); have Q2 := J (show lb.length = 0 → l2.length = 0 from fun h => nv_zero_len R2.o.u R2.o.t (scaled_zero (by rw [← VB.o, List.length_eq_zero_iff.1 h]; rfl)))
 have aE := K_x.o.c0; have aG := K_x.o.c1; have aH := K_x.o.c2; have aI := K_y.o.c0; have aJ := K_y.o.c1; have aK := K_y.o.c2; have aL := K_r.o.c0; have aM := K_r.o.c1; have aN := K_r.o.c2
 by_cases ha : la.length = 0
 ·obtain rfl := List.length_eq_zero_iff.1 ha; have HR := J (show sv n2 (nv l2) = sv n1 (nv l1) * 2 ^ (e1 - E).toNat + sv n2 (nv l2) * 2 ^ (e2 - E).toNat ∧ e2 = E by rw [HT.o, VB.o, E1.o (Q1.o ha), Int.sub_self]; simp [nv, zbm]); clear ha; go_wp2_with (first
  | ((with_reducible refine zf (N := 8) rfl ?_); refine zah 8 (cs := #[.bool false, .slice none 0 0, .int .i64 0]) (t := 101) ?_; intro g_o aA w5 aD aB; have N_o_x := J (show g_x ≠ g_o by have := K_x.o.lt; omega); have N_o_y := J (show g_y ≠ g_o by have := K_y.o.lt; omega); have N_o_r := J (show g_r ≠ g_o by have := K_r.o.lt; omega); have L_o := J (show w.heap.size ≤ g_o by have := HB.o.size; omega); replace R1 := J (R1.o.step aB); replace R2 := J (R2.o.step aB); replace RA := J (RA.o.step aB); replace RB := J (RB.o.step aB); replace K_x := J (K_x.o.step aB); replace K_y := J (K_y.o.step aB); replace K_r := J (K_r.o.step aB); replace HB := J (za HB.o aB); have K_o := J (show B3 w5 g_o false none 0 0 0 from aD); clear aA aD aB)
  | ((with_reducible refine zj (t := 101) (p := 8) rfl ?_); refine zi rfl 101 rfl rfl g_o #[.bool n1, .slice none 0 0, .int .i64 E] rfl rfl 101 _ K_o.o (zaz.trans rfl) rfl (zaH _ _ _ _ _) ?_; intro w6 aD aA; replace R1 := J (R1.o.put K_o.o aA); replace R2 := J (R2.o.put K_o.o aA); replace RA := J (RA.o.put K_o.o aA); replace RB := J (RB.o.put K_o.o aA); replace K_x := J (K_x.o.put aA N_o_x.o); replace K_y := J (K_y.o.put aA N_o_y.o); replace K_r := J (K_r.o.put aA N_o_r.o); replace HB := J (HB.o.grown aA HB.o.size (fun k_ aR => by cases aR; exact L_o.o)); replace K_o := J (show B3 w6 g_o n1 none 0 0 E from aD); clear aD aA; have aS := K_o.o.c0; have aT := K_o.o.c1; have aU := K_o.o.c2; have aE := K_x.o.c0; have aG := K_x.o.c1; have aH := K_x.o.c2; have aI := K_y.o.c0; have aJ := K_y.o.c1; have aK := K_y.o.c2; have aL := K_r.o.c0; have aM := K_r.o.c1; have aN := K_r.o.c2; have aO := K_o.o.f 0; have aP := K_o.o.f 1; have aQ := K_o.o.f 2)
  | ((with_reducible refine zj (t := 101) (p := 4) rfl ?_); refine zi rfl 101 rfl rfl g_r #[.bool n2, .slice A2 l2.length c2, .int .i64 e2] rfl rfl 101 _ K_r.o (zaz.trans rfl) rfl (zaH _ _ _ _ _) ?_; intro w7 aD aA; replace R1 := J (R1.o.put K_r.o aA); replace R2 := J (R2.o.put K_r.o aA); replace RA := J (RA.o.put K_r.o aA); replace RB := J (RB.o.put K_r.o aA); replace K_x := J (K_x.o.put aA N_r_x.o); replace K_y := J (K_y.o.put aA N_r_y.o); replace K_o := J (K_o.o.put aA N_o_r.o.symm); replace HB := J (HB.o.grown aA HB.o.size (fun k_ aR => by cases aR; exact L_r.o)); replace K_r := J (show B3 w7 g_r n2 A2 l2.length c2 e2 from aD); clear aD aA; have aV := K_r.o.c0; have aW := K_r.o.c1; have aX := K_r.o.c2)
  | fail)
  refine bodyPost_ret (results_cell_row rfl _ _ g_r 101 #[.bool n2, .slice A2 l2.length c2, .int .i64 e2] (0, 0) _ rfl K_r.o Try.underlying101 rfl yK_) rfl ?_; exact ⟨n2, A2, c2, l2, e2, by first | done | rfl, R2.o.le yO_, HR.o.1, .inr HR.o.2, HB.o⟩
 ·by_cases hb : lb.length = 0
  ·obtain rfl := List.length_eq_zero_iff.1 hb
   have HR := J (show sv n1 (nv l1) = sv n1 (nv l1) * 2 ^ (e1 - E).toNat + sv n2 (nv l2) * 2 ^ (e2 - E).toNat ∧ e1 = E by
    have q : l1.length ≠ 0 := fun h => ha (nv_zero_len RA.o.u RA.o.t (by rw [VA.o, List.length_eq_zero_iff.1 h]; simp [nv]))
    rw [HT.o, VA.o, E2.o q (Q2.o hb), Int.sub_self]; simp [nv, zbm])
   clear hb; have qa0 : ((la.length : Int) == 0) = false := beq_eq_false_iff_ne.mpr yO_; have qa1 : ¬ (la = []) := fun h_ => ha (by rw [h_]; rfl)
   have Pa := J ha; clear ha; go_wp2_with (first
  | ((with_reducible refine zf (N := 8) rfl ?_); refine zah 8 (cs := #[.bool false, .slice none 0 0, .int .i64 0]) (t := 101) ?_; intro g_o aA w5 aD aB; have N_o_x := J (show g_x ≠ g_o by have := K_x.o.lt; omega); have N_o_y := J (show g_y ≠ g_o by have := K_y.o.lt; omega); have N_o_r := J (show g_r ≠ g_o by have := K_r.o.lt; omega); have L_o := J (show w.heap.size ≤ g_o by have := HB.o.size; omega); replace R1 := J (R1.o.step aB); replace R2 := J (R2.o.step aB); replace RA := J (RA.o.step aB); replace RB := J (RB.o.step aB); replace K_x := J (K_x.o.step aB); replace K_y := J (K_y.o.step aB); replace K_r := J (K_r.o.step aB); replace HB := J (za HB.o aB); have K_o := J (show B3 w5 g_o false none 0 0 0 from aD); clear aA aD aB)
  | ((with_reducible refine zj (t := 101) (p := 8) rfl ?_); refine zi rfl 101 rfl rfl g_o #[.bool n1, .slice none 0 0, .int .i64 E] rfl rfl 101 _ K_o.o (zaz.trans rfl) rfl (zaH _ _ _ _ _) ?_; intro w6 aD aA; replace R1 := J (R1.o.put K_o.o aA); replace R2 := J (R2.o.put K_o.o aA); replace RA := J (RA.o.put K_o.o aA); replace RB := J (RB.o.put K_o.o aA); replace K_x := J (K_x.o.put aA N_o_x.o); replace K_y := J (K_y.o.put aA N_o_y.o); replace K_r := J (K_r.o.put aA N_o_r.o); replace HB := J (HB.o.grown aA HB.o.size (fun k_ aR => by cases aR; exact L_o.o)); replace K_o := J (show B3 w6 g_o n1 none 0 0 E from aD); clear aD aA; have aS := K_o.o.c0; have aT := K_o.o.c1; have aU := K_o.o.c2; have aE := K_x.o.c0; have aG := K_x.o.c1; have aH := K_x.o.c2; have aI := K_y.o.c0; have aJ := K_y.o.c1; have aK := K_y.o.c2; have aL := K_r.o.c0; have aM := K_r.o.c1; have aN := K_r.o.c2; have aO := K_o.o.f 0; have aP := K_o.o.f 1; have aQ := K_o.o.f 2)
  | ((with_reducible refine zj (t := 101) (p := 4) rfl ?_); refine zi rfl 101 rfl rfl g_r #[.bool n1, .slice A1 l1.length c1, .int .i64 e1] rfl rfl 101 _ K_r.o (zaz.trans rfl) rfl (zaH _ _ _ _ _) ?_; intro w7 aD aA; replace R1 := J (R1.o.put K_r.o aA); replace R2 := J (R2.o.put K_r.o aA); replace RA := J (RA.o.put K_r.o aA); replace RB := J (RB.o.put K_r.o aA); replace K_x := J (K_x.o.put aA N_r_x.o); replace K_y := J (K_y.o.put aA N_r_y.o); replace K_o := J (K_o.o.put aA N_o_r.o.symm); replace HB := J (HB.o.grown aA HB.o.size (fun k_ aR => by cases aR; exact L_r.o)); replace K_r := J (show B3 w7 g_r n1 A1 l1.length c1 e1 from aD); clear aD aA; have aV := K_r.o.c0; have aW := K_r.o.c1; have aX := K_r.o.c2)
  | fail)
   refine bodyPost_ret (results_cell_row rfl _ _ g_r 101 #[.bool n1, .slice A1 l1.length c1, .int .i64 e1] (0, 0) _ rfl K_r.o Try.underlying101 rfl yK_) rfl ?_; exact ⟨n1, A1, c1, l1, e1, by first | done | rfl, R1.o.le yO_, HR.o.1, .inr HR.o.2, HB.o⟩
  ·have nb0 : 0 < lb.length := by omega
   have na0 : 0 < la.length := by omega
   have PV := J (And.intro (nv_pos RA.o.u RA.o.t na0) (nv_pos RB.o.u RB.o.t nb0)); clear nb0 na0; have qa0 : ((la.length : Int) == 0) = false := beq_eq_false_iff_ne.mpr yO_; have qa1 : ¬ (la = []) := fun h_ => ha (by rw [h_]; rfl)
   have Pa := J ha; clear ha; have qb0 : ((lb.length : Int) == 0) = false := beq_eq_false_iff_ne.mpr yO_; have qb1 : ¬ (lb = []) := fun h_ => hb (by rw [h_]; rfl)
   have Pb := J hb; clear hb
   by_cases hs : n1 = n2
   ·subst hs; obtain ⟨t, ht, tv, tu, tt, tn⟩ := plus_ev la lb RA.o.u RB.o.u (by have := RA.o.n; omega) (by have := RB.o.n; omega); obtain ⟨kl, hl⟩ := ht.get; have FL := J hl; have FT := J (show sv n1 (nv t) = sv n1 (nv la) + sv n1 (nv lb) by rw [tv]; cases n1 <;> simp [sv]; omega); have FU := J tu; have FR := J tt; have FN := J (show t.length ≤ N + 20000 by have := RA.o.n; have := RB.o.n; omega); have FZ := J (show t.length ≠ 0 from fun h => by have := PV.o; rw [List.length_eq_zero_iff.1 h] at tv; simp [nv] at tv; omega); clear ht tv tu tt tn hl; go_wp2_with (first
  | ((with_reducible refine zf (N := 8) rfl ?_); refine zah 8 (cs := #[.bool false, .slice none 0 0, .int .i64 0]) (t := 101) ?_; intro g_o aA w5 aD aB; have N_o_x := J (show g_x ≠ g_o by have := K_x.o.lt; omega); have N_o_y := J (show g_y ≠ g_o by have := K_y.o.lt; omega); have N_o_r := J (show g_r ≠ g_o by have := K_r.o.lt; omega); have L_o := J (show w.heap.size ≤ g_o by have := HB.o.size; omega); replace R1 := J (R1.o.step aB); replace R2 := J (R2.o.step aB); replace RA := J (RA.o.step aB); replace RB := J (RB.o.step aB); replace K_x := J (K_x.o.step aB); replace K_y := J (K_y.o.step aB); replace K_r := J (K_r.o.step aB); replace HB := J (za HB.o aB); have K_o := J (show B3 w5 g_o false none 0 0 0 from aD); clear aA aD aB)
  | ((with_reducible refine zj (t := 101) (p := 8) rfl ?_); refine zi rfl 101 rfl rfl g_o #[.bool n1, .slice none 0 0, .int .i64 E] rfl rfl 101 _ K_o.o (zaz.trans rfl) rfl (zaH _ _ _ _ _) ?_; intro w6 aD aA; replace R1 := J (R1.o.put K_o.o aA); replace R2 := J (R2.o.put K_o.o aA); replace RA := J (RA.o.put K_o.o aA); replace RB := J (RB.o.put K_o.o aA); replace K_x := J (K_x.o.put aA N_o_x.o); replace K_y := J (K_y.o.put aA N_o_y.o); replace K_r := J (K_r.o.put aA N_o_r.o); replace HB := J (HB.o.grown aA HB.o.size (fun k_ aR => by cases aR; exact L_o.o)); replace K_o := J (show B3 w6 g_o n1 none 0 0 E from aD); clear aD aA; have aS := K_o.o.c0; have aT := K_o.o.c1; have aU := K_o.o.c2; have aE := K_x.o.c0; have aG := K_x.o.c1; have aH := K_x.o.c2; have aI := K_y.o.c0; have aJ := K_y.o.c1; have aK := K_y.o.c2; have aL := K_r.o.c0; have aM := K_r.o.c1; have aN := K_r.o.c2; have aO := K_o.o.f 0; have aP := K_o.o.f 1; have aQ := K_o.o.f 2)
  | fail)
    refine (zE.calls kl A ca la B cb lb t _ RA.o.row RA.o.cap RB.o.row RB.o.cap FL.o).mono ?_; rintro e_ w7 ⟨v0, rfl, h0, hb⟩; obtain ⟨At, ct, rfl, r_t⟩ := Ru.of_R h0 FU.o FR.o FN.o; replace R1 := J (R1.o.step hb); replace R2 := J (R2.o.step hb); replace RA := J (RA.o.step hb); replace RB := J (RB.o.step hb); replace K_x := J (K_x.o.step hb); replace K_y := J (K_y.o.step hb); replace K_r := J (K_r.o.step hb); replace K_o := J (K_o.o.step hb); replace HB := J (za HB.o hb); have R_t := J r_t; clear hb h0 r_t; clear aE aG aH aI aJ aK aL aM aN aS aT aU aO aP aQ; have aO := K_o.o.f 0; have aP := K_o.o.f 1; have aQ := K_o.o.f 2; have aE := K_x.o.c0; have aG := K_x.o.c1; have aH := K_x.o.c2; have aI := K_y.o.c0; have aJ := K_y.o.c1; have aK := K_y.o.c2; have aY := K_o.o.c0; have aZ := K_o.o.c1; have bA := K_o.o.c2; have z0 : ((t.length : Int) == 0) = false := beq_eq_false_iff_ne.mpr (by have := FZ.o; omega); have z1 : ¬ (t = []) := fun h_ => FZ.o (by rw [h_]; rfl)
    go_wp2_with (first
  | ((with_reducible refine zj (t := 101) (p := 4) rfl ?_); have aC := zx w7 g_o 1 (.slice At t.length ct); replace R1 := J (R1.o.put K_o.o aC); replace R2 := J (R2.o.put K_o.o aC); replace RA := J (RA.o.put K_o.o aC); replace RB := J (RB.o.put K_o.o aC); replace R_t := J (R_t.o.put K_o.o aC); replace K_x := J (K_x.o.put aC N_o_x.o); replace K_y := J (K_y.o.put aC N_o_y.o); replace K_r := J (K_r.o.put aC N_o_r.o); replace HB := J (HB.o.grown aC HB.o.size (fun k_ aR => by cases aR; exact L_o.o)); replace K_o := J (show B3 (w7.setCell ⟨g_o, 1, none⟩ (.slice At t.length ct)) g_o n1 At t.length ct E from zav K_o.o 1 _); clear aC; generalize w7.setCell ⟨g_o, 1, none⟩ (.slice At t.length ct) = w8 at HB R1 R2 RA RB R_t K_x K_y K_r K_o ⊢; refine zi rfl 101 rfl rfl g_r #[.bool n1, .slice At t.length ct, .int .i64 E] rfl rfl 101 _ K_r.o (zaz.trans rfl) rfl (zaH _ _ _ _ _) ?_; intro w9 aD aA; replace R1 := J (R1.o.put K_r.o aA); replace R2 := J (R2.o.put K_r.o aA); replace RA := J (RA.o.put K_r.o aA); replace RB := J (RB.o.put K_r.o aA); replace R_t := J (R_t.o.put K_r.o aA); replace K_x := J (K_x.o.put aA N_r_x.o); replace K_y := J (K_y.o.put aA N_r_y.o); replace K_o := J (K_o.o.put aA N_o_r.o.symm); replace HB := J (HB.o.grown aA HB.o.size (fun k_ aR => by cases aR; exact L_r.o)); replace K_r := J (show B3 w9 g_r n1 At t.length ct E from aD); clear aD aA; have aV := K_r.o.c0; have aW := K_r.o.c1; have aX := K_r.o.c2)
  | fail)
    refine bodyPost_ret (results_cell_row rfl _ _ g_r 101 #[.bool n1, .slice At t.length ct, .int .i64 E] (0, 0) _ rfl K_r.o Try.underlying101 rfl yK_) rfl ?_; exact ⟨n1, At, ct, t, E, by first | done | rfl, R_t.o, by rw [HT.o, FT.o], .inr rfl, HB.o⟩
   ·have hs0 : (n1 == n2) = false := beq_eq_false_iff_ne.mpr hs; have HS := J (show n2 = !n1 by cases n1 <;> cases n2 <;> simp_all); have hs1 := hs; clear hs
    by_cases hc : nv lb ≤ nv la
    ·obtain ⟨kc, hk⟩ := (cmp_ev la lb RA.o.u RB.o.u RA.o.t RB.o.t (by have := RA.o.n; omega) (by have := RB.o.n; omega)).get; have hle : nv lb ≤ nv la := by omega
     have bC : 0 ≤ sgnI (nv la - nv lb) := by
      by_cases h0 : nv la - nv lb = 0
      ·rw [sgnI_zero h0]; decide
      ·rw [zbi yO_]; decide
     generalize sgnI (nv la - nv lb) = s at hk bC; have FK := J hk; clear hk; obtain ⟨t, ht, tv, tu, tt, tn⟩ := minus_ev la lb RA.o.u RB.o.u (len_le RA.o.u RB.o.u RB.o.t hle) hle (by have := RA.o.n; omega); obtain ⟨kl, hl⟩ := ht.get; have FL := J hl; have FT := J (show sv n1 (nv t) = sv n1 (nv la) + sv n2 (nv lb) by rw [tv, HS.o]; cases n1 <;> simp [sv] <;> omega); have FU := J tu; have FR := J tt; have FN := J (show t.length ≤ N + 20000 by have := RA.o.n; omega); clear ht tv tu tt tn hl hc hle; have hs3 : decide (s ≥ 0) = true := decide_eq_true bC; go_wp2_with (first
  | ((with_reducible refine zf (N := 8) rfl ?_); refine zah 8 (cs := #[.bool false, .slice none 0 0, .int .i64 0]) (t := 101) ?_; intro g_o aA w5 aD aB; have N_o_x := J (show g_x ≠ g_o by have := K_x.o.lt; omega); have N_o_y := J (show g_y ≠ g_o by have := K_y.o.lt; omega); have N_o_r := J (show g_r ≠ g_o by have := K_r.o.lt; omega); have L_o := J (show w.heap.size ≤ g_o by have := HB.o.size; omega); replace R1 := J (R1.o.step aB); replace R2 := J (R2.o.step aB); replace RA := J (RA.o.step aB); replace RB := J (RB.o.step aB); replace K_x := J (K_x.o.step aB); replace K_y := J (K_y.o.step aB); replace K_r := J (K_r.o.step aB); replace HB := J (za HB.o aB); have K_o := J (show B3 w5 g_o false none 0 0 0 from aD); clear aA aD aB)
  | ((with_reducible refine zj (t := 101) (p := 8) rfl ?_); refine zi rfl 101 rfl rfl g_o #[.bool n1, .slice none 0 0, .int .i64 E] rfl rfl 101 _ K_o.o (zaz.trans rfl) rfl (zaH _ _ _ _ _) ?_; intro w6 aD aA; replace R1 := J (R1.o.put K_o.o aA); replace R2 := J (R2.o.put K_o.o aA); replace RA := J (RA.o.put K_o.o aA); replace RB := J (RB.o.put K_o.o aA); replace K_x := J (K_x.o.put aA N_o_x.o); replace K_y := J (K_y.o.put aA N_o_y.o); replace K_r := J (K_r.o.put aA N_o_r.o); replace HB := J (HB.o.grown aA HB.o.size (fun k_ aR => by cases aR; exact L_o.o)); replace K_o := J (show B3 w6 g_o n1 none 0 0 E from aD); clear aD aA; have aS := K_o.o.c0; have aT := K_o.o.c1; have aU := K_o.o.c2; have aE := K_x.o.c0; have aG := K_x.o.c1; have aH := K_x.o.c2; have aI := K_y.o.c0; have aJ := K_y.o.c1; have aK := K_y.o.c2; have aL := K_r.o.c0; have aM := K_r.o.c1; have aN := K_r.o.c2; have aO := K_o.o.f 0; have aP := K_o.o.f 1; have aQ := K_o.o.f 2)
  | fail)
     refine (zaa.calls kc A ca la B cb lb s w6 RA.o.row RA.o.cap RB.o.row RB.o.cap FK.o).mono ?_; rintro e_ w7 ⟨rfl, hd⟩; have hb := drawn0_below hd; replace R1 := J (R1.o.step hb); replace R2 := J (R2.o.step hb); replace RA := J (RA.o.step hb); replace RB := J (RB.o.step hb); replace K_x := J (K_x.o.step hb); replace K_y := J (K_y.o.step hb); replace K_r := J (K_r.o.step hb); replace K_o := J (K_o.o.step hb); replace HB := J (za HB.o hb); clear hb hd; clear aE aG aH aI aJ aK aL aM aN aS aT aU aO aP aQ; have aO := K_o.o.f 0; have aP := K_o.o.f 1; have aQ := K_o.o.f 2; have aE := K_x.o.c0; have aG := K_x.o.c1; have aH := K_x.o.c2; have aI := K_y.o.c0; have aJ := K_y.o.c1; have aK := K_y.o.c2; have aL := K_r.o.c0; have aM := K_r.o.c1; have aN := K_r.o.c2; have aS := K_o.o.c0; have aT := K_o.o.c1; have aU := K_o.o.c2; go_wp2_with fail; refine (zG.calls kl A ca la B cb lb t _ RA.o.row RA.o.cap RB.o.row RB.o.cap FL.o).mono ?_; rintro e_ w8 ⟨v0, rfl, h0, hb⟩; obtain ⟨At, ct, rfl, r_t⟩ := Ru.of_R h0 FU.o FR.o FN.o; replace R1 := J (R1.o.step hb); replace R2 := J (R2.o.step hb); replace RA := J (RA.o.step hb); replace RB := J (RB.o.step hb); replace K_x := J (K_x.o.step hb); replace K_y := J (K_y.o.step hb); replace K_r := J (K_r.o.step hb); replace K_o := J (K_o.o.step hb); replace HB := J (za HB.o hb); have R_t := J r_t; clear hb h0 r_t
     clear aE aG aH aI aJ aK aL aM aN aS aT aU aO aP aQ; have aO := K_o.o.f 0; have aP := K_o.o.f 1; have aQ := K_o.o.f 2; have aE := K_x.o.c0; have aG := K_x.o.c1; have aH := K_x.o.c2; have aI := K_y.o.c0; have aJ := K_y.o.c1; have aK := K_y.o.c2; have aY := K_o.o.c0; have aZ := K_o.o.c1; have bA := K_o.o.c2
     by_cases hz : t.length = 0
     ·obtain rfl := List.length_eq_zero_iff.1 hz; go_wp2_with (first
  | ((with_reducible refine zj (t := 101) (p := 4) rfl ?_); have aC := zx w8 g_o 1 (.slice At 0 ct); replace R1 := J (R1.o.put K_o.o aC); replace R2 := J (R2.o.put K_o.o aC); replace RA := J (RA.o.put K_o.o aC); replace RB := J (RB.o.put K_o.o aC); replace R_t := J (R_t.o.put K_o.o aC); replace K_x := J (K_x.o.put aC N_o_x.o); replace K_y := J (K_y.o.put aC N_o_y.o); replace K_r := J (K_r.o.put aC N_o_r.o); replace HB := J (HB.o.grown aC HB.o.size (fun k_ aR => by cases aR; exact L_o.o)); replace K_o := J (show B3 (w8.setCell ⟨g_o, 1, none⟩ (.slice At 0 ct)) g_o n1 At 0 ct E from zav K_o.o 1 _); clear aC; generalize w8.setCell ⟨g_o, 1, none⟩ (.slice At 0 ct) = w9 at HB R1 R2 RA RB R_t K_x K_y K_r K_o ⊢; refine zi rfl 101 rfl rfl g_r #[.bool false, .slice none 0 0, .int .i64 0] rfl rfl 101 _ K_r.o (zaz.trans rfl) rfl (zaH _ _ _ _ _) ?_; intro bB aD aA; replace R1 := J (R1.o.put K_r.o aA); replace R2 := J (R2.o.put K_r.o aA); replace RA := J (RA.o.put K_r.o aA); replace RB := J (RB.o.put K_r.o aA); replace R_t := J (R_t.o.put K_r.o aA); replace K_x := J (K_x.o.put aA N_r_x.o); replace K_y := J (K_y.o.put aA N_r_y.o); replace K_o := J (K_o.o.put aA N_o_r.o.symm); replace HB := J (HB.o.grown aA HB.o.size (fun k_ aR => by cases aR; exact L_r.o)); replace K_r := J (show B3 bB g_r false none 0 0 0 from aD); clear aD aA; have aV := K_r.o.c0; have aW := K_r.o.c1; have aX := K_r.o.c2)
  | fail)
      refine bodyPost_ret (results_cell_row rfl _ _ g_r 101 #[.bool false, .slice none 0 0, .int .i64 0] (0, 0) _ rfl K_r.o Try.underlying101 rfl yK_) rfl ?_; exact ⟨false, none, 0, [], 0, by first | done | rfl, Ru.nil _ _, by rw [HT.o, ← FT.o]; simp [nv, zbm], .inl ⟨rfl, rfl⟩, HB.o⟩
     ·have z0 : ((t.length : Int) == 0) = false := beq_eq_false_iff_ne.mpr yO_; have z1 : ¬ (t = []) := fun h_ => hz (by rw [h_]; rfl)
      clear hz; go_wp2_with (first
  | ((with_reducible refine zj (t := 101) (p := 4) rfl ?_); have aC := zx w8 g_o 1 (.slice At t.length ct); replace R1 := J (R1.o.put K_o.o aC); replace R2 := J (R2.o.put K_o.o aC); replace RA := J (RA.o.put K_o.o aC); replace RB := J (RB.o.put K_o.o aC); replace R_t := J (R_t.o.put K_o.o aC); replace K_x := J (K_x.o.put aC N_o_x.o); replace K_y := J (K_y.o.put aC N_o_y.o); replace K_r := J (K_r.o.put aC N_o_r.o); replace HB := J (HB.o.grown aC HB.o.size (fun k_ aR => by cases aR; exact L_o.o)); replace K_o := J (show B3 (w8.setCell ⟨g_o, 1, none⟩ (.slice At t.length ct)) g_o n1 At t.length ct E from zav K_o.o 1 _); clear aC; generalize w8.setCell ⟨g_o, 1, none⟩ (.slice At t.length ct) = w9 at HB R1 R2 RA RB R_t K_x K_y K_r K_o ⊢; refine zi rfl 101 rfl rfl g_r #[.bool n1, .slice At t.length ct, .int .i64 E] rfl rfl 101 _ K_r.o (zaz.trans rfl) rfl (zaH _ _ _ _ _) ?_; intro bB aD aA; replace R1 := J (R1.o.put K_r.o aA); replace R2 := J (R2.o.put K_r.o aA); replace RA := J (RA.o.put K_r.o aA); replace RB := J (RB.o.put K_r.o aA); replace R_t := J (R_t.o.put K_r.o aA); replace K_x := J (K_x.o.put aA N_r_x.o); replace K_y := J (K_y.o.put aA N_r_y.o); replace K_o := J (K_o.o.put aA N_o_r.o.symm); replace HB := J (HB.o.grown aA HB.o.size (fun k_ aR => by cases aR; exact L_r.o)); replace K_r := J (show B3 bB g_r n1 At t.length ct E from aD); clear aD aA; have aV := K_r.o.c0; have aW := K_r.o.c1; have aX := K_r.o.c2)
  | fail)
      refine bodyPost_ret (results_cell_row rfl _ _ g_r 101 #[.bool n1, .slice At t.length ct, .int .i64 E] (0, 0) _ rfl K_r.o Try.underlying101 rfl yK_) rfl ?_; exact ⟨n1, At, ct, t, E, by first | done | rfl, R_t.o, by rw [HT.o, FT.o], .inr rfl, HB.o⟩
    ·obtain ⟨kc, hk⟩ := (cmp_ev la lb RA.o.u RB.o.u RA.o.t RB.o.t (by have := RA.o.n; omega) (by have := RB.o.n; omega)).get; have hle : nv la ≤ nv lb := by omega
     have bC : sgnI (nv la - nv lb) < 0 := by
      rw [zbh yO_]; decide
     generalize sgnI (nv la - nv lb) = s at hk bC; have FK := J hk; clear hk; obtain ⟨t, ht, tv, tu, tt, tn⟩ := minus_ev lb la RB.o.u RA.o.u (len_le RB.o.u RA.o.u RA.o.t hle) hle (by have := RB.o.n; omega); obtain ⟨kl, hl⟩ := ht.get; have FL := J hl; have FT := J (show sv n2 (nv t) = sv n1 (nv la) + sv n2 (nv lb) by rw [tv, HS.o]; cases n1 <;> simp [sv] <;> omega); have FU := J tu; have FR := J tt; have FN := J (show t.length ≤ N + 20000 by have := RB.o.n; omega); clear ht tv tu tt tn hl hc hle; have hs3 : decide (s ≥ 0) = false := decide_eq_false yO_; have hs4 : decide (0 ≤ s) = false := decide_eq_false yO_; go_wp2_with (first
  | ((with_reducible refine zf (N := 8) rfl ?_); refine zah 8 (cs := #[.bool false, .slice none 0 0, .int .i64 0]) (t := 101) ?_; intro g_o aA w5 aD aB; have N_o_x := J (show g_x ≠ g_o by have := K_x.o.lt; omega); have N_o_y := J (show g_y ≠ g_o by have := K_y.o.lt; omega); have N_o_r := J (show g_r ≠ g_o by have := K_r.o.lt; omega); have L_o := J (show w.heap.size ≤ g_o by have := HB.o.size; omega); replace R1 := J (R1.o.step aB); replace R2 := J (R2.o.step aB); replace RA := J (RA.o.step aB); replace RB := J (RB.o.step aB); replace K_x := J (K_x.o.step aB); replace K_y := J (K_y.o.step aB); replace K_r := J (K_r.o.step aB); replace HB := J (za HB.o aB); have K_o := J (show B3 w5 g_o false none 0 0 0 from aD); clear aA aD aB)
  | ((with_reducible refine zj (t := 101) (p := 8) rfl ?_); refine zi rfl 101 rfl rfl g_o #[.bool n1, .slice none 0 0, .int .i64 E] rfl rfl 101 _ K_o.o (zaz.trans rfl) rfl (zaH _ _ _ _ _) ?_; intro w6 aD aA; replace R1 := J (R1.o.put K_o.o aA); replace R2 := J (R2.o.put K_o.o aA); replace RA := J (RA.o.put K_o.o aA); replace RB := J (RB.o.put K_o.o aA); replace K_x := J (K_x.o.put aA N_o_x.o); replace K_y := J (K_y.o.put aA N_o_y.o); replace K_r := J (K_r.o.put aA N_o_r.o); replace HB := J (HB.o.grown aA HB.o.size (fun k_ aR => by cases aR; exact L_o.o)); replace K_o := J (show B3 w6 g_o n1 none 0 0 E from aD); clear aD aA; have aS := K_o.o.c0; have aT := K_o.o.c1; have aU := K_o.o.c2; have aE := K_x.o.c0; have aG := K_x.o.c1; have aH := K_x.o.c2; have aI := K_y.o.c0; have aJ := K_y.o.c1; have aK := K_y.o.c2; have aL := K_r.o.c0; have aM := K_r.o.c1; have aN := K_r.o.c2; have aO := K_o.o.f 0; have aP := K_o.o.f 1; have aQ := K_o.o.f 2)
  | fail)
     refine (zaa.calls kc A ca la B cb lb s w6 RA.o.row RA.o.cap RB.o.row RB.o.cap FK.o).mono ?_; rintro e_ w7 ⟨rfl, hd⟩; have hb := drawn0_below hd; replace R1 := J (R1.o.step hb); replace R2 := J (R2.o.step hb); replace RA := J (RA.o.step hb); replace RB := J (RB.o.step hb); replace K_x := J (K_x.o.step hb); replace K_y := J (K_y.o.step hb); replace K_r := J (K_r.o.step hb); replace K_o := J (K_o.o.step hb); replace HB := J (za HB.o hb); clear hb hd; clear aE aG aH aI aJ aK aL aM aN aS aT aU aO aP aQ; have aO := K_o.o.f 0; have aP := K_o.o.f 1; have aQ := K_o.o.f 2; have aE := K_x.o.c0; have aG := K_x.o.c1; have aH := K_x.o.c2; have aI := K_y.o.c0; have aJ := K_y.o.c1; have aK := K_y.o.c2; have aL := K_r.o.c0; have aM := K_r.o.c1; have aN := K_r.o.c2; have aS := K_o.o.c0; have aT := K_o.o.c1; have aU := K_o.o.c2; go_wp2_with fail
     have aC := zx w7 g_o 0 (.bool n2); replace R1 := J (R1.o.put K_o.o aC); replace R2 := J (R2.o.put K_o.o aC); replace RA := J (RA.o.put K_o.o aC); replace RB := J (RB.o.put K_o.o aC); replace K_x := J (K_x.o.put aC N_o_x.o); replace K_y := J (K_y.o.put aC N_o_y.o); replace K_r := J (K_r.o.put aC N_o_r.o); replace HB := J (HB.o.grown aC HB.o.size (fun k_ aR => by cases aR; exact L_o.o)); replace K_o := J (show B3 (w7.setCell ⟨g_o, 0, none⟩ (.bool n2)) g_o n2 none 0 0 E from zav K_o.o 0 _); clear aC; generalize w7.setCell ⟨g_o, 0, none⟩ (.bool n2) = w8 at HB R1 R2 RA RB K_x K_y K_r K_o ⊢; refine (zG.calls kl B cb lb A ca la t _ RB.o.row RB.o.cap RA.o.row RA.o.cap FL.o).mono ?_; rintro e_ w9 ⟨v0, rfl, h0, hb⟩; obtain ⟨At, ct, rfl, r_t⟩ := Ru.of_R h0 FU.o FR.o FN.o; replace R1 := J (R1.o.step hb); replace R2 := J (R2.o.step hb); replace RA := J (RA.o.step hb); replace RB := J (RB.o.step hb); replace K_x := J (K_x.o.step hb); replace K_y := J (K_y.o.step hb); replace K_r := J (K_r.o.step hb); replace K_o := J (K_o.o.step hb); replace HB := J (za HB.o hb); have R_t := J r_t; clear hb h0 r_t; clear aE aG aH aI aJ aK aL aM aN aS aT aU aO aP aQ; have aO := K_o.o.f 0; have aP := K_o.o.f 1; have aQ := K_o.o.f 2
     have aE := K_x.o.c0; have aG := K_x.o.c1; have aH := K_x.o.c2; have aI := K_y.o.c0; have aJ := K_y.o.c1; have aK := K_y.o.c2; have aY := K_o.o.c0; have aZ := K_o.o.c1; have bA := K_o.o.c2
     by_cases hz : t.length = 0
     ·obtain rfl := List.length_eq_zero_iff.1 hz; go_wp2_with (first
  | ((with_reducible refine zj (t := 101) (p := 4) rfl ?_); have aC := zx w9 g_o 1 (.slice At 0 ct); replace R1 := J (R1.o.put K_o.o aC); replace R2 := J (R2.o.put K_o.o aC); replace RA := J (RA.o.put K_o.o aC); replace RB := J (RB.o.put K_o.o aC); replace R_t := J (R_t.o.put K_o.o aC); replace K_x := J (K_x.o.put aC N_o_x.o); replace K_y := J (K_y.o.put aC N_o_y.o); replace K_r := J (K_r.o.put aC N_o_r.o); replace HB := J (HB.o.grown aC HB.o.size (fun k_ aR => by cases aR; exact L_o.o)); replace K_o := J (show B3 (w9.setCell ⟨g_o, 1, none⟩ (.slice At 0 ct)) g_o n2 At 0 ct E from zav K_o.o 1 _); clear aC; generalize w9.setCell ⟨g_o, 1, none⟩ (.slice At 0 ct) = bB at HB R1 R2 RA RB R_t K_x K_y K_r K_o ⊢; refine zi rfl 101 rfl rfl g_r #[.bool false, .slice none 0 0, .int .i64 0] rfl rfl 101 _ K_r.o (zaz.trans rfl) rfl (zaH _ _ _ _ _) ?_; intro bF aD aA; replace R1 := J (R1.o.put K_r.o aA); replace R2 := J (R2.o.put K_r.o aA); replace RA := J (RA.o.put K_r.o aA); replace RB := J (RB.o.put K_r.o aA); replace R_t := J (R_t.o.put K_r.o aA); replace K_x := J (K_x.o.put aA N_r_x.o); replace K_y := J (K_y.o.put aA N_r_y.o); replace K_o := J (K_o.o.put aA N_o_r.o.symm); replace HB := J (HB.o.grown aA HB.o.size (fun k_ aR => by cases aR; exact L_r.o)); replace K_r := J (show B3 bF g_r false none 0 0 0 from aD); clear aD aA; have aV := K_r.o.c0; have aW := K_r.o.c1; have aX := K_r.o.c2)
  | fail)
      refine bodyPost_ret (results_cell_row rfl _ _ g_r 101 #[.bool false, .slice none 0 0, .int .i64 0] (0, 0) _ rfl K_r.o Try.underlying101 rfl yK_) rfl ?_; exact ⟨false, none, 0, [], 0, by first | done | rfl, Ru.nil _ _, by rw [HT.o, ← FT.o]; simp [nv, zbm], .inl ⟨rfl, rfl⟩, HB.o⟩
     ·have z0 : ((t.length : Int) == 0) = false := beq_eq_false_iff_ne.mpr yO_; have z1 : ¬ (t = []) := fun h_ => hz (by rw [h_]; rfl)
      clear hz; go_wp2_with (first
  | ((with_reducible refine zj (t := 101) (p := 4) rfl ?_); have aC := zx w9 g_o 1 (.slice At t.length ct); replace R1 := J (R1.o.put K_o.o aC); replace R2 := J (R2.o.put K_o.o aC); replace RA := J (RA.o.put K_o.o aC); replace RB := J (RB.o.put K_o.o aC); replace R_t := J (R_t.o.put K_o.o aC); replace K_x := J (K_x.o.put aC N_o_x.o); replace K_y := J (K_y.o.put aC N_o_y.o); replace K_r := J (K_r.o.put aC N_o_r.o); replace HB := J (HB.o.grown aC HB.o.size (fun k_ aR => by cases aR; exact L_o.o)); replace K_o := J (show B3 (w9.setCell ⟨g_o, 1, none⟩ (.slice At t.length ct)) g_o n2 At t.length ct E from zav K_o.o 1 _); clear aC; generalize w9.setCell ⟨g_o, 1, none⟩ (.slice At t.length ct) = bB at HB R1 R2 RA RB R_t K_x K_y K_r K_o ⊢; refine zi rfl 101 rfl rfl g_r #[.bool n2, .slice At t.length ct, .int .i64 E] rfl rfl 101 _ K_r.o (zaz.trans rfl) rfl (zaH _ _ _ _ _) ?_; intro bF aD aA; replace R1 := J (R1.o.put K_r.o aA); replace R2 := J (R2.o.put K_r.o aA); replace RA := J (RA.o.put K_r.o aA); replace RB := J (RB.o.put K_r.o aA); replace R_t := J (R_t.o.put K_r.o aA); replace K_x := J (K_x.o.put aA N_r_x.o); replace K_y := J (K_y.o.put aA N_r_y.o); replace K_o := J (K_o.o.put aA N_o_r.o.symm); replace HB := J (HB.o.grown aA HB.o.size (fun k_ aR => by cases aR; exact L_r.o)); replace K_r := J (show B3 bF g_r n2 At t.length ct E from aD); clear aD aA; have aV := K_r.o.c0; have aW := K_r.o.c1; have aX := K_r.o.c2)
  | fail)
      refine bodyPost_ret (results_cell_row rfl _ _ g_r 101 #[.bool n2, .slice At t.length ct, .int .i64 E] (0, 0) _ rfl K_r.o Try.underlying101 rfl yK_) rfl ?_; exact ⟨n2, At, ct, t, E, by first | done | rfl, R_t.o, by rw [HT.o, FT.o], .inr rfl, HB.o⟩
def rminus.T1 : Bool × List (List Nat × List Nat) := (true, [([], []), ([], []), ([1], [1]), ([0, 2, 2], [0, 2]), ([3, 3, 0, 1, 2, 3], [3])])
def rminus.B1 : List Nat := [0, 0, 2, 7, 15]
theorem rminus.tab1 : zbc .any (opsOf Try.f71 1) = rminus.T1 := by kernel_rfl
theorem rminus.bits1 : zal rminus.T1.2 rminus.B1 = true := by kernel_rfl
theorem rminus_calls (n1 n2 : Bool) (A1 : Option Addr) (c1 : Nat) (l1 : List Int) (e1 : Int) (A2 : Option Addr) (c2 : Nat) (l2 : List Int) (e2 : Int) (N : Nat) (w : World) (r1 : Ru w A1 c1 l1 N) (r2 : Ru w A2 c2 l2 N) (hN : N ≤ 1000000) (hE : (-100000 ≤ e1 ∧ e1 ≤ 100000) ∧ (-100000 ≤ e2 ∧ e2 ≤ 100000)) :
  Calls Try.prog 71 #[.agg #[.bool n1, .slice A1 l1.length c1, .int .i64 e1], .agg #[.bool n2, .slice A2 l2.length c2, .int .i64 e2]] w fun o w' => ∃ nb A c l e, o = .returned (.agg #[.bool nb, .slice A (l : List Int).length c, .int .i64 e]) ∧ Ru w' A c l (N + 20000) ∧ sv nb (nv l) = sv n1 (nv l1) * 2 ^ (e1 - lvE l1 e1 l2 e2).toNat - sv n2 (nv l2) * 2 ^ (e2 - lvE l1 e1 l2 e2).toNat ∧ Below w.heap.size w w' := by
 have hu101 := Try.underlying101; have HB := J (Below.refl w.heap.size w); have R1 := J r1; have R2 := J r2; obtain ⟨E, aM⟩ : ∃ E, E = lvE l1 e1 l2 e2 := ⟨_, rfl⟩
 rw [← aM]; have HE0 := J aM; obtain ⟨m2, hm⟩ : ∃ m2 : Bool, m2 = if l2.length = 0 then n2 else !n2 := ⟨_, rfl⟩
 have HM := J hm
 have HS := J (show sv m2 (nv l2) = - sv n2 (nv l2) by
  rw [hm]
  by_cases h : l2.length = 0
  ·rw [List.length_eq_zero_iff.1 h]; simp [nv, zbm]
  ·rw [if_neg h, sv_not])
 clear aM hm r1 r2; go_enter Try.func71, Try.ntmps71
 go_wp2_with (first
  | ((with_reducible refine zf (N := 2) rfl ?_); refine zah 2 (cs := #[.bool n1, .slice A1 l1.length c1, .int .i64 e1]) (t := 101) ?_; intro g_x aK w1 aG aB; have L_x := J (show w.heap.size ≤ g_x by have := HB.o.size; omega); replace R1 := J (R1.o.step aB); replace R2 := J (R2.o.step aB); replace HB := J (za HB.o aB); have K_x := J (show B3 w1 g_x n1 A1 l1.length c1 e1 from aG); clear aK aG aB)
  | ((with_reducible refine zf (N := 3) rfl ?_); refine zah 3 (cs := #[.bool n2, .slice A2 l2.length c2, .int .i64 e2]) (t := 101) ?_; intro g_y aK w2 aG aB; have N_y_x := J (show g_x ≠ g_y by have := K_x.o.lt; omega); have L_y := J (show w.heap.size ≤ g_y by have := HB.o.size; omega); replace R1 := J (R1.o.step aB); replace R2 := J (R2.o.step aB); replace K_x := J (K_x.o.step aB); replace HB := J (za HB.o aB); have K_y := J (show B3 w2 g_y n2 A2 l2.length c2 e2 from aG); clear aK aG aB)
  | ((with_reducible refine zf (N := 4) rfl ?_); refine zah 4 (cs := #[.bool false, .slice none 0 0, .int .i64 0]) (t := 101) ?_; intro g_r aK w3 aG aB; have N_r_x := J (show g_x ≠ g_r by have := K_x.o.lt; omega); have N_r_y := J (show g_y ≠ g_r by have := K_y.o.lt; omega); have L_r := J (show w.heap.size ≤ g_r by have := HB.o.size; omega); replace R1 := J (R1.o.step aB); replace R2 := J (R2.o.step aB); replace K_x := J (K_x.o.step aB); replace K_y := J (K_y.o.step aB); replace HB := J (za HB.o aB); have K_r := J (show B3 w3 g_r false none 0 0 0 from aG); clear aK aG aB)
  | fail)
 have hb : Below w3.heap.size w3 w3.drew := zU (Below.refl _ _); replace R1 := J (R1.o.step hb); replace R2 := J (R2.o.step hb); replace K_x := J (K_x.o.step hb); replace K_y := J (K_y.o.step hb); replace K_r := J (K_r.o.step hb); replace HB := J (za HB.o hb); clear hb; have c_x_0 := K_x.o.c0; have c_x_1 := K_x.o.c1; have c_x_2 := K_x.o.c2; have c_y_0 := K_y.o.c0; have c_y_1 := K_y.o.c1; have c_y_2 := K_y.o.c2; have aC := K_r.o.c0; have aD := K_r.o.c1; have aE := K_r.o.c2; refine zaw (n := 5) (S := fun w' => w'.cell? ⟨g_x, 0, none⟩ = some (.bool n1) ∧ w'.cell? ⟨g_x, 1, none⟩ = some (.slice A1 l1.length c1) ∧ w'.cell? ⟨g_x, 2, none⟩ = some (.int .i64 e1) ∧ w'.cell? ⟨g_y, 0, none⟩ = some (.bool n2) ∧ w'.cell? ⟨g_y, 1, none⟩ = some (.slice A2 l2.length c2) ∧ w'.cell? ⟨g_y, 2, none⟩ = some (.int .i64 e2)) (ds := [4]) (bl_ 5 0) yK_ rfl rfl ⟨K_x.o.c0, K_x.o.c1, K_x.o.c2, K_y.o.c0, K_y.o.c1, K_y.o.c2⟩ (fun hHeld => ?_); refine zS rminus.tab1 rminus.bits1 (fun HT_ HW_ => ?_); generalize w3.drew = w4 at R1 R2 K_x K_y K_r HB hHeld ⊢; refine tk_ 0 ?_; refine tk_ 1 ?_; refine on_ HT_ 2 (some 7) (bl_ 5 7) fun K hK => ?_
 refine go1_ Try.func87 #[.agg #[.bool n2, .slice A2 l2.length c2, .int .i64 e2]] ?_; refine (turned_calls n2 A2 l2.length c2 e2 w4).mono ?_; rw [← HM.o]; rintro e_ w5 ⟨rfl, hb⟩; refine ⟨_, rfl, ?_⟩; replace R1 := J (R1.o.step hb); replace R2 := J (R2.o.step hb); replace K_x := J (K_x.o.step hb); replace K_y := J (K_y.o.step hb); replace K_r := J (K_r.o.step hb); replace HB := J (za HB.o hb); clear hb; refine hK.out _ _ ⟨K_x.o.c0, K_x.o.c1, K_x.o.c2, K_y.o.c0, K_y.o.c1, K_y.o.c2⟩ (fun hHeld => ?_); clear hK K; refine nm_ ?_; refine on_ HT_ 3 (some 8) (bl_ 5 15) fun K hK => ?_
 refine go1_ Try.func80 #[.agg #[.bool n1, .slice A1 l1.length c1, .int .i64 e1], .agg #[.bool m2, .slice A2 l2.length c2, .int .i64 e2]] ?_; have pc := plus_calls n1 m2 A1 c1 l1 e1 A2 c2 l2 e2 N w5 R1.o R2.o hN hE; rw [← HE0.o, HS.o] at pc; refine pc.mono ?_; clear pc; rintro e_ w6 ⟨nb, A, c, l, e, rfl, hr, hv, _, hb⟩; refine ⟨_, rfl, ?_⟩; replace R1 := J (R1.o.step hb); replace R2 := J (R2.o.step hb); replace K_x := J (K_x.o.step hb); replace K_y := J (K_y.o.step hb); replace K_r := J (K_r.o.step hb); replace HB := J (za HB.o hb); have R_t := J hr; have HV := J hv; clear hb hr hv; have aH := K_r.o.f 0; have aI := K_r.o.f 1; have aJ := K_r.o.f 2; have aC := K_r.o.c0; have aD := K_r.o.c1; have aE := K_r.o.c2; refine hK.out _ _ ⟨K_x.o.c0, K_x.o.c1, K_x.o.c2, K_y.o.c0, K_y.o.c1, K_y.o.c2⟩ (fun hHeld => ?_); clear hK K; refine nm_ ?_; refine last_ (i := 4) (N := none) (bl_ 5 31) rfl rfl (zaY HT_.o yK_) yD_ (fun K hK => ?_); refine skip_ (w1 := ?_) (by rfl) rfl ?_ ?_; rotate_left; (focus (go_simp; first | done | rfl)); refine hK.out _ _ ?_; clear hK K; refine zaL (zad HT_.o yK_) ?_; clear aC aD aE aH aI aJ
 have aA := zx w6 g_r 0 (.bool nb); replace R1 := J (R1.o.put K_r.o aA); replace R2 := J (R2.o.put K_r.o aA); replace R_t := J (R_t.o.put K_r.o aA); replace K_x := J (K_x.o.put aA N_r_x.o); replace K_y := J (K_y.o.put aA N_r_y.o); replace HB := J (HB.o.grown aA HB.o.size (fun k_ aL => by cases aL; exact L_r.o)); replace K_r := J (show B3 (w6.setCell ⟨g_r, 0, none⟩ (.bool nb)) g_r nb none 0 0 0 from zav K_r.o 0 _); clear aA; generalize w6.setCell ⟨g_r, 0, none⟩ (.bool nb) = w7 at HB R1 R2 R_t K_x K_y K_r ⊢; have aA := zx w7 g_r 1 (.slice A l.length c); replace R1 := J (R1.o.put K_r.o aA); replace R2 := J (R2.o.put K_r.o aA); replace R_t := J (R_t.o.put K_r.o aA); replace K_x := J (K_x.o.put aA N_r_x.o); replace K_y := J (K_y.o.put aA N_r_y.o); replace HB := J (HB.o.grown aA HB.o.size (fun k_ aL => by cases aL; exact L_r.o)); replace K_r := J (show B3 (w7.setCell ⟨g_r, 1, none⟩ (.slice A l.length c)) g_r nb A l.length c 0 from zav K_r.o 1 _); clear aA; generalize w7.setCell ⟨g_r, 1, none⟩ (.slice A l.length c) = w8 at HB R1 R2 R_t K_x K_y K_r ⊢
 have aA := zx w8 g_r 2 (.int .i64 e); replace R1 := J (R1.o.put K_r.o aA); replace R2 := J (R2.o.put K_r.o aA); replace R_t := J (R_t.o.put K_r.o aA); replace K_x := J (K_x.o.put aA N_r_x.o); replace K_y := J (K_y.o.put aA N_r_y.o); replace HB := J (HB.o.grown aA HB.o.size (fun k_ aL => by cases aL; exact L_r.o)); replace K_r := J (show B3 (w8.setCell ⟨g_r, 2, none⟩ (.int .i64 e)) g_r nb A l.length c e from zav K_r.o 2 _); clear aA; generalize w8.setCell ⟨g_r, 2, none⟩ (.int .i64 e) = w9 at HB R1 R2 R_t K_x K_y K_r ⊢; go_wp2_with fail; refine bodyPost_ret (results_cell_row rfl _ _ g_r 101 #[.bool nb, .slice A l.length c, .int .i64 e] (0, 0) _ rfl K_r.o Try.underlying101 rfl yK_) rfl ?_; exact ⟨nb, A, c, l, e, by first | done | rfl, R_t.o, by rw [HV.o, Int.neg_mul]; exact Int.sub_eq_add_neg.symm, HB.o⟩
theorem rcmp_calls (n1 n2 : Bool) (A1 : Option Addr) (c1 : Nat) (l1 : List Int) (e1 : Int) (A2 : Option Addr) (c2 : Nat) (l2 : List Int) (e2 : Int) (N : Nat) (w : World) (r1 : Ru w A1 c1 l1 N) (r2 : Ru w A2 c2 l2 N) (hN : N ≤ 1000000) (hE : (-100000 ≤ e1 ∧ e1 ≤ 100000) ∧ (-100000 ≤ e2 ∧ e2 ≤ 100000)) :
  Calls Try.prog 48 #[.agg #[.bool n1, .slice A1 l1.length c1, .int .i64 e1], .agg #[.bool n2, .slice A2 l2.length c2, .int .i64 e2]] w fun o w' => o = .returned (.int .i64 (sgnI (sv n1 (nv l1) * 2 ^ (e1 - lvE l1 e1 l2 e2).toNat - sv n2 (nv l2) * 2 ^ (e2 - lvE l1 e1 l2 e2).toNat))) ∧ Below w.heap.size w w' := by
 have hu101 := Try.underlying101; have HB := J (Below.refl w.heap.size w); have R1 := J r1; have R2 := J r2; have pc := fun w0 a b => rminus_calls n1 n2 A1 c1 l1 e1 A2 c2 l2 e2 N w0 a b hN hE
 generalize sv n1 (nv l1) * 2 ^ (e1 - lvE l1 e1 l2 e2).toNat - sv n2 (nv l2) * 2 ^ (e2 - lvE l1 e1 l2 e2).toNat = V at *
 clear r1 r2; have PC := J pc; clear pc; go_enter Try.func48, Try.ntmps48
 go_wp2_with (first
  | ((with_reducible refine zf (N := 2) rfl ?_); refine zah 2 (cs := #[.bool n1, .slice A1 l1.length c1, .int .i64 e1]) (t := 101) ?_; intro g_x aJ w1 aI aA; have L_x := J (show w.heap.size ≤ g_x by have := HB.o.size; omega); replace R1 := J (R1.o.step aA); replace R2 := J (R2.o.step aA); replace HB := J (za HB.o aA); have K_x := J (show B3 w1 g_x n1 A1 l1.length c1 e1 from aI); clear aJ aI aA)
  | ((with_reducible refine zf (N := 3) rfl ?_); refine zah 3 (cs := #[.bool n2, .slice A2 l2.length c2, .int .i64 e2]) (t := 101) ?_; intro g_y aJ w2 aI aA; have N_y_x := J (show g_x ≠ g_y by have := K_x.o.lt; omega); have L_y := J (show w.heap.size ≤ g_y by have := HB.o.size; omega); replace R1 := J (R1.o.step aA); replace R2 := J (R2.o.step aA); replace K_x := J (K_x.o.step aA); replace HB := J (za HB.o aA); have K_y := J (show B3 w2 g_y n2 A2 l2.length c2 e2 from aI); clear aJ aI aA; have aB := K_x.o.c0; have aC := K_x.o.c1; have aD := K_x.o.c2; have aE := K_y.o.c0; have aG := K_y.o.c1; have aH := K_y.o.c2)
  | fail)
 refine (PC.o w2 R1.o R2.o).mono ?_; rintro o_ w3 ⟨nb, A, c, l, e, rfl, hr, hv, hb⟩; replace R1 := J (R1.o.step hb); replace R2 := J (R2.o.step hb); replace K_x := J (K_x.o.step hb); replace K_y := J (K_y.o.step hb); replace HB := J (za HB.o hb); have R_t := J hr; have HV := J hv; clear hb hr hv; clear aB aC aD aE aG aH; go_wp2_with fail
 have hs : zaN.f nb l e = some (sgnI V) := by
  unfold zaN.f; rw [← HV.o]
  by_cases h : (l.length : Int) = 0
  ·rw [if_pos h, List.length_eq_zero_iff.1 (by omega : l.length = 0)]; simp [nv, zbm, sgnI_zero]
  ·have := nv_pos R_t.o.u R_t.o.t yO_; rw [if_neg h]; cases nb
   ·rw [if_neg yD_, show sv false (nv l) = nv l from rfl, zbi this]
   ·rw [if_pos rfl, show sv true (nv l) = - nv l from rfl, zbh yO_]
 refine (zaN.calls nb A c l e (sgnI V) w3 R_t.o.row R_t.o.cap hs).mono ?_; rintro o_ w4 ⟨rfl, hb⟩; replace R1 := J (R1.o.step hb); replace R2 := J (R2.o.step hb); replace R_t := J (R_t.o.step hb); replace K_x := J (K_x.o.step hb); replace K_y := J (K_y.o.step hb); replace HB := J (za HB.o hb); clear hb hs; go_wp2_with fail; go_ret; exact ⟨by first | done | rfl, HB.o⟩
end Go.Proofs.Ytlidbaejhmamjaa.NW
namespace Go.Proofs.Ytlidbaejhmamjaa.PB
open Go.RowKit YtlidbaejhmamjaaW.PrintWords YtlidbaejhmamjaaW.PrintLast YtlidbaejhmamjaaW.PrintMore
attribute [local go_sem] zao zaq zaB zaC zae zaf zap zar   -- for this text's walks alone
end Go.Proofs.Ytlidbaejhmamjaa.PB
namespace Go.Proofs.Ytlidbaejhmamjaa.PB
open Go.RowKit YtlidbaejhmamjaaW.PrintWords YtlidbaejhmamjaaW.PrintLast YtlidbaejhmamjaaW.PrintMore
attribute [local go_sem] zao zaq zaB zaC zae zaf zap zar   -- for this text's walks alone
end Go.Proofs.Ytlidbaejhmamjaa.PB
namespace Go.Proofs.Ytlidbaejhmamjaa.PB
open Go.RowKit YtlidbaejhmamjaaW.PrintWords YtlidbaejhmamjaaW.PrintLast YtlidbaejhmamjaaW.PrintMore
attribute [local go_sem] zao zaq zaB zaC zae zaf zap zar   -- for this text's walks alone
def zaW.f (k : Nat) (aA : List Int) (aB : List Int) (aC : List Int) (aD : List Int) : Option (Bool) := (zq.f k aA aC).bind fun t137 => (if t137 = true then ((zq.f k aB aD).bind fun t138 => (some t138)) else (some false))
theorem zaW.calls (k : Nat) (aP : Option Addr) (aR : Nat) (aE : List Int) (aV : Option Addr) (aX : Nat) (aH : List Int) (aQ : Option Addr) (aS : Nat) (aG : List Int) (aW : Option Addr) (aY : Nat) (aI : List Int) (r : Bool) (w : World) (bH : Kd.C (Kd.int .i64) w aP aE.length aE) (bD : aE.length ≤ aR) (bI : Kd.C (Kd.int .i64) w aV aH.length aH) (bE : aH.length ≤ aX) (bJ : Kd.C (Kd.int .i64) w aQ aG.length aG) (bF : aG.length ≤ aS) (bK : Kd.C (Kd.int .i64) w aW aI.length aI) (bG : aI.length ≤ aY) (h : zaW.f k aE aH aG aI = some r) :
  Calls Try.prog 13 #[.agg #[.slice aP aE.length aR, .slice aV aH.length aX], .agg #[.slice aQ aG.length aS, .slice aW aI.length aY]] w fun e w' => e = .returned (.bool r) ∧ Below w.heap.size w w' := by
 have hu24 := Try.underlying24; have bB := J bH; have aZ := J bD; clear bH bD; have bP := J bI; have bN := J bE; clear bI bE; have bC := J bJ; have bA := J bF; clear bJ bF; have bQ := J bK; have bO := J bG; clear bK bG; have HB := J (Below.refl w.heap.size w); have H : ((zq.f k aE aG).bind fun t137 => (if t137 = true then ((zq.f k aH aI).bind fun t138 => (some t138)) else (some false))) = some r := h; clear h; replace H := Option.bind_eq_some_iff.mp H; obtain ⟨t137, A30, H⟩ := H; replace H : (if t137 = true then ((zq.f k aH aI).bind fun t138 => (some t138)) else (some false)) = some r := H; have A3 := J A30; clear A30
 by_cases c4 : t137 = true
 ·subst c4; have H1 : ((zq.f k aH aI).bind fun t138 => (some t138)) = some r := by rw [if_pos rfl] at H; exact H
  clear H; have H := H1; clear H1; replace H := Option.bind_eq_some_iff.mp H; obtain ⟨t138, A50, H⟩ := H; replace H : (some t138) = some r := H; have A5 := J A50; clear A50; obtain rfl := Option.some.inj H; go_enter Try.func13, Try.ntmps13
  go_wp2_with (first | ((with_reducible refine zf (N := 2) rfl ?_); refine zah 2 (cs := #[.slice aP aE.length aR, .slice aV aH.length aX]) (t := 24) ?_; intro aJ hg w6 hbox hb; have aA := J (hbox); have aT := J ((by rw [hg]; exact (zh bw_) : w.heap.size ≤ aJ)); replace HB := J (za bw_ hb); have bL := aT; clear hb hbox hg) | ((with_reducible refine zf (N := 3) rfl ?_); refine zah 3 (cs := #[.slice aQ aG.length aS, .slice aW aI.length aY]) (t := 24) ?_; intro aK hg w7 hbox hb; have aC := J (hbox); have aU := J ((by rw [hg]; exact (zh bw_) : w.heap.size ≤ aK)); replace HB := J (za bw_ hb); have bM := aU; have aB := J ((by rw [hg]; exact Nat.ne_of_lt (fl_ aA.o) : aJ ≠ aK)); replace aA := J (fr_ aA.o hb); have aD := J aB.o.symm; clear hb hbox hg; have hnb8 := aB.o; have hnc8 := aD.o; have hcz9_0 := cz_ aA.o 0 rfl; have hcz9_1 := cz_ aA.o 1 rfl; have hfz9_0 := zb aA.o 0; have hfz9_1 := zb aA.o 1; have hcz10_0 := cz_ aC.o 0 rfl; have hcz10_1 := cz_ aC.o 1 rfl; have hfz10_0 := zb aC.o 0; have hfz10_1 := zb aC.o 1) | ((with_reducible refine zM (f := 23) rfl ?_); refine gl_ 9 Try.func23 #[.slice aP aE.length aR, .slice aQ aG.length aS] ?_; (with_reducible refine (zq.calls k _ _ aE _ _ aG true _ ?aL ?aM ?aN ?aO A3.o).mono ?_); (case aL => exact sc_ (Kd.zm bB.o HB.o)); (case aM => exact aZ.o); (case aN => exact sc_ (Kd.zm bC.o HB.o)); (case aO => exact bA.o); rintro e w' ⟨rfl, ⟨nd, rfl⟩⟩; refine ⟨_, rfl, ?_⟩) | (go_at_call 23; (with_reducible refine (zq.calls k _ _ aH _ _ aI t138 _ ?aL ?aM ?aN ?aO A5.o).mono ?_); (case aL => repeat (first | exact (Kd.zm bP.o bw_) | (with_reducible refine Kd.C_alloc ?_ _) | (with_reducible refine Kd.C_drewN ?_ _) | (with_reducible refine Kd.C_drew ?_))); (case aM => exact bN.o); (case aN => repeat (first | exact (Kd.zm bQ.o bw_) | (with_reducible refine Kd.C_alloc ?_ _) | (with_reducible refine Kd.C_drewN ?_ _) | (with_reducible refine Kd.C_drew ?_))); (case aO => exact bO.o); rintro e w' ⟨rfl, ⟨nd, rfl⟩⟩))
  go_ret; exact ⟨er_, bw_⟩
 ·replace c4 := Bool.eq_false_iff.mpr c4; subst c4; have H1 : (some false) = some r := by rw [if_neg (show ¬ (false = true) by decide)] at H; exact H
  clear H; have H := H1; clear H1; obtain rfl := Option.some.inj H; go_enter Try.func13, Try.ntmps13
  go_wp2_with (first | ((with_reducible refine zf (N := 2) rfl ?_); refine zah 2 (cs := #[.slice aP aE.length aR, .slice aV aH.length aX]) (t := 24) ?_; intro aJ hg w11 hbox hb; have aA := J (hbox); have aT := J ((by rw [hg]; exact (zh bw_) : w.heap.size ≤ aJ)); replace HB := J (za bw_ hb); have bL := aT; clear hb hbox hg) | ((with_reducible refine zf (N := 3) rfl ?_); refine zah 3 (cs := #[.slice aQ aG.length aS, .slice aW aI.length aY]) (t := 24) ?_; intro aK hg w12 hbox hb; have aC := J (hbox); have aU := J ((by rw [hg]; exact (zh bw_) : w.heap.size ≤ aK)); replace HB := J (za bw_ hb); have bM := aU; have aB := J ((by rw [hg]; exact Nat.ne_of_lt (fl_ aA.o) : aJ ≠ aK)); replace aA := J (fr_ aA.o hb); have aD := J aB.o.symm; clear hb hbox hg; have hnb13 := aB.o; have hnc13 := aD.o; have hcz14_0 := cz_ aA.o 0 rfl; have hcz14_1 := cz_ aA.o 1 rfl; have hfz14_0 := zb aA.o 0; have hfz14_1 := zb aA.o 1; have hcz15_0 := cz_ aC.o 0 rfl; have hcz15_1 := cz_ aC.o 1 rfl; have hfz15_0 := zb aC.o 0; have hfz15_1 := zb aC.o 1) | ((with_reducible refine zM (f := 23) rfl ?_); refine gl_ 9 Try.func23 #[.slice aP aE.length aR, .slice aQ aG.length aS] ?_; (with_reducible refine (zq.calls k _ _ aE _ _ aG false _ ?aL ?aM ?aN ?aO A3.o).mono ?_); (case aL => exact sc_ (Kd.zm bB.o HB.o)); (case aM => exact aZ.o); (case aN => exact sc_ (Kd.zm bC.o HB.o)); (case aO => exact bA.o); rintro e w' ⟨rfl, ⟨nd, rfl⟩⟩; refine ⟨_, rfl, ?_⟩)); go_ret
  exact ⟨er_, bw_⟩
end Go.Proofs.Ytlidbaejhmamjaa.PB
namespace Go.Proofs.Ytlidbaejhmamjaa.PB
open Go.RowKit YtlidbaejhmamjaaW.PrintWords YtlidbaejhmamjaaW.PrintLast YtlidbaejhmamjaaW.PrintMore
attribute [local go_sem] zao zaq zaB zaC zae zaf zap zar   -- for this text's walks alone
mutual
def zl.j0 : Nat → Int → Bool → List Int → List Int → Option (Int)
 | 0, _, _, _, _ => none
 | k + 1, x1, x25, aA, aB => if x25 = true then (some 180) else (zl.l0 k x1 0 aA aB)
def zl.l0 : Nat → Int → Int → List Int → List Int → Option (Int)
 | 0, _, _, _, _ => none
 | k + 1, x1, x5, aA, aB => if x5 < x1 then (if 0 ≤ x5 then (if x5 < (aA.length : Int) then (if (rd aA x5) < 0 then (some 180) else (if (rd aA x5) > 8 then (some 180) else (if x5 < (aB.length : Int) then (if (rd aB x5) < 0 then (some 180) else (if 0 ≤ (rd aA x5) then (if (rd aB x5) ≥ (shl .i64 1 (rd aA x5)) then (some 180) else (zl.l0 k x1 (wrap64 (x5 + 1)) aA aB)) else (none))) else (none)))) else (none)) else (none)) else (some 0)
end
def zl.f (k : Nat) (aA : List Int) (aB : List Int) (a1 : Int) : Option (Int) := if a1 < 0 then (zl.j0 k a1 true aA aB) else (if a1 > 256 then (zl.j0 k a1 true aA aB) else (if (aA.length : Int) = a1 then (zl.j0 k a1 ((aB.length : Int) != a1) aA aB) else (zl.j0 k a1 true aA aB)))
theorem zl.calls (k : Nat) (aZ : Option Addr) (bB : Nat) (aC : List Int) (bA : Option Addr) (bC : Nat) (aG : List Int) (a1 : Int) (r : Int) (w : World) (cB : Kd.C (Kd.int .i64) w aZ aC.length aC) (bZ : aC.length ≤ bB) (cC : Kd.C (Kd.int .i64) w bA aG.length aG) (cA : aG.length ≤ bC) (h : zl.f k aC aG a1 = some r) :
  Calls Try.prog 18 #[.agg #[.slice aZ aC.length bB, .slice bA aG.length bC], .int .i64 a1] w fun e w' => e = .returned (.int .i64 r) ∧ Below w.heap.size w w' := by
 have hu24 := Try.underlying24; have aK := J cB; have HC0_0 := J bZ; clear cB bZ; have aW := J cC; have HC0_1 := J cA; clear cC cA; have HB := J (Below.refl w.heap.size w); have H : (if a1 < 0 then (zl.j0 k a1 true aC aG) else (if a1 > 256 then (zl.j0 k a1 true aC aG) else (if (aC.length : Int) = a1 then (zl.j0 k a1 ((aG.length : Int) != a1) aC aG) else (zl.j0 k a1 true aC aG)))) = some r := h; clear h; have cX := J H; clear H; go_enter Try.func18, Try.ntmps18; go_upto_region 1 with (first | ((with_reducible refine zf (N := 2) rfl ?_); (try (refine zR (by rfl) ?_; dsimp only)); refine zah 2 (cs := #[.slice aZ aC.length bB, .slice bA aG.length bC]) (t := 24) ?_; intro aR hg w4 hbox hb; have aB := J (hbox); have aV := J ((by rw [hg]; exact (zh bw_) : w.heap.size ≤ aR)); replace HB := J (za bw_ hb); have bY := aV; clear hb hbox hg))
 repeat (go_quiet (first | ((with_reducible refine zf (N := 2) rfl ?_); (try (refine zR (by rfl) ?_; dsimp only)); refine zah 2 (cs := #[.slice aZ aC.length bB, .slice bA aG.length bC]) (t := 24) ?_; intro aR hg w4 hbox hb; have aB := J (hbox); have aV := J ((by rw [hg]; exact (zh bw_) : w.heap.size ≤ aR)); replace HB := J (za bw_ hb); have bY := aV; clear hb hbox hg)); go_upto_region 1 with (first | ((with_reducible refine zf (N := 2) rfl ?_); (try (refine zR (by rfl) ?_; dsimp only)); refine zah 2 (cs := #[.slice aZ aC.length bB, .slice bA aG.length bC]) (t := 24) ?_; intro aR hg w4 hbox hb; have aB := J (hbox); have aV := J ((by rw [hg]; exact (zh bw_) : w.heap.size ≤ aR)); replace HB := J (za bw_ hb); have bY := aV; clear hb hbox hg)))
 (try simp only [Act.put, sI_, s0_, s1_])
 go_cut [25] (fun v25 wc => ∃ (kq : Nat) (bK : Bool), v25 = .bool bK ∧ ze (zl.j0 kq a1 bK aC aG = some r) ∧ ze (kq ≤ k) ∧ ze (wc.heap[aR]? = some (.cells #[(.slice aZ aC.length bB), (.slice bA aG.length bC)] 24 (0, 0))) ∧ ze (Below w.heap.size w wc))
 case first =>
  have H := cX.o; clear cX
  by_cases c5 : a1 < 0
  ·rw [if_pos c5] at H; have bD := decide_eq_true c5; clear c5
   (first | rw [bD] | (simp only [zat, zaM]; rw [bD]) | skip)
   have H' := J H; clear H; go_wp2
   repeat (go_quiet (fail); try go_wp2)
   go_meet
   case rel => exact ⟨_, (true), rs_, H', ⟨om_⟩, ⟨pe_ aB.o⟩, ⟨bw_⟩⟩
  ·rw [if_neg c5] at H; have bD := decide_eq_false c5; clear c5
   (first | rw [bD] | (simp only [zat, zaM]; rw [bD]) | skip)
   by_cases c6 : a1 > 256
   ·rw [if_pos c6] at H; have cD := decide_eq_true c6; clear c6; have H' := J H; clear H; go_wp2
    repeat (go_quiet (fail); try go_wp2)
    go_meet
    case rel => exact ⟨_, (true), rs_, H', ⟨om_⟩, ⟨pe_ aB.o⟩, ⟨bw_⟩⟩
   ·rw [if_neg c6] at H; have cD := decide_eq_false c6; clear c6
    by_cases c7 : (aC.length : Int) = a1
    ·rw [if_pos c7] at H; have cE : ((aC.length : Int) == a1) = true := beq_iff_eq.mpr c7; have cF : ((aC.length : Int) != a1) = false := bne_eq_false_iff_eq.mpr c7; clear c7; have H' := J H; clear H; have bO := cz_ aB.o 0 rfl; have bP := cz_ aB.o 1 rfl; have bS := zb aB.o 0; have bT := zb aB.o 1; go_wp2
     repeat (go_quiet (fail); try go_wp2)
     go_meet
     case rel => exact ⟨_, (((aG.length : Int) != a1)), rs_, H', ⟨om_⟩, ⟨pe_ aB.o⟩, ⟨bw_⟩⟩
    ·rw [if_neg c7] at H; have cE : ((aC.length : Int) == a1) = false := beq_eq_false_iff_ne.mpr c7; have cF : ((aC.length : Int) != a1) = true := bne_iff_ne.mpr c7; have H' := J H; clear H; have bQ := cz_ aB.o 0 rfl; have bR := cz_ aB.o 1 rfl; have bU := zb aB.o 0; have bV := zb aB.o 1; go_wp2
     repeat (go_quiet (fail); try go_wp2)
     go_meet
     case rel => exact ⟨_, (true), rs_, H', ⟨om_⟩, ⟨pe_ aB.o⟩, ⟨bw_⟩⟩
 case rest =>
  clear cX
  try clear c1
  try clear p2
  try clear c5
  try clear bD
  try clear c6
  try clear cD
  try clear c7
  try clear cE
  try clear cF
  try clear bO
  try clear bP
  try clear bQ
  try clear bR
  try clear bS
  try clear bT
  try clear bU
  try clear bV
  obtain ⟨kq, bK, rfl, HA, HJ2, aB, HB⟩ := hcut
  cases kq with
  | zero => exact absurd HA.o (by simp [zl.j0])
  | succ cZ =>
   have H := HA.o; clear HA; simp only [zl.j0] at H
   by_cases cN : bK = true
   ·subst cN; have H1 : (some 180) = some r := by rw [if_pos rfl] at H; exact H
    clear H; have H := H1; clear H1; obtain rfl := Option.some.inj H; go_wp2
    repeat (go_quiet (fail); try go_wp2)
    go_ret; exact ⟨er_, bw_⟩
   ·replace cN := Bool.eq_false_iff.mpr cN; subst cN; have H1 : (zl.l0 cZ a1 0 aC aG) = some r := by rw [if_neg (show ¬ (false = true) by decide)] at H; exact H
    clear H; have H := H1; clear H1; have H' := J H; clear H; go_wp2
    repeat (go_quiet (fail); try go_wp2)
    go_loopg [5] cZ (fun kq v5 w' => ∃ (aA : Int), v5 = .int .i64 aA ∧ ze (zl.l0 kq a1 aA aC aG = some r) ∧ ze (kq ≤ cZ) ∧ ze (w'.heap[aR]? = some (.cells #[(.slice aZ aC.length bB), (.slice bA aG.length bC)] 24 (0, 0))) ∧ ze (Below w.heap.size w w'))
    case atStart => exact ⟨(0), rs_, H', ⟨Nat.le_refl _⟩, ⟨pe_ aB.o⟩, ⟨bw_⟩⟩
    case round =>
     clear H'
     try clear c1
     try clear p2
     try clear c5
     try clear bD
     try clear c6
     try clear cD
     try clear c7
     try clear cE
     try clear cF
     try clear cN
     try clear bO
     try clear bP
     try clear bQ
     try clear bR
     try clear bS
     try clear bT
     try clear bU
     try clear bV
     try clear p2
     obtain ⟨aA, rfl, HA, HK2, aB, HB⟩ := hrel
     cases gk with
     | zero => exact absurd HA.o (by simp [zl.l0])
     | succ k2 =>
      have H := HA.o; clear HA; simp only [zl.l0] at H
      by_cases cI : aA < a1
      ·rw [if_pos cI] at H; have cO := decide_eq_true cI; clear cI
       by_cases cU : 0 ≤ aA
       ·rw [if_pos cU] at H; have c12b0 := decide_eq_true cU; clear cU
        by_cases cV : aA < (aC.length : Int)
        ·rw [if_pos cV] at H; have c13b0 := decide_eq_true cV; clear cV
         by_cases cJ : (rd aC aA) < 0
         ·rw [if_pos cJ] at H; have cP := decide_eq_true cJ; clear cJ; obtain rfl := Option.some.inj H; have hcz15_0 := cz_ aB.o 0 rfl; have hcz15_1 := cz_ aB.o 1 rfl; have hfz15_0 := zb aB.o 0; have hfz15_1 := zb aB.o 1; have aI : 0 ≤ (aA : Int) := od_; have aJ : aA < (aC.length : Int) := od_; obtain ⟨aL, aU, aD⟩ := Kd.zQ aK.o aA aI aJ; cases aU; replace aD := bx_ HB.o aD; replace aI := eq_true aI; replace aJ := eq_true aJ; go_wp2
          repeat (go_quiet (fail); try go_wp2)
          go_ret; exact ⟨er_, bw_⟩
         ·rw [if_neg cJ] at H; have cP := decide_eq_false cJ; clear cJ
          by_cases cK : (rd aC aA) > 8
          ·rw [if_pos cK] at H; have cQ := decide_eq_true cK; clear cK; obtain rfl := Option.some.inj H; have hcz17_0 := cz_ aB.o 0 rfl; have hcz17_1 := cz_ aB.o 1 rfl; have hfz17_0 := zb aB.o 0; have hfz17_1 := zb aB.o 1; have aI : 0 ≤ (aA : Int) := od_; have aJ : aA < (aC.length : Int) := od_; obtain ⟨aL, aU, aD⟩ := Kd.zQ aK.o aA aI aJ; cases aU; replace aD := bx_ HB.o aD; replace aI := eq_true aI; replace aJ := eq_true aJ; have aM : 0 ≤ (aA : Int) := od_; have aN : aA < (aC.length : Int) := od_; obtain ⟨aQ, bE, aE⟩ := Kd.zQ aK.o aA aM aN; obtain rfl : aL = aQ := (by injection bE)
           replace aE := bx_ HB.o aE; replace aM := eq_true aM; replace aN := eq_true aN; go_wp2
           repeat (go_quiet (fail); try go_wp2)
           go_ret; exact ⟨er_, bw_⟩
          ·rw [if_neg cK] at H; have cQ := decide_eq_false cK; clear cK
           by_cases cW : aA < (aG.length : Int)
           ·rw [if_pos cW] at H; have c18b0 := decide_eq_true cW; clear cW
            by_cases cL : (rd aG aA) < 0
            ·rw [if_pos cL] at H; have cR := decide_eq_true cL; clear cL; obtain rfl := Option.some.inj H; have hcz20_0 := cz_ aB.o 0 rfl; have hcz20_1 := cz_ aB.o 1 rfl; have hfz20_0 := zb aB.o 0; have hfz20_1 := zb aB.o 1; have aI : 0 ≤ (aA : Int) := od_; have aJ : aA < (aC.length : Int) := od_; obtain ⟨aL, aU, aD⟩ := Kd.zQ aK.o aA aI aJ; cases aU; replace aD := bx_ HB.o aD; replace aI := eq_true aI; replace aJ := eq_true aJ; have aM : 0 ≤ (aA : Int) := od_; have aN : aA < (aC.length : Int) := od_; obtain ⟨aQ, bE, aE⟩ := Kd.zQ aK.o aA aM aN; obtain rfl : aL = aQ := (by injection bE)
             replace aE := bx_ HB.o aE; replace aM := eq_true aM; replace aN := eq_true aN; have aS : 0 ≤ (aA : Int) := od_; have aT : aA < (aG.length : Int) := od_; obtain ⟨bJ, bN, aH⟩ := Kd.zQ aW.o aA aS aT; cases bN; replace aH := bx_ HB.o aH; replace aS := eq_true aS; replace aT := eq_true aT; go_wp2
             repeat (go_quiet (fail); try go_wp2)
             go_ret; exact ⟨er_, bw_⟩
            ·rw [if_neg cL] at H; have cR := decide_eq_false cL; clear cL
             by_cases cS : 0 ≤ (rd aC aA)
             ·rw [if_pos cS] at H; have c21b0 := eq_true cS; have c21b1 := decide_eq_true cS; clear cS; obtain ⟨aY, aX⟩ : ∃ j_ : Int, (shl .i64 1 (rd aC aA)) = j_ := ⟨_, rfl⟩
              replace H : (if (rd aG aA) ≥ (aY) then (some 180) else (zl.l0 k2 a1 (wrap64 (aA + 1)) aC aG)) = some r := by first | (rw [aX] at H; exact H) | (simp only [aX] at H ⊢; exact H)
              have bW : (IntKind.i64.wrap (1 * 2 ^ min (rd aC aA).toNat 64)) = aY := aX; have bX : (rd aC aA) ≤ 64 → (IntKind.i64.wrap (1 * 2 ^ (rd aC aA).toNat)) = aY := shl_small aX; have hji22u : (IntKind.i64.wrap (2 ^ min (rd aC aA).toNat 64)) = aY := by have h_ := bW; rw [Int.one_mul] at h_; exact h_
              have hji22v : (rd aC aA) ≤ 64 → (IntKind.i64.wrap (2 ^ (rd aC aA).toNat)) = aY := fun cY => by have h_ := bX cY; rw [Int.one_mul] at h_; exact h_
              have hji22y : (wrap64 (1 * 2 ^ min (rd aC aA).toNat 64)) = aY := (zat _).symm.trans bW; have hji22x : (rd aC aA) ≤ 64 → (wrap64 (1 * 2 ^ (rd aC aA).toNat)) = aY := fun h_ => (zat _).symm.trans (bX h_)
              by_cases cM : (rd aG aA) ≥ (aY)
              ·rw [if_pos cM] at H; have cT := decide_eq_true cM; clear cM; obtain rfl := Option.some.inj H; have hcz24_0 := cz_ aB.o 0 rfl; have hcz24_1 := cz_ aB.o 1 rfl; have hfz24_0 := zb aB.o 0; have hfz24_1 := zb aB.o 1; have aI : 0 ≤ (aA : Int) := od_; have aJ : aA < (aC.length : Int) := od_; obtain ⟨aL, aU, aD⟩ := Kd.zQ aK.o aA aI aJ; cases aU; replace aD := bx_ HB.o aD; replace aI := eq_true aI; replace aJ := eq_true aJ; have aM : 0 ≤ (aA : Int) := od_; have aN : aA < (aC.length : Int) := od_; obtain ⟨aQ, bE, aE⟩ := Kd.zQ aK.o aA aM aN; obtain rfl : aL = aQ := (by injection bE)
               replace aE := bx_ HB.o aE; replace aM := eq_true aM; replace aN := eq_true aN; have aS : 0 ≤ (aA : Int) := od_; have aT : aA < (aG.length : Int) := od_; obtain ⟨bJ, bN, aH⟩ := Kd.zQ aW.o aA aS aT; cases bN; replace aH := bx_ HB.o aH; replace aS := eq_true aS; replace aT := eq_true aT; have bF : 0 ≤ (aA : Int) := od_; have bH : aA < (aG.length : Int) := od_; obtain ⟨bL, cG, aO⟩ := Kd.zQ aW.o aA bF bH; obtain rfl : bJ = bL := (by injection cG)
               replace aO := bx_ HB.o aO; replace bF := eq_true bF; replace bH := eq_true bH; have bG : 0 ≤ (aA : Int) := od_; have bI : aA < (aC.length : Int) := od_; obtain ⟨bM, cH, aP⟩ := Kd.zQ aK.o aA bG bI; obtain rfl : aL = bM := (by injection cH)
               replace aP := bx_ HB.o aP; replace bG := eq_true bG; replace bI := eq_true bI; go_wp2
               repeat (go_quiet (fail); try go_wp2)
               go_ret; exact ⟨by first | rfl | (simp [zaE, zaF] <;> rfl) | (simp only [← aX]; first | rfl | (simp [zaE, zaF] <;> rfl)) | (simp [*, zaE, zaF] <;> rfl), bw_⟩
              ·rw [if_neg cM] at H; have cT := decide_eq_false cM; clear cM; have H' := J H; clear H; have hcz25_0 := cz_ aB.o 0 rfl; have hcz25_1 := cz_ aB.o 1 rfl; have hfz25_0 := zb aB.o 0; have hfz25_1 := zb aB.o 1; have aI : 0 ≤ (aA : Int) := od_; have aJ : aA < (aC.length : Int) := od_; obtain ⟨aL, aU, aD⟩ := Kd.zQ aK.o aA aI aJ; cases aU; replace aD := bx_ HB.o aD; replace aI := eq_true aI; replace aJ := eq_true aJ; have aM : 0 ≤ (aA : Int) := od_; have aN : aA < (aC.length : Int) := od_; obtain ⟨aQ, bE, aE⟩ := Kd.zQ aK.o aA aM aN; obtain rfl : aL = aQ := (by injection bE)
               replace aE := bx_ HB.o aE; replace aM := eq_true aM; replace aN := eq_true aN; have aS : 0 ≤ (aA : Int) := od_; have aT : aA < (aG.length : Int) := od_; obtain ⟨bJ, bN, aH⟩ := Kd.zQ aW.o aA aS aT; cases bN; replace aH := bx_ HB.o aH; replace aS := eq_true aS; replace aT := eq_true aT; have bF : 0 ≤ (aA : Int) := od_; have bH : aA < (aG.length : Int) := od_; obtain ⟨bL, cG, aO⟩ := Kd.zQ aW.o aA bF bH; obtain rfl : bJ = bL := (by injection cG)
               replace aO := bx_ HB.o aO; replace bF := eq_true bF; replace bH := eq_true bH; have bG : 0 ≤ (aA : Int) := od_; have bI : aA < (aC.length : Int) := od_; obtain ⟨bM, cH, aP⟩ := Kd.zQ aK.o aA bG bI; obtain rfl : aL = bM := (by injection cH)
               replace aP := bx_ HB.o aP; replace bG := eq_true bG; replace bI := eq_true bI; go_wp2
               repeat (go_quiet (fail); try go_wp2)
               go_roundg k2
               case measure => have := HJ2.o; have := HK2.o; omega
               case rel => exact ⟨(wrap64 (aA + 1)), rs_, H', ⟨by have := HJ2.o; have := HK2.o; omega⟩, ⟨pe_ aB.o⟩, ⟨bw_⟩⟩
             ·rw [if_neg cS] at H; exact absurd H (by simp)
           ·rw [if_neg cW] at H; exact absurd H (by simp)
        ·rw [if_neg cV] at H; exact absurd H (by simp)
       ·rw [if_neg cU] at H; exact absurd H (by simp)
      ·rw [if_neg cI] at H; have cO := decide_eq_false cI; clear cI; obtain rfl := Option.some.inj H; go_wp2
       repeat (go_quiet (fail); try go_wp2)
       go_ret; exact ⟨er_, bw_⟩
end Go.Proofs.Ytlidbaejhmamjaa.PB
