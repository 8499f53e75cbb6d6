/- Part 4 of the proof of SplitRoomUpto: what the functions below it compute, each shown by a walk or by plain reasoning; no condition of its own. -/
import Derived.Test.YtlidbaejhmamjaaRM1
import Derived.Test.YtlidbaejhmamjaaRM2
import Derived.Test.YtlidbaejhmamjaaRM3
set_option linter.unusedVariables false
set_option linter.unusedSimpArgs false
set_option maxHeartbeats 16000000
set_option maxRecDepth 100000
namespace Go.Proofs.Ytlidbaejhmamjaa.PB
open Go.RowKit YtlidbaejhmamjaaW.PrintWords YtlidbaejhmamjaaW.PrintLast YtlidbaejhmamjaaW.PrintMore
attribute [local go_sem] zao zaq zaB zaC zae zaf zap zar   -- for this text's walks alone
def zam.f (aA : List Int) (aB : List Int) : Option (List Int × List Int) := if ([] : List Int).length + aA.length < 17592186044416 then (if ([] : List Int).length + aB.length < 17592186044416 then (some ((([] : List Int) ++ aA), (([] : List Int) ++ aB))) else (none)) else (none)
theorem zam.calls (bB : Option Addr) (bE : Nat) (aI : List Int) (bC : Option Addr) (bF : Nat) (aG : List Int) (r1 : List Int) (r2 : List Int) (w : World) (bK : Kd.C (Kd.int .i64) w bB aI.length aI) (bI : aI.length ≤ bE) (bL : Kd.C (Kd.int .i64) w bC aG.length aG) (bJ : aG.length ≤ bF) (h : zam.f aI aG = some (r1, r2)) :
  Calls Try.prog 26 #[.agg #[.slice bB aI.length bE, .slice bC aG.length bF]] w fun e w' => ∃ bY bZ : Value, e = .returned (.agg #[bY, bZ]) ∧ Kd.R (Kd.int .i64) 3 w' w.heap.size (fun k_ => some k_ ≠ (bZ : Value).ownBlock) bY r1 ∧ Kd.R (Kd.int .i64) 3 w' w.heap.size (fun k_ => some k_ ≠ (bY : Value).ownBlock) bZ r2 ∧ Below w.heap.size w w' := by
 have hu24 := Try.underlying24; have bQ := J bK; have HC0_0 := J bI; clear bK bI; have bR := J bL; have HC0_1 := J bJ; clear bL bJ; have HB := J (Below.refl w.heap.size w); have H : (if ([] : List Int).length + aI.length < 17592186044416 then (if ([] : List Int).length + aG.length < 17592186044416 then (some ((([] : List Int) ++ aI), (([] : List Int) ++ aG))) else (none)) else (none)) = some (r1, r2) := h; clear h
 by_cases c2 : ([] : List Int).length + aI.length < 17592186044416
 ·rw [if_pos c2] at H; have bU := J c2; clear c2; obtain ⟨aJ, aV⟩ : ∃ y_ : List Int, y_ = (([] : List Int) ++ aI) := ⟨_, rfl⟩
  replace H : (if ([] : List Int).length + aG.length < 17592186044416 then (some (aJ, (([] : List Int) ++ aG))) else (none)) = some (r1, r2) := by first | (rw [aV]; with_reducible exact H) | (have bM := (Option.bind_some _ _).symm.trans H; rw [aV]; with_reducible exact bM) | (have bM := (Option.bind_some _ _).symm.trans H; with_reducible exact bM) | with_reducible exact H | (rw [aV]; exact H) | exact H
  have bS := J aV; clear aV
  by_cases c3 : ([] : List Int).length + aG.length < 17592186044416
  ·rw [if_pos c3] at H; have bV := J c3; clear c3; obtain ⟨bA, aW⟩ : ∃ y_ : List Int, y_ = (([] : List Int) ++ aG) := ⟨_, rfl⟩
   replace H : (some (aJ, bA)) = some (r1, r2) := by first | (rw [aW]; with_reducible exact H) | (have bM := (Option.bind_some _ _).symm.trans H; rw [aW]; with_reducible exact bM) | (have bM := (Option.bind_some _ _).symm.trans H; with_reducible exact bM) | with_reducible exact H | (rw [aW]; exact H) | exact H
   have bT := J aW; clear aW; simp only [Option.some.injEq, Prod.mk.injEq] at H; obtain ⟨rfl, rfl⟩ := H; go_enter Try.func26, Try.ntmps26
   go_wp2_with (first | ((with_reducible refine zf (N := 1) rfl ?_); refine zah 1 (cs := #[.slice bB aI.length bE, .slice bC aG.length bF]) (t := 24) ?_; intro aU hg w4 hbox hb; have aC := J (hbox); have bN := J ((by rw [hg]; exact (zh bw_) : w.heap.size ≤ aU)); replace HB := J (za bw_ hb); have GE255 := bN; clear hb hbox hg) | ((with_reducible refine zf (N := 2) rfl ?_); refine zah 2 (cs := #[.slice none 0 0, .slice none 0 0]) (t := 24) ?_; intro aE hg w5 hbox hb; have aD := J (hbox); have bO := J ((by rw [hg]; exact (zh bw_) : w.heap.size ≤ aE)); replace HB := J (za bw_ hb); have GE256 := bO; have aK := J ((by rw [hg]; exact Nat.ne_of_lt (fl_ aC.o) : aU ≠ aE)); replace aC := J (fr_ aC.o hb); have aX := J aK.o.symm; clear hb hbox hg) | ((with_reducible refine zf (N := 3) rfl ?_); refine zah 3 (cs := #[.slice none 0 0, .slice none 0 0]) (t := 24) ?_; intro aH hg w6 hbox hb; have aA := J (hbox); have bP := J ((by rw [hg]; exact (zh bw_) : w.heap.size ≤ aH)); replace HB := J (za bw_ hb); have GE257 := bP; have aM := J ((by rw [hg]; exact Nat.ne_of_lt (fl_ aC.o) : aU ≠ aH)); replace aC := J (fr_ aC.o hb); have aY := J aM.o.symm; have aN := J ((by rw [hg]; exact Nat.ne_of_lt (fl_ aD.o) : aE ≠ aH)); replace aD := J (fr_ aD.o hb); have aZ := J aN.o.symm; clear hb hbox hg; have hnb7 := aY.o; have hnc7 := aM.o; have hnb8 := aZ.o; have hnc8 := aN.o; have hcz9_0 := cz_ aA.o 0 rfl; have hcz9_1 := cz_ aA.o 1 rfl; have hfz9_0 := zb aA.o 0; have hfz9_1 := zb aA.o 1; have hnb10 := aK.o; have hnc10 := aX.o; have hcz11_0 := cz_ aC.o 0 rfl; have hcz11_1 := cz_ aC.o 1 rfl; have hfz11_0 := zb aC.o 0; have hfz11_1 := zb aC.o 1) | ((with_reducible refine gate_builtin (b := .append) (xs := #[.tmp 5, .tmp 7]) rfl ?_); at_builtin; refine Kd.R_append_rows (Kd.int .i64) (w0 := w) w.heap.size rfl (.tmp 5) (.tmp 7) 22 3 (.int .i64 0) 8 rfl Try.underlying22 info3 rfl yD_ yO_ (.slice none 0 0) ([] : List Int) aI _ _ _ (fun _ => True) (fun _ => False) rfl rfl ?aO ?aR (fun _ _ h => h) (fun _ h => h.elim) ?aF ?aB ?aS ?aL ?_; (case aR => repeat (first | exact (Kd.zm bQ.o HB.o) | (with_reducible refine Kd.C_alloc ?_ _) | (with_reducible refine Kd.C_drewN ?_ _) | (with_reducible refine Kd.C_drew ?_))); (case aB => exact bw_); (case aF => exact (fun _ _ => trivial)); (case aO => exact ((Kd.zaI _ _ _ _ (fun _ => True)))); (case aS => exact (zh bw_)); (case aL => have := bU.o; omega); intro v259 w12 ho hb hg hat; rw [← bS.o] at ho; replace aC := J (za8 (g := aU) (o := .cells #[.slice bB aI.length bE, .slice bC aG.length bF] 24 (0, 0)) (pe_ aC.o) hg (by simp [Value.ownBlock])); replace aD := J (za8 (g := aE) (o := .cells #[.slice none 0 0, .slice none 0 0] 24 (0, 0)) (pe_ aD.o) hg (by simp [Value.ownBlock])); replace aA := J (za8 (g := aH) (o := .cells #[.slice none 0 0, .slice none 0 0] 24 (0, 0)) (pe_ aA.o) hg (by simp [Value.ownBlock])); replace HB := J (hb); have aQ := J (ho); clear ho hb hg hat; obtain ⟨aP, aT, bW⟩ := Kd.zJ aQ.o; subst bW; have hcz14_0 := cz_ aA.o 0 rfl; have hcz14_1 := cz_ aA.o 1 rfl; have hfz14_0 := zb aA.o 0; have hfz14_1 := zb aA.o 1; have hcz15_0 := cz_ aC.o 0 rfl; have hcz15_1 := cz_ aC.o 1 rfl; have hfz15_0 := zb aC.o 0; have hfz15_1 := zb aC.o 1) | ((with_reducible refine gate_builtin (b := .append) (xs := #[.tmp 11, .tmp 13]) rfl ?_); at_builtin; refine Kd.R_append_rows (Kd.int .i64) (w0 := w) w.heap.size rfl (.tmp 11) (.tmp 13) 22 3 (.int .i64 0) 8 rfl Try.underlying22 info3 rfl yD_ yO_ (.slice none 0 0) ([] : List Int) aG _ _ _ (fun k_ => some k_ ≠ (.slice aP aJ.length aT : Value).ownBlock) (fun _ => False) rfl rfl ?aO ?aR (fun _ _ h => h) (fun _ h => h.elim) ?aF ?aB ?aS ?aL ?_; (case aR => exact Kd.zm bR.o bw_); (case aB => exact bw_); (case aF => exact (fun k_ hk => Kd.fresh' (Kd.R_lt (by (with_reducible repeat (first | apply Kd.R_alloc | apply Kd.zH | apply Kd.zI)); exact (Kd.zB (Kd.zT (p := ⟨aH, 0, none⟩) (Kd.zV aQ.o aA.o yD_) (fun _ hk => hk.2) (.slice aP aJ.length aT)) (fun _ h_ => h_.1)))) k_ hk)); (case aO => exact ((Kd.zaI _ _ _ _ (fun k_ => some k_ ≠ (.slice aP aJ.length aT : Value).ownBlock)))); (case aS => exact (zh bw_)); (case aL => have := bV.o; omega); intro v262 w16 ho hb hg hat; rw [← bT.o] at ho; replace aC := J (za8 (g := aU) (o := .cells #[.slice bB aI.length bE, .slice bC aG.length bF] 24 (0, 0)) (hp_ aC.o) hg (by simp [Value.ownBlock])); replace aD := J (za8 (g := aE) (o := .cells #[.slice none 0 0, .slice none 0 0] 24 (0, 0)) (hp_ aD.o) hg (by simp [Value.ownBlock])); replace aQ := J (Kd.R_after (Kd.R_apart_nil (by (with_reducible repeat (first | apply Kd.R_alloc | apply Kd.zH | apply Kd.zI)); exact (Kd.zB (Kd.zT (p := ⟨aH, 0, none⟩) (Kd.zV aQ.o aA.o yD_) (fun _ hk => hk.2) (.slice aP aJ.length aT)) (fun _ h_ => h_.1)))) hg hat); replace aA := J (za8 (g := aH) (o := .cells #[.slice aP aJ.length aT, .slice none 0 0] 24 (0, 0)) (hp_ aA.o) hg (by simp [Value.ownBlock])); replace HB := J (hb); have bH := J (ho); clear ho hb hg hat; obtain ⟨bD, bG, bX⟩ := Kd.zJ bH.o; subst bX; have hcz18_0 := cz_ aA.o 0 rfl; have hcz18_1 := cz_ aA.o 1 rfl; have hfz18_0 := zb aA.o 0; have hfz18_1 := zb aA.o 1; have hcz19_0 := cz_ aD.o 0 rfl; have hcz19_1 := cz_ aD.o 1 rfl; have hfz19_0 := zb aD.o 0; have hfz19_1 := zb aD.o 1))
   refine bodyPost_ret (results_cell_row rfl _ _ aE 24 #[.slice aP aJ.length aT, .slice bD bA.length bG] (0, 0) _ rfl (hp_ aD.o) Try.underlying24 rfl yK_) rfl ?_; exact ⟨_, _, er_, by (with_reducible repeat (first | apply Kd.R_alloc | apply Kd.zH | apply Kd.zI)); exact Kd.zB (Kd.zT (p := ⟨aE, 1, none⟩) (Kd.zT (p := ⟨aE, 0, none⟩) (Kd.zT (p := ⟨aH, 1, none⟩) (Kd.zV (Kd.zV aQ.o aA.o yD_) aD.o yD_) (fun _ hk => hk.1.2) (.slice bD bA.length bG)) (fun _ hk => hk.2) (.slice aP aJ.length aT)) (fun _ hk => hk.2) (.slice bD bA.length bG)) (fun _ hk => hk.1.1.2), by (with_reducible repeat (first | apply Kd.R_alloc | apply Kd.zH | apply Kd.zI)); exact Kd.zB (Kd.zT (p := ⟨aE, 1, none⟩) (Kd.zT (p := ⟨aE, 0, none⟩) (Kd.zT (p := ⟨aH, 1, none⟩) (Kd.zV (Kd.zV bH.o aA.o yD_) aD.o yD_) (fun _ hk => hk.1.2) (.slice bD bA.length bG)) (fun _ hk => hk.2) (.slice aP aJ.length aT)) (fun _ hk => hk.2) (.slice bD bA.length bG)) (fun _ hk => hk.1.1), bw_⟩
  ·rw [if_neg c3] at H; exact absurd H (by simp)
 ·rw [if_neg c2] at H; exact absurd H (by simp)
end Go.Proofs.Ytlidbaejhmamjaa.PB
namespace Go.Proofs.Ytlidbaejhmamjaa.LA
open Go.RowKit YtlidbaejhmamjaaW.PrintWords YtlidbaejhmamjaaW.PrintLast YtlidbaejhmamjaaW.PrintMore PB
theorem same_ev (l0 l1 : List Int) (hn : l0.length ≤ 100000) : EvS (fun k => zq.f k l0 l1) (decide (l0 = l1)) := by
 unfold zq.f
 by_cases hl : (l0.length : Int) = (l1.length : Int)
 ·simp only [if_pos hl]
  have key : ∀ m i : Nat, m + i = l0.length → EvS (fun k => zq.l0 k l0 l1 (i : Int)) (decide (l0.drop i = l1.drop i)) := by
   intro m
   induction m with
   | zero =>
    intro i hi; rw [List.drop_eq_nil_of_le yO_, List.drop_eq_nil_of_le yO_]; exact EvS.done fun k => by simp only [zq.l0]; rw [if_neg yO_]; rfl
   | succ m ih =>
    intro i hi; have h0 : i < l0.length := by omega
    have h1 : i < l1.length := by omega
    have r0 : rd l0 (i : Int) = l0[i] := by simp [rd, h0]
    have r1 : rd l1 (i : Int) = l1[i] := by simp [rd, h1]
    rw [List.drop_eq_getElem_cons h0, List.drop_eq_getElem_cons h1]
    by_cases he : l0[i] = l1[i]
    ·have := ih (i + 1) yO_
     refine EvS.succ (fun k => ?_) (show EvS (fun k => zq.l0 k l0 l1 ((i + 1 : Nat) : Int)) (decide (l0[i] :: l0.drop (i + 1) = l1[i] :: l1.drop (i + 1))) from by
      rw [show decide (l0[i] :: l0.drop (i + 1) = l1[i] :: l1.drop (i + 1)) = decide (l0.drop (i + 1) = l1.drop (i + 1)) from decide_eq_decide.mpr ⟨fun h => (List.cons.inj h).2, fun h => by rw [he, h]⟩]; exact this)
     simp only [zq.l0]; rw [if_pos yO_, if_pos yO_, if_pos yO_, if_pos (by rw [r0, r1, he]), wnext i yO_]
    ·rw [decide_eq_false (fun h => he (List.cons.inj h).1)]; refine EvS.done fun k => ?_
     simp only [zq.l0]; rw [if_pos yO_, if_pos yO_, if_pos yO_, if_neg (by rw [r0, r1]; exact he)]
  simpa using key l0.length 0 yO_
 ·simp only [if_neg hl]; rw [decide_eq_false (fun e => hl (by rw [e]))]; exact EvS.pure false
theorem Same_ev (a b c d : List Int) (ha : a.length ≤ 100000) (hb : b.length ≤ 100000) : EvS (fun k => zaW.f k a b c d) (decide (a = c) && decide (b = d)) := by
 unfold zaW.f; refine EvS.bind (same_ev a c ha) ?_
 by_cases h : a = c
 ·rw [decide_eq_true h]; simp only [if_true, Bool.true_and]; exact EvS.bind (same_ev b d hb) (EvS.pure _)
 ·rw [decide_eq_false h]; exact EvS.pure _
theorem refCheck_ev (lv at_ : List Int) (k : Int) : EvS (fun f => zl.f f lv at_ k) (chkE lv at_ k) := by
 unfold zl.f; have bad : (¬ ((lv.length : Int) = k ∧ Reg lv at_)) → chkE lv at_ k = 180 := fun h => if_neg h
 have stop : EvS (fun f => zl.j0 f k true lv at_) 180 := EvS.done fun f => by simp only [zl.j0]; rfl
 by_cases h0 : k < 0
 ·simp only [if_pos h0]; rw [bad yO_]; exact stop
 ·by_cases h1 : k > 256
  ·simp only [if_neg h0, if_pos h1]; rw [bad (by rintro ⟨h2, h3⟩; have := h3.1; omega)]; exact stop
  ·by_cases h2 : (lv.length : Int) = k
   ·by_cases h3 : (at_.length : Int) = k
    ·simp only [if_neg h0, if_neg h1, if_pos h2]; rw [show ((at_.length : Int) != k) = false by simp [h3]]; refine EvS.succ (fun f => by simp only [zl.j0]; rfl) ?_; simp only [Bool.false_eq_true, if_false]; have hl : at_.length = lv.length := by omega
     have key : ∀ m i : Nat, m + i = lv.length → EvS (fun f => zl.l0 f k (i : Int) lv at_) (if ∀ j, j < lv.length → i ≤ j → Fit (rd lv (j : Nat)) (rd at_ (j : Nat)) then 0 else 180) := by
      intro m
      induction m with
      | zero =>
       intro i hi; rw [if_pos (fun j h1 h2 => by omega)]; exact EvS.done fun f => by simp only [zl.l0]; rw [if_neg yO_]
      | succ m ih =>
       intro i hi; have hno : ¬ Fit (rd lv (i : Int)) (rd at_ (i : Int)) → (if ∀ j, j < lv.length → i ≤ j → Fit (rd lv (j : Nat)) (rd at_ (j : Nat)) then (0 : Int) else 180) = 180 := fun hf => if_neg (fun h => hf (h i yO_ (Nat.le_refl _)))
       by_cases f0 : rd lv (i : Int) < 0
       ·rw [hno (fun h => by have := h.1; omega)]
        exact EvS.done fun f => by
         simp only [zl.l0]; rw [if_pos yO_, if_pos yO_, if_pos yO_, if_pos f0]
       ·by_cases f1 : rd lv (i : Int) > 8
        ·rw [hno (fun h => by have := h.2.1; omega)]
         exact EvS.done fun f => by
          simp only [zl.l0]; rw [if_pos yO_, if_pos yO_, if_pos yO_, if_neg f0, if_pos f1]
        ·by_cases f2 : rd at_ (i : Int) < 0
         ·rw [hno (fun h => by have := h.2.2.1; omega)]
          exact EvS.done fun f => by
           simp only [zl.l0]; rw [if_pos yO_, if_pos yO_, if_pos yO_, if_neg f0, if_neg f1, if_pos yO_, if_pos f2]
         ·by_cases f3 : rd at_ (i : Int) ≥ 2 ^ (rd lv (i : Int)).toNat
          ·rw [hno (fun h => by have := h.2.2.2; omega)]
           exact EvS.done fun f => by
            simp only [zl.l0]; rw [if_pos yO_, if_pos yO_, if_pos yO_, if_neg f0, if_neg f1, if_pos yO_, if_neg f2, if_pos yO_, shl_one _ yO_ yO_, if_pos f3]
          ·have hf : Fit (rd lv (i : Int)) (rd at_ (i : Int)) := ⟨by omega, by omega, by omega, by omega⟩
           have := ih (i + 1) yO_
           rw [ite_cong (show (∀ j, j < lv.length → i ≤ j → Fit (rd lv (j : Nat)) (rd at_ (j : Nat))) ↔ (∀ j, j < lv.length → i + 1 ≤ j → Fit (rd lv (j : Nat)) (rd at_ (j : Nat))) from ⟨fun h j h1 h2 => h j h1 yO_, fun h j h1 h2 => by
            by_cases hj : i = j
            ·subst hj; exact hf
            ·exact h j h1 yO_⟩)]
           refine EvS.succ (fun f => ?_) this; simp only [zl.l0]; rw [if_pos yO_, if_pos yO_, if_pos yO_, if_neg f0, if_neg f1, if_pos yO_, if_neg f2, if_pos yO_, shl_one _ yO_ yO_, if_neg f3, wnext i yO_]
     have := key lv.length 0 yO_
     rw [show chkE lv at_ k = (if ∀ j, j < lv.length → 0 ≤ j → Fit (rd lv (j : Nat)) (rd at_ (j : Nat)) then 0 else 180) from by
      unfold chkE; exact ite_cong ⟨fun h j h1 _ => h.2.2.2 j h1, fun h => ⟨h2, by omega, hl, fun j h1 => h j h1 (Nat.zero_le _)⟩⟩ _ _]
     exact this
    ·simp only [if_neg h0, if_neg h1, if_pos h2]; rw [show ((at_.length : Int) != k) = true by simp [h3], bad (by rintro ⟨_, h4⟩; have := h4.2.1; omega)]; exact stop
   ·simp only [if_neg h0, if_neg h1, if_neg h2]; rw [bad (fun h => h2 h.1)]; exact stop
end Go.Proofs.Ytlidbaejhmamjaa.LA
namespace Go.Proofs.Ytlidbaejhmamjaa.NW
open Go.RowKit YtlidbaejhmamjaaW.PrintWords YtlidbaejhmamjaaW.PrintLast YtlidbaejhmamjaaW.PrintMore PB LA AC LW
theorem wshifts (d pd : Int) (h0 : 0 ≤ d) (h1 : d ≤ 40) (hp : pd = 2 ^ d.toNat) :
  IntKind.i64.wrap (1 * 2 ^ min d.toNat 64) = pd ∧ IntKind.i64.wrap (2 ^ min d.toNat 64) = pd ∧ wrap64 (1 * 2 ^ min d.toNat 64) = pd ∧ wrap64 (2 ^ min d.toNat 64) = pd := by
 rw [Nat.min_eq_left yO_]; have hb : 0 < (2 : Int) ^ d.toNat ∧ (2 : Int) ^ d.toNat ≤ 2 ^ 40 := ⟨Int.pow_pos yD_, za3 yO_⟩
 rw [show (2 : Int) ^ 40 = 1099511627776 by decide] at hb; rw [← hp] at hb ⊢; have e1 : wrap64 pd = pd := w64 _ yO_ yO_; simp only [zat, Int.one_mul, e1, and_self]
theorem sv_abs (z : Int) : sv (decide (z < 0)) (zaS z) = z := by
 by_cases h : z < 0
 ·rw [decide_eq_true h]; unfold sv zaS; rw [if_pos rfl, if_pos h]; omega
 ·rw [decide_eq_false h]; unfold sv zaS; rw [if_neg yD_, if_neg h]
theorem abs_len {z : Int} {t : List Int} (hu : U32 t) (ht : Tr t) (h : nv t = zaS z) : t.length = 0 ↔ z = 0 := by
 constructor
 ·intro h0; rw [List.length_eq_zero_iff.1 h0] at h; unfold zaS at h; simp only [nv] at h
  split at h <;> omega
 ·intro h0; subst h0; exact nv_zero_len hu ht (by rw [h]; rfl)
/-- One comparison, in parts of 2^-62. -/
theorem cmp_law (d l z b : Int) (d0 : 0 ≤ d) (d1 : d ≤ 62) (l0 : 0 ≤ l) (l1 : l ≤ 8) (tz tb : List Int) (hz : tz.length = 0 ↔ z = 0) (hb : tb.length = 0 ↔ b = 0) (ex : Int) (hex : ex = if tz.length = 0 then 0 else l - d) :
  (¬ sgnI (z * 2 ^ (ex - lvE tz ex tb 0).toNat - b * 2 ^ (0 - lvE tz ex tb 0).toNat) < 0 ↔ b * 2 ^ (62 - l.toNat) ≤ z * 2 ^ (62 - d.toNat)) ∧
  (¬ 0 < sgnI (z * 2 ^ (ex - lvE tz ex tb 0).toNat - b * 2 ^ (0 - lvE tz ex tb 0).toNat) ↔ z * 2 ^ (62 - d.toNat) ≤ b * 2 ^ (62 - l.toNat)) := by
 obtain ⟨L, hL⟩ : ∃ L : Nat, l = L := ⟨l.toNat, by omega⟩
 obtain ⟨D, hD⟩ : ∃ D : Nat, d = D := ⟨d.toNat, by omega⟩
 subst hL hD; rw [Int.toNat_natCast, Int.toNat_natCast]
 have key : ∃ (U : Int), 0 < U ∧ (z * 2 ^ (ex - lvE tz ex tb 0).toNat - b * 2 ^ (0 - lvE tz ex tb 0).toNat) * U = z * 2 ^ (62 - D) - b * 2 ^ (62 - L) := by
  by_cases h1 : tz.length = 0
  ·rw [if_pos h1] at hex; have e : lvE tz ex tb 0 = 0 := by unfold lvE; rw [if_pos h1]
   rw [e, hex, hz.1 h1]; exact ⟨2 ^ (62 - L), zY _, by simp [Int.neg_mul]⟩
  ·rw [if_neg h1] at hex
   by_cases h2 : tb.length = 0
   ·have e : lvE tz ex tb 0 = ex := by unfold lvE; rw [if_neg h1, if_pos h2]
    rw [e, hb.1 h2]; exact ⟨2 ^ (62 - D), zY _, by simp⟩
   ·by_cases h3 : 0 < ex
    ·have e : lvE tz ex tb 0 = 0 := by unfold lvE; rw [if_neg h1, if_neg h2, if_pos h3]
     rw [e]; refine ⟨2 ^ (62 - L), zY _, ?_⟩; rw [Int.sub_mul, Int.mul_assoc, ← zaG, show (ex - 0).toNat + (62 - L) = 62 - D by omega]; simp
    ·have e : lvE tz ex tb 0 = ex := by unfold lvE; rw [if_neg h1, if_neg h2, if_neg h3]
     rw [e]; refine ⟨2 ^ (62 - D), zY _, ?_⟩; rw [Int.sub_mul, Int.mul_assoc b, ← zaG, show (0 - ex).toNat + (62 - D) = 62 - L by omega]; simp
 obtain ⟨U, hU, hk⟩ := key; generalize z * 2 ^ (ex - lvE tz ex tb 0).toNat - b * 2 ^ (0 - lvE tz ex tb 0).toNat = V at *
 rcases Int.lt_trichotomy V 0 with h | h | h
 ·have := Int.mul_neg_of_neg_of_pos h hU; rw [zbh h]
  constructor <;> omega
 ·rw [h, Int.zero_mul] at hk; rw [h, sgnI_zero rfl]
  constructor <;> omega
 ·have := Int.mul_pos h hU; rw [zbi h]
  constructor <;> omega
def zaK.T6 : Bool × List (List Nat × List Nat) := (true, [([], []), ([], []), ([0, 1], [0, 1]), ([2], [2]), ([3], [3]), ([], []), ([5], [5]), ([], []), ([6, 7], [6, 7]), ([8], [8]), ([], []), ([9, 10], [9, 10]), ([4, 11, 4], [4, 11]), ([], []), ([13, 12, 12, 0, 1, 2, 3, 4, 5, 6, 7, 8, 9, 10, 11, 12, 13], [12, 13])])
def zaK.B6 : List Nat := [0, 0, 3, 7, 15, 0, 32, 0, 224, 480, 0, 2016, 4095, 0, 16383]
theorem zaK.tab6 : zbc .any (opsOf Try.f25 6) = zaK.T6 := by kernel_rfl
theorem zaK.bits6 : zal zaK.T6.2 zaK.B6 = true := by kernel_rfl
def zaK.T7 : Bool × List (List Nat × List Nat) := (true, [([], []), ([0], [0]), ([], []), ([1, 2], [1, 2]), ([3], [3]), ([4], [4]), ([], []), ([6], [6]), ([], []), ([7, 8], [7, 8]), ([9], [9]), ([10], [10]), ([5, 11], [5, 11]), ([12], [12]), ([], []), ([14, 13, 13, 0, 1, 2, 3, 4, 5, 6, 7, 8, 9, 10, 11, 12, 13, 14], [13, 14])])
def zaK.B7 : List Nat := [0, 1, 0, 7, 15, 31, 0, 64, 0, 448, 960, 1984, 4095, 8191, 0, 32767]
theorem zaK.tab7 : zbc .any (opsOf Try.f25 7) = zaK.T7 := by kernel_rfl
theorem zaK.bits7 : zal zaK.T7.2 zaK.B7 = true := by kernel_rfl
def zaK.T8 : Bool × List (List Nat × List Nat) := (true, [([], []), ([0], [0]), ([], []), ([1, 2], [1, 2]), ([3], [3]), ([4], [4]), ([5], [5]), ([], []), ([7], [7]), ([], []), ([8, 9], [8, 9]), ([10], [10]), ([11], [11]), ([6, 12], [6, 12]), ([13], [13]), ([], []), ([15, 14, 14, 0, 1, 2, 3, 4, 5, 6, 7, 8, 9, 10, 11, 12, 13, 14, 15], [14, 15])])
def zaK.B8 : List Nat := [0, 1, 0, 7, 15, 31, 63, 0, 128, 0, 896, 1920, 3968, 8191, 16383, 0, 65535]
theorem zaK.tab8 : zbc .any (opsOf Try.f25 8) = zaK.T8 := by kernel_rfl
theorem zaK.bits8 : zal zaK.T8.2 zaK.B8 = true := by kernel_rfl
theorem rwithin_calls (A0 : Option Addr) (c0 : Nat) (lv : List Int) (A1 : Option Addr) (c1 : Nat) (at_ : List Int) (A2 : Option Addr) (c2 : Nat) (es : List Int) (d : Int) (w : World)
  (hr0 : Kd.C (Kd.int .i64) w A0 lv.length lv) (hk0 : lv.length ≤ c0) (hr1 : Kd.C (Kd.int .i64) w A1 at_.length at_) (hk1 : at_.length ≤ c1) (hr2 : Kd.C (Kd.int .i64) w A2 es.length es) (hk2 : es.length ≤ c2) (hes : I64 es) :
  Calls Try.prog 25 #[.agg #[.slice A0 lv.length c0, .slice A1 at_.length c1], .slice A2 es.length c2, .int .i64 d] w fun e w' => e = .returned (.bool (decide (Win lv at_ es d))) ∧ Below w.heap.size w w' := by
 have hu24 := Try.underlying24; have hu101 := Try.underlying101; have HR0 := J hr0; have HR1 := J hr1; have HR2 := J hr2; have HK0 := J hk0; have HK1 := J hk1; have HK2 := J hk2; have HES := J hes; clear hr0 hr1 hr2 hk0 hk1 hk2 hes; obtain ⟨k, hk⟩ := (refCheck_ev lv at_ lv.length).get; have HF := J hk; clear hk; generalize hbn : decide (Win lv at_ es d) = bb; have HBN := J hbn; clear hbn; generalize hcr : chkE lv at_ lv.length = cr at *
 have HCR := J hcr; clear hcr; go_enter Try.func25, Try.ntmps25
 go_wp2_with (first
  | ((with_reducible refine zf (N := 3) rfl ?_); refine zah 3 (cs := #[.slice A0 lv.length c0, .slice A1 at_.length c1]) (t := 24) ?_; intro g3 hg3 w1 hw1 hb1; have B1 := J hb1; have K1 := J hw1; have L1 := J (show w.heap.size ≤ g3 by omega); clear hg3 hw1 hb1; have hc0 := cz_ K1.o 0 rfl; have hc1 := cz_ K1.o 1 rfl)
  | fail)
 refine (zl.calls k A0 c0 lv A1 c1 at_ lv.length cr w1 (Kd.zm HR0.o B1.o) HK0.o (Kd.zm HR1.o B1.o) HK1.o HF.o).mono ?_; rintro e w2 ⟨rfl, cB⟩; have B2 := J (za B1.o cB); have K2 := J (zd K1.o cB); have cC : w2.cell? ⟨g3, 0, none⟩ = some (.slice A0 lv.length c0) := (zg K2.o 0).trans rfl; have cD : w2.cell? ⟨g3, 1, none⟩ = some (.slice A1 at_.length c1) := (zg K2.o 1).trans rfl; clear cB hc0 hc1
 by_cases hz : cr = 0
 ·have hzb : (cr != 0) = false := by rw [hz]; rfl
  have HREG := J (chk_ok (HCR.o.trans hz)); clear hz
  by_cases hl : es.length = lv.length
  ·have hlb : ((es.length : Int) != (lv.length : Int)) = false := by rw [hl]; exact bne_self_eq_false _
   have HLE := J hl; clear hl
   by_cases bW : d < 0
   ·have hdb : decide (d < 0) = true := decide_eq_true bW; have HN := J (show ¬ Win lv at_ es d from fun h => by have := h.2.2.1; omega); clear bW; go_wp2_with fail; go_ret; exact ⟨by rw [← HBN.o, decide_eq_false HN.o]; first | done | rfl, B2.o⟩
   ·have hdb : decide (d < 0) = false := decide_eq_false bW
    by_cases bX : 62 < d
    ·have hde : decide (62 < d) = true := decide_eq_true bX; have HN := J (show ¬ Win lv at_ es d from fun h => by have := h.2.2.2.1; omega); clear bW bX; go_wp2_with fail; go_ret; exact ⟨by rw [← HBN.o, decide_eq_false HN.o]; first | done | rfl, B2.o⟩
    ·have hde : decide (62 < d) = false := decide_eq_false bX; have HD := J (show 0 ≤ d ∧ d ≤ 62 by omega); clear bW bX; go_wp2_with fail; have Q0 := J (Kd.zm HR0.o B2.o); have Q1 := J (Kd.zm HR1.o B2.o); have Q2 := J (Kd.zm HR2.o B2.o); clear cC cD
     go_loopg [7] es.length (fun m v7 wr => ∃ x : Int, v7 = .int .i64 x ∧ ze (0 ≤ x ∧ x + m = es.length) ∧ ze (∀ j : Nat, (j : Int) < x → InP d (rd es (j : Nat)) (rd lv (j : Nat)) (rd at_ (j : Nat))) ∧ ze (Below w2.heap.size w2 wr))
     case atStart => exact ⟨0, rfl, ⟨by omega⟩, ⟨fun j hj => by omega⟩, ⟨Below.refl _ _⟩⟩
     case round =>
      obtain ⟨x, rfl, hm, hall, HB⟩ := hrel
      by_cases hx : x < (es.length : Int)
      ·have hxb : decide (x < (es.length : Int)) = true := decide_eq_true hx; obtain ⟨j, rfl⟩ : ∃ j : Nat, x = j := ⟨x.toNat, by have := hm.o; omega⟩
       have hj : j < es.length := by omega
       have HJ := J hj; clear hx hj; have hj0 := eq_true HJ.o; have hj1 := eq_true (show (j : Int) < (es.length : Int) by have := HJ.o; omega); have hj2 := eq_true (show (0 : Int) ≤ (j : Int) by omega); have hj3 := eq_true (show j < lv.length by have := HJ.o; have := HLE.o; omega); have hj4 := eq_true (show (j : Int) < (lv.length : Int) by have := HJ.o; have := HLE.o; omega); have hj5 := eq_true (show j < at_.length by have := HJ.o; have := HLE.o; have := HREG.o.2.1; omega); have hj6 := eq_true (show (j : Int) < (at_.length : Int) by have := HJ.o; have := HLE.o; have := HREG.o.2.1; omega); obtain ⟨ae, ee, hze⟩ := Kd.zQ Q2.o (j : Int) yO_ (by have := HJ.o; omega); obtain ⟨al, el, hzl⟩ := Kd.zQ Q0.o (j : Int) yO_ (by have := HJ.o; have := HLE.o; omega); obtain ⟨aa, ea, hza⟩ := Kd.zQ Q1.o (j : Int) yO_ (by have := HJ.o; have := HLE.o; have := HREG.o.2.1; omega); cases ee; cases el; cases ea; rw [Int.toNat_natCast] at hze hzl hza; have HFIT := J (HREG.o.2.2 j (by have := HJ.o; have := HLE.o; omega)); have HEE := J (i64_rd HES.o j HJ.o); have HW := J (show Win lv at_ es d → InP d (rd es (j : Int)) (rd lv (j : Int)) (rd at_ (j : Int)) from fun h => h.2.2.2.2 j (by have := HJ.o; have := HLE.o; omega))
       have HQ := J (show InP d (rd es (j : Int)) (rd lv (j : Int)) (rd at_ (j : Int)) → ∀ i : Nat, (i : Int) < (j : Int) + 1 → InP d (rd es (i : Nat)) (rd lv (i : Nat)) (rd at_ (i : Nat)) from fun h i hi => by
        by_cases hij : i = j
        ·subst hij; exact h
        ·exact hall.o i yO_)
       generalize rd lv (j : Int) = l at *
       generalize rd at_ (j : Int) = a at *
       generalize rd es (j : Int) = z at *
       have HZ := J (show ∀ w' : World, Below w2.heap.size w2 w' → w'.cell? ⟨g3, 0, none⟩ = some (.slice (some al) lv.length c0) ∧ w'.cell? ⟨g3, 1, none⟩ = some (.slice (some aa) at_.length c1) ∧ w'.cell? (ae.add j) = some (.int .i64 z) ∧ w'.cell? (al.add j) = some (.int .i64 l) ∧ w'.cell? (aa.add j) = some (.int .i64 a) from fun W hW => ⟨(zg (zd K2.o hW) 0).trans rfl, (zg (zd K2.o hW) 1).trans rfl, zr hW hze, zr hW hzl, zr hW hza⟩); clear hze hzl hza hall; obtain ⟨pl, hpl⟩ : ∃ p : Int, p = 2 ^ l.toNat := ⟨_, rfl⟩
       have HP := J hpl; obtain ⟨sh1, sh2, sh3, sh4⟩ := wshifts l pl HFIT.o.1 (by have := HFIT.o.2.1; omega) hpl; have hpb : 0 < pl ∧ pl ≤ 256 := by rw [hpl]; exact ⟨zY _, by have h_ : (2 : Int) ^ l.toNat ≤ 2 ^ 8 := za3 (by have := HFIT.o.2.1; omega); rwa [show (2 : Int) ^ 8 = 256 by decide] at h_⟩
       have ha8 : 0 ≤ a ∧ a < 256 := fit_256 HFIT.o; have hw2 : wrap64 (2 * a) = 2 * a := w64 _ yO_ yO_; have hw3 : wrap64 (2 * a + 2) = 2 * a + 2 := w64 _ yO_ yO_; obtain ⟨lo, hlo⟩ : ∃ x, x = 2 * a - pl := ⟨_, rfl⟩
       obtain ⟨hi, hhi⟩ : ∃ x, x = 2 * a + 2 - pl := ⟨_, rfl⟩
       have hw4 : wrap64 (2 * a - pl) = lo := by rw [w64 _ yO_ yO_, hlo]
       have hw5 : wrap64 (2 * a + 2 - pl) = hi := by rw [w64 _ yO_ yO_, hhi]
       have hl0 := eq_true HFIT.o.1; obtain ⟨D, hD⟩ : ∃ D, wrap64 (l - d) = D := ⟨_, rfl⟩
       have HDD := J (show D = l - d by rw [← hD]; exact w64 _ (by have := HFIT.o.1; have := HFIT.o.2.1; have := HD.o; omega) (by have := HFIT.o.1; have := HFIT.o.2.1; have := HD.o; omega)); obtain ⟨tz, ez, vz, uz, rz, nz⟩ := whole_ev z HEE.o; obtain ⟨tl, el, vl, ul, rl, nl⟩ := whole_ev lo yO_; obtain ⟨th, eh, vh, uh, rh, nh⟩ := whole_ev hi yO_; obtain ⟨kz, fz⟩ := ez.get; obtain ⟨kl, fl⟩ := el.get; obtain ⟨kh, fh⟩ := eh.get; have FZ := J fz; have FL := J fl; have FH := J fh; obtain ⟨ex, hex⟩ : ∃ ex : Int, ex = if tz.length = 0 then 0 else wrap64 (0 + D) := ⟨_, rfl⟩
       have HEX := J hex; have aU := J (show ex = if tz.length = 0 then 0 else l - d by rw [hex, HDD.o, Int.zero_add, w64 _ (by have := HFIT.o.1; have := HFIT.o.2.1; have := HD.o; omega) (by have := HFIT.o.1; have := HFIT.o.2.1; have := HD.o; omega)]); have q1 := (cmp_law d l z lo HD.o.1 HD.o.2 HFIT.o.1 HFIT.o.2.1 tz tl (abs_len uz rz vz) (abs_len ul rl vl) ex aU.o).1; have q2 := (cmp_law d l z hi HD.o.1 HD.o.2 HFIT.o.1 HFIT.o.2.1 tz th (abs_len uz rz vz) (abs_len uh rh vh) ex aU.o).2; have V1 := J (show sv (decide (z < 0)) (nv tz) = z by rw [vz, sv_abs]); have V2 := J (show sv (decide (lo < 0)) (nv tl) = lo by rw [vl, sv_abs]); have V3 := J (show sv (decide (hi < 0)) (nv th) = hi by rw [vh, sv_abs]); have U1 := J (And.intro uz (And.intro rz nz)); have U2 := J (And.intro ul (And.intro rl nl)); have U3 := J (And.intro uh (And.intro rh nh)); have HEXB := J (show -100000 ≤ ex ∧ ex ≤ 100000 by rw [aU.o]; split <;> have := HFIT.o.1 <;> have := HFIT.o.2.1 <;> have := HD.o <;> omega); have HLO := J hlo; have HHI := J hhi; have Y1 := J q1; have Y2 := J q2; clear ez el eh vz vl vh uz ul uh rz rl rh nz nl nh fz fl fh hex q1 q2 hlo hhi hpl hpb ha8; generalize decide (z < 0) = nz at *
       generalize decide (lo < 0) = nl at *
       generalize decide (hi < 0) = nh at *
       go_wp2_with fail; have hb : Below wr.heap.size wr wr.drew := zU (Below.refl _ _); replace HB := J (za HB.o hb); clear hb; refine zaw (n := 15) (S := fun w' => w'.cell? ⟨g3, 0, none⟩ = some (.slice (some al) lv.length c0) ∧ w'.cell? ⟨g3, 1, none⟩ = some (.slice (some aa) at_.length c1) ∧ w'.cell? (ae.add j) = some (.int .i64 z) ∧ w'.cell? (al.add j) = some (.int .i64 l) ∧ w'.cell? (aa.add j) = some (.int .i64 a)) (ds := [14]) (bl_ 15 0) yK_ rfl rfl ⟨(HZ.o _ HB.o).1, (HZ.o _ HB.o).2.1, (HZ.o _ HB.o).2.2.1, (HZ.o _ HB.o).2.2.2.1, (HZ.o _ HB.o).2.2.2.2⟩ (fun hHeld => ?_); refine zS zaK.tab6 zaK.bits6 (fun HT_ HW_ => ?_); generalize wr.drew = u1 at HB  hHeld ⊢; refine pu_ 0 ?_; refine pu_ 1 ?_; refine pu_ 2 ?_; refine pu_ 5 ?_; refine pu_ 7 ?_; refine pu_ 10 ?_; refine tk_ 3 ?_; refine tk_ 6 ?_; refine pu_ 8 ?_; refine tk_ 9 ?_; refine pu_ 11 ?_
       refine join_ (σ := Option Addr × Nat × Nat) 1 (bl_ 15 16383) (fun s_ => [(43, .agg #[.bool nz, .slice s_.1 tz.length s_.2.1, .int .i64 0]), (51, .agg #[.bool nz, .slice s_.1 tz.length s_.2.1, .int .i64 ex]), (8, .pointer (some ⟨s_.2.2, 0, none⟩))]) (fun s_ w' => (w'.cell? ⟨g3, 0, none⟩ = some (.slice (some al) lv.length c0) ∧ w'.cell? ⟨g3, 1, none⟩ = some (.slice (some aa) at_.length c1) ∧ w'.cell? (ae.add j) = some (.int .i64 z) ∧ w'.cell? (al.add j) = some (.int .i64 l) ∧ w'.cell? (aa.add j) = some (.int .i64 a)) ∧ (Ru w' s_.1 s_.2.1 tz 2) ∧ (B3 w' s_.2.2 false none 0 0 0) ∧ (w2.heap.size ≤ s_.2.2) ∧ (Below w2.heap.size w2 w')) ?_ ?_; rotate_left
       ·intro hJ; refine two_ (i := 4) (j := 13) (Ni := some 43) (Nj := some 8) (bl_ 15 4095) (bl_ 15 12271) rfl rfl rfl rfl (two_of HT_.o yK_) yD_ yD_ (fun K hK => ?_) (fun K hK => ?_)
        ·skip
         refine go1_ Try.func47 #[.int .i64 (z)] ?_; refine (zau.calls kz (z) nz tz 0 u1 FZ.o).mono ?_; rintro e_ u3 ⟨v0, rfl, h0, hb⟩; refine ⟨_, rfl, ?_⟩; obtain ⟨A_x, c_x, rfl, r_t⟩ := Ru.of_R h0 U1.o.1 U1.o.2.1 U1.o.2.2; replace HB := J (za HB.o hb); have R_x := J r_t; clear hb h0 r_t; refine hK.out _ _ ⟨(HZ.o _ HB.o).1, (HZ.o _ HB.o).2.1, (HZ.o _ HB.o).2.2.1, (HZ.o _ HB.o).2.2.2.1, (HZ.o _ HB.o).2.2.2.2⟩ (fun hHeld => ?_); clear hK K; refine nm_ ?_; refine two_ (i := 12) (j := 13) (Ni := some 51) (Nj := some 8) (bl_ 15 8191) (bl_ 15 12287) rfl rfl rfl rfl (two_of HT_.o yK_) yD_ yD_ (fun K hK => ?_) (fun K hK => ?_)
         ·skip
          refine go1_ Try.func46 #[.agg #[.bool nz, .slice A_x tz.length c_x, .int .i64 0], .int .i64 (wrap64 (l - d))] ?_; have mc := moved_calls nz A_x tz.length c_x 0 (wrap64 (l - d)) u3; rw [hD, ← HEX.o, ← hD] at mc; refine mc.mono ?_; clear mc; rintro e_ u4 ⟨rfl, hb⟩; refine ⟨_, rfl, ?_⟩; replace R_x := J (R_x.o.step hb); replace HB := J (za HB.o hb); clear hb; refine hK.out _ _ ⟨(HZ.o _ HB.o).1, (HZ.o _ HB.o).2.1, (HZ.o _ HB.o).2.2.1, (HZ.o _ HB.o).2.2.2.1, (HZ.o _ HB.o).2.2.2.2⟩ (fun hHeld => ?_); clear hK K; refine nm_ ?_; refine on_ HT_ 13 (some 8) (bl_ 15 16383) fun K hK => ?_
          refine za2 ?hg (N := 8) ?hd (cs := #[.bool false, .slice none 0 0, .int .i64 0]) (t := 101) ?hr ?_; (case hd => rfl); (case hg => rfl); (case hr => first | (go_simp; done) | (go_simp; rfl)); intro g_x aO u5 aC aB; have L_x := J (show w2.heap.size ≤ g_x by have := HB.o.size; omega); replace R_x := J (R_x.o.step aB); replace HB := J (za HB.o aB); have K_x := J (show B3 u5 g_x false none 0 0 0 from aC); clear aO aC aB; refine hK.out _ _ ⟨(HZ.o _ HB.o).1, (HZ.o _ HB.o).2.1, (HZ.o _ HB.o).2.2.1, (HZ.o _ HB.o).2.2.2.1, (HZ.o _ HB.o).2.2.2.2⟩ (fun hHeld => ?_); clear hK K; refine nm_ ?_; exact np_ (hJ (A_x, c_x, g_x) _ ⟨hHeld, R_x.o, K_x.o, L_x.o, HB.o⟩)
         ·skip
          refine za2 ?hg (N := 8) ?hd (cs := #[.bool false, .slice none 0 0, .int .i64 0]) (t := 101) ?hr ?_; (case hd => rfl); (case hg => rfl); (case hr => first | (go_simp; done) | (go_simp; rfl)); intro g_x aO u4 aC aB; have L_x := J (show w2.heap.size ≤ g_x by have := HB.o.size; omega); replace R_x := J (R_x.o.step aB); replace HB := J (za HB.o aB); have K_x := J (show B3 u4 g_x false none 0 0 0 from aC); clear aO aC aB; refine hK.out _ _ ⟨(HZ.o _ HB.o).1, (HZ.o _ HB.o).2.1, (HZ.o _ HB.o).2.2.1, (HZ.o _ HB.o).2.2.2.1, (HZ.o _ HB.o).2.2.2.2⟩ (fun hHeld => ?_); clear hK K; refine nm_ ?_; refine on_ HT_ 12 (some 51) (bl_ 15 16383) fun K hK => ?_
          refine go1_ Try.func46 #[.agg #[.bool nz, .slice A_x tz.length c_x, .int .i64 0], .int .i64 (wrap64 (l - d))] ?_; have mc := moved_calls nz A_x tz.length c_x 0 (wrap64 (l - d)) u4; rw [hD, ← HEX.o, ← hD] at mc; refine mc.mono ?_; clear mc; rintro e_ u5 ⟨rfl, hb⟩; refine ⟨_, rfl, ?_⟩; replace R_x := J (R_x.o.step hb); replace K_x := J (K_x.o.step hb); replace HB := J (za HB.o hb); clear hb; refine hK.out _ _ ⟨(HZ.o _ HB.o).1, (HZ.o _ HB.o).2.1, (HZ.o _ HB.o).2.2.1, (HZ.o _ HB.o).2.2.2.1, (HZ.o _ HB.o).2.2.2.2⟩ (fun hHeld => ?_); clear hK K; refine nm_ ?_; exact np_ (hJ (A_x, c_x, g_x) _ ⟨hHeld, R_x.o, K_x.o, L_x.o, HB.o⟩)
        ·skip
         refine za2 ?hg (N := 8) ?hd (cs := #[.bool false, .slice none 0 0, .int .i64 0]) (t := 101) ?hr ?_; (case hd => rfl); (case hg => rfl); (case hr => first | (go_simp; done) | (go_simp; rfl)); intro g_x aO u3 aC aB; have L_x := J (show w2.heap.size ≤ g_x by have := HB.o.size; omega); replace HB := J (za HB.o aB); have K_x := J (show B3 u3 g_x false none 0 0 0 from aC); clear aO aC aB; refine hK.out _ _ ⟨(HZ.o _ HB.o).1, (HZ.o _ HB.o).2.1, (HZ.o _ HB.o).2.2.1, (HZ.o _ HB.o).2.2.2.1, (HZ.o _ HB.o).2.2.2.2⟩ (fun hHeld => ?_); clear hK K; refine nm_ ?_; refine on_ HT_ 4 (some 43) (bl_ 15 12287) fun K hK => ?_
         refine go1_ Try.func47 #[.int .i64 (z)] ?_; refine (zau.calls kz (z) nz tz 0 u3 FZ.o).mono ?_; rintro e_ u4 ⟨v0, rfl, h0, hb⟩; refine ⟨_, rfl, ?_⟩; obtain ⟨A_x, c_x, rfl, r_t⟩ := Ru.of_R h0 U1.o.1 U1.o.2.1 U1.o.2.2; replace K_x := J (K_x.o.step hb); replace HB := J (za HB.o hb); have R_x := J r_t; clear hb h0 r_t; refine hK.out _ _ ⟨(HZ.o _ HB.o).1, (HZ.o _ HB.o).2.1, (HZ.o _ HB.o).2.2.1, (HZ.o _ HB.o).2.2.2.1, (HZ.o _ HB.o).2.2.2.2⟩ (fun hHeld => ?_); clear hK K; refine nm_ ?_; refine on_ HT_ 12 (some 51) (bl_ 15 16383) fun K hK => ?_
         refine go1_ Try.func46 #[.agg #[.bool nz, .slice A_x tz.length c_x, .int .i64 0], .int .i64 (wrap64 (l - d))] ?_; have mc := moved_calls nz A_x tz.length c_x 0 (wrap64 (l - d)) u4; rw [hD, ← HEX.o, ← hD] at mc; refine mc.mono ?_; clear mc; rintro e_ u5 ⟨rfl, hb⟩; refine ⟨_, rfl, ?_⟩; replace R_x := J (R_x.o.step hb); replace K_x := J (K_x.o.step hb); replace HB := J (za HB.o hb); clear hb; refine hK.out _ _ ⟨(HZ.o _ HB.o).1, (HZ.o _ HB.o).2.1, (HZ.o _ HB.o).2.2.1, (HZ.o _ HB.o).2.2.2.1, (HZ.o _ HB.o).2.2.2.2⟩ (fun hHeld => ?_); clear hK K; refine nm_ ?_; exact np_ (hJ (A_x, c_x, g_x) _ ⟨hHeld, R_x.o, K_x.o, L_x.o, HB.o⟩)
       rintro ⟨A_x, c_x, g_x⟩ u2 ⟨hHeld, aR, aP, aS, aT⟩; clear HB; have R_x := J (show Ru u2 A_x c_x tz 2 from aR); have K_x := J (show B3 u2 g_x false none 0 0 0 from aP); have L_x := J (show w2.heap.size ≤ g_x from aS); have HB := J (show Below w2.heap.size w2 u2 from aT); clear aR aP aS aT; have bQ := K_x.o.f 0; have bB := K_x.o.c0; have bR := K_x.o.f 1; have bC := K_x.o.c1; have bS := K_x.o.f 2; have bD := K_x.o.c2; refine zbl (a' := ?_) ?_ ?_; rotate_left; (focus (simp only [putAll, Act.put, sI_, s0_, s1_]; first | done | rfl)); refine last_ (i := 14) (N := none) (bl_ 15 32767) rfl rfl (zaY HT_.o yK_) yD_ (fun K hK => ?_); refine skip_ (w1 := ?_) (by rfl) rfl ?_ ?_; rotate_left; (focus (go_simp; first | done | rfl)); refine hK.out _ _ ?_; clear hK K; refine zaL (zad HT_.o yK_) ?_; clear bQ bB bR bC bS bD hHeld; have aA := zx u2 g_x 0 (.bool nz); replace R_x := J (R_x.o.put K_x.o aA); replace HB := J (HB.o.grown aA HB.o.size (fun k_ aN => by cases aN; exact L_x.o)); replace K_x := J (show B3 (u2.setCell ⟨g_x, 0, none⟩ (.bool nz)) g_x nz none 0 0 0 from zav K_x.o 0 _); clear aA; generalize u2.setCell ⟨g_x, 0, none⟩ (.bool nz) = u3 at HB R_x K_x ⊢
       have aA := zx u3 g_x 1 (.slice A_x tz.length c_x); replace R_x := J (R_x.o.put K_x.o aA); replace HB := J (HB.o.grown aA HB.o.size (fun k_ aN => by cases aN; exact L_x.o)); replace K_x := J (show B3 (u3.setCell ⟨g_x, 1, none⟩ (.slice A_x tz.length c_x)) g_x nz A_x tz.length c_x 0 from zav K_x.o 1 _); clear aA; generalize u3.setCell ⟨g_x, 1, none⟩ (.slice A_x tz.length c_x) = u4 at HB R_x K_x ⊢; have aA := zx u4 g_x 2 (.int .i64 ex); replace R_x := J (R_x.o.put K_x.o aA); replace HB := J (HB.o.grown aA HB.o.size (fun k_ aN => by cases aN; exact L_x.o)); replace K_x := J (show B3 (u4.setCell ⟨g_x, 2, none⟩ (.int .i64 ex)) g_x nz A_x tz.length c_x ex from zav K_x.o 2 _); clear aA; generalize u4.setCell ⟨g_x, 2, none⟩ (.int .i64 ex) = u5 at HB R_x K_x ⊢; go_wp2_with fail; have hb : Below u5.heap.size u5 u5.drew := zU (Below.refl _ _); replace R_x := J (R_x.o.step hb); replace K_x := J (K_x.o.step hb); replace HB := J (za HB.o hb); clear hb
       refine zaw (n := 16) (S := fun w' => w'.cell? ⟨g3, 0, none⟩ = some (.slice (some al) lv.length c0) ∧ w'.cell? ⟨g3, 1, none⟩ = some (.slice (some aa) at_.length c1) ∧ w'.cell? (ae.add j) = some (.int .i64 z) ∧ w'.cell? (al.add j) = some (.int .i64 l) ∧ w'.cell? (aa.add j) = some (.int .i64 a)) (ds := [15]) (bl_ 16 0) yK_ rfl rfl ⟨(HZ.o _ HB.o).1, (HZ.o _ HB.o).2.1, (HZ.o _ HB.o).2.2.1, (HZ.o _ HB.o).2.2.2.1, (HZ.o _ HB.o).2.2.2.2⟩ (fun hHeld => ?_); refine zS zaK.tab7 zaK.bits7 (fun HT_ HW_ => ?_); generalize u5.drew = u6 at HB R_x K_x hHeld ⊢; refine pu_ 0 ?_; refine pu_ 2 ?_; refine pu_ 6 ?_; refine pu_ 8 ?_; refine tk_ 1 ?_; refine pu_ 3 ?_; refine tk_ 4 ?_; refine pu_ 5 ?_; refine tk_ 7 ?_; refine pu_ 9 ?_; refine tk_ 10 ?_; refine pu_ 11 ?_; refine pu_ 12 ?_; refine join_ (σ := Option Addr × Nat × Nat) 1 (bl_ 16 32767) (fun s_ => [(65, .agg #[.bool nl, .slice s_.1 tl.length s_.2.1, .int .i64 0]), (9, .pointer (some ⟨s_.2.2, 0, none⟩))]) (fun s_ w' => (w'.cell? ⟨g3, 0, none⟩ = some (.slice (some al) lv.length c0) ∧ w'.cell? ⟨g3, 1, none⟩ = some (.slice (some aa) at_.length c1) ∧ w'.cell? (ae.add j) = some (.int .i64 z) ∧ w'.cell? (al.add j) = some (.int .i64 l) ∧ w'.cell? (aa.add j) = some (.int .i64 a)) ∧ (Ru w' s_.1 s_.2.1 tl 2) ∧ (B3 w' s_.2.2 false none 0 0 0) ∧ (w2.heap.size ≤ s_.2.2) ∧ (Below w2.heap.size w2 w') ∧ (g_x ≠ s_.2.2) ∧ (Ru w' A_x c_x tz 2) ∧ (B3 w' g_x nz A_x tz.length c_x ex)) ?_ ?_; rotate_left
       ·intro hJ; refine two_ (i := 13) (j := 14) (Ni := some 65) (Nj := some 9) (bl_ 16 16383) (bl_ 16 24575) rfl rfl rfl rfl (two_of HT_.o yK_) yD_ yD_ (fun K hK => ?_) (fun K hK => ?_)
        ·skip
         refine go1_ Try.func47 #[.int .i64 (wrap64 (2 * a - pl))] ?_; refine (zau.calls kl (wrap64 (2 * a - pl)) nl tl 0 u6 (by rw [hw4]; exact FL.o)).mono ?_; rintro e_ u8 ⟨v0, rfl, h0, hb⟩; refine ⟨_, rfl, ?_⟩; obtain ⟨A_l, c_l, rfl, r_t⟩ := Ru.of_R h0 U2.o.1 U2.o.2.1 U2.o.2.2; replace R_x := J (R_x.o.step hb); replace K_x := J (K_x.o.step hb); replace HB := J (za HB.o hb); have R_l := J r_t; clear hb h0 r_t; refine hK.out _ _ ⟨(HZ.o _ HB.o).1, (HZ.o _ HB.o).2.1, (HZ.o _ HB.o).2.2.1, (HZ.o _ HB.o).2.2.2.1, (HZ.o _ HB.o).2.2.2.2⟩ (fun hHeld => ?_); clear hK K; refine nm_ ?_; refine on_ HT_ 14 (some 9) (bl_ 16 32767) fun K hK => ?_
         refine za2 ?hg (N := 9) ?hd (cs := #[.bool false, .slice none 0 0, .int .i64 0]) (t := 101) ?hr ?_; (case hd => rfl); (case hg => rfl); (case hr => first | (go_simp; done) | (go_simp; rfl)); intro g_l aO u9 aC aB; have N_l_x := J (show g_x ≠ g_l by have := K_x.o.lt; omega); have L_l := J (show w2.heap.size ≤ g_l by have := HB.o.size; omega); replace R_x := J (R_x.o.step aB); replace R_l := J (R_l.o.step aB); replace K_x := J (K_x.o.step aB); replace HB := J (za HB.o aB); have K_l := J (show B3 u9 g_l false none 0 0 0 from aC); clear aO aC aB; refine hK.out _ _ ⟨(HZ.o _ HB.o).1, (HZ.o _ HB.o).2.1, (HZ.o _ HB.o).2.2.1, (HZ.o _ HB.o).2.2.2.1, (HZ.o _ HB.o).2.2.2.2⟩ (fun hHeld => ?_); clear hK K; refine nm_ ?_; exact np_ (hJ (A_l, c_l, g_l) _ ⟨hHeld, R_l.o, K_l.o, L_l.o, HB.o, N_l_x.o, R_x.o, K_x.o⟩)
        ·skip
         refine za2 ?hg (N := 9) ?hd (cs := #[.bool false, .slice none 0 0, .int .i64 0]) (t := 101) ?hr ?_; (case hd => rfl); (case hg => rfl); (case hr => first | (go_simp; done) | (go_simp; rfl)); intro g_l aO u8 aC aB; have N_l_x := J (show g_x ≠ g_l by have := K_x.o.lt; omega); have L_l := J (show w2.heap.size ≤ g_l by have := HB.o.size; omega); replace R_x := J (R_x.o.step aB); replace K_x := J (K_x.o.step aB); replace HB := J (za HB.o aB); have K_l := J (show B3 u8 g_l false none 0 0 0 from aC); clear aO aC aB; refine hK.out _ _ ⟨(HZ.o _ HB.o).1, (HZ.o _ HB.o).2.1, (HZ.o _ HB.o).2.2.1, (HZ.o _ HB.o).2.2.2.1, (HZ.o _ HB.o).2.2.2.2⟩ (fun hHeld => ?_); clear hK K; refine nm_ ?_; refine on_ HT_ 13 (some 65) (bl_ 16 32767) fun K hK => ?_
         refine go1_ Try.func47 #[.int .i64 (wrap64 (2 * a - pl))] ?_; refine (zau.calls kl (wrap64 (2 * a - pl)) nl tl 0 u8 (by rw [hw4]; exact FL.o)).mono ?_; rintro e_ u9 ⟨v0, rfl, h0, hb⟩; refine ⟨_, rfl, ?_⟩; obtain ⟨A_l, c_l, rfl, r_t⟩ := Ru.of_R h0 U2.o.1 U2.o.2.1 U2.o.2.2; replace R_x := J (R_x.o.step hb); replace K_x := J (K_x.o.step hb); replace K_l := J (K_l.o.step hb); replace HB := J (za HB.o hb); have R_l := J r_t; clear hb h0 r_t; refine hK.out _ _ ⟨(HZ.o _ HB.o).1, (HZ.o _ HB.o).2.1, (HZ.o _ HB.o).2.2.1, (HZ.o _ HB.o).2.2.2.1, (HZ.o _ HB.o).2.2.2.2⟩ (fun hHeld => ?_); clear hK K; refine nm_ ?_; exact np_ (hJ (A_l, c_l, g_l) _ ⟨hHeld, R_l.o, K_l.o, L_l.o, HB.o, N_l_x.o, R_x.o, K_x.o⟩)
       rintro ⟨A_l, c_l, g_l⟩ u7 ⟨hHeld, aR, aP, aS, aT, bT, bU, bV⟩; clear HB R_x K_x; have R_l := J (show Ru u7 A_l c_l tl 2 from aR); have K_l := J (show B3 u7 g_l false none 0 0 0 from aP); have L_l := J (show w2.heap.size ≤ g_l from aS); have HB := J (show Below w2.heap.size w2 u7 from aT); have N_l_x := J (show g_x ≠ g_l from bT); have R_x := J (show Ru u7 A_x c_x tz 2 from bU); have K_x := J (show B3 u7 g_x nz A_x tz.length c_x ex from bV); clear aR aP aS aT bT bU bV; have bN := K_l.o.f 0; have aY := K_l.o.c0; have bO := K_l.o.f 1; have aZ := K_l.o.c1; have bP := K_l.o.f 2; have bA := K_l.o.c2; refine zbl (a' := ?_) ?_ ?_; rotate_left; (focus (simp only [putAll, Act.put, sI_, s0_, s1_]; first | done | rfl)); refine last_ (i := 15) (N := none) (bl_ 16 65535) rfl rfl (zaY HT_.o yK_) yD_ (fun K hK => ?_); refine skip_ (w1 := ?_) (by rfl) rfl ?_ ?_; rotate_left; (focus (go_simp; first | done | rfl)); refine hK.out _ _ ?_; clear hK K; refine zaL (zad HT_.o yK_) ?_; clear bN aY bO aZ bP bA hHeld
       have aA := zx u7 g_l 0 (.bool nl); replace R_x := J (R_x.o.put K_l.o aA); replace R_l := J (R_l.o.put K_l.o aA); replace K_x := J (K_x.o.put aA N_l_x.o); replace HB := J (HB.o.grown aA HB.o.size (fun k_ aN => by cases aN; exact L_l.o)); replace K_l := J (show B3 (u7.setCell ⟨g_l, 0, none⟩ (.bool nl)) g_l nl none 0 0 0 from zav K_l.o 0 _); clear aA; generalize u7.setCell ⟨g_l, 0, none⟩ (.bool nl) = u8 at HB R_x R_l K_x K_l ⊢; have aA := zx u8 g_l 1 (.slice A_l tl.length c_l); replace R_x := J (R_x.o.put K_l.o aA); replace R_l := J (R_l.o.put K_l.o aA); replace K_x := J (K_x.o.put aA N_l_x.o); replace HB := J (HB.o.grown aA HB.o.size (fun k_ aN => by cases aN; exact L_l.o)); replace K_l := J (show B3 (u8.setCell ⟨g_l, 1, none⟩ (.slice A_l tl.length c_l)) g_l nl A_l tl.length c_l 0 from zav K_l.o 1 _); clear aA; generalize u8.setCell ⟨g_l, 1, none⟩ (.slice A_l tl.length c_l) = u9 at HB R_x R_l K_x K_l ⊢; have aA := zx u9 g_l 2 (.int .i64 0); replace R_x := J (R_x.o.put K_l.o aA); replace R_l := J (R_l.o.put K_l.o aA); replace K_x := J (K_x.o.put aA N_l_x.o); replace HB := J (HB.o.grown aA HB.o.size (fun k_ aN => by cases aN; exact L_l.o)); replace K_l := J (show B3 (u9.setCell ⟨g_l, 2, none⟩ (.int .i64 0)) g_l nl A_l tl.length c_l 0 from zav K_l.o 2 _); clear aA; generalize u9.setCell ⟨g_l, 2, none⟩ (.int .i64 0) = bY at HB R_x R_l K_x K_l ⊢; go_wp2_with fail
       have hb : Below bY.heap.size bY bY.drew := zU (Below.refl _ _); replace R_x := J (R_x.o.step hb); replace R_l := J (R_l.o.step hb); replace K_x := J (K_x.o.step hb); replace K_l := J (K_l.o.step hb); replace HB := J (za HB.o hb); clear hb; refine zaw (n := 17) (S := fun w' => w'.cell? ⟨g3, 0, none⟩ = some (.slice (some al) lv.length c0) ∧ w'.cell? ⟨g3, 1, none⟩ = some (.slice (some aa) at_.length c1) ∧ w'.cell? (ae.add j) = some (.int .i64 z) ∧ w'.cell? (al.add j) = some (.int .i64 l) ∧ w'.cell? (aa.add j) = some (.int .i64 a)) (ds := [16]) (bl_ 17 0) yK_ rfl rfl ⟨(HZ.o _ HB.o).1, (HZ.o _ HB.o).2.1, (HZ.o _ HB.o).2.2.1, (HZ.o _ HB.o).2.2.2.1, (HZ.o _ HB.o).2.2.2.2⟩ (fun hHeld => ?_); refine zS zaK.tab8 zaK.bits8 (fun HT_ HW_ => ?_); generalize bY.drew = u11 at HB R_x R_l K_x K_l hHeld ⊢; refine pu_ 0 ?_; refine pu_ 2 ?_; refine pu_ 7 ?_; refine pu_ 9 ?_; refine tk_ 1 ?_; refine pu_ 3 ?_; refine tk_ 4 ?_; refine pu_ 5 ?_; refine pu_ 6 ?_; refine tk_ 8 ?_; refine pu_ 10 ?_; refine tk_ 11 ?_; refine pu_ 12 ?_; refine pu_ 13 ?_
       refine join_ (σ := Option Addr × Nat × Nat) 1 (bl_ 17 65535) (fun s_ => [(80, .agg #[.bool nh, .slice s_.1 th.length s_.2.1, .int .i64 0]), (10, .pointer (some ⟨s_.2.2, 0, none⟩))]) (fun s_ w' => (w'.cell? ⟨g3, 0, none⟩ = some (.slice (some al) lv.length c0) ∧ w'.cell? ⟨g3, 1, none⟩ = some (.slice (some aa) at_.length c1) ∧ w'.cell? (ae.add j) = some (.int .i64 z) ∧ w'.cell? (al.add j) = some (.int .i64 l) ∧ w'.cell? (aa.add j) = some (.int .i64 a)) ∧ (Ru w' s_.1 s_.2.1 th 2) ∧ (B3 w' s_.2.2 false none 0 0 0) ∧ (w2.heap.size ≤ s_.2.2) ∧ (Below w2.heap.size w2 w') ∧ (g_x ≠ s_.2.2) ∧ (g_l ≠ s_.2.2) ∧ (Ru w' A_x c_x tz 2) ∧ (Ru w' A_l c_l tl 2) ∧ (B3 w' g_x nz A_x tz.length c_x ex) ∧ (B3 w' g_l nl A_l tl.length c_l 0)) ?_ ?_; rotate_left
       ·intro hJ; refine two_ (i := 14) (j := 15) (Ni := some 80) (Nj := some 10) (bl_ 17 32767) (bl_ 17 49151) rfl rfl rfl rfl (two_of HT_.o yK_) yD_ yD_ (fun K hK => ?_) (fun K hK => ?_)
        ·skip
         refine go1_ Try.func47 #[.int .i64 (wrap64 (2 * a + 2 - pl))] ?_; refine (zau.calls kh (wrap64 (2 * a + 2 - pl)) nh th 0 u11 (by rw [hw5]; exact FH.o)).mono ?_; rintro e_ bE ⟨v0, rfl, h0, hb⟩; refine ⟨_, rfl, ?_⟩; obtain ⟨A_h, c_h, rfl, r_t⟩ := Ru.of_R h0 U3.o.1 U3.o.2.1 U3.o.2.2; replace R_x := J (R_x.o.step hb); replace R_l := J (R_l.o.step hb); replace K_x := J (K_x.o.step hb); replace K_l := J (K_l.o.step hb); replace HB := J (za HB.o hb); have R_h := J r_t; clear hb h0 r_t; refine hK.out _ _ ⟨(HZ.o _ HB.o).1, (HZ.o _ HB.o).2.1, (HZ.o _ HB.o).2.2.1, (HZ.o _ HB.o).2.2.2.1, (HZ.o _ HB.o).2.2.2.2⟩ (fun hHeld => ?_); clear hK K; refine nm_ ?_; refine on_ HT_ 15 (some 10) (bl_ 17 65535) fun K hK => ?_
         refine za2 ?hg (N := 10) ?hd (cs := #[.bool false, .slice none 0 0, .int .i64 0]) (t := 101) ?hr ?_; (case hd => rfl); (case hg => rfl); (case hr => first | (go_simp; done) | (go_simp; rfl)); intro g_h aO bH aC aB; have N_h_x := J (show g_x ≠ g_h by have := K_x.o.lt; omega); have N_h_l := J (show g_l ≠ g_h by have := K_l.o.lt; omega); have L_h := J (show w2.heap.size ≤ g_h by have := HB.o.size; omega); replace R_x := J (R_x.o.step aB); replace R_l := J (R_l.o.step aB); replace R_h := J (R_h.o.step aB); replace K_x := J (K_x.o.step aB); replace K_l := J (K_l.o.step aB); replace HB := J (za HB.o aB); have K_h := J (show B3 bH g_h false none 0 0 0 from aC); clear aO aC aB; refine hK.out _ _ ⟨(HZ.o _ HB.o).1, (HZ.o _ HB.o).2.1, (HZ.o _ HB.o).2.2.1, (HZ.o _ HB.o).2.2.2.1, (HZ.o _ HB.o).2.2.2.2⟩ (fun hHeld => ?_); clear hK K; refine nm_ ?_; exact np_ (hJ (A_h, c_h, g_h) _ ⟨hHeld, R_h.o, K_h.o, L_h.o, HB.o, N_h_x.o, N_h_l.o, R_x.o, R_l.o, K_x.o, K_l.o⟩)
        ·skip
         refine za2 ?hg (N := 10) ?hd (cs := #[.bool false, .slice none 0 0, .int .i64 0]) (t := 101) ?hr ?_; (case hd => rfl); (case hg => rfl); (case hr => first | (go_simp; done) | (go_simp; rfl)); intro g_h aO bE aC aB; have N_h_x := J (show g_x ≠ g_h by have := K_x.o.lt; omega); have N_h_l := J (show g_l ≠ g_h by have := K_l.o.lt; omega); have L_h := J (show w2.heap.size ≤ g_h by have := HB.o.size; omega); replace R_x := J (R_x.o.step aB); replace R_l := J (R_l.o.step aB); replace K_x := J (K_x.o.step aB); replace K_l := J (K_l.o.step aB); replace HB := J (za HB.o aB); have K_h := J (show B3 bE g_h false none 0 0 0 from aC); clear aO aC aB; refine hK.out _ _ ⟨(HZ.o _ HB.o).1, (HZ.o _ HB.o).2.1, (HZ.o _ HB.o).2.2.1, (HZ.o _ HB.o).2.2.2.1, (HZ.o _ HB.o).2.2.2.2⟩ (fun hHeld => ?_); clear hK K; refine nm_ ?_; refine on_ HT_ 14 (some 80) (bl_ 17 65535) fun K hK => ?_
         refine go1_ Try.func47 #[.int .i64 (wrap64 (2 * a + 2 - pl))] ?_; refine (zau.calls kh (wrap64 (2 * a + 2 - pl)) nh th 0 bE (by rw [hw5]; exact FH.o)).mono ?_; rintro e_ bH ⟨v0, rfl, h0, hb⟩; refine ⟨_, rfl, ?_⟩; obtain ⟨A_h, c_h, rfl, r_t⟩ := Ru.of_R h0 U3.o.1 U3.o.2.1 U3.o.2.2; replace R_x := J (R_x.o.step hb); replace R_l := J (R_l.o.step hb); replace K_x := J (K_x.o.step hb); replace K_l := J (K_l.o.step hb); replace K_h := J (K_h.o.step hb); replace HB := J (za HB.o hb); have R_h := J r_t; clear hb h0 r_t; refine hK.out _ _ ⟨(HZ.o _ HB.o).1, (HZ.o _ HB.o).2.1, (HZ.o _ HB.o).2.2.1, (HZ.o _ HB.o).2.2.2.1, (HZ.o _ HB.o).2.2.2.2⟩ (fun hHeld => ?_); clear hK K; refine nm_ ?_; exact np_ (hJ (A_h, c_h, g_h) _ ⟨hHeld, R_h.o, K_h.o, L_h.o, HB.o, N_h_x.o, N_h_l.o, R_x.o, R_l.o, K_x.o, K_l.o⟩)
       rintro ⟨A_h, c_h, g_h⟩ aQ ⟨hHeld, aR, aP, aS, aT, bT, bU, bV, h7_, h8_, h9_⟩; clear HB R_x R_l K_x K_l; have R_h := J (show Ru aQ A_h c_h th 2 from aR); have K_h := J (show B3 aQ g_h false none 0 0 0 from aP); have L_h := J (show w2.heap.size ≤ g_h from aS); have HB := J (show Below w2.heap.size w2 aQ from aT); have N_h_x := J (show g_x ≠ g_h from bT); have N_h_l := J (show g_l ≠ g_h from bU); have R_x := J (show Ru aQ A_x c_x tz 2 from bV); have R_l := J (show Ru aQ A_l c_l tl 2 from h7_); have K_x := J (show B3 aQ g_x nz A_x tz.length c_x ex from h8_); have K_l := J (show B3 aQ g_l nl A_l tl.length c_l 0 from h9_); clear aR aP aS aT bT bU bV h7_ h8_ h9_; have bK := K_h.o.f 0; have aV := K_h.o.c0; have bL := K_h.o.f 1; have aW := K_h.o.c1; have bM := K_h.o.f 2; have aX := K_h.o.c2; refine zbl (a' := ?_) ?_ ?_; rotate_left; (focus (simp only [putAll, Act.put, sI_, s0_, s1_]; first | done | rfl)); refine last_ (i := 16) (N := none) (bl_ 17 131071) rfl rfl (zaY HT_.o yK_) yD_ (fun K hK => ?_); refine skip_ (w1 := ?_) (by rfl) rfl ?_ ?_; rotate_left; (focus (go_simp; first | done | rfl)); refine hK.out _ _ ?_; clear hK K; refine zaL (zad HT_.o yK_) ?_; clear bK aV bL aW bM aX hHeld
       have aA := zx aQ g_h 0 (.bool nh); replace R_x := J (R_x.o.put K_h.o aA); replace R_l := J (R_l.o.put K_h.o aA); replace R_h := J (R_h.o.put K_h.o aA); replace K_x := J (K_x.o.put aA N_h_x.o); replace K_l := J (K_l.o.put aA N_h_l.o); replace HB := J (HB.o.grown aA HB.o.size (fun k_ aN => by cases aN; exact L_h.o)); replace K_h := J (show B3 (aQ.setCell ⟨g_h, 0, none⟩ (.bool nh)) g_h nh none 0 0 0 from zav K_h.o 0 _); clear aA; generalize aQ.setCell ⟨g_h, 0, none⟩ (.bool nh) = bE at HB R_x R_l R_h K_x K_l K_h ⊢; have aA := zx bE g_h 1 (.slice A_h th.length c_h); replace R_x := J (R_x.o.put K_h.o aA); replace R_l := J (R_l.o.put K_h.o aA); replace R_h := J (R_h.o.put K_h.o aA); replace K_x := J (K_x.o.put aA N_h_x.o); replace K_l := J (K_l.o.put aA N_h_l.o); replace HB := J (HB.o.grown aA HB.o.size (fun k_ aN => by cases aN; exact L_h.o)); replace K_h := J (show B3 (bE.setCell ⟨g_h, 1, none⟩ (.slice A_h th.length c_h)) g_h nh A_h th.length c_h 0 from zav K_h.o 1 _); clear aA; generalize bE.setCell ⟨g_h, 1, none⟩ (.slice A_h th.length c_h) = bH at HB R_x R_l R_h K_x K_l K_h ⊢
       have aA := zx bH g_h 2 (.int .i64 0); replace R_x := J (R_x.o.put K_h.o aA); replace R_l := J (R_l.o.put K_h.o aA); replace R_h := J (R_h.o.put K_h.o aA); replace K_x := J (K_x.o.put aA N_h_x.o); replace K_l := J (K_l.o.put aA N_h_l.o); replace HB := J (HB.o.grown aA HB.o.size (fun k_ aN => by cases aN; exact L_h.o)); replace K_h := J (show B3 (bH.setCell ⟨g_h, 2, none⟩ (.int .i64 0)) g_h nh A_h th.length c_h 0 from zav K_h.o 2 _); clear aA; generalize bH.setCell ⟨g_h, 2, none⟩ (.int .i64 0) = u15 at HB R_x R_l R_h K_x K_l K_h ⊢; have aK := K_x.o.c0; have aL := K_x.o.c1; have aM := K_x.o.c2; have aH := K_l.o.c0; have aI := K_l.o.c1; have aJ := K_l.o.c2; have aD := K_h.o.c0; have aE := K_h.o.c1; have aG := K_h.o.c2; go_wp2_with fail; have HIN := J (show InP d z l a ↔ (lo * 2 ^ (62 - l.toNat) ≤ z * 2 ^ (62 - d.toNat) ∧ z * 2 ^ (62 - d.toNat) ≤ hi * 2 ^ (62 - l.toNat)) by unfold InP; rw [HLO.o, HHI.o, HP.o]); have cc := rcmp_calls nz nl A_x c_x tz ex A_l c_l tl 0 2 u15 R_x.o R_l.o yO_ ⟨HEXB.o, by omega, by omega⟩; rw [V1.o, V2.o] at cc; have y_ := Y1.o; generalize sgnI (z * 2 ^ (ex - lvE tz ex tl 0).toNat - lo * 2 ^ (0 - lvE tz ex tl 0).toNat) = s1 at cc y_; have bI := J y_; clear y_; refine cc.mono ?_; clear cc; rintro e_ u17 ⟨rfl, hb⟩; clear aK aL aM aH aI aJ aD aE aG
       replace R_x := J (R_x.o.step hb); replace R_l := J (R_l.o.step hb); replace R_h := J (R_h.o.step hb); replace K_x := J (K_x.o.step hb); replace K_l := J (K_l.o.step hb); replace K_h := J (K_h.o.step hb); replace HB := J (za HB.o hb); clear hb; have aK := K_x.o.c0; have aL := K_x.o.c1; have aM := K_x.o.c2; have aH := K_l.o.c0; have aI := K_l.o.c1; have aJ := K_l.o.c2; have aD := K_h.o.c0; have aE := K_h.o.c1; have aG := K_h.o.c2
       by_cases bF : s1 < 0
       ·have cE : decide (s1 < 0) = true := decide_eq_true bF; have bZ := J bF; clear bF; go_wp2_with fail; go_ret; exact ⟨by rw [← HBN.o, decide_eq_false (fun h => by have aP := bI.o.mpr (HIN.o.1 (HW.o h)).1; have := bZ.o; omega)]; first | done | rfl, za B2.o HB.o⟩
       ·have cE : decide (s1 < 0) = false := decide_eq_false bF; have bZ := J bF; clear bF; go_wp2_with fail; have cc := rcmp_calls nz nh A_x c_x tz ex A_h c_h th 0 2 u17 R_x.o R_h.o yO_ ⟨HEXB.o, by omega, by omega⟩; rw [V1.o, V3.o] at cc; have y_ := Y2.o; generalize sgnI (z * 2 ^ (ex - lvE tz ex th 0).toNat - hi * 2 ^ (0 - lvE tz ex th 0).toNat) = s2 at cc y_; have bJ := J y_; clear y_; refine cc.mono ?_; clear cc; rintro e_ u18 ⟨rfl, hb⟩; clear aK aL aM aH aI aJ aD aE aG; replace R_x := J (R_x.o.step hb); replace R_l := J (R_l.o.step hb); replace R_h := J (R_h.o.step hb); replace K_x := J (K_x.o.step hb); replace K_l := J (K_l.o.step hb); replace K_h := J (K_h.o.step hb); replace HB := J (za HB.o hb); clear hb; have aK := K_x.o.c0; have aL := K_x.o.c1; have aM := K_x.o.c2; have aH := K_l.o.c0; have aI := K_l.o.c1; have aJ := K_l.o.c2; have aD := K_h.o.c0; have aE := K_h.o.c1; have aG := K_h.o.c2
        by_cases bG : 0 < s2
        ·have cF : decide (0 < s2) = true := decide_eq_true bG; have cA := J bG; clear bG; go_wp2_with fail; go_ret; exact ⟨by rw [← HBN.o, decide_eq_false (fun h => by have aP := bJ.o.mpr (HIN.o.1 (HW.o h)).2; have := cA.o; omega)]; first | done | rfl, za B2.o HB.o⟩
        ·have cF : decide (0 < s2) = false := decide_eq_false bG; have cA := J bG; clear bG; have HN := J (HIN.o.2 ⟨bI.o.mp (by have := bZ.o; omega), bJ.o.mp (by have := cA.o; omega)⟩); clear aK aL aM aH aI aJ aD aE aG; go_wp2_with fail; go_roundg (gk - 1)
         case measure => have := hm.o; have := HJ.o; omega
         case rel => exact ⟨(j : Int) + 1, by rw [show wrap64 ((j : Int) + 1) = (j : Int) + 1 from w64 _ yO_ (by have := HJ.o; have := HLE.o; have := HREG.o.1; omega)], ⟨by have := hm.o; have := HJ.o; omega⟩, ⟨HQ.o HN.o⟩, ⟨HB.o⟩⟩
      ·have hxb : decide (x < (es.length : Int)) = false := decide_eq_false hx; have HX := J (show x = es.length by have := hm.o; omega); clear hx; go_wp2_with fail; go_ret; exact ⟨by rw [← HBN.o, decide_eq_true ⟨HREG.o, HLE.o, HD.o.1, HD.o.2, fun i hi => hall.o i (by have := HX.o; have := HLE.o; omega)⟩]; first | done | rfl, za B2.o HB.o⟩
  ·have hlb : ((es.length : Int) != (lv.length : Int)) = true := by rw [bne_iff_ne]; omega
   have HN := J (show ¬ Win lv at_ es d from fun h => hl h.2.1); clear hl; go_wp2_with fail; go_ret; exact ⟨by rw [← HBN.o, decide_eq_false HN.o]; first | done | rfl, B2.o⟩
 ·have hzb : (cr != 0) = true := by rw [bne_iff_ne]; exact hz
  have HN := J (show ¬ Win lv at_ es d from fun h => chk_bad (by rw [HCR.o]; exact hz) h.1); clear hz; go_wp2_with fail; go_ret; exact ⟨by rw [← HBN.o, decide_eq_false HN.o]; first | done | rfl, B2.o⟩
end Go.Proofs.Ytlidbaejhmamjaa.NW
namespace Go.Proofs.Ytlidbaejhmamjaa.LA
open Go.RowKit YtlidbaejhmamjaaW.PrintWords YtlidbaejhmamjaaW.PrintLast YtlidbaejhmamjaaW.PrintMore PB
theorem rd_nat (xs : List Int) (i : Nat) (h : i < xs.length) : rd xs (i : Int) = xs[i] := by simp [rd, h]
theorem rd_set_same (xs : List Int) (i : Nat) (v : Int) (h : i < xs.length) : rd (xs.set i v) (i : Int) = v := by simp [rd, h]
theorem pz_set : ∀ (lv at_ : List Int) (i : Nat) (a b : Int), (pz lv at_).set i ⟨a, b⟩ = pz (lv.set i a) (at_.set i b)
 | [], _, i, a, b => by simp [pz]
 | _ :: _, [], i, a, b => by simp [pz]
 | x :: lv, y :: at_, 0, a, b => by simp [pz]
 | x :: lv, y :: at_, i + 1, a, b => by
  have := pz_set lv at_ i a b; simp [pz] at this ⊢; exact this
theorem pz_f0 : ∀ (lv at_ : List Int), at_.length = lv.length → (pz lv at_).map (·.f0) = lv
 | [], [], _ => rfl
 | x :: lv, y :: at_, h => by
  have := pz_f0 lv at_ (by simpa using h); simp [pz] at this ⊢; exact this
theorem pz_f1 : ∀ (lv at_ : List Int), at_.length = lv.length → (pz lv at_).map (·.f1) = at_
 | [], [], _ => rfl
 | x :: lv, y :: at_, h => by
  have := pz_f1 lv at_ (by simpa using h); simp [pz] at this ⊢; exact this
def HOk (lv at_ : List Int) (s : Int) : Prop := Reg lv at_ ∧ 0 ≤ s ∧ s < lv.length ∧ rd lv s ≠ 8
instance (lv at_ : List Int) (s : Int) : Decidable (HOk lv at_ s) := by unfold HOk; infer_instance
def hE (lv at_ : List Int) (s : Int) : Int := if HOk lv at_ s then 0 else if Reg lv at_ then 1 else 180
def hL (lv at_ : List Int) (s : Int) : List Int := if HOk lv at_ s then lv.set s.toNat (rd lv s + 1) else []
def hA (lv at_ : List Int) (s : Int) : List Int := if HOk lv at_ s then at_.set s.toNat (2 * rd at_ s) else []
def hB (lv at_ : List Int) (s : Int) : List Int := if HOk lv at_ s then at_.set s.toNat (2 * rd at_ s + 1) else []
theorem fit_at {l a : Int} (h : Fit l a) : 0 ≤ a ∧ a < 256 := by
 obtain ⟨h0, h1, h2, h3⟩ := h
 have h4 : (2 : Int) ^ l.toNat ≤ 2 ^ 8 := by
  have := Nat.pow_le_pow_right (n := 2) yD_ (show l.toNat ≤ 8 by omega)
  exact_mod_cast this
 have e : (2 : Int) ^ 8 = 256 := by decide
 omega
theorem chk_self (lv at_ : List Int) : chkE lv at_ lv.length = if Reg lv at_ then 0 else 180 := by
 unfold chkE; exact ite_cong ⟨fun h => h.2, fun h => ⟨rfl, h⟩⟩ _ _
theorem Halve_ev (lv at_ : List Int) (s : Int) : EvS (fun k => zX.f k lv at_ s) (hL lv at_ s, hA lv at_ s, hL lv at_ s, hB lv at_ s, hE lv at_ s) := by
 unfold zX.f; refine EvS.bind (Check_ev lv at_ _) ?_; rw [chk_self]
 by_cases hr : Reg lv at_
 ·simp only [if_pos hr, if_true]; refine EvS.bind (parts_ev lv at_ hr.2.1 hr.1) ?_
  have bad : ¬ HOk lv at_ s → EvS (fun k => zX.j0 k s (pz lv at_) true) (hL lv at_ s, hA lv at_ s, hL lv at_ s, hB lv at_ s, hE lv at_ s) := fun h => by
   unfold hL hA hB hE; simp only [if_neg h, if_pos hr]; exact EvS.done fun k => by simp only [zX.j0]; rfl
  by_cases h0 : s < 0
  ·simp only [if_pos h0]; exact bad (fun h => by have := h.2.1; omega)
  ·by_cases h1 : s ≥ (lv.length : Int)
   ·simp only [if_neg h0, if_pos h1]; exact bad (fun h => by have := h.2.2.1; omega)
   ·obtain ⟨i, rfl⟩ : ∃ i : Nat, s = i := ⟨s.toNat, by omega⟩
    have hi : i < lv.length := by omega
    have hp := pz_rd lv at_ i hi (by have := hr.2.1; omega); have hl := zba lv at_ hr.2.1; simp only [if_neg h0, if_neg h1, if_pos (show (0 : Int) ≤ (i : Int) by omega), if_pos (show (i : Int) < ((pz lv at_).length : Int) by omega), hp]
    by_cases h8 : rd lv (i : Int) = 8
    ·rw [show (rd lv (i : Int) == 8) = true by rw [h8]; rfl]; exact bad (fun h => h.2.2.2 h8)
    ·rw [show (rd lv (i : Int) == 8) = false from beq_eq_false_iff_ne.mpr h8]; have hok : HOk lv at_ (i : Int) := ⟨hr, by omega, by omega, h8⟩
     have hf := hr.2.2 i hi; have ha := fit_at hf; have hl0 := hf.1; have hl1 := hf.2.1; have hia : i < at_.length := by have := hr.2.1; omega
     refine EvS.succ (fun k => by simp only [zX.j0]; rfl) ?_; simp only [Bool.false_eq_true, if_false, if_pos (show (0 : Int) ≤ (i : Int) by omega), if_pos (show (i : Int) < ((pz lv at_).length : Int) by omega), hp, Option.bind_some, Int.toNat_natCast, w64 (rd lv (i : Int) + 1) yO_ yO_, w64 (2 * rd at_ (i : Int)) yO_ yO_, pz_set]; refine EvS.bind (region_ev _ (by rw [zba _ _ (by simp [hr.2.1])]; simp; exact hr.1)) ?_; have hp2 := pz_rd (lv.set i (rd lv (i : Int) + 1)) (at_.set i (2 * rd at_ (i : Int))) i (by simp [hi]) (by simp [hia]); rw [rd_set_same _ _ _ hi, rd_set_same _ _ _ hia] at hp2; simp only [hp2, w64 (2 * rd at_ (i : Int) + 1) yO_ yO_, List.set_set, pz_f0 (lv.set i (rd lv (i : Int) + 1)) (at_.set i (2 * rd at_ (i : Int))) (by simp [hr.2.1]), pz_f1 (lv.set i (rd lv (i : Int) + 1)) (at_.set i (2 * rd at_ (i : Int))) (by simp [hr.2.1])]; refine EvS.bind (region_ev _ (by rw [zba _ _ (by simp [hr.2.1])]; simp; exact hr.1)) ?_; have hp3 := pz_rd (lv.set i (rd lv (i : Int) + 1)) (at_.set i (2 * rd at_ (i : Int) + 1)) i (by simp [hi]) (by simp [hia]); rw [rd_set_same _ _ _ hi, rd_set_same _ _ _ hia] at hp3; have hne : (rd lv (i : Int) + 1 == rd lv (i : Int)) = false := beq_eq_false_iff_ne.mpr yO_
     simp only [hp3, hne, Bool.false_and, Bool.false_eq_true, if_false, pz_f0 (lv.set i (rd lv (i : Int) + 1)) (at_.set i (2 * rd at_ (i : Int) + 1)) (by simp [hr.2.1]), pz_f1 (lv.set i (rd lv (i : Int) + 1)) (at_.set i (2 * rd at_ (i : Int) + 1)) (by simp [hr.2.1])]; unfold hL hA hB hE; simp only [if_pos hok, Int.toNat_natCast]; exact EvS.pure _
 ·have hn : ¬ HOk lv at_ s := fun h => hr h.1
  simp only [if_neg hr, if_neg (show ¬ ((180 : Int) = 0) by decide)]; unfold hL hA hB hE; simp only [if_neg hn, if_neg hr]; exact EvS.pure _
def wayN (lv at_ : List Int) : Int := if Reg lv at_ then lv.sum else 0
def wayE (lv at_ : List Int) : Int := if Reg lv at_ then 0 else 180
theorem sum_take (lv : List Int) (i : Nat) (h : i < lv.length) : (lv.take (i + 1)).sum = (lv.take i).sum + rd lv (i : Int) := by
 rw [List.take_add_one, List.getElem?_eq_getElem h, List.sum_append, rd_nat lv i h]; simp
theorem sum_bound (lv at_ : List Int) (hr : Reg lv at_) : ∀ i, i ≤ lv.length → 0 ≤ (lv.take i).sum ∧ (lv.take i).sum ≤ 8 * i
 | 0, _ => by simp
 | i + 1, h => by
  have ih := sum_bound lv at_ hr i yO_; have hf := hr.2.2 i yO_; have h0 := hf.1; have h1 := hf.2.1; rw [sum_take lv i yO_]
  omega
theorem Way_ev (lv at_ : List Int) : EvS (fun k => zaJ.f k lv at_) (wayN lv at_, wayE lv at_) := by
 unfold zaJ.f; refine EvS.bind (Check_ev lv at_ _) ?_; rw [chk_self]
 by_cases hr : Reg lv at_
 ·simp only [if_pos hr, if_true, wayN, wayE]
  have key : ∀ m i : Nat, m + i = lv.length → EvS (fun k => zaJ.l0 k (lv.take i).sum lv (lv.length : Int) (i : Int)) (lv.sum, 0) := by
   intro m
   induction m with
   | zero =>
    intro i hi; rw [List.take_of_length_le yO_]; exact EvS.done fun k => by simp only [zaJ.l0]; rw [if_neg yO_]
   | succ m ih =>
    intro i hi; refine EvS.succ (fun k => ?_) (ih (i + 1) yO_); have b := sum_bound lv at_ hr (i + 1) yO_; have hl := hr.1; rw [sum_take lv i yO_] at b ⊢; simp only [zaJ.l0]; rw [if_pos yO_, if_pos yO_, if_pos yO_, wnext i yO_, w64 _ yO_ yO_]
  simpa using key lv.length 0 yO_
 ·simp only [if_neg hr, if_neg (show ¬ ((180 : Int) = 0) by decide), wayN, wayE]; exact EvS.pure _
end Go.Proofs.Ytlidbaejhmamjaa.LA
namespace Go.Proofs.Ytlidbaejhmamjaa.PB
open Go.RowKit YtlidbaejhmamjaaW.PrintWords YtlidbaejhmamjaaW.PrintLast YtlidbaejhmamjaaW.PrintMore
attribute [local go_sem] zao zaq zaB zaC zae zaf zap zar   -- for this text's walks alone
def zp.j0 : Nat → Int → Bool → List Int → List Int → Option (List Int × List Int × List Int × List Int × Int)
 | 0, _, _, _, _ => none
 | k + 1, x1, x33, aD, aA => if x33 = true then (some (([] : List Int), ([] : List Int), ([] : List Int), ([] : List Int), 1)) else ((zam.f aD aA).bind fun aB => ((zam.f aD aA).bind fun aC => (if 0 ≤ x1 then (if x1 < (aB.1.length : Int) then (if x1 < (aC.1.length : Int) then (if x1 < (aA.length : Int) then (if x1 < (aB.2.length : Int) then (if x1 < (aC.2.length : Int) then (some ((aB.1.set (x1 : Int).toNat (wrap64 ((rd aB.1 x1) + 1))), (aB.2.set (x1 : Int).toNat (wrap64 (2 * (rd aA x1)))), (aC.1.set (x1 : Int).toNat (wrap64 ((rd aC.1 x1) + 1))), (aC.2.set (x1 : Int).toNat (wrap64 ((wrap64 (2 * (rd aA x1))) + 1))), 0)) else (none)) else (none)) else (none)) else (none)) else (none)) else (none))))
def zp.f (k : Nat) (aA : List Int) (aB : List Int) (a1 : Int) : Option (List Int × List Int × List Int × List Int × Int) := (zl.f k aA aB (aA.length : Int)).bind fun aC => (if aC = 0 then (if a1 < 0 then (zp.j0 k a1 true aA aB) else (if a1 ≥ (aA.length : Int) then (zp.j0 k a1 true aA aB) else (if 0 ≤ a1 then (if a1 < (aA.length : Int) then (zp.j0 k a1 ((rd aA a1) == 8) aA aB) else (none)) else (none)))) else (some (([] : List Int), ([] : List Int), ([] : List Int), ([] : List Int), 180)))
def zp.T9 : Bool × List (List Nat × List Nat) := (true, [([], []), ([0], [0]), ([], []), ([], []), ([3], [3]), ([], []), ([4, 5], [4, 5]), ([6], [6]), ([7], [7]), ([1, 2, 0, 1, 2, 3, 4, 5, 6, 7, 8], [1, 2]), ([9, 8, 0, 1, 2, 3, 4, 5, 6, 7, 8], [8, 9])])
def zp.B9 : List Nat := [0, 1, 0, 0, 8, 0, 56, 120, 248, 511, 1023]
theorem zp.tab9 : zbc .any (opsOf Try.f16 9) = zp.T9 := by kernel_rfl
theorem zp.bits9 : zal zp.T9.2 zp.B9 = true := by kernel_rfl
def zp.T10 : Bool × List (List Nat × List Nat) := (true, [([], []), ([0], [0]), ([], []), ([], []), ([3], [3]), ([], []), ([4, 5], [4, 5]), ([6], [6]), ([7], [7]), ([8], [8]), ([1, 2, 0, 1, 2, 3, 4, 5, 6, 7, 8, 9], [1, 2]), ([10, 9, 0, 1, 2, 3, 4, 5, 6, 7, 8, 9], [9, 10])])
def zp.B10 : List Nat := [0, 1, 0, 0, 8, 0, 56, 120, 248, 504, 1023, 2047]
theorem zp.tab10 : zbc .any (opsOf Try.f16 10) = zp.T10 := by kernel_rfl
theorem zp.bits10 : zal zp.T10.2 zp.B10 = true := by kernel_rfl
theorem zp.calls (k : Nat) (bU : Option Addr) (bV : Nat) (aQ : List Int) (cB : Option Addr) (bW : Nat) (aD : List Int) (a1 : Int) (r1 : List Int) (r2 : List Int) (r3 : List Int) (r4 : List Int) (r5 : Int) (w : World) (eX : Kd.C (Kd.int .i64) w bU aQ.length aQ) (eV : aQ.length ≤ bV) (eY : Kd.C (Kd.int .i64) w cB aD.length aD) (eW : aD.length ≤ bW) (h : zp.f k aQ aD a1 = some (r1, r2, r3, r4, r5)) :
  Calls Try.prog 16 #[.agg #[.slice bU aQ.length bV, .slice cB aD.length bW], .int .i64 a1] w fun e w' => ∃ gW gX gY gZ : Value, e = .returned (.tuple #[.agg #[gW, gX], .agg #[gY, gZ], .int .i64 r5]) ∧ Kd.R (Kd.int .i64) 3 w' w.heap.size (fun k_ => some k_ ≠ (gX : Value).ownBlock ∧ some k_ ≠ (gY : Value).ownBlock ∧ some k_ ≠ (gZ : Value).ownBlock) gW r1 ∧ Kd.R (Kd.int .i64) 3 w' w.heap.size (fun k_ => some k_ ≠ (gW : Value).ownBlock ∧ some k_ ≠ (gY : Value).ownBlock ∧ some k_ ≠ (gZ : Value).ownBlock) gX r2 ∧ Kd.R (Kd.int .i64) 3 w' w.heap.size (fun k_ => some k_ ≠ (gW : Value).ownBlock ∧ some k_ ≠ (gX : Value).ownBlock ∧ some k_ ≠ (gZ : Value).ownBlock) gY r3 ∧ Kd.R (Kd.int .i64) 3 w' w.heap.size (fun k_ => some k_ ≠ (gW : Value).ownBlock ∧ some k_ ≠ (gX : Value).ownBlock ∧ some k_ ≠ (gY : Value).ownBlock) gZ r4 ∧ Below w.heap.size w w' := by
 have hu24 := Try.underlying24; have cO := J eX; have dG := J eV; clear eX eV; have cI := J eY; have dH := J eW; clear eY eW; have HB := J (Below.refl w.heap.size w); have H : ((zl.f k aQ aD (aQ.length : Int)).bind fun cH => (if cH = 0 then (if a1 < 0 then (zp.j0 k a1 true aQ aD) else (if a1 ≥ (aQ.length : Int) then (zp.j0 k a1 true aQ aD) else (if 0 ≤ a1 then (if a1 < (aQ.length : Int) then (zp.j0 k a1 ((rd aQ a1) == 8) aQ aD) else (none)) else (none)))) else (some (([] : List Int), ([] : List Int), ([] : List Int), ([] : List Int), 180)))) = some (r1, r2, r3, r4, r5) := h; clear h; replace H := Option.bind_eq_some_iff.mp H; obtain ⟨cH, hG, H⟩ := H; replace H : (if cH = 0 then (if a1 < 0 then (zp.j0 k a1 true aQ aD) else (if a1 ≥ (aQ.length : Int) then (zp.j0 k a1 true aQ aD) else (if 0 ≤ a1 then (if a1 < (aQ.length : Int) then (zp.j0 k a1 ((rd aQ a1) == 8) aQ aD) else (none)) else (none)))) else (some (([] : List Int), ([] : List Int), ([] : List Int), ([] : List Int), 180))) = some (r1, r2, r3, r4, r5) := H; have A3 := J hG; clear hG
 by_cases c4 : cH = 0
 ·rw [if_pos c4] at H; have gM : (cH == 0) = true := beq_iff_eq.mpr c4; have gN : (cH != 0) = false := bne_eq_false_iff_eq.mpr c4; clear c4; have hX := J H; clear H; go_enter Try.func16, Try.ntmps16
  go_upto_region 3 with (first | ((with_reducible refine zf (N := 2) rfl ?_); (try (refine zR (by rfl) ?_; dsimp only)); refine zah 2 (cs := #[.slice bU aQ.length bV, .slice cB aD.length bW]) (t := 24) ?_; intro bG hg w6 hbox hb; have aA := J (hbox); have dR := J ((by rw [hg]; exact (zh bw_) : w.heap.size ≤ bG)); replace HB := J (za bw_ hb); have dO := dR; clear hb hbox hg) | ((with_reducible refine zf (N := 4) rfl ?_); (try (refine zR (by rfl) ?_; dsimp only)); refine zah 4 (cs := #[.slice none 0 0, .slice none 0 0]) (t := 24) ?_; intro aN hg w7 hbox hb; have aB := J (hbox); have dS := J ((by rw [hg]; exact (zh bw_) : w.heap.size ≤ aN)); replace HB := J (za bw_ hb); have dP := dS; have aS := J ((by rw [hg]; exact Nat.ne_of_lt (fl_ aA.o) : bG ≠ aN)); replace aA := J (fr_ aA.o hb); have aY := J aS.o.symm; clear hb hbox hg) | ((with_reducible refine zf (N := 5) rfl ?_); (try (refine zR (by rfl) ?_; dsimp only)); refine zah 5 (cs := #[.slice none 0 0, .slice none 0 0]) (t := 24) ?_; intro aO hg w8 hbox hb; have aC := J (hbox); have dT := J ((by rw [hg]; exact (zh bw_) : w.heap.size ≤ aO)); replace HB := J (za bw_ hb); have dQ := dT; have aT := J ((by rw [hg]; exact Nat.ne_of_lt (fl_ aA.o) : bG ≠ aO)); replace aA := J (fr_ aA.o hb); have bA := J aT.o.symm; have aZ := J ((by rw [hg]; exact Nat.ne_of_lt (fl_ aB.o) : aN ≠ aO)); replace aB := J (fr_ aB.o hb); have bH := J aZ.o.symm; clear hb hbox hg; have hnb9 := aS.o; have hnc9 := aY.o; have hnb10 := aT.o; have hnc10 := bA.o; have dX := cz_ aA.o 0 rfl; have dY := cz_ aA.o 1 rfl; have eD := zb aA.o 0; have eF := zb aA.o 1) | ((with_reducible refine zM (f := 18) rfl ?_); refine gl_ 13 Try.func18 #[.agg #[.slice bU aQ.length bV, .slice cB aD.length bW], .int .i64 (aQ.length : Int)] ?_; (with_reducible refine (zl.calls k _ _ aQ _ _ aD (aQ.length : Int) cH _ ?cD ?cE ?cF ?cG A3.o).mono ?_); (case cD => exact sc_ (Kd.zm cO.o HB.o)); (case cE => exact dG.o); (case cF => exact sc_ (Kd.zm cI.o HB.o)); (case cG => exact dH.o); rintro e w12 ⟨rfl, hb⟩; refine ⟨_, rfl, ?_⟩; replace aA := J (fr_ aA.o hb); replace aB := J (fr_ aB.o hb); replace aC := J (fr_ aC.o hb); replace HB := J (za bw_ hb); (try clear hb)))
  (try simp only [Act.put, sI_, s0_, s1_])
  go_cut [33] (fun v33 wc => ∃ (kq : Nat) (dI : Bool), v33 = .bool dI ∧ ze (zp.j0 kq a1 dI aQ aD = some (r1, r2, r3, r4, r5)) ∧ ze (kq ≤ k) ∧ ze (wc.heap[bG]? = some (.cells #[(.slice bU aQ.length bV), (.slice cB aD.length bW)] 24 (0, 0))) ∧ ze (wc.heap[aN]? = some (.cells #[(.slice none 0 0), (.slice none 0 0)] 24 (0, 0))) ∧ ze (wc.heap[aO]? = some (.cells #[(.slice none 0 0), (.slice none 0 0)] 24 (0, 0))) ∧ ze (Below w.heap.size w wc))
  case first =>
   have H := hX.o; clear hX
   by_cases fD : a1 < 0
   ·rw [if_pos fD] at H; have cM := decide_eq_true fD; clear fD
    (first | rw [cM] | (simp only [zat, zaM]; rw [cM]) | skip)
    have H' := J H; clear H; go_wp2; go_meet
    case rel => exact ⟨_, (true), rs_, H', ⟨om_⟩, ⟨pe_ aA.o⟩, ⟨pe_ aB.o⟩, ⟨pe_ aC.o⟩, ⟨bw_⟩⟩
   ·rw [if_neg fD] at H; have cM := decide_eq_false fD; clear fD
    (first | rw [cM] | (simp only [zat, zaM]; rw [cM]) | skip)
    by_cases fE : a1 ≥ (aQ.length : Int)
    ·rw [if_pos fE] at H; have eU := decide_eq_true fE; clear fE; have H' := J H; clear H; have hnb15 := aS.o; have hnc15 := aY.o; have hnb16 := aT.o; have hnc16 := bA.o; have dZ := cz_ aA.o 0 rfl; have eA := cz_ aA.o 1 rfl; have eG := zb aA.o 0; have eH := zb aA.o 1; go_wp2; go_meet
     case rel => exact ⟨_, (true), rs_, H', ⟨om_⟩, ⟨pe_ aA.o⟩, ⟨pe_ aB.o⟩, ⟨pe_ aC.o⟩, ⟨bw_⟩⟩
    ·rw [if_neg fE] at H; have eU := decide_eq_false fE; clear fE
     by_cases gI : 0 ≤ a1
     ·rw [if_pos gI] at H; have gJ := decide_eq_true gI; clear gI
      by_cases gK : a1 < (aQ.length : Int)
      ·rw [if_pos gK] at H; have gL := decide_eq_true gK; clear gK; have H' := J H; clear H; have hnb20 := aS.o; have hnc20 := aY.o; have hnb21 := aT.o; have hnc21 := bA.o; have eB := cz_ aA.o 0 rfl; have eC := cz_ aA.o 1 rfl; have eI := zb aA.o 0; have eJ := zb aA.o 1; have eP : 0 ≤ (a1 : Int) := od_; have eQ : a1 < (aQ.length : Int) := od_; obtain ⟨ad268, hY, cN⟩ := Kd.zQ cO.o a1 eP eQ; cases hY; replace cN := bx_ HB.o cN; replace eP := eq_true eP; replace eQ := eq_true eQ; go_wp2; go_meet
       case rel => exact ⟨_, (((rd aQ a1) == 8)), rs_, H', ⟨om_⟩, ⟨pe_ aA.o⟩, ⟨pe_ aB.o⟩, ⟨pe_ aC.o⟩, ⟨bw_⟩⟩
      ·rw [if_neg gK] at H; exact absurd H (by simp)
     ·rw [if_neg gI] at H; exact absurd H (by simp)
  case rest =>
   clear hX
   try clear c1
   try clear c2
   try clear p2
   try clear q2
   try clear hx2
   try clear c4
   try clear gM
   try clear gN
   try clear c9
   try clear c10
   try clear fD
   try clear cM
   try clear fE
   try clear eU
   try clear c15
   try clear c16
   try clear gI
   try clear gJ
   try clear gK
   try clear gL
   try clear c20
   try clear c21
   try clear dX
   try clear dY
   try clear dZ
   try clear eA
   try clear eB
   try clear eC
   try clear eD
   try clear eF
   try clear eG
   try clear eH
   try clear eI
   try clear eJ
   try clear cN
   try clear eP
   try clear eQ
   obtain ⟨kq, dI, rfl, HA, HJ4, aA, aB, aC, HB⟩ := hcut
   cases kq with
   | zero => exact absurd HA.o (by simp [zp.j0])
   | succ kj4 =>
    have H := HA.o; clear HA; simp only [zp.j0] at H
    by_cases hH : dI = true
    ·subst hH; have H1 : (some (([] : List Int), ([] : List Int), ([] : List Int), ([] : List Int), 1)) = some (r1, r2, r3, r4, r5) := by rw [if_pos rfl] at H; exact H
     clear H; have H := H1; clear H1; simp only [Option.some.injEq, Prod.mk.injEq] at H; obtain ⟨rfl, rfl, rfl, rfl, rfl⟩ := H; have hnb24 := aY.o; have hnc24 := aS.o; have hnb25 := aZ.o; have hnc25 := bH.o; have hcz26_0 := cz_ aB.o 0 rfl; have hcz26_1 := cz_ aB.o 1 rfl; have hfz26_0 := zb aB.o 0; have hfz26_1 := zb aB.o 1; have hnb27 := bA.o; have hnc27 := aT.o; have hcz28_0 := cz_ aC.o 0 rfl; have hcz28_1 := cz_ aC.o 1 rfl; have hfz28_0 := zb aC.o 0; have hfz28_1 := zb aC.o 1; go_wp2; refine bodyPost_ret (zbb (rs := [.cell 4 24, .cell 5 24, .tmp 6]) rfl (by simp) (.cell aN 24 #[.slice none 0 0, .slice none 0 0] (0, 0) _ rfl (hp_ aB.o) Try.underlying24 rfl yK_ (.cell aO 24 #[.slice none 0 0, .slice none 0 0] (0, 0) _ rfl (hp_ aC.o) Try.underlying24 rfl yK_ (.tmp .nil)))) rfl ?_; exact ⟨_, _, _, _, er_, by first | exact Kd.zaI _ _ _ _ _ | exact Kd.N_nil _ _ _ _ _ | exact Kd.V_nil _ _ _ _ _ | exact Kd.Q_nil _ _ _ _ _ | exact Kd.zaP _ _ _ _ _, by first | exact Kd.zaI _ _ _ _ _ | exact Kd.N_nil _ _ _ _ _ | exact Kd.V_nil _ _ _ _ _ | exact Kd.Q_nil _ _ _ _ _ | exact Kd.zaP _ _ _ _ _, by first | exact Kd.zaI _ _ _ _ _ | exact Kd.N_nil _ _ _ _ _ | exact Kd.V_nil _ _ _ _ _ | exact Kd.Q_nil _ _ _ _ _ | exact Kd.zaP _ _ _ _ _, by first | exact Kd.zaI _ _ _ _ _ | exact Kd.N_nil _ _ _ _ _ | exact Kd.V_nil _ _ _ _ _ | exact Kd.Q_nil _ _ _ _ _ | exact Kd.zaP _ _ _ _ _, bw_⟩
    ·replace hH := Bool.eq_false_iff.mpr hH; subst hH; have H1 : ((zam.f aQ aD).bind fun cP => ((zam.f aQ aD).bind fun bP => (if 0 ≤ a1 then (if a1 < (cP.1.length : Int) then (if a1 < (bP.1.length : Int) then (if a1 < (aD.length : Int) then (if a1 < (cP.2.length : Int) then (if a1 < (bP.2.length : Int) then (some ((cP.1.set (a1 : Int).toNat (wrap64 ((rd cP.1 a1) + 1))), (cP.2.set (a1 : Int).toNat (wrap64 (2 * (rd aD a1)))), (bP.1.set (a1 : Int).toNat (wrap64 ((rd bP.1 a1) + 1))), (bP.2.set (a1 : Int).toNat (wrap64 ((wrap64 (2 * (rd aD a1))) + 1))), 0)) else (none)) else (none)) else (none)) else (none)) else (none)) else (none)))) = some (r1, r2, r3, r4, r5) := by rw [if_neg (show ¬ (false = true) by decide)] at H; exact H
     clear H; have H := H1; clear H1; replace H := Option.bind_eq_some_iff.mp H; obtain ⟨⟨aK, aP⟩, fT, H⟩ := H; replace H : ((zam.f aQ aD).bind fun bP => (if 0 ≤ a1 then (if a1 < (aK.length : Int) then (if a1 < (bP.1.length : Int) then (if a1 < (aD.length : Int) then (if a1 < (aP.length : Int) then (if a1 < (bP.2.length : Int) then (some ((aK.set (a1 : Int).toNat (wrap64 ((rd aK a1) + 1))), (aP.set (a1 : Int).toNat (wrap64 (2 * (rd aD a1)))), (bP.1.set (a1 : Int).toNat (wrap64 ((rd bP.1 a1) + 1))), (bP.2.set (a1 : Int).toNat (wrap64 ((wrap64 (2 * (rd aD a1))) + 1))), 0)) else (none)) else (none)) else (none)) else (none)) else (none)) else (none))) = some (r1, r2, r3, r4, r5) := H; have A29 := J fT; clear fT; replace H := Option.bind_eq_some_iff.mp H; obtain ⟨⟨aM, aR⟩, fU, H⟩ := H; replace H : (if 0 ≤ a1 then (if a1 < (aK.length : Int) then (if a1 < (aM.length : Int) then (if a1 < (aD.length : Int) then (if a1 < (aP.length : Int) then (if a1 < (aR.length : Int) then (some ((aK.set (a1 : Int).toNat (wrap64 ((rd aK a1) + 1))), (aP.set (a1 : Int).toNat (wrap64 (2 * (rd aD a1)))), (aM.set (a1 : Int).toNat (wrap64 ((rd aM a1) + 1))), (aR.set (a1 : Int).toNat (wrap64 ((wrap64 (2 * (rd aD a1))) + 1))), 0)) else (none)) else (none)) else (none)) else (none)) else (none)) else (none)) = some (r1, r2, r3, r4, r5) := H; have hG := J fU; clear fU
     by_cases hI : 0 ≤ a1
     ·rw [if_pos hI] at H; have c31b0 := decide_eq_true hI; clear hI
      by_cases hJ : a1 < (aK.length : Int)
      ·rw [if_pos hJ] at H; have c32b0 := decide_eq_true hJ; clear hJ; obtain ⟨dF, cQ⟩ : ∃ y_ : List Int, y_ = (aK.set (a1 : Int).toNat (wrap64 ((rd aK a1) + 1))) := ⟨_, rfl⟩
       replace H : (if a1 < (aM.length : Int) then (if a1 < (aD.length : Int) then (if a1 < (aP.length : Int) then (if a1 < (aR.length : Int) then (some (dF, (aP.set (a1 : Int).toNat (wrap64 (2 * (rd aD a1)))), (aM.set (a1 : Int).toNat (wrap64 ((rd aM a1) + 1))), (aR.set (a1 : Int).toNat (wrap64 ((wrap64 (2 * (rd aD a1))) + 1))), 0)) else (none)) else (none)) else (none)) else (none)) = some (r1, r2, r3, r4, r5) := by first | (rw [cQ]; with_reducible exact H) | (have dE := (Option.bind_some _ _).symm.trans H; rw [cQ]; with_reducible exact dE) | (have dE := (Option.bind_some _ _).symm.trans H; with_reducible exact dE) | with_reducible exact H | (rw [cQ]; exact H) | exact H
       have gD := J cQ; clear cQ
       by_cases hM : a1 < (aM.length : Int)
       ·rw [if_pos hM] at H; have c34b0 := decide_eq_true hM; clear hM; obtain ⟨dM, cR⟩ : ∃ y_ : List Int, y_ = (aM.set (a1 : Int).toNat (wrap64 ((rd aM a1) + 1))) := ⟨_, rfl⟩
        replace H : (if a1 < (aD.length : Int) then (if a1 < (aP.length : Int) then (if a1 < (aR.length : Int) then (some (dF, (aP.set (a1 : Int).toNat (wrap64 (2 * (rd aD a1)))), dM, (aR.set (a1 : Int).toNat (wrap64 ((wrap64 (2 * (rd aD a1))) + 1))), 0)) else (none)) else (none)) else (none)) = some (r1, r2, r3, r4, r5) := by first | (rw [cR]; with_reducible exact H) | (have dE := (Option.bind_some _ _).symm.trans H; rw [cR]; with_reducible exact dE) | (have dE := (Option.bind_some _ _).symm.trans H; with_reducible exact dE) | with_reducible exact H | (rw [cR]; exact H) | exact H
        have gE := J cR; clear cR
        by_cases hN : a1 < (aD.length : Int)
        ·rw [if_pos hN] at H; have c36b0 := decide_eq_true hN; clear hN
         by_cases hO : a1 < (aP.length : Int)
         ·rw [if_pos hO] at H; have c37b0 := decide_eq_true hO; clear hO; obtain ⟨eR, cS⟩ : ∃ y_ : List Int, y_ = (aP.set (a1 : Int).toNat (wrap64 (2 * (rd aD a1)))) := ⟨_, rfl⟩
          replace H : (if a1 < (aR.length : Int) then (some (dF, eR, dM, (aR.set (a1 : Int).toNat (wrap64 ((wrap64 (2 * (rd aD a1))) + 1))), 0)) else (none)) = some (r1, r2, r3, r4, r5) := by first | (rw [cS]; with_reducible exact H) | (have dE := (Option.bind_some _ _).symm.trans H; rw [cS]; with_reducible exact dE) | (have dE := (Option.bind_some _ _).symm.trans H; with_reducible exact dE) | with_reducible exact H | (rw [cS]; exact H) | exact H
          have gF := J cS; clear cS
          by_cases hP : a1 < (aR.length : Int)
          ·rw [if_pos hP] at H; have c39b0 := decide_eq_true hP; clear hP; obtain ⟨hF, cT⟩ : ∃ y_ : List Int, y_ = (aR.set (a1 : Int).toNat (wrap64 ((wrap64 (2 * (rd aD a1))) + 1))) := ⟨_, rfl⟩
           replace H : (some (dF, eR, dM, hF, 0)) = some (r1, r2, r3, r4, r5) := by first | (rw [cT]; with_reducible exact H) | (have dE := (Option.bind_some _ _).symm.trans H; rw [cT]; with_reducible exact dE) | (have dE := (Option.bind_some _ _).symm.trans H; with_reducible exact dE) | with_reducible exact H | (rw [cT]; exact H) | exact H
           have gG := J cT; clear cT; simp only [Option.some.injEq, Prod.mk.injEq] at H; obtain ⟨rfl, rfl, rfl, rfl, rfl⟩ := H; have hnb41 := aS.o; have hnc41 := aY.o; have hnb42 := aT.o; have hnc42 := bA.o; have hcz43_0 := cz_ aA.o 0 rfl; have hcz43_1 := cz_ aA.o 1 rfl; have hfz43_0 := zb aA.o 0; have hfz43_1 := zb aA.o 1
           try go_wp2_with (first | ((with_reducible refine zM (f := 26) rfl ?_); refine gl_ 37 Try.func26 #[.agg #[.slice bU aQ.length bV, .slice cB aD.length bW]] ?_; (with_reducible refine (zam.calls _ _ aQ _ _ aD aK aP _ ?cD ?cE ?cF ?cG A29.o).mono ?_); (case cD => exact sc_ (Kd.zm cO.o HB.o)); (case cE => exact dG.o); (case cF => exact sc_ (Kd.zm cI.o HB.o)); (case cG => exact dH.o); rintro e w44 ⟨v270, v273, rfl, fH, fI, hb⟩; refine ⟨_, rfl, ?_⟩; have aG := J (Kd.z9 fH (zh bw_)); have aI := J (Kd.z9 fI (zh bw_)); replace aA := J (fr_ aA.o hb); replace aB := J (fr_ aB.o hb); replace aC := J (fr_ aC.o hb); replace HB := J (za bw_ hb); (try clear hb fH fI)) | ((with_reducible refine zf (N := 7) rfl ?_); (try (refine zR (by rfl) ?_; dsimp only)); refine zah 7 (cs := #[.slice none 0 0, .slice none 0 0]) (t := 24) ?_; intro aV hg w45 hbox hb; replace aG := J (Kd.zF (pk_ aG.o) hb); replace aI := J (Kd.zF (pk_ aI.o) hb); have aE := J (hbox); have fV := J ((by rw [hg]; exact (zh bw_) : w.heap.size ≤ aV)); replace HB := J (za bw_ hb); have eS := fV; have cJ := J ((by rw [hg]; exact Nat.ne_of_lt (fl_ aA.o) : bG ≠ aV)); replace aA := J (fr_ aA.o hb); have dJ := J cJ.o.symm; have bQ := J ((by rw [hg]; exact Nat.ne_of_lt (fl_ aB.o) : aN ≠ aV)); replace aB := J (fr_ aB.o hb); have bI := J bQ.o.symm; have bS := J ((by rw [hg]; exact Nat.ne_of_lt (fl_ aC.o) : aO ≠ aV)); replace aC := J (fr_ aC.o hb); have bJ := J bS.o.symm; clear hb hbox hg; obtain ⟨bY, aU, iD⟩ := Kd.zJ aG.o; subst iD; have hnb47 := dJ.o; have hnc47 := cJ.o; have hnb48 := bI.o; have hnc48 := bQ.o; have hnb49 := bJ.o; have hnc49 := bS.o; have hcz50_0 := cz_ aE.o 0 rfl; have hcz50_1 := cz_ aE.o 1 rfl; have hfz50_0 := zb aE.o 0; have hfz50_1 := zb aE.o 1; obtain ⟨bO, aX, iE⟩ := Kd.zJ aI.o; subst iE; have hcz52_0 := cz_ aA.o 0 rfl; have hcz52_1 := cz_ aA.o 1 rfl; have hfz52_0 := zb aA.o 0; have hfz52_1 := zb aA.o 1) | ((with_reducible refine zM (f := 26) rfl ?_); refine gl_ 39 Try.func26 #[.agg #[.slice bU aQ.length bV, .slice cB aD.length bW]] ?_; (with_reducible refine (zam.calls _ _ aQ _ _ aD aM aR _ ?cD ?cE ?cF ?cG hG.o).mono ?_); (case cD => exact Kd.zm cO.o bw_); (case cE => exact dG.o); (case cF => exact Kd.zm cI.o bw_); (case cG => exact dH.o); rintro e w53 ⟨v277, v280, rfl, fH, fI, hb⟩; refine ⟨_, rfl, ?_⟩; have aJ := J (Kd.z9 (Kd.R_new' (Kd.R_new' fH (Kd.R_lt (by (with_reducible repeat (first | apply Kd.R_alloc | apply Kd.zH | apply Kd.zI)); exact (Kd.zB (Kd.zT (p := ⟨aV, 1, none⟩) (Kd.zT (p := ⟨aV, 0, none⟩) (Kd.zV aG.o aE.o yD_) (fun _ hk => hk.2) (.slice bY aK.length aU)) (fun _ hk => hk.2) (.slice bO aP.length aX)) (fun _ h_ => h_.1))))) (Kd.R_lt (by (with_reducible repeat (first | apply Kd.R_alloc | apply Kd.zH | apply Kd.zI)); exact (Kd.zB (Kd.zT (p := ⟨aV, 1, none⟩) (Kd.zT (p := ⟨aV, 0, none⟩) (Kd.zV aI.o aE.o yD_) (fun _ hk => hk.2) (.slice bY aK.length aU)) (fun _ hk => hk.2) (.slice bO aP.length aX)) (fun _ h_ => h_.1))))) (zh bw_)); have aL := J (Kd.z9 (Kd.R_new' (Kd.R_new' fI (Kd.R_lt (by (with_reducible repeat (first | apply Kd.R_alloc | apply Kd.zH | apply Kd.zI)); exact (Kd.zB (Kd.zT (p := ⟨aV, 1, none⟩) (Kd.zT (p := ⟨aV, 0, none⟩) (Kd.zV aG.o aE.o yD_) (fun _ hk => hk.2) (.slice bY aK.length aU)) (fun _ hk => hk.2) (.slice bO aP.length aX)) (fun _ h_ => h_.1))))) (Kd.R_lt (by (with_reducible repeat (first | apply Kd.R_alloc | apply Kd.zH | apply Kd.zI)); exact (Kd.zB (Kd.zT (p := ⟨aV, 1, none⟩) (Kd.zT (p := ⟨aV, 0, none⟩) (Kd.zV aI.o aE.o yD_) (fun _ hk => hk.2) (.slice bY aK.length aU)) (fun _ hk => hk.2) (.slice bO aP.length aX)) (fun _ h_ => h_.1))))) (zh bw_)); replace aG := J (Kd.zB (Kd.R_told (Kd.R_told (Kd.R_old (by (with_reducible repeat (first | apply Kd.R_alloc | apply Kd.zH | apply Kd.zI)); exact (Kd.zB (Kd.zT (p := ⟨aV, 1, none⟩) (Kd.zT (p := ⟨aV, 0, none⟩) (Kd.zV aG.o aE.o yD_) (fun _ hk => hk.2) (.slice bY aK.length aU)) (fun _ hk => hk.2) (.slice bO aP.length aX)) (fun _ h_ => h_.1))) hb) (Kd.R_base fH)) (Kd.R_base fI)) (fun _ h_ => h_.1)); replace aI := J (Kd.zB (Kd.R_told (Kd.R_told (Kd.R_old (by (with_reducible repeat (first | apply Kd.R_alloc | apply Kd.zH | apply Kd.zI)); exact (Kd.zB (Kd.zT (p := ⟨aV, 1, none⟩) (Kd.zT (p := ⟨aV, 0, none⟩) (Kd.zV aI.o aE.o yD_) (fun _ hk => hk.2) (.slice bY aK.length aU)) (fun _ hk => hk.2) (.slice bO aP.length aX)) (fun _ h_ => h_.1))) hb) (Kd.R_base fH)) (Kd.R_base fI)) (fun _ h_ => h_.1)); replace aA := J (zd (g := bG) (o := .cells #[.slice bU aQ.length bV, .slice cB aD.length bW] 24 (0, 0)) (hp_ aA.o) hb); replace aB := J (zd (g := aN) (o := .cells #[.slice none 0 0, .slice none 0 0] 24 (0, 0)) (hp_ aB.o) hb); replace aC := J (zd (g := aO) (o := .cells #[.slice none 0 0, .slice none 0 0] 24 (0, 0)) (hp_ aC.o) hb); replace aE := J (zd (g := aV) (o := .cells #[.slice bY aK.length aU, .slice bO aP.length aX] 24 (0, 0)) (hp_ aE.o) hb); replace HB := J (za bw_ hb); (try clear hb fH fI)) | ((with_reducible refine zf (N := 8) rfl ?_); (try (refine zR (by rfl) ?_; dsimp only)); refine zah 8 (cs := #[.slice none 0 0, .slice none 0 0]) (t := 24) ?_; intro bD hg w54 hbox hb; replace aG := J (Kd.zF (pk_ aG.o) hb); replace aI := J (Kd.zF (pk_ aI.o) hb); replace aJ := J (Kd.zF (pk_ aJ.o) hb); replace aL := J (Kd.zF (pk_ aL.o) hb); have aH := J (hbox); have fW := J ((by rw [hg]; exact (zh bw_) : w.heap.size ≤ bD)); replace HB := J (za bw_ hb); have eT := fW; have cK := J ((by rw [hg]; exact Nat.ne_of_lt (fl_ aA.o) : bG ≠ bD)); replace aA := J (fr_ aA.o hb); have dK := J cK.o.symm; have bR := J ((by rw [hg]; exact Nat.ne_of_lt (fl_ aB.o) : aN ≠ bD)); replace aB := J (fr_ aB.o hb); have bK := J bR.o.symm; have bT := J ((by rw [hg]; exact Nat.ne_of_lt (fl_ aC.o) : aO ≠ bD)); replace aC := J (fr_ aC.o hb); have bL := J bT.o.symm; have cL := J ((by rw [hg]; exact Nat.ne_of_lt (fl_ aE.o) : aV ≠ bD)); replace aE := J (fr_ aE.o hb); have dL := J cL.o.symm; clear hb hbox hg; obtain ⟨bX, aW, iF⟩ := Kd.zJ aJ.o; subst iF; have hnb56 := dK.o; have hnc56 := cK.o; have hnb57 := bK.o; have hnc57 := bR.o; have hnb58 := bL.o; have hnc58 := bT.o; have hnb59 := dL.o; have hnc59 := cL.o; have hcz60_0 := cz_ aH.o 0 rfl; have hcz60_1 := cz_ aH.o 1 rfl; have hfz60_0 := zb aH.o 0; have hfz60_1 := zb aH.o 1; obtain ⟨bN, bB, iG⟩ := Kd.zJ aL.o; subst iG) | ((with_reducible refine zj (t := 24) (p := 8) rfl ?_); refine store_ 24 8 (((w54.setCell ⟨bD, 0, none⟩ (.slice bX aM.length aW)).setCell ⟨bD, 1, none⟩ (.slice bN aR.length bB))) ?_; intro dN hw; replace aG : ze (Kd.R (Kd.int .i64) 3 dN w.heap.size (fun k_ => some k_ ≠ (.slice bO aP.length aX : Value).ownBlock ∧ some k_ ≠ (.slice bX aM.length aW : Value).ownBlock ∧ some k_ ≠ (.slice bN aR.length bB : Value).ownBlock) (.slice bY aK.length aU) aK) := ⟨(by rw [hw]; exact (by (with_reducible repeat (first | apply Kd.R_alloc | apply Kd.zH | apply Kd.zI)); exact Kd.zB (Kd.zT (p := ⟨bD, 1, none⟩) (Kd.zT (p := ⟨bD, 0, none⟩) (Kd.zV aG.o aH.o yD_) (fun _ hk => hk.2) (.slice bX aM.length aW)) (fun _ hk => hk.2) (.slice bN aR.length bB)) (fun _ hk => ⟨hk.1.1.1, ⟨hk.1.1.2, hk.1.2⟩⟩)))⟩; replace aI : ze (Kd.R (Kd.int .i64) 3 dN w.heap.size (fun k_ => some k_ ≠ (.slice bY aK.length aU : Value).ownBlock ∧ some k_ ≠ (.slice bX aM.length aW : Value).ownBlock ∧ some k_ ≠ (.slice bN aR.length bB : Value).ownBlock) (.slice bO aP.length aX) aP) := ⟨(by rw [hw]; exact (by (with_reducible repeat (first | apply Kd.R_alloc | apply Kd.zH | apply Kd.zI)); exact Kd.zB (Kd.zT (p := ⟨bD, 1, none⟩) (Kd.zT (p := ⟨bD, 0, none⟩) (Kd.zV aI.o aH.o yD_) (fun _ hk => hk.2) (.slice bX aM.length aW)) (fun _ hk => hk.2) (.slice bN aR.length bB)) (fun _ hk => ⟨hk.1.1.1, ⟨hk.1.1.2, hk.1.2⟩⟩)))⟩; replace aJ : ze (Kd.R (Kd.int .i64) 3 dN w.heap.size (fun k_ => some k_ ≠ (.slice bY aK.length aU : Value).ownBlock ∧ some k_ ≠ (.slice bO aP.length aX : Value).ownBlock ∧ some k_ ≠ (.slice bN aR.length bB : Value).ownBlock) (.slice bX aM.length aW) aM) := ⟨(by rw [hw]; exact (by (with_reducible repeat (first | apply Kd.R_alloc | apply Kd.zH | apply Kd.zI)); exact Kd.zB (Kd.zT (p := ⟨bD, 1, none⟩) (Kd.zT (p := ⟨bD, 0, none⟩) (Kd.zV aJ.o aH.o yD_) (fun _ hk => hk.2) (.slice bX aM.length aW)) (fun _ hk => hk.2) (.slice bN aR.length bB)) (fun _ hk => ⟨hk.1.1.2, ⟨hk.1.2, hk.1.1.1⟩⟩)))⟩; replace aL : ze (Kd.R (Kd.int .i64) 3 dN w.heap.size (fun k_ => some k_ ≠ (.slice bY aK.length aU : Value).ownBlock ∧ some k_ ≠ (.slice bO aP.length aX : Value).ownBlock ∧ some k_ ≠ (.slice bX aM.length aW : Value).ownBlock) (.slice bN aR.length bB) aR) := ⟨(by rw [hw]; exact (by (with_reducible repeat (first | apply Kd.R_alloc | apply Kd.zH | apply Kd.zI)); exact Kd.zB (Kd.zT (p := ⟨bD, 1, none⟩) (Kd.zT (p := ⟨bD, 0, none⟩) (Kd.zV aL.o aH.o yD_) (fun _ hk => hk.2) (.slice bX aM.length aW)) (fun _ hk => hk.2) (.slice bN aR.length bB)) (fun _ hk => ⟨hk.1.1.2, ⟨hk.1.2, hk.1.1.1⟩⟩)))⟩; replace aA : ze (dN.heap[bG]? = some (.cells #[.slice bU aQ.length bV, .slice cB aD.length bW] 24 (0, 0))) := ⟨(by rw [hw]; exact (hp_ aA.o))⟩; replace aB : ze (dN.heap[aN]? = some (.cells #[.slice none 0 0, .slice none 0 0] 24 (0, 0))) := ⟨(by rw [hw]; exact (hp_ aB.o))⟩; replace aC : ze (dN.heap[aO]? = some (.cells #[.slice none 0 0, .slice none 0 0] 24 (0, 0))) := ⟨(by rw [hw]; exact (hp_ aC.o))⟩; replace aE : ze (dN.heap[aV]? = some (.cells #[.slice bY aK.length aU, .slice bO aP.length aX] 24 (0, 0))) := ⟨(by rw [hw]; exact (hp_ aE.o))⟩; replace aH : ze (dN.heap[bD]? = some (.cells #[.slice bX aM.length aW, .slice bN aR.length bB] 24 (0, 0))) := ⟨(by rw [hw]; exact (hp_ aH.o))⟩; replace HB : ze (Below w.heap.size w dN) := ⟨(by rw [hw]; exact bw_)⟩; clear hw; have hcz63_0 := cz_ aE.o 0 rfl; have hcz63_1 := cz_ aE.o 1 rfl; have hfz63_0 := zb aE.o 0; have hfz63_1 := zb aE.o 1; have fL : 0 ≤ (a1 : Int) := od_; have fP : a1 < (aK.length : Int) := od_; obtain ⟨ad283, hZ, eN⟩ := Kd.zQ (Kd.zK aG.o).2.2 a1 fL fP; cases hZ; replace fL := eq_true fL; replace fP := eq_true fP; have iL : 0 ≤ (a1 : Int) := od_; have iP : (a1 : Int) < ((aK.length : Int) : Int) := od_; obtain ⟨bE, co33, gO, gS, iH, cl33, fX⟩ := Kd.R_form aG.o yO_; (first | cases gO | (injection gO with ea_ en_ ec_; (first | subst ea_ | (injection ea_ with ea_; subst ea_)); subst ec_; clear en_)); have hR := J gS; have GG33 := J fX; clear gS iH fX; (first | simp only [add_plain] at eN | skip); obtain ⟨hx33_0, hf33_0⟩ := Kd.zaQ 0 aG.o (a1 : Int) iL iP; replace iL := eq_true iL; replace iP := eq_true iP; obtain ⟨hy64_, hz64_⟩ := Kd.zaQ 0 aG.o (a1 : Int) (od_) (od_); have eZ := Kd.zbd aG.o (a1 : Int) (wrap64 ((rd aK a1) + 1))) | ((with_reducible refine zj (t := 3) (p := 46) rfl ?_); refine store_ 3 46 ((dN.setCell ⟨bE, (a1 : Int).toNat, none⟩ (.int .i64 (wrap64 ((rd aK a1) + 1))))) ?_; intro hD hw; have hg : dN.grownBy hD (some bE) := (by rw [hw]; exact eZ.2); have hp_ : Kd.R (Kd.int .i64) 3 hD w.heap.size (fun k_ => some k_ ≠ (.slice bO aP.length aX : Value).ownBlock ∧ some k_ ≠ (.slice bX aM.length aW : Value).ownBlock ∧ some k_ ≠ (.slice bN aR.length bB : Value).ownBlock) (.slice (some ⟨bE, 0, none⟩) aK.length aU) dF := (by rw [hw, gD.o]; exact eZ.1); clear eZ; replace aA := J (gr_ aA.o aG.o hg); replace aB := J (gr_ aB.o aG.o hg); replace aC := J (gr_ aC.o aG.o hg); replace aI := J (Kd.R_after (v := (.slice (some ⟨bE, 0, none⟩) aK.length aU)) (v1 := (.slice (some ⟨bE, 0, none⟩) aK.length aU)) (ok := (fun k_ => some k_ ≠ (.slice bX aM.length aW : Value).ownBlock ∧ some k_ ≠ (.slice bN aR.length bB : Value).ownBlock)) (by (with_reducible repeat (first | apply Kd.R_alloc | apply Kd.zH | apply Kd.zI)); exact Kd.zB aI.o (fun _ hk => ⟨⟨hk.2.1, hk.2.2⟩, hk.1⟩)) hg (.inl rfl)); replace aE := J (gr_ aE.o aG.o hg); replace aJ := J (Kd.R_after (v := (.slice (some ⟨bE, 0, none⟩) aK.length aU)) (v1 := (.slice (some ⟨bE, 0, none⟩) aK.length aU)) (ok := (fun k_ => some k_ ≠ (.slice bO aP.length aX : Value).ownBlock ∧ some k_ ≠ (.slice bN aR.length bB : Value).ownBlock)) (by (with_reducible repeat (first | apply Kd.R_alloc | apply Kd.zH | apply Kd.zI)); exact Kd.zB aJ.o (fun _ hk => ⟨⟨hk.2.1, hk.2.2⟩, hk.1⟩)) hg (.inl rfl)); replace aL := J (Kd.R_after (v := (.slice (some ⟨bE, 0, none⟩) aK.length aU)) (v1 := (.slice (some ⟨bE, 0, none⟩) aK.length aU)) (ok := (fun k_ => some k_ ≠ (.slice bO aP.length aX : Value).ownBlock ∧ some k_ ≠ (.slice bX aM.length aW : Value).ownBlock)) (by (with_reducible repeat (first | apply Kd.R_alloc | apply Kd.zH | apply Kd.zI)); exact Kd.zB aL.o (fun _ hk => ⟨⟨hk.2.1, hk.2.2⟩, hk.1⟩)) hg (.inl rfl)); replace aH := J (gr_ aH.o aG.o hg); replace aG := J (hp_); replace HB := J ((by rw [hw]; exact zN (HB.o) hR.o : Below w.heap.size w hD)); clear hg hw hp_; have hcz66_0 := cz_ aH.o 0 rfl; have hcz66_1 := cz_ aH.o 1 rfl; have hfz66_0 := zb aH.o 0; have hfz66_1 := zb aH.o 1; have fM : 0 ≤ (a1 : Int) := od_; have fQ : a1 < (aM.length : Int) := od_; obtain ⟨ad285, iA, eO⟩ := Kd.zQ (Kd.zK aJ.o).2.2 a1 fM fQ; cases iA; replace fM := eq_true fM; replace fQ := eq_true fQ; have iM : 0 ≤ (a1 : Int) := od_; have iQ : (a1 : Int) < ((aM.length : Int) : Int) := od_; obtain ⟨bM, co35, gP, gT, iI, cl35, fY⟩ := Kd.R_form aJ.o yO_; (first | cases gP | (injection gP with ea_ en_ ec_; (first | subst ea_ | (injection ea_ with ea_; subst ea_)); subst ec_; clear en_)); have hS := J gT; have GG35 := J fY; clear gT iI fY; (first | simp only [add_plain] at eO | skip); obtain ⟨hx35_0, hf35_0⟩ := Kd.zaQ 0 aJ.o (a1 : Int) iM iQ; replace iM := eq_true iM; replace iQ := eq_true iQ; have n_ := J (Kd.zB (ok' := (fun k_ => some k_ ≠ (.slice (some ⟨bE, 0, none⟩) aK.length aU : Value).ownBlock ∧ some k_ ≠ (.slice bO aP.length aX : Value).ownBlock ∧ some k_ ≠ (.slice bN aR.length bB : Value).ownBlock)) aJ.o (fun k_ hk => ⟨hk.2, ⟨hk.1.1, hk.1.2⟩⟩)); clear aJ; have aJ := n_; clear n_; obtain ⟨hy67_, hz67_⟩ := Kd.zaQ 0 aJ.o (a1 : Int) (od_) (od_); have fA := Kd.zbd aJ.o (a1 : Int) (wrap64 ((rd aM a1) + 1))) | ((with_reducible refine zj (t := 3) (p := 53) rfl ?_); refine store_ 3 53 ((hD.setCell ⟨bM, (a1 : Int).toNat, none⟩ (.int .i64 (wrap64 ((rd aM a1) + 1))))) ?_; intro hQ hw; have hg : hD.grownBy hQ (some bM) := (by rw [hw]; exact fA.2); have hp_ : Kd.R (Kd.int .i64) 3 hQ w.heap.size (fun k_ => some k_ ≠ (.slice (some ⟨bE, 0, none⟩) aK.length aU : Value).ownBlock ∧ some k_ ≠ (.slice bO aP.length aX : Value).ownBlock ∧ some k_ ≠ (.slice bN aR.length bB : Value).ownBlock) (.slice (some ⟨bM, 0, none⟩) aM.length aW) dM := (by rw [hw, gE.o]; exact fA.1); clear fA; replace aA := J (gr_ aA.o aJ.o hg); replace aB := J (gr_ aB.o aJ.o hg); replace aC := J (gr_ aC.o aJ.o hg); replace aG := J (Kd.R_after (v := (.slice (some ⟨bM, 0, none⟩) aM.length aW)) (v1 := (.slice (some ⟨bM, 0, none⟩) aM.length aW)) (ok := (fun k_ => some k_ ≠ (.slice bO aP.length aX : Value).ownBlock ∧ some k_ ≠ (.slice bN aR.length bB : Value).ownBlock)) (by (with_reducible repeat (first | apply Kd.R_alloc | apply Kd.zH | apply Kd.zI)); exact Kd.zB aG.o (fun _ hk => ⟨⟨hk.1, hk.2.2⟩, hk.2.1⟩)) hg (.inl rfl)); replace aI := J (Kd.R_after (v := (.slice (some ⟨bM, 0, none⟩) aM.length aW)) (v1 := (.slice (some ⟨bM, 0, none⟩) aM.length aW)) (ok := (fun k_ => some k_ ≠ (.slice (some ⟨bE, 0, none⟩) aK.length aU : Value).ownBlock ∧ some k_ ≠ (.slice bN aR.length bB : Value).ownBlock)) (by (with_reducible repeat (first | apply Kd.R_alloc | apply Kd.zH | apply Kd.zI)); exact Kd.zB aI.o (fun _ hk => ⟨⟨hk.2, hk.1.2⟩, hk.1.1⟩)) hg (.inl rfl)); replace aE := J (gr_ aE.o aJ.o hg); replace aL := J (Kd.R_after (v := (.slice (some ⟨bM, 0, none⟩) aM.length aW)) (v1 := (.slice (some ⟨bM, 0, none⟩) aM.length aW)) (ok := (fun k_ => some k_ ≠ (.slice (some ⟨bE, 0, none⟩) aK.length aU : Value).ownBlock ∧ some k_ ≠ (.slice bO aP.length aX : Value).ownBlock)) (by (with_reducible repeat (first | apply Kd.R_alloc | apply Kd.zH | apply Kd.zI)); exact Kd.zB aL.o (fun _ hk => ⟨⟨hk.2, hk.1.1⟩, hk.1.2⟩)) hg (.inl rfl)); replace aH := J (gr_ aH.o aJ.o hg); replace aJ := J (hp_); replace HB := J ((by rw [hw]; exact zN (HB.o) hS.o : Below w.heap.size w hQ)); clear hg hw hp_))
           have cU := J (Kd.zI aG.o); have cV := J (Kd.zI aI.o); have cW := J (Kd.zI aJ.o); have cX := J (Kd.zI aL.o); have cY := J (zA aA.o); have cZ := J (zA aB.o); have dA := J (zA aC.o); have dB := J (zA aE.o); have dC := J (zA aH.o); have dD := J (zax HB.o); clear aG; clear aI; clear aJ; clear aL; clear aA; clear aB; clear aC; clear aE; clear aH; clear HB; have aG := cU; have aI := cV; have aJ := cW; have aL := cX; have aA := cY; have aB := cZ; have aC := dA; have aE := dB; have aH := dC; have HB := dD; clear cU cV cW cX cY cZ dA dB dC dD; have fN : 0 ≤ (a1 : Int) := od_; have fR : a1 < (aD.length : Int) := od_; obtain ⟨cC, iB, bZ⟩ := Kd.zQ cI.o a1 fN fR; have eK := bZ; cases iB; replace bZ := bx_ HB.o bZ; replace fN := eq_true fN; replace fR := eq_true fR; have iN : 0 ≤ (a1 : Int) := od_; have iR : (a1 : Int) < ((aP.length : Int) : Int) := od_; obtain ⟨bC, co38, gQ, gU, iJ, cl38, fZ⟩ := Kd.R_form aI.o yO_
           (first | cases gQ | (injection gQ with ea_ en_ ec_; (first | subst ea_ | (injection ea_ with ea_; subst ea_)); subst ec_; clear en_))
           have hT := J gU; have hV := J fZ; clear gU iJ fZ; obtain ⟨fJ, fF⟩ := Kd.zaQ 0 aI.o (a1 : Int) iN iR; replace iN := eq_true iN; replace iR := eq_true iR; have fB := Kd.R_putn aI.o (a1 : Int) (wrap64 (2 * (rd aD a1))); rw [← gF.o] at fB; have gB := J fB; clear fB; refine zaw (n := 11) (S := fun w' => w'.cell? ⟨aV, 0, none⟩ = some (.slice (some ⟨bE, 0, none⟩) aK.length aU) ∧ w'.cell? ⟨aV, 1, none⟩ = some (.slice (some ⟨bC, 0, none⟩) aP.length aX) ∧ w'.cell? ⟨bG, 0, none⟩ = some (.slice bU aQ.length bV) ∧ w'.cell? ⟨bG, 1, none⟩ = some (.slice (some cC) aD.length bW) ∧ w'.cell? (cC.add (a1).toNat) = some (.int .i64 (rd aD a1))) (ds := [10]) (bl_ 11 0) yK_ rfl rfl ⟨(zg aE.o 0).trans rfl, (zg aE.o 1).trans rfl, (zg aA.o 0).trans rfl, (zg aA.o 1).trans rfl, (bx_ HB.o eK)⟩ (fun hHeld => ?_); refine zS zp.tab9 zp.bits9 (fun HT_ HW_ => ?_); generalize hQ.drew = dV at aG aI aJ aL aA aB aC aE aH HB hV gB fF bZ fJ hHeld ⊢; refine pu_ 0 ?_; refine pu_ 2 ?_; refine pu_ 3 ?_; refine pu_ 5 ?_; refine tk_ 1 ?_; refine tk_ 4 ?_; refine pu_ 6 ?_; refine tk_ 7 ?_; refine pu_ 8 ?_; refine pu_ 9 ?_; refine last_ (i := 10) (N := none) (bl_ 11 2047) rfl rfl (zaY HT_.o yK_) yD_ (fun K hK => ?_); refine skip_ (w1 := ?_) (by rfl) rfl ?_ ?_; rotate_left
           ·go_simp; rfl
           refine hK.out _ _ ?_; clear hK K; refine zaL (zad HT_.o yK_) ?_; have cU : ze (Kd.R (Kd.int .i64) 3 (dV.setCell ⟨bC, (a1 : Int).toNat, none⟩ (.int .i64 (wrap64 (2 * (rd aD a1))))) w.heap.size (fun k_ => some k_ ≠ (.slice (some ⟨bC, 0, none⟩) aP.length aX : Value).ownBlock ∧ some k_ ≠ (.slice (some ⟨bM, 0, none⟩) aM.length aW : Value).ownBlock ∧ some k_ ≠ (.slice bN aR.length bB : Value).ownBlock) (.slice (some ⟨bE, 0, none⟩) aK.length aU) dF) := ⟨by (with_reducible repeat (first | apply Kd.R_alloc | apply Kd.zH | apply Kd.zI)); exact Kd.zB (Kd.zT (p := ⟨bC, (a1 : Int).toNat, none⟩) (Kd.zB aG.o (fun k_ hk => (⟨hk, fun e_ => hk.1.1 (by rw [e_]; rfl)⟩ : _ ∧ k_ ≠ bC))) (fun _ hk => hk.2) (.int .i64 (wrap64 (2 * (rd aD a1))))) (fun _ hk => ⟨hk.1.1.1, ⟨hk.1.2, hk.1.1.2⟩⟩)⟩
           have cV : ze (Kd.R (Kd.int .i64) 3 (dV.setCell ⟨bC, (a1 : Int).toNat, none⟩ (.int .i64 (wrap64 (2 * (rd aD a1))))) w.heap.size (fun k_ => some k_ ≠ (.slice (some ⟨bE, 0, none⟩) aK.length aU : Value).ownBlock ∧ some k_ ≠ (.slice (some ⟨bM, 0, none⟩) aM.length aW : Value).ownBlock ∧ some k_ ≠ (.slice bN aR.length bB : Value).ownBlock) (.slice (some ⟨bC, 0, none⟩) aP.length aX) eR) := ⟨by (with_reducible repeat (first | apply Kd.R_alloc | apply Kd.zH | apply Kd.zI)); exact Kd.zB gB.o (fun _ hk => ⟨hk.1.1, ⟨hk.2, hk.1.2⟩⟩)⟩
           have cW : ze (Kd.R (Kd.int .i64) 3 (dV.setCell ⟨bC, (a1 : Int).toNat, none⟩ (.int .i64 (wrap64 (2 * (rd aD a1))))) w.heap.size (fun k_ => some k_ ≠ (.slice (some ⟨bE, 0, none⟩) aK.length aU : Value).ownBlock ∧ some k_ ≠ (.slice (some ⟨bC, 0, none⟩) aP.length aX : Value).ownBlock ∧ some k_ ≠ (.slice bN aR.length bB : Value).ownBlock) (.slice (some ⟨bM, 0, none⟩) aM.length aW) dM) := ⟨by (with_reducible repeat (first | apply Kd.R_alloc | apply Kd.zH | apply Kd.zI)); exact Kd.zB (Kd.zT (p := ⟨bC, (a1 : Int).toNat, none⟩) (Kd.zB aJ.o (fun k_ hk => (⟨hk, fun e_ => hk.2.1 (by rw [e_]; rfl)⟩ : _ ∧ k_ ≠ bC))) (fun _ hk => hk.2) (.int .i64 (wrap64 (2 * (rd aD a1))))) (fun _ hk => ⟨hk.1.1, ⟨hk.1.2.1, hk.1.2.2⟩⟩)⟩
           have cX : ze (Kd.R (Kd.int .i64) 3 (dV.setCell ⟨bC, (a1 : Int).toNat, none⟩ (.int .i64 (wrap64 (2 * (rd aD a1))))) w.heap.size (fun k_ => some k_ ≠ (.slice (some ⟨bE, 0, none⟩) aK.length aU : Value).ownBlock ∧ some k_ ≠ (.slice (some ⟨bC, 0, none⟩) aP.length aX : Value).ownBlock ∧ some k_ ≠ (.slice (some ⟨bM, 0, none⟩) aM.length aW : Value).ownBlock) (.slice bN aR.length bB) aR) := ⟨by (with_reducible repeat (first | apply Kd.R_alloc | apply Kd.zH | apply Kd.zI)); exact Kd.zB (Kd.zT (p := ⟨bC, (a1 : Int).toNat, none⟩) (Kd.zB aL.o (fun k_ hk => (⟨hk, fun e_ => hk.1.2 (by rw [e_]; rfl)⟩ : _ ∧ k_ ≠ bC))) (fun _ hk => hk.2) (.int .i64 (wrap64 (2 * (rd aD a1))))) (fun _ hk => ⟨hk.1.1.1, ⟨hk.1.1.2, hk.1.2⟩⟩)⟩
           have cY : ze ((dV.setCell ⟨bC, (a1 : Int).toNat, none⟩ (.int .i64 (wrap64 (2 * (rd aD a1))))).heap[bG]? = some (.cells #[.slice bU aQ.length bV, .slice (some cC) aD.length bW] 24 (0, 0))) := ⟨by (with_reducible repeat (first | refine zab ?_ _ | refine zA ?_ | refine zZ ?_ _)); refine za1 ?_ (by have h_ := Kd.R_ne aI.o aA.o yD_; intro e_; exact h_ (by rw [e_]; rfl)) _; (with_reducible repeat (first | refine zab ?_ _ | refine zA ?_ | refine zZ ?_ _)); exact aA.o⟩
           have cZ : ze ((dV.setCell ⟨bC, (a1 : Int).toNat, none⟩ (.int .i64 (wrap64 (2 * (rd aD a1))))).heap[aN]? = some (.cells #[.slice none 0 0, .slice none 0 0] 24 (0, 0))) := ⟨by (with_reducible repeat (first | refine zab ?_ _ | refine zA ?_ | refine zZ ?_ _)); refine za1 ?_ (by have h_ := Kd.R_ne aI.o aB.o yD_; intro e_; exact h_ (by rw [e_]; rfl)) _; (with_reducible repeat (first | refine zab ?_ _ | refine zA ?_ | refine zZ ?_ _)); exact aB.o⟩
           have dA : ze ((dV.setCell ⟨bC, (a1 : Int).toNat, none⟩ (.int .i64 (wrap64 (2 * (rd aD a1))))).heap[aO]? = some (.cells #[.slice none 0 0, .slice none 0 0] 24 (0, 0))) := ⟨by (with_reducible repeat (first | refine zab ?_ _ | refine zA ?_ | refine zZ ?_ _)); refine za1 ?_ (by have h_ := Kd.R_ne aI.o aC.o yD_; intro e_; exact h_ (by rw [e_]; rfl)) _; (with_reducible repeat (first | refine zab ?_ _ | refine zA ?_ | refine zZ ?_ _)); exact aC.o⟩
           have dB : ze ((dV.setCell ⟨bC, (a1 : Int).toNat, none⟩ (.int .i64 (wrap64 (2 * (rd aD a1))))).heap[aV]? = some (.cells #[.slice (some ⟨bE, 0, none⟩) aK.length aU, .slice (some ⟨bC, 0, none⟩) aP.length aX] 24 (0, 0))) := ⟨by (with_reducible repeat (first | refine zab ?_ _ | refine zA ?_ | refine zZ ?_ _)); refine za1 ?_ (by have h_ := Kd.R_ne aI.o aE.o yD_; intro e_; exact h_ (by rw [e_]; rfl)) _; (with_reducible repeat (first | refine zab ?_ _ | refine zA ?_ | refine zZ ?_ _)); exact aE.o⟩
           have dC : ze ((dV.setCell ⟨bC, (a1 : Int).toNat, none⟩ (.int .i64 (wrap64 (2 * (rd aD a1))))).heap[bD]? = some (.cells #[.slice (some ⟨bM, 0, none⟩) aM.length aW, .slice bN aR.length bB] 24 (0, 0))) := ⟨by (with_reducible repeat (first | refine zab ?_ _ | refine zA ?_ | refine zZ ?_ _)); refine za1 ?_ (by have h_ := Kd.R_ne aI.o aH.o yD_; intro e_; exact h_ (by rw [e_]; rfl)) _; (with_reducible repeat (first | refine zab ?_ _ | refine zA ?_ | refine zZ ?_ _)); exact aH.o⟩
           have dD : ze (Below w.heap.size w (dV.setCell ⟨bC, (a1 : Int).toNat, none⟩ (.int .i64 (wrap64 (2 * (rd aD a1)))))) := ⟨by repeat (first | (with_reducible first | exact HB.o | apply z7 | apply zas | apply zax | refine zN ?_ hT.o | refine zN ?_ dO.o | refine zN ?_ dP.o | refine zN ?_ dQ.o | refine zN ?_ eS.o | refine zN ?_ eT.o) | exact HB.o)⟩
           (try clear aG)
           (try clear aI)
           (try clear aJ)
           (try clear aL)
           (try clear aA)
           (try clear aB)
           (try clear aC)
           (try clear aE)
           (try clear aH)
           (try clear HB)
           generalize (dV.setCell ⟨bC, (a1 : Int).toNat, none⟩ (.int .i64 (wrap64 (2 * (rd aD a1))))) = w71 at cU cV cW cX cY cZ dA dB dC dD ⊢; have aG := cU; have aI := cV; have aJ := cW; have aL := cX; have aA := cY; have aB := cZ; have aC := dA; have aE := dB; have aH := dC; have HB := dD; clear cU cV cW cX cY cZ dA dB dC dD
           try go_wp2
           have cU := J (Kd.zI aG.o); have cV := J (Kd.zI aI.o); have cW := J (Kd.zI aJ.o); have cX := J (Kd.zI aL.o); have cY := J (zA aA.o); have cZ := J (zA aB.o); have dA := J (zA aC.o); have dB := J (zA aE.o); have dC := J (zA aH.o); have dD := J (zax HB.o); clear aG; clear aI; clear aJ; clear aL; clear aA; clear aB; clear aC; clear aE; clear aH; clear HB; have aG := cU; have aI := cV; have aJ := cW; have aL := cX; have aA := cY; have aB := cZ; have aC := dA; have aE := dB; have aH := dC; have HB := dD; clear cU cV cW cX cY cZ dA dB dC dD; have fO : 0 ≤ (a1 : Int) := od_; have fS : a1 < (aD.length : Int) := od_; obtain ⟨gH, iC, cA⟩ := Kd.zQ cI.o a1 fO fS; have eM := cA; obtain rfl : cC = gH := (by injection iC)
           replace cA := bx_ HB.o cA; replace fO := eq_true fO; replace fS := eq_true fS; have iO : 0 ≤ (a1 : Int) := od_; have iS : (a1 : Int) < ((aR.length : Int) : Int) := od_; obtain ⟨bF, co40, gR, gV, iK, cl40, gA⟩ := Kd.R_form aL.o yO_
           (first | cases gR | (injection gR with ea_ en_ ec_; (first | subst ea_ | (injection ea_ with ea_; subst ea_)); subst ec_; clear en_))
           have hU := J gV; have hW := J gA; clear gV iK gA; obtain ⟨fK, fG⟩ := Kd.zaQ 0 aL.o (a1 : Int) iO iS; replace iO := eq_true iO; replace iS := eq_true iS; have fC := Kd.R_putn aL.o (a1 : Int) (wrap64 ((wrap64 (2 * (rd aD a1))) + 1)); rw [← gG.o] at fC; have gC := J fC; clear fC; refine zaw (n := 12) (S := fun w' => w'.cell? ⟨bD, 0, none⟩ = some (.slice (some ⟨bM, 0, none⟩) aM.length aW) ∧ w'.cell? ⟨bD, 1, none⟩ = some (.slice (some ⟨bF, 0, none⟩) aR.length bB) ∧ w'.cell? ⟨bG, 0, none⟩ = some (.slice bU aQ.length bV) ∧ w'.cell? ⟨bG, 1, none⟩ = some (.slice (some cC) aD.length bW) ∧ w'.cell? (cC.add (a1).toNat) = some (.int .i64 (rd aD a1))) (ds := [11]) (bl_ 12 0) yK_ rfl rfl ⟨(zg aH.o 0).trans rfl, (zg aH.o 1).trans rfl, (zg aA.o 0).trans rfl, (zg aA.o 1).trans rfl, (bx_ HB.o eM)⟩ (fun hHeld => ?_); refine zS zp.tab10 zp.bits10 (fun HT_ HW_ => ?_); generalize w71.drew = dW at aG aI aJ aL aA aB aC aE aH HB hW gC fG cA fK hHeld ⊢; refine pu_ 0 ?_; refine pu_ 2 ?_; refine pu_ 3 ?_; refine pu_ 5 ?_; refine tk_ 1 ?_; refine tk_ 4 ?_; refine pu_ 6 ?_; refine tk_ 7 ?_; refine pu_ 8 ?_; refine pu_ 9 ?_; refine pu_ 10 ?_; refine last_ (i := 11) (N := none) (bl_ 12 4095) rfl rfl (zaY HT_.o yK_) yD_ (fun K hK => ?_); refine skip_ (w1 := ?_) (by rfl) rfl ?_ ?_; rotate_left
           ·go_simp; rfl
           refine hK.out _ _ ?_; clear hK K; refine zaL (zad HT_.o yK_) ?_; have cU : ze (Kd.R (Kd.int .i64) 3 (dW.setCell ⟨bF, (a1 : Int).toNat, none⟩ (.int .i64 (wrap64 ((wrap64 (2 * (rd aD a1))) + 1)))) w.heap.size (fun k_ => some k_ ≠ (.slice (some ⟨bC, 0, none⟩) aP.length aX : Value).ownBlock ∧ some k_ ≠ (.slice (some ⟨bM, 0, none⟩) aM.length aW : Value).ownBlock ∧ some k_ ≠ (.slice (some ⟨bF, 0, none⟩) aR.length bB : Value).ownBlock) (.slice (some ⟨bE, 0, none⟩) aK.length aU) dF) := ⟨by (with_reducible repeat (first | apply Kd.R_alloc | apply Kd.zH | apply Kd.zI)); exact Kd.zB (Kd.zT (p := ⟨bF, (a1 : Int).toNat, none⟩) (Kd.zB aG.o (fun k_ hk => (⟨hk, fun e_ => hk.2.2 (by rw [e_]; rfl)⟩ : _ ∧ k_ ≠ bF))) (fun _ hk => hk.2) (.int .i64 (wrap64 ((wrap64 (2 * (rd aD a1))) + 1)))) (fun _ hk => ⟨hk.1.1, ⟨hk.1.2.1, hk.1.2.2⟩⟩)⟩
           have cV : ze (Kd.R (Kd.int .i64) 3 (dW.setCell ⟨bF, (a1 : Int).toNat, none⟩ (.int .i64 (wrap64 ((wrap64 (2 * (rd aD a1))) + 1)))) w.heap.size (fun k_ => some k_ ≠ (.slice (some ⟨bE, 0, none⟩) aK.length aU : Value).ownBlock ∧ some k_ ≠ (.slice (some ⟨bM, 0, none⟩) aM.length aW : Value).ownBlock ∧ some k_ ≠ (.slice (some ⟨bF, 0, none⟩) aR.length bB : Value).ownBlock) (.slice (some ⟨bC, 0, none⟩) aP.length aX) eR) := ⟨by (with_reducible repeat (first | apply Kd.R_alloc | apply Kd.zH | apply Kd.zI)); exact Kd.zB (Kd.zT (p := ⟨bF, (a1 : Int).toNat, none⟩) (Kd.zB aI.o (fun k_ hk => (⟨hk, fun e_ => hk.2.2 (by rw [e_]; rfl)⟩ : _ ∧ k_ ≠ bF))) (fun _ hk => hk.2) (.int .i64 (wrap64 ((wrap64 (2 * (rd aD a1))) + 1)))) (fun _ hk => ⟨hk.1.1, ⟨hk.1.2.1, hk.1.2.2⟩⟩)⟩
           have cW : ze (Kd.R (Kd.int .i64) 3 (dW.setCell ⟨bF, (a1 : Int).toNat, none⟩ (.int .i64 (wrap64 ((wrap64 (2 * (rd aD a1))) + 1)))) w.heap.size (fun k_ => some k_ ≠ (.slice (some ⟨bE, 0, none⟩) aK.length aU : Value).ownBlock ∧ some k_ ≠ (.slice (some ⟨bC, 0, none⟩) aP.length aX : Value).ownBlock ∧ some k_ ≠ (.slice (some ⟨bF, 0, none⟩) aR.length bB : Value).ownBlock) (.slice (some ⟨bM, 0, none⟩) aM.length aW) dM) := ⟨by (with_reducible repeat (first | apply Kd.R_alloc | apply Kd.zH | apply Kd.zI)); exact Kd.zB (Kd.zT (p := ⟨bF, (a1 : Int).toNat, none⟩) (Kd.zB aJ.o (fun k_ hk => (⟨hk, fun e_ => hk.2.2 (by rw [e_]; rfl)⟩ : _ ∧ k_ ≠ bF))) (fun _ hk => hk.2) (.int .i64 (wrap64 ((wrap64 (2 * (rd aD a1))) + 1)))) (fun _ hk => ⟨hk.1.1, ⟨hk.1.2.1, hk.1.2.2⟩⟩)⟩
           have cX : ze (Kd.R (Kd.int .i64) 3 (dW.setCell ⟨bF, (a1 : Int).toNat, none⟩ (.int .i64 (wrap64 ((wrap64 (2 * (rd aD a1))) + 1)))) w.heap.size (fun k_ => some k_ ≠ (.slice (some ⟨bE, 0, none⟩) aK.length aU : Value).ownBlock ∧ some k_ ≠ (.slice (some ⟨bC, 0, none⟩) aP.length aX : Value).ownBlock ∧ some k_ ≠ (.slice (some ⟨bM, 0, none⟩) aM.length aW : Value).ownBlock) (.slice (some ⟨bF, 0, none⟩) aR.length bB) hF) := ⟨pk_ gC.o⟩
           have cY : ze ((dW.setCell ⟨bF, (a1 : Int).toNat, none⟩ (.int .i64 (wrap64 ((wrap64 (2 * (rd aD a1))) + 1)))).heap[bG]? = some (.cells #[.slice bU aQ.length bV, .slice (some cC) aD.length bW] 24 (0, 0))) := ⟨by (with_reducible repeat (first | refine zab ?_ _ | refine zA ?_ | refine zZ ?_ _)); refine za1 ?_ (by have h_ := Kd.R_ne aL.o aA.o yD_; intro e_; exact h_ (by rw [e_]; rfl)) _; (with_reducible repeat (first | refine zab ?_ _ | refine zA ?_ | refine zZ ?_ _)); exact aA.o⟩
           have cZ : ze ((dW.setCell ⟨bF, (a1 : Int).toNat, none⟩ (.int .i64 (wrap64 ((wrap64 (2 * (rd aD a1))) + 1)))).heap[aN]? = some (.cells #[.slice none 0 0, .slice none 0 0] 24 (0, 0))) := ⟨by (with_reducible repeat (first | refine zab ?_ _ | refine zA ?_ | refine zZ ?_ _)); refine za1 ?_ (by have h_ := Kd.R_ne aL.o aB.o yD_; intro e_; exact h_ (by rw [e_]; rfl)) _; (with_reducible repeat (first | refine zab ?_ _ | refine zA ?_ | refine zZ ?_ _)); exact aB.o⟩
           have dA : ze ((dW.setCell ⟨bF, (a1 : Int).toNat, none⟩ (.int .i64 (wrap64 ((wrap64 (2 * (rd aD a1))) + 1)))).heap[aO]? = some (.cells #[.slice none 0 0, .slice none 0 0] 24 (0, 0))) := ⟨by (with_reducible repeat (first | refine zab ?_ _ | refine zA ?_ | refine zZ ?_ _)); refine za1 ?_ (by have h_ := Kd.R_ne aL.o aC.o yD_; intro e_; exact h_ (by rw [e_]; rfl)) _; (with_reducible repeat (first | refine zab ?_ _ | refine zA ?_ | refine zZ ?_ _)); exact aC.o⟩
           have dB : ze ((dW.setCell ⟨bF, (a1 : Int).toNat, none⟩ (.int .i64 (wrap64 ((wrap64 (2 * (rd aD a1))) + 1)))).heap[aV]? = some (.cells #[.slice (some ⟨bE, 0, none⟩) aK.length aU, .slice (some ⟨bC, 0, none⟩) aP.length aX] 24 (0, 0))) := ⟨by (with_reducible repeat (first | refine zab ?_ _ | refine zA ?_ | refine zZ ?_ _)); refine za1 ?_ (by have h_ := Kd.R_ne aL.o aE.o yD_; intro e_; exact h_ (by rw [e_]; rfl)) _; (with_reducible repeat (first | refine zab ?_ _ | refine zA ?_ | refine zZ ?_ _)); exact aE.o⟩
           have dC : ze ((dW.setCell ⟨bF, (a1 : Int).toNat, none⟩ (.int .i64 (wrap64 ((wrap64 (2 * (rd aD a1))) + 1)))).heap[bD]? = some (.cells #[.slice (some ⟨bM, 0, none⟩) aM.length aW, .slice (some ⟨bF, 0, none⟩) aR.length bB] 24 (0, 0))) := ⟨by (with_reducible repeat (first | refine zab ?_ _ | refine zA ?_ | refine zZ ?_ _)); refine za1 ?_ (by have h_ := Kd.R_ne aL.o aH.o yD_; intro e_; exact h_ (by rw [e_]; rfl)) _; (with_reducible repeat (first | refine zab ?_ _ | refine zA ?_ | refine zZ ?_ _)); exact aH.o⟩
           have dD : ze (Below w.heap.size w (dW.setCell ⟨bF, (a1 : Int).toNat, none⟩ (.int .i64 (wrap64 ((wrap64 (2 * (rd aD a1))) + 1))))) := ⟨by repeat (first | (with_reducible first | exact HB.o | apply z7 | apply zas | apply zax | refine zN ?_ hU.o | refine zN ?_ dO.o | refine zN ?_ dP.o | refine zN ?_ dQ.o | refine zN ?_ eS.o | refine zN ?_ eT.o) | exact HB.o)⟩
           (try clear aG)
           (try clear aI)
           (try clear aJ)
           (try clear aL)
           (try clear aA)
           (try clear aB)
           (try clear aC)
           (try clear aE)
           (try clear aH)
           (try clear HB)
           generalize (dW.setCell ⟨bF, (a1 : Int).toNat, none⟩ (.int .i64 (wrap64 ((wrap64 (2 * (rd aD a1))) + 1)))) = w74 at cU cV cW cX cY cZ dA dB dC dD ⊢; have aG := cU; have aI := cV; have aJ := cW; have aL := cX; have aA := cY; have aB := cZ; have aC := dA; have aE := dB; have aH := dC; have HB := dD; clear cU cV cW cX cY cZ dA dB dC dD
           try go_wp2
           have cU := J (Kd.zI aG.o); have cV := J (Kd.zI aI.o); have cW := J (Kd.zI aJ.o); have cX := J (Kd.zI aL.o); have cY := J (zA aA.o); have cZ := J (zA aB.o); have dA := J (zA aC.o); have dB := J (zA aE.o); have dC := J (zA aH.o); have dD := J (zax HB.o); clear aG; clear aI; clear aJ; clear aL; clear aA; clear aB; clear aC; clear aE; clear aH; clear HB; have aG := cU; have aI := cV; have aJ := cW; have aL := cX; have aA := cY; have aB := cZ; have aC := dA; have aE := dB; have aH := dC; have HB := dD; clear cU cV cW cX cY cZ dA dB dC dD; refine zaw (n := 5) (S := fun w' => w'.cell? ⟨aV, 0, none⟩ = some (.slice (some ⟨bE, 0, none⟩) aK.length aU) ∧ w'.cell? ⟨aV, 1, none⟩ = some (.slice (some ⟨bC, 0, none⟩) aP.length aX) ∧ w'.cell? ⟨bD, 0, none⟩ = some (.slice (some ⟨bM, 0, none⟩) aM.length aW) ∧ w'.cell? ⟨bD, 1, none⟩ = some (.slice (some ⟨bF, 0, none⟩) aR.length bB)) (ds := []) (bl_ 5 0) yK_ rfl rfl ⟨(zg aE.o 0).trans rfl, (zg aE.o 1).trans rfl, (zg aH.o 0).trans rfl, (zg aH.o 1).trans rfl⟩ (fun hHeld => ?_); generalize w74.drew = w75 at aG aI aJ aL aA aB aC aE aH HB hHeld ⊢; refine take_ (i := 0) (N := some 75) (v := ?_) (a' := ?_) (bl_ 5 1) rfl rfl yK_ (fun _ _ _ h => h) (Or.inl ⟨by rfl, ?_⟩) hHeld ?_ ?_; rotate_left
           ·rintro w' ⟨s0, s1, s2, s3⟩; go_simp
            with_reducible rfl
           rotate_left
           ·simp only [Act.put, sI_, s0_, s1_, zat, zaM]; rfl
           refine take_ (i := 1) (N := some 76) (v := ?_) (a' := ?_) (bl_ 5 3) rfl rfl yK_ (fun _ _ _ h => h) (Or.inl ⟨by rfl, ?_⟩) hHeld ?_ ?_; rotate_left
           ·rintro w' ⟨s0, s1, s2, s3⟩; go_simp
            with_reducible rfl
           rotate_left
           ·simp only [Act.put, sI_, s0_, s1_, zat, zaM]; rfl
           refine one_ (i := 2) (N := none) (bl_ 5 7) rfl rfl yK_ yD_ (fun K hK => ?_); have hs76 := cz_ aB.o 0 rfl; have hfs76 := zb aB.o 0; have hns76_0 := aS.o; have hns76_2 := bH.o; have hns76_3 := bI.o; have hns76_4 := bK.o; have hms76_0 := aY.o; have hms76_2 := aZ.o; have hms76_3 := bQ.o; have hms76_4 := bR.o; have hs77 := cz_ aB.o 1 rfl; have hfs77 := zb aB.o 1; have hns77_0 := aS.o; have hns77_2 := bH.o; have hns77_3 := bI.o; have hns77_4 := bK.o; have hms77_0 := aY.o; have hms77_2 := aZ.o; have hms77_3 := bQ.o; have hms77_4 := bR.o; refine skip_ (w1 := ?_) (by rfl) rfl ?_ ?_; rotate_left
           ·go_simp; rfl
           refine hK.out _ _ ⟨((cell_far (p := ⟨aN, _, none⟩) bI.o _).trans (((cell_far (p := ⟨aN, _, none⟩) bI.o _).trans (hHeld.1)))), ((cell_far (p := ⟨aN, _, none⟩) bI.o _).trans (((cell_far (p := ⟨aN, _, none⟩) bI.o _).trans (hHeld.2.1)))), ((cell_far (p := ⟨aN, _, none⟩) bK.o _).trans (((cell_far (p := ⟨aN, _, none⟩) bK.o _).trans (hHeld.2.2.1)))), ((cell_far (p := ⟨aN, _, none⟩) bK.o _).trans (((cell_far (p := ⟨aN, _, none⟩) bK.o _).trans (hHeld.2.2.2))))⟩ (fun hHeld => ?_); clear hK K; refine one_ (i := 3) (N := none) (bl_ 5 15) rfl rfl yK_ yD_ (fun K hK => ?_); have hs78 := cz_ aC.o 0 rfl; have hfs78 := zb aC.o 0; have hns78_0 := aT.o; have hns78_1 := aZ.o; have hns78_3 := bJ.o; have hns78_4 := bL.o; have hms78_0 := bA.o; have hms78_1 := bH.o; have hms78_3 := bS.o; have hms78_4 := bT.o; have hs79 := cz_ aC.o 1 rfl; have hfs79 := zb aC.o 1; have hns79_0 := aT.o; have hns79_1 := aZ.o; have hns79_3 := bJ.o; have hns79_4 := bL.o; have hms79_0 := bA.o; have hms79_1 := bH.o; have hms79_3 := bS.o; have hms79_4 := bT.o; refine skip_ (w1 := ?_) (by rfl) rfl ?_ ?_; rotate_left
           ·go_simp; rfl
           refine hK.out _ _ ⟨((cell_far (p := ⟨aO, _, none⟩) bJ.o _).trans (((cell_far (p := ⟨aO, _, none⟩) bJ.o _).trans (hHeld.1)))), ((cell_far (p := ⟨aO, _, none⟩) bJ.o _).trans (((cell_far (p := ⟨aO, _, none⟩) bJ.o _).trans (hHeld.2.1)))), ((cell_far (p := ⟨aO, _, none⟩) bL.o _).trans (((cell_far (p := ⟨aO, _, none⟩) bL.o _).trans (hHeld.2.2.1)))), ((cell_far (p := ⟨aO, _, none⟩) bL.o _).trans (((cell_far (p := ⟨aO, _, none⟩) bL.o _).trans (hHeld.2.2.2))))⟩ (fun hHeld => ?_); clear hK K; refine pure_ (i := 4) (N := some 6) (v := ?_) (a' := ?_) (bl_ 5 31) rfl rfl yK_ (fun _ _ _ h => h) (Or.inl ⟨by rfl, ?_⟩) ?_ ?_; rotate_left
           ·intro w'; go_simp
            with_reducible rfl
           rotate_left
           ·simp only [Act.put, sI_, s0_, s1_, zat, zaM]; rfl
           refine zaL yK_ ?_
           try go_wp2
           refine bodyPost_ret (zbb (rs := [.cell 4 24, .cell 5 24, .tmp 6]) rfl (by simp) (.cell aN 24 #[.slice (some ⟨bE, 0, none⟩) aK.length aU, .slice (some ⟨bC, 0, none⟩) aP.length aX] (0, 0) _ rfl (hp_ aB.o) Try.underlying24 rfl yK_ (.cell aO 24 #[.slice (some ⟨bM, 0, none⟩) aM.length aW, .slice (some ⟨bF, 0, none⟩) aR.length bB] (0, 0) _ rfl (hp_ aC.o) Try.underlying24 rfl yK_ (.tmp .nil)))) rfl ?_
           exact ⟨_, _, _, _, er_, by (with_reducible repeat (first | apply Kd.R_alloc | apply Kd.zH | apply Kd.zI)); exact Kd.zB (Kd.zT (p := ⟨aO, 1, none⟩) (Kd.zT (p := ⟨aO, 0, none⟩) (Kd.zT (p := ⟨aN, 1, none⟩) (Kd.zT (p := ⟨aN, 0, none⟩) (Kd.zV (Kd.zV aG.o aB.o yD_) aC.o yD_) (fun _ hk => hk.1.2) (.slice (some ⟨bE, 0, none⟩) aK.length aU)) (fun _ hk => hk.1.2) (.slice (some ⟨bC, 0, none⟩) aP.length aX)) (fun _ hk => hk.2) (.slice (some ⟨bM, 0, none⟩) aM.length aW)) (fun _ hk => hk.2) (.slice (some ⟨bF, 0, none⟩) aR.length bB)) (fun _ hk => ⟨hk.1.1.1, ⟨hk.1.1.2.1, hk.1.1.2.2⟩⟩), by (with_reducible repeat (first | apply Kd.R_alloc | apply Kd.zH | apply Kd.zI)); exact Kd.zB (Kd.zT (p := ⟨aO, 1, none⟩) (Kd.zT (p := ⟨aO, 0, none⟩) (Kd.zT (p := ⟨aN, 1, none⟩) (Kd.zT (p := ⟨aN, 0, none⟩) (Kd.zV (Kd.zV aI.o aB.o yD_) aC.o yD_) (fun _ hk => hk.1.2) (.slice (some ⟨bE, 0, none⟩) aK.length aU)) (fun _ hk => hk.1.2) (.slice (some ⟨bC, 0, none⟩) aP.length aX)) (fun _ hk => hk.2) (.slice (some ⟨bM, 0, none⟩) aM.length aW)) (fun _ hk => hk.2) (.slice (some ⟨bF, 0, none⟩) aR.length bB)) (fun _ hk => ⟨hk.1.1.1, ⟨hk.1.1.2.1, hk.1.1.2.2⟩⟩), by (with_reducible repeat (first | apply Kd.R_alloc | apply Kd.zH | apply Kd.zI)); exact Kd.zB (Kd.zT (p := ⟨aO, 1, none⟩) (Kd.zT (p := ⟨aO, 0, none⟩) (Kd.zT (p := ⟨aN, 1, none⟩) (Kd.zT (p := ⟨aN, 0, none⟩) (Kd.zV (Kd.zV aJ.o aB.o yD_) aC.o yD_) (fun _ hk => hk.1.2) (.slice (some ⟨bE, 0, none⟩) aK.length aU)) (fun _ hk => hk.1.2) (.slice (some ⟨bC, 0, none⟩) aP.length aX)) (fun _ hk => hk.2) (.slice (some ⟨bM, 0, none⟩) aM.length aW)) (fun _ hk => hk.2) (.slice (some ⟨bF, 0, none⟩) aR.length bB)) (fun _ hk => ⟨hk.1.1.1, ⟨hk.1.1.2.1, hk.1.1.2.2⟩⟩), by (with_reducible repeat (first | apply Kd.R_alloc | apply Kd.zH | apply Kd.zI)); exact Kd.zB (Kd.zT (p := ⟨aO, 1, none⟩) (Kd.zT (p := ⟨aO, 0, none⟩) (Kd.zT (p := ⟨aN, 1, none⟩) (Kd.zT (p := ⟨aN, 0, none⟩) (Kd.zV (Kd.zV aL.o aB.o yD_) aC.o yD_) (fun _ hk => hk.1.2) (.slice (some ⟨bE, 0, none⟩) aK.length aU)) (fun _ hk => hk.1.2) (.slice (some ⟨bC, 0, none⟩) aP.length aX)) (fun _ hk => hk.2) (.slice (some ⟨bM, 0, none⟩) aM.length aW)) (fun _ hk => hk.2) (.slice (some ⟨bF, 0, none⟩) aR.length bB)) (fun _ hk => ⟨hk.1.1.1, ⟨hk.1.1.2.1, hk.1.1.2.2⟩⟩), bw_⟩
          ·rw [if_neg hP] at H; exact absurd H (by simp)
         ·rw [if_neg hO] at H; exact absurd H (by simp)
        ·rw [if_neg hN] at H; exact absurd H (by simp)
       ·rw [if_neg hM] at H; exact absurd H (by simp)
      ·rw [if_neg hJ] at H; exact absurd H (by simp)
     ·rw [if_neg hI] at H; exact absurd H (by simp)
 ·rw [if_neg c4] at H; have gM : (cH == 0) = false := beq_eq_false_iff_ne.mpr c4; have gN : (cH != 0) = true := bne_iff_ne.mpr c4; simp only [Option.some.injEq, Prod.mk.injEq] at H; obtain ⟨rfl, rfl, rfl, rfl, rfl⟩ := H; go_enter Try.func16, Try.ntmps16
  go_wp2_with (first | ((with_reducible refine zf (N := 2) rfl ?_); (try (refine zR (by rfl) ?_; dsimp only)); refine zah 2 (cs := #[.slice bU aQ.length bV, .slice cB aD.length bW]) (t := 24) ?_; intro bG hg w80 hbox hb; have aA := J (hbox); have dR := J ((by rw [hg]; exact (zh bw_) : w.heap.size ≤ bG)); replace HB := J (za bw_ hb); have dO := dR; clear hb hbox hg) | ((with_reducible refine zf (N := 4) rfl ?_); (try (refine zR (by rfl) ?_; dsimp only)); refine zah 4 (cs := #[.slice none 0 0, .slice none 0 0]) (t := 24) ?_; intro aN hg w81 hbox hb; have aB := J (hbox); have dS := J ((by rw [hg]; exact (zh bw_) : w.heap.size ≤ aN)); replace HB := J (za bw_ hb); have dP := dS; have aS := J ((by rw [hg]; exact Nat.ne_of_lt (fl_ aA.o) : bG ≠ aN)); replace aA := J (fr_ aA.o hb); have aY := J aS.o.symm; clear hb hbox hg) | ((with_reducible refine zf (N := 5) rfl ?_); (try (refine zR (by rfl) ?_; dsimp only)); refine zah 5 (cs := #[.slice none 0 0, .slice none 0 0]) (t := 24) ?_; intro aO hg w82 hbox hb; have aC := J (hbox); have dT := J ((by rw [hg]; exact (zh bw_) : w.heap.size ≤ aO)); replace HB := J (za bw_ hb); have dQ := dT; have aT := J ((by rw [hg]; exact Nat.ne_of_lt (fl_ aA.o) : bG ≠ aO)); replace aA := J (fr_ aA.o hb); have bA := J aT.o.symm; have aZ := J ((by rw [hg]; exact Nat.ne_of_lt (fl_ aB.o) : aN ≠ aO)); replace aB := J (fr_ aB.o hb); have bH := J aZ.o.symm; clear hb hbox hg; have hnb83 := aS.o; have hnc83 := aY.o; have hnb84 := aT.o; have hnc84 := bA.o; have hcz85_0 := cz_ aA.o 0 rfl; have hcz85_1 := cz_ aA.o 1 rfl; have hfz85_0 := zb aA.o 0; have hfz85_1 := zb aA.o 1) | ((with_reducible refine zM (f := 18) rfl ?_); refine gl_ 13 Try.func18 #[.agg #[.slice bU aQ.length bV, .slice cB aD.length bW], .int .i64 (aQ.length : Int)] ?_; (with_reducible refine (zl.calls k _ _ aQ _ _ aD (aQ.length : Int) cH _ ?cD ?cE ?cF ?cG A3.o).mono ?_); (case cD => exact sc_ (Kd.zm cO.o HB.o)); (case cE => exact dG.o); (case cF => exact sc_ (Kd.zm cI.o HB.o)); (case cG => exact dH.o); rintro e w86 ⟨rfl, hb⟩; refine ⟨_, rfl, ?_⟩; replace aA := J (fr_ aA.o hb); replace aB := J (fr_ aB.o hb); replace aC := J (fr_ aC.o hb); replace HB := J (za bw_ hb); (try clear hb); have hnb87 := aZ.o; have hnc87 := bH.o; have hcz88_0 := cz_ aB.o 0 rfl; have hcz88_1 := cz_ aB.o 1 rfl; have hfz88_0 := zb aB.o 0; have hfz88_1 := zb aB.o 1; have hcz89_0 := cz_ aC.o 0 rfl; have hcz89_1 := cz_ aC.o 1 rfl; have hfz89_0 := zb aC.o 0; have hfz89_1 := zb aC.o 1))
  refine bodyPost_ret (zbb (rs := [.cell 4 24, .cell 5 24, .tmp 6]) rfl (by simp) (.cell aN 24 #[.slice none 0 0, .slice none 0 0] (0, 0) _ rfl (hp_ aB.o) Try.underlying24 rfl yK_ (.cell aO 24 #[.slice none 0 0, .slice none 0 0] (0, 0) _ rfl (hp_ aC.o) Try.underlying24 rfl yK_ (.tmp .nil)))) rfl ?_; exact ⟨_, _, _, _, er_, by first | exact Kd.zaI _ _ _ _ _ | exact Kd.N_nil _ _ _ _ _ | exact Kd.V_nil _ _ _ _ _ | exact Kd.Q_nil _ _ _ _ _ | exact Kd.zaP _ _ _ _ _, by first | exact Kd.zaI _ _ _ _ _ | exact Kd.N_nil _ _ _ _ _ | exact Kd.V_nil _ _ _ _ _ | exact Kd.Q_nil _ _ _ _ _ | exact Kd.zaP _ _ _ _ _, by first | exact Kd.zaI _ _ _ _ _ | exact Kd.N_nil _ _ _ _ _ | exact Kd.V_nil _ _ _ _ _ | exact Kd.Q_nil _ _ _ _ _ | exact Kd.zaP _ _ _ _ _, by first | exact Kd.zaI _ _ _ _ _ | exact Kd.N_nil _ _ _ _ _ | exact Kd.V_nil _ _ _ _ _ | exact Kd.Q_nil _ _ _ _ _ | exact Kd.zaP _ _ _ _ _, bw_⟩
end Go.Proofs.Ytlidbaejhmamjaa.PB
namespace Go.Proofs.Ytlidbaejhmamjaa.PB
open Go.RowKit YtlidbaejhmamjaaW.PrintWords YtlidbaejhmamjaaW.PrintLast YtlidbaejhmamjaaW.PrintMore
attribute [local go_sem] zao zaq zaB zaC zae zaf zap zar   -- for this text's walks alone
def zai.l0 : Nat → Int → Int → List Int → List Int → Option (Int × Int)
 | 0, _, _, _, _ => none
 | k + 1, x4, x5, aA, aB => if x5 < (aA.length : Int) then (if 0 ≤ x5 then (zai.l0 k (wrap64 (x4 + (rd aA x5))) (wrap64 (x5 + 1)) aA aB) else (none)) else (some (x4, 0))
def zai.f (k : Nat) (aA : List Int) (aB : List Int) : Option (Int × Int) := (zl.f k aA aB (aA.length : Int)).bind fun aC => (if aC = 0 then (zai.l0 k 0 0 aA aB) else (some (0, 180)))
theorem zai.calls (k : Nat) (aG : Option Addr) (aI : Nat) (aB : List Int) (aH : Option Addr) (aJ : Nat) (aC : List Int) (r1 : Int) (r2 : Int) (w : World) (aY : Kd.C (Kd.int .i64) w aG aB.length aB) (aW : aB.length ≤ aI) (aZ : Kd.C (Kd.int .i64) w aH aC.length aC) (aX : aC.length ≤ aJ) (h : zai.f k aB aC = some (r1, r2)) :
  Calls Try.prog 20 #[.agg #[.slice aG aB.length aI, .slice aH aC.length aJ]] w fun e w' => e = .returned (.tuple #[.int .i64 r1, .int .i64 r2]) ∧ Below w.heap.size w w' := by
 have hu24 := Try.underlying24; have aN := J aY; have aT := J aW; clear aY aW; have aV := J aZ; have aU := J aX; clear aZ aX; have HB := J (Below.refl w.heap.size w); have H : ((zl.f k aB aC (aB.length : Int)).bind fun aD => (if aD = 0 then (zai.l0 k 0 0 aB aC) else (some (0, 180)))) = some (r1, r2) := h; clear h; replace H := Option.bind_eq_some_iff.mp H; obtain ⟨aD, A20, H⟩ := H; replace H : (if aD = 0 then (zai.l0 k 0 0 aB aC) else (some (0, 180))) = some (r1, r2) := H; have A2 := J A20; clear A20
 by_cases c3 : aD = 0
 ·rw [if_pos c3] at H; have bH : (aD == 0) = true := beq_iff_eq.mpr c3; have bI : (aD != 0) = false := bne_eq_false_iff_eq.mpr c3; clear c3; have H' := J H; clear H; go_enter Try.func20, Try.ntmps20; go_wp2_with (first | ((with_reducible refine zf (N := 1) rfl ?_); refine zah 1 (cs := #[.slice aG aB.length aI, .slice aH aC.length aJ]) (t := 24) ?_; intro aK hg w4 hbox hb; have aA := J (hbox); have aM := J ((by rw [hg]; exact (zh bw_) : w.heap.size ≤ aK)); replace HB := J (za bw_ hb); have bG := aM; clear hb hbox hg; have bA := cz_ aA.o 0 rfl; have bB := cz_ aA.o 1 rfl; have bC := zb aA.o 0; have bD := zb aA.o 1) | ((with_reducible refine zM (f := 18) rfl ?_); refine gl_ 10 Try.func18 #[.agg #[.slice aG aB.length aI, .slice aH aC.length aJ], .int .i64 (aB.length : Int)] ?_; (with_reducible refine (zl.calls k _ _ aB _ _ aC (aB.length : Int) aD _ ?aO ?aP ?aQ ?aR A2.o).mono ?_); (case aO => exact sc_ (Kd.zm aN.o HB.o)); (case aP => exact aT.o); (case aQ => exact sc_ (Kd.zm aV.o HB.o)); (case aR => exact aU.o); rintro e w6 ⟨rfl, hb⟩; refine ⟨_, rfl, ?_⟩; replace aA := J (fr_ aA.o hb); replace HB := J (za bw_ hb); (try clear hb)))
  go_loopg [4, 5] k (fun kq v4 v5 w' => ∃ (aS : Int) (aE : Int), v4 = .int .i64 aS ∧ v5 = .int .i64 aE ∧ ze (zai.l0 kq aS aE aB aC = some (r1, r2)) ∧ ze (kq ≤ k) ∧ ze (w'.heap[aK]? = some (.cells #[(.slice aG aB.length aI), (.slice aH aC.length aJ)] 24 (0, 0))) ∧ ze (Below w.heap.size w w'))
  case atStart => exact ⟨(0), (0), rs_, rs_, H', ⟨Nat.le_refl _⟩, ⟨pe_ aA.o⟩, ⟨bw_⟩⟩
  case round =>
   clear H'
   try clear c1
   try clear c2
   try clear p2
   try clear c3
   try clear bH
   try clear bI
   try clear bA
   try clear bB
   try clear bC
   try clear bD
   obtain ⟨aS, aE, rfl, rfl, HA, HK1, aA, HB⟩ := hrel
   cases gk with
   | zero => exact absurd HA.o (by simp [zai.l0])
   | succ k1 =>
    have H := HA.o; clear HA; simp only [zai.l0] at H
    by_cases c7 : aE < (aB.length : Int)
    ·rw [if_pos c7] at H; have bJ := decide_eq_true c7; clear c7
     by_cases c8 : 0 ≤ aE
     ·rw [if_pos c8] at H; have c8b0 := decide_eq_true c8; clear c8; have H' := J H; clear H; have hcz9_0 := cz_ aA.o 0 rfl; have hcz9_1 := cz_ aA.o 1 rfl; have hfz9_0 := zb aA.o 0; have hfz9_1 := zb aA.o 1; have bE : 0 ≤ (aE : Int) := od_; have bF : aE < (aB.length : Int) := od_; obtain ⟨ad293, bK, aL⟩ := Kd.zQ aN.o aE bE bF; cases bK; replace aL := bx_ HB.o aL; replace bE := eq_true bE; replace bF := eq_true bF; go_wp2; go_roundg k1
      case measure => have := HK1.o; omega
      case rel => exact ⟨(wrap64 (aS + (rd aB aE))), (wrap64 (aE + 1)), rs_, rs_, H', ⟨by have := HK1.o; omega⟩, ⟨pe_ aA.o⟩, ⟨bw_⟩⟩
     ·rw [if_neg c8] at H; exact absurd H (by simp)
    ·rw [if_neg c7] at H; have bJ := decide_eq_false c7; clear c7; simp only [Option.some.injEq, Prod.mk.injEq] at H; obtain ⟨rfl, rfl⟩ := H; have hcz10_0 := cz_ aA.o 0 rfl; have hcz10_1 := cz_ aA.o 1 rfl; have hfz10_0 := zb aA.o 0; have hfz10_1 := zb aA.o 1; go_wp2; go_ret2; exact ⟨er_, bw_⟩
 ·rw [if_neg c3] at H; have bH : (aD == 0) = false := beq_eq_false_iff_ne.mpr c3; have bI : (aD != 0) = true := bne_iff_ne.mpr c3; simp only [Option.some.injEq, Prod.mk.injEq] at H; obtain ⟨rfl, rfl⟩ := H; go_enter Try.func20, Try.ntmps20; go_wp2_with (first | ((with_reducible refine zf (N := 1) rfl ?_); refine zah 1 (cs := #[.slice aG aB.length aI, .slice aH aC.length aJ]) (t := 24) ?_; intro aK hg w11 hbox hb; have aA := J (hbox); have aM := J ((by rw [hg]; exact (zh bw_) : w.heap.size ≤ aK)); replace HB := J (za bw_ hb); have bG := aM; clear hb hbox hg; have hcz12_0 := cz_ aA.o 0 rfl; have hcz12_1 := cz_ aA.o 1 rfl; have hfz12_0 := zb aA.o 0; have hfz12_1 := zb aA.o 1) | ((with_reducible refine zM (f := 18) rfl ?_); refine gl_ 10 Try.func18 #[.agg #[.slice aG aB.length aI, .slice aH aC.length aJ], .int .i64 (aB.length : Int)] ?_; (with_reducible refine (zl.calls k _ _ aB _ _ aC (aB.length : Int) aD _ ?aO ?aP ?aQ ?aR A2.o).mono ?_); (case aO => exact sc_ (Kd.zm aN.o HB.o)); (case aP => exact aT.o); (case aQ => exact sc_ (Kd.zm aV.o HB.o)); (case aR => exact aU.o); rintro e w13 ⟨rfl, hb⟩; refine ⟨_, rfl, ?_⟩; replace aA := J (fr_ aA.o hb); replace HB := J (za bw_ hb); (try clear hb))); go_ret2; exact ⟨er_, bw_⟩
end Go.Proofs.Ytlidbaejhmamjaa.PB
namespace Go.Proofs.Ytlidbaejhmamjaa.LA
open Go.RowKit YtlidbaejhmamjaaW.PrintWords YtlidbaejhmamjaaW.PrintLast YtlidbaejhmamjaaW.PrintMore PB
theorem refHalve_ev (lv at_ : List Int) (s : Int) : EvS (fun k => zp.f k lv at_ s) (hL lv at_ s, hA lv at_ s, hL lv at_ s, hB lv at_ s, hE lv at_ s) := by
 unfold zp.f; refine EvS.bind (refCheck_ev lv at_ _) ?_; rw [chk_self]
 by_cases hr : Reg lv at_
 ·simp only [if_pos hr, if_true]
  have bad : ¬ HOk lv at_ s → EvS (fun k => zp.j0 k s true lv at_) (hL lv at_ s, hA lv at_ s, hL lv at_ s, hB lv at_ s, hE lv at_ s) := fun h => by
   unfold hL hA hB hE; simp only [if_neg h, if_pos hr]; exact EvS.done fun k => by simp only [zp.j0]; rfl
  by_cases h0 : s < 0
  ·simp only [if_pos h0]; exact bad (fun h => by have := h.2.1; omega)
  ·by_cases h1 : s ≥ (lv.length : Int)
   ·simp only [if_neg h0, if_pos h1]; exact bad (fun h => by have := h.2.2.1; omega)
   ·obtain ⟨i, rfl⟩ : ∃ i : Nat, s = i := ⟨s.toNat, by omega⟩
    have hi : i < lv.length := by omega
    simp only [if_neg h0, if_neg h1, if_pos (show (0 : Int) ≤ (i : Int) by omega), if_pos (show (i : Int) < (lv.length : Int) by omega)]
    by_cases h8 : rd lv (i : Int) = 8
    ·rw [show (rd lv (i : Int) == 8) = true by rw [h8]; rfl]; exact bad (fun h => h.2.2.2 h8)
    ·rw [show (rd lv (i : Int) == 8) = false from beq_eq_false_iff_ne.mpr h8]; have hok : HOk lv at_ (i : Int) := ⟨hr, by omega, by omega, h8⟩
     have hf := hr.2.2 i hi; have ha := fit_at hf; have hl0 := hf.1; have hl1 := hf.2.1; have hia : i < at_.length := by have := hr.2.1; omega
     have hcopy : zam.f lv at_ = some (lv, at_) := by
      unfold zam.f; have h1 := hr.1; have h2 := hr.2.1; rw [if_pos (by simp; omega), if_pos (by simp; omega)]; rfl
     refine EvS.done fun k => ?_
     simp only [zp.j0, Bool.false_eq_true, if_false, hcopy, Option.bind_some, if_pos (show (0 : Int) ≤ (i : Int) by omega), if_pos (show (i : Int) < (lv.length : Int) by omega), if_pos (show (i : Int) < (at_.length : Int) by omega), Int.toNat_natCast, w64 (rd lv (i : Int) + 1) yO_ yO_, w64 (2 * rd at_ (i : Int)) yO_ yO_, w64 (2 * rd at_ (i : Int) + 1) yO_ yO_]; unfold hL hA hB hE; simp only [if_pos hok, Int.toNat_natCast]
 ·have hn : ¬ HOk lv at_ s := fun h => hr h.1
  simp only [if_neg hr, if_neg (show ¬ ((180 : Int) = 0) by decide)]; unfold hL hA hB hE; simp only [if_neg hn, if_neg hr]; exact EvS.pure _
theorem refWay_ev (lv at_ : List Int) : EvS (fun k => zai.f k lv at_) (wayN lv at_, wayE lv at_) := by
 unfold zai.f; refine EvS.bind (refCheck_ev lv at_ _) ?_; rw [chk_self]
 by_cases hr : Reg lv at_
 ·simp only [if_pos hr, if_true, wayN, wayE]
  have key : ∀ m i : Nat, m + i = lv.length → EvS (fun k => zai.l0 k (lv.take i).sum (i : Int) lv at_) (lv.sum, 0) := by
   intro m
   induction m with
   | zero =>
    intro i hi; rw [List.take_of_length_le yO_]; exact EvS.done fun k => by simp only [zai.l0]; rw [if_neg yO_]
   | succ m ih =>
    intro i hi; refine EvS.succ (fun k => ?_) (ih (i + 1) yO_); have b := sum_bound lv at_ hr (i + 1) yO_; have hl := hr.1; rw [sum_take lv i yO_] at b ⊢; simp only [zai.l0]; rw [if_pos yO_, if_pos yO_, wnext i yO_, w64 _ yO_ yO_]
  simpa using key lv.length 0 yO_
 ·simp only [if_neg hr, if_neg (show ¬ ((180 : Int) = 0) by decide), wayN, wayE]; exact EvS.pure _
/-- A point of one symbol's part, in parts of 2 to the depth. -/
def endv (d l a s : Int) : Int := (2 * a + 1 + s) * 2 ^ (d - l).toNat - 2 ^ d.toNat
def EOk (lv at_ sg : List Int) (d : Int) : Prop := Reg lv at_ ∧ sg.length = lv.length ∧ (∀ i, i < sg.length → -1 ≤ rd sg (i : Nat) ∧ rd sg (i : Nat) ≤ 1) ∧ 0 ≤ d ∧ d ≤ 8 ∧ ∀ i, i < lv.length → rd lv (i : Nat) ≤ d
instance (lv at_ sg : List Int) (d : Int) : Decidable (EOk lv at_ sg d) := by unfold EOk; infer_instance
def eE (lv at_ sg : List Int) (d : Int) : Int := if EOk lv at_ sg d then 0 else if Reg lv at_ then (if sg.length = lv.length then 1 else 63) else 180
def eRow (lv at_ sg : List Int) (d : Int) (i : Nat) : Int := endv d (rd lv (i : Nat)) (rd at_ (i : Nat)) (rd sg (i : Nat))
def eL (lv at_ sg : List Int) (d : Int) : List Int := if EOk lv at_ sg d then (List.range lv.length).map (eRow lv at_ sg d) else []
theorem pow_256 (n : Nat) (h : n ≤ 8) : (0 : Int) < 2 ^ n ∧ (2 : Int) ^ n ≤ 256 := by
 have h4 : (2 : Int) ^ n ≤ 2 ^ 8 := by
  have := Nat.pow_le_pow_right (n := 2) yD_ h
  exact_mod_cast this
 have e : (2 : Int) ^ 8 = 256 := by decide
 exact ⟨Int.pow_pos yD_, by omega⟩
theorem mul_256 (x : Int) (n : Nat) (h : n ≤ 8) (h0 : -1000 ≤ x) (h1 : x ≤ 1000) : -256000 ≤ x * 2 ^ n ∧ x * 2 ^ n ≤ 256000 := by
 obtain ⟨p0, p1⟩ := pow_256 n h; generalize (2 : Int) ^ n = P at *
 have a1 : x * P ≤ 1000 * P := Int.mul_le_mul_of_nonneg_right h1 yO_; have a2 : -1000 * P ≤ x * P := Int.mul_le_mul_of_nonneg_right h0 yO_
 omega
theorem shl_eq (x n : Int) (h0 : 0 ≤ n) (h8 : n ≤ 8) (x0 : -1000 ≤ x) (x1 : x ≤ 1000) : shl .i64 x n = x * 2 ^ n.toNat := by
 obtain ⟨m, rfl⟩ : ∃ m : Nat, n = m := ⟨n.toNat, by omega⟩
 show IntKind.i64.wrap (x * 2 ^ min (m : Int).toNat 64) = _
 rw [Int.toNat_natCast, Nat.min_eq_left yO_, zat, w64]
 ·have := (mul_256 x m yO_ x0 x1).1; omega
 ·have := (mul_256 x m yO_ x0 x1).2; omega
theorem Max_ev (l : List Int) (h : 0 < l.length) (hn : l.length ≤ 256) : ∃ m, EvS (fun k => zw.f k l) m ∧ (∀ i : Nat, i < l.length → rd l (i : Nat) ≤ m) ∧ ∃ i : Nat, i < l.length ∧ rd l (i : Nat) = m := by
 have key : ∀ n (i : Nat) (x : Int), n + i = l.length → 0 < i → (∀ j : Nat, j < i → rd l (j : Nat) ≤ x) → (∃ j : Nat, j < i ∧ rd l (j : Nat) = x) →
   ∃ m, EvS (fun k => zw.l0 k l x (i : Int)) m ∧ (∀ i : Nat, i < l.length → rd l (i : Nat) ≤ m) ∧ ∃ i : Nat, i < l.length ∧ rd l (i : Nat) = m := by
  intro n
  induction n with
  | zero =>
   intro i x hi _ h1 h2; obtain rfl : i = l.length := by omega
   exact ⟨x, EvS.done fun k => by simp only [zw.l0]; rw [if_neg yO_], h1, h2⟩
  | succ n ih =>
   intro i x hi hp h1 h2
   obtain ⟨m, hm, hm1, hm2⟩ := ih (i + 1) (mx x (rd l (i : Int))) yO_ yO_ (fun j hj => by
    unfold mx
    by_cases hji : j = i
    ·subst hji; split <;> omega
    ·have := h1 j yO_; split <;> omega) (by
    unfold mx
    split
    ·exact ⟨i, by omega, rfl⟩
    ·obtain ⟨j, hj, e⟩ := h2; exact ⟨j, by omega, e⟩)
   refine ⟨m, EvS.succ (fun k => ?_) hm, hm1, hm2⟩; simp only [zw.l0]; rw [if_pos yO_, if_pos yO_, wnext i yO_]
 have one : ∀ j : Nat, j < 1 → rd l (j : Nat) ≤ rd l 0 := fun j hj => by
  have : j = 0 := by omega
  subst this; exact Int.le_refl _
 obtain ⟨m, hm, r⟩ := key (l.length - 1) 1 (rd l 0) yO_ yO_ one ⟨0, by omega, rfl⟩; refine ⟨m, ?_, r⟩; unfold zw.f; simp only [if_neg (show ¬ (l.length : Int) < 1 by omega)]; refine EvS.succ (fun k => ?_) hm; simp only [zw.j0]; rw [if_pos yO_]; rfl
section
variable (lv at_ sg : List Int) (d : Int)
theorem e_bad (hr : Reg lv at_) (hl : sg.length = lv.length) (h : ¬ EOk lv at_ sg d) : (eL lv at_ sg d, eE lv at_ sg d) = ([], 1) := by
 unfold eL eE; rw [if_neg h, if_neg h, if_pos hr, if_pos hl]
theorem take_range (n i : Nat) (h : i < n) (f : Nat → Int) : ((List.range n).map f).take (i + 1) = ((List.range n).map f).take i ++ [f i] := by
 rw [List.take_add_one]; simp [h]
/-- One point of the list, as the program reckons it. -/
theorem one_end (l a s : Int) (hf : Fit l a) (hs : -1 ≤ s ∧ s ≤ 1) (hl : l ≤ d) (d0 : 0 ≤ d) (d8 : d ≤ 8) :
  wrap64 (d - l) = d - l ∧ wrap64 (wrap64 (wrap64 (2 * a) + 1) + s) = 2 * a + 1 + s ∧ shl .i64 (2 * a + 1 + s) (d - l) = (2 * a + 1 + s) * 2 ^ (d - l).toNat ∧ shl .i64 (-1) d = -2 ^ d.toNat ∧ shl .i64 1 d = 2 ^ d.toNat ∧
   wrap64 (-2 ^ d.toNat + (2 * a + 1 + s) * 2 ^ (d - l).toNat) = endv d l a s ∧ wrap64 ((2 * a + 1 + s) * 2 ^ (d - l).toNat - 2 ^ d.toNat) = endv d l a s := by
 have ha := fit_at hf; have h0 := hf.1; have p := pow_256 d.toNat yO_; have q := mul_256 (2 * a + 1 + s) (d - l).toNat yO_ yO_ yO_; refine ⟨w64 _ yO_ yO_, ?_, shl_eq _ _ yO_ yO_ yO_ yO_, ?_, ?_, ?_, ?_⟩
 ·rw [w64 (2 * a) yO_ yO_, w64 (2 * a + 1) yO_ yO_, w64 _ yO_ yO_]
 ·rw [shl_eq _ _ d0 d8 yO_ yO_]; omega
 ·rw [shl_eq _ _ d0 d8 yO_ yO_]; omega
 ·unfold endv; rw [w64 _ yO_ yO_]; omega
 ·unfold endv; rw [w64 _ yO_ yO_]
theorem Ends_ev : EvS (fun k => zv.f k lv at_ sg d) (eL lv at_ sg d, eE lv at_ sg d) := by
 unfold zv.f; refine EvS.bind (Check_ev lv at_ _) ?_; rw [chk_self]
 by_cases hr : Reg lv at_
 ·simp only [if_pos hr, if_true]
  by_cases hl : sg.length = lv.length
  ·simp only [if_pos (show (sg.length : Int) = (lv.length : Int) by omega)]; have hn := hr.1
   have bad : ¬ EOk lv at_ sg d → EvS (fun k => zv.j1 k sg d true lv at_) (eL lv at_ sg d, eE lv at_ sg d) := fun h => by
    rw [e_bad lv at_ sg d hr hl h]; exact EvS.done fun k => by simp only [zv.j1]; rfl
   have good : EOk lv at_ sg d → EvS (fun k => zv.j1 k sg d false lv at_) (eL lv at_ sg d, eE lv at_ sg d) := fun h => by
    unfold eL eE; simp only [if_pos h]; refine EvS.succ (fun k => by simp only [zv.j1]; rfl) ?_; simp only [Bool.false_eq_true, if_false, if_pos (show 0 ≤ (sg.length : Int) by omega), Int.toNat_natCast, if_pos (show sg.length ≤ 35184372088832 by omega)]; refine EvS.bind (parts_ev lv at_ hr.2.1 hr.1) ?_; rw [zba lv at_ hr.2.1]
    have key : ∀ m i : Nat, m + i = lv.length → EvS (fun k => zv.l1 k sg d (((List.range lv.length).map (eRow lv at_ sg d)).take i ++ List.replicate (lv.length - i) 0) (pz lv at_) (lv.length : Int) (i : Int)) ((List.range lv.length).map (eRow lv at_ sg d), 0) := by
     intro m
     induction m with
     | zero =>
      intro i hi; rw [List.take_of_length_le (by simp; omega), show lv.length - i = 0 by omega]; exact EvS.done fun k => by simp only [zv.l1]; rw [if_neg yO_]; simp
     | succ m ih =>
      intro i hi; refine EvS.succ (fun k => ?_) (ih (i + 1) yO_); have hp := pz_rd lv at_ i yO_ (by have := hr.2.1; omega); obtain ⟨e1, e2, e3, e4, e5, e6, e7⟩ := one_end d (rd lv (i : Int)) (rd at_ (i : Int)) (rd sg (i : Int)) (hr.2.2 i yO_) (h.2.2.1 i yO_) (h.2.2.2.2.2 i yO_) h.2.2.2.1 h.2.2.2.2.1; have hs := set_step ((List.range lv.length).map (eRow lv at_ sg d)) i (by simp; omega); simp only [List.length_map, List.length_range, List.getElem_map, List.getElem_range] at hs; simp only [zv.l1, hp]; rw [if_pos yO_, if_pos yO_, if_pos (by rw [zba lv at_ hr.2.1]; omega), if_pos h.2.2.2.1, if_pos yO_, e1, if_pos (by have := h.2.2.2.2.2 i yO_; omega), if_pos (by simp; omega), e2, e3, e4, e6, wnext i yO_, Int.toNat_natCast]; rw [← hs]; rfl
    have := key lv.length 0 yO_; rw [hl]
    simpa using this
   have key : ∀ m i : Nat, m + i = sg.length → (∀ j : Nat, j < i → -1 ≤ rd sg (j : Nat) ∧ rd sg (j : Nat) ≤ 1) → EvS (fun k => zv.l0 k sg d sg (sg.length : Int) (i : Int) lv at_) (eL lv at_ sg d, eE lv at_ sg d) := by
    intro m
    induction m with
    | zero =>
     intro i hi hall; obtain rfl : i = sg.length := by omega
     by_cases d0 : d < 0
     ·refine EvS.succ (fun k => ?_) (bad (fun h => by have := h.2.2.2.1; omega)); simp only [zv.l0]; rw [if_neg yO_, if_pos d0]
     ·by_cases d8 : d > 8
      ·refine EvS.succ (fun k => ?_) (bad (fun h => by have := h.2.2.2.2.1; omega)); simp only [zv.l0]; rw [if_neg yO_, if_neg d0, if_pos d8]
      ·by_cases hz : (lv.length : Int) > 0
       ·refine EvS.succ (fun k => by simp only [zv.l0]; rw [if_neg yO_, if_neg d0, if_neg d8, if_pos hz]) ?_; obtain ⟨x, hx, hx1, i, hi1, hx2⟩ := Max_ev lv yO_ hn; refine EvS.bind hx ?_
        by_cases hd : d < x
        ·rw [decide_eq_true hd]; exact bad (fun h => by have := h.2.2.2.2.2 i hi1; omega)
        ·rw [decide_eq_false hd]; exact good ⟨hr, hl, hall, by omega, by omega, fun i hi => by have := hx1 i hi; omega⟩
       ·refine EvS.succ (fun k => ?_) (good ⟨hr, hl, hall, by omega, by omega, fun i hi => by omega⟩); simp only [zv.l0]; rw [if_neg yO_, if_neg d0, if_neg d8, if_neg hz]
    | succ m ih =>
     intro i hi hall
     by_cases s0 : rd sg (i : Int) < -1
     ·rw [e_bad lv at_ sg d hr hl (fun h => by have := h.2.2.1 i yO_; omega)]
      exact EvS.done fun k => by
       simp only [zv.l0]; rw [if_pos yO_, if_pos yO_, if_pos yO_, if_pos s0]
     ·by_cases s1 : rd sg (i : Int) > 1
      ·rw [e_bad lv at_ sg d hr hl (fun h => by have := h.2.2.1 i yO_; omega)]
       exact EvS.done fun k => by
        simp only [zv.l0]; rw [if_pos yO_, if_pos yO_, if_pos yO_, if_neg s0, if_pos s1]
      ·refine EvS.succ (fun k => ?_) (ih (i + 1) yO_ (fun j hj => by
        by_cases hji : j = i
        ·subst hji; omega
        ·exact hall j yO_))
       simp only [zv.l0]; rw [if_pos yO_, if_pos yO_, if_pos yO_, if_neg s0, if_neg s1, wnext i yO_]
   exact key sg.length 0 yO_ (fun j hj => by omega)
  ·simp only [if_neg (show ¬ (sg.length : Int) = (lv.length : Int) by omega)]; unfold eL eE; simp only [if_neg (show ¬ EOk lv at_ sg d from fun h => hl h.2.1), if_pos hr, if_neg hl]; exact EvS.pure _
 ·have hn : ¬ EOk lv at_ sg d := fun h => hr h.1
  simp only [if_neg hr, if_neg (show ¬ ((180 : Int) = 0) by decide)]; unfold eL eE; simp only [if_neg hn, if_neg hr]; exact EvS.pure _
end
end Go.Proofs.Ytlidbaejhmamjaa.LA
namespace Go.Proofs.Ytlidbaejhmamjaa.PB
open Go.RowKit YtlidbaejhmamjaaW.PrintWords YtlidbaejhmamjaaW.PrintLast YtlidbaejhmamjaaW.PrintMore
attribute [local go_sem] zao zaq zaB zaC zae zaf zap zar   -- for this text's walks alone
mutual
def zk.l0 : Nat → List Int → Int → Int → List Int → List Int → Option (List Int × Int)
 | 0, _, _, _, _, _ => none
 | k + 1, x1, x2, x8, aA, aB => if x8 < (x1.length : Int) then (if 0 ≤ x8 then (if (rd x1 x8) < (-1) then (some (([] : List Int), 1)) else (if (rd x1 x8) > 1 then (some (([] : List Int), 1)) else (zk.l0 k x1 x2 (wrap64 (x8 + 1)) aA aB))) else (none)) else (if x2 < 0 then (zk.j1 k x1 x2 true aA aB) else (zk.j1 k x1 x2 (decide (x2 > 8)) aA aB))
def zk.j1 : Nat → List Int → Int → Bool → List Int → List Int → Option (List Int × Int)
 | 0, _, _, _, _, _ => none
 | k + 1, x1, x2, x46, aA, aB => if x46 = true then (some (([] : List Int), 1)) else (zk.l1 k x1 x2 ([] : List Int) 0 aA aB)
def zk.l1 : Nat → List Int → Int → List Int → Int → List Int → List Int → Option (List Int × Int)
 | 0, _, _, _, _, _, _ => none
 | k + 1, x1, x2, x9, aC, aA, aB => if aC < (x1.length : Int) then (if 0 ≤ aC then (if aC < (aA.length : Int) then (if x2 < (rd aA aC) then (some (([] : List Int), 1)) else (if aC < (aB.length : Int) then (if 0 ≤ (wrap64 (x2 - (rd aA aC))) then (if 0 ≤ x2 then (if x9.length < 17592186044416 then (zk.l1 k x1 x2 (x9 ++ [wrap64 ((shl .i64 (wrap64 ((wrap64 ((wrap64 (2 * (rd aB aC))) + 1)) + (rd x1 aC))) (wrap64 (x2 - (rd aA aC)))) - (shl .i64 1 x2))]) (wrap64 (aC + 1)) aA aB) else (none)) else (none)) else (none)) else (none))) else (none)) else (none)) else (some (x9, 0))
end
def zk.f (k : Nat) (aA : List Int) (aB : List Int) (l1 : List Int) (a2 : Int) : Option (List Int × Int) := (zl.f k aA aB (aA.length : Int)).bind fun aC => (if aC = 0 then (if (l1.length : Int) = (aA.length : Int) then (zk.l0 k l1 a2 0 aA aB) else (some (([] : List Int), 63))) else (some (([] : List Int), 180)))
def zk.T18 : Bool × List (List Nat × List Nat) := (true, [([], []), ([], []), ([1], [1]), ([], []), ([2, 3], [2, 3]), ([4], [4]), ([5], [5]), ([6], [6]), ([], []), ([], []), ([8, 9], [8, 9]), ([10], [10]), ([7, 11], [7, 11]), ([], []), ([], []), ([14], [14]), ([], []), ([15, 16], [15, 16]), ([17], [17]), ([13, 18], [13, 18]), ([12, 19], [12, 19]), ([], []), ([21], [21]), ([20, 22], [20, 22]), ([23], [23]), ([0, 24], [0, 24]), ([25, 25, 0, 1, 2, 3, 4, 5, 6, 7, 8, 9, 10, 11, 12, 13, 14, 15, 16, 17, 18, 19, 20, 21, 22, 23, 24, 25], [0, 25])])
def zk.B18 : List Nat := [0, 0, 2, 0, 14, 30, 62, 126, 0, 0, 768, 1792, 4094, 0, 0, 16384, 0, 114688, 245760, 516096, 1048574, 0, 2097152, 8388606, 16777214, 33554431, 67108863]
theorem zk.tab18 : zbc .any (opsOf Try.f22 18) = zk.T18 := by kernel_rfl
theorem zk.bits18 : zal zk.T18.2 zk.B18 = true := by kernel_rfl
theorem zk.calls (k : Nat) (bA : Option Addr) (aQ : Nat) (aD : List Int) (bB : Option Addr) (aR : Nat) (aE : List Int) (A1 : Option Addr) (c1 : Nat) (l1 : List Int) (a2 : Int) (r1 : List Int) (r2 : Int) (w : World) (dF : Kd.C (Kd.int .i64) w bA aD.length aD) (dD : aD.length ≤ aQ) (dG : Kd.C (Kd.int .i64) w bB aE.length aE) (dE : aE.length ≤ aR) (hr1 : Kd.C (Kd.int .i64) w A1 l1.length l1) (hc1 : l1.length ≤ c1) (h : zk.f k aD aE l1 a2 = some (r1, r2)) :
  Calls Try.prog 22 #[.agg #[.slice bA aD.length aQ, .slice bB aE.length aR], .slice A1 l1.length c1, .int .i64 a2] w fun e w' => ∃ v0_ : Value, e = .returned (.tuple #[v0_, .int .i64 r2]) ∧ Kd.R (Kd.int .i64) 3 w' w.heap.size (fun _ => True) v0_ r1 ∧ Below w.heap.size w w' := by
 have hu24 := Try.underlying24; have bG := J dF; have cH := J dD; clear dF dD; have cC := J dG; have cI := J dE; clear dG dE; have dV := J hr1; have HC1 := J hc1; clear hr1 hc1; have HB := J (Below.refl w.heap.size w); have H : ((zl.f k aD aE (aD.length : Int)).bind fun bE => (if bE = 0 then (if (l1.length : Int) = (aD.length : Int) then (zk.l0 k l1 a2 0 aD aE) else (some (([] : List Int), 63))) else (some (([] : List Int), 180)))) = some (r1, r2) := h; clear h; replace H := Option.bind_eq_some_iff.mp H; obtain ⟨bE, A40, H⟩ := H; replace H : (if bE = 0 then (if (l1.length : Int) = (aD.length : Int) then (zk.l0 k l1 a2 0 aD aE) else (some (([] : List Int), 63))) else (some (([] : List Int), 180))) = some (r1, r2) := H; have A4 := J A40; clear A40
 by_cases c5 : bE = 0
 ·rw [if_pos c5] at H; have cR : (bE == 0) = true := beq_iff_eq.mpr c5; have cS : (bE != 0) = false := bne_eq_false_iff_eq.mpr c5; clear c5
  by_cases c6 : (l1.length : Int) = (aD.length : Int)
  ·rw [if_pos c6] at H; have cT : ((l1.length : Int) == (aD.length : Int)) = true := beq_iff_eq.mpr c6; have cU : ((l1.length : Int) != (aD.length : Int)) = false := bne_eq_false_iff_eq.mpr c6; have cV : (l1.length == aD.length) = true := by first | simpa using c6 | (simp at c6 ⊢; omega)
   clear c6; have H' := J H; clear H; go_enter Try.func22, Try.ntmps22; go_wp2_with (first | ((with_reducible refine zf (N := 3) rfl ?_); refine zah 3 (cs := #[.slice bA aD.length aQ, .slice bB aE.length aR]) (t := 24) ?_; intro aJ hg w7 hbox hb; have aA := J (hbox); have bP := J ((by rw [hg]; exact (zh bw_) : w.heap.size ≤ aJ)); replace HB := J (za bw_ hb); have cW := bP; clear hb hbox hg; have bW := cz_ aA.o 0 rfl; have bX := cz_ aA.o 1 rfl; have bY := zb aA.o 0; have bZ := zb aA.o 1) | ((with_reducible refine zM (f := 18) rfl ?_); refine gl_ 15 Try.func18 #[.agg #[.slice bA aD.length aQ, .slice bB aE.length aR], .int .i64 (aD.length : Int)] ?_; (with_reducible refine (zl.calls k _ _ aD _ _ aE (aD.length : Int) bE _ ?bS ?bT ?bU ?bV A4.o).mono ?_); (case bS => exact sc_ (Kd.zm bG.o HB.o)); (case bT => exact cH.o); (case bU => exact sc_ (Kd.zm cC.o HB.o)); (case bV => exact cI.o); rintro e w9 ⟨rfl, hb⟩; refine ⟨_, rfl, ?_⟩; replace aA := J (fr_ aA.o hb); replace HB := J (za bw_ hb); (try clear hb); have bH := cz_ aA.o 0 rfl; have bI := cz_ aA.o 1 rfl; have bJ := zb aA.o 0; have bK := zb aA.o 1))
   go_loopg [8] k (fun kq v8 w' => ∃ (aH : Int), v8 = .int .i64 aH ∧ ze (zk.l0 kq l1 a2 aH aD aE = some (r1, r2)) ∧ ze (kq ≤ k) ∧ ze (w'.heap[aJ]? = some (.cells #[(.slice bA aD.length aQ), (.slice bB aE.length aR)] 24 (0, 0))) ∧ ze (Below w.heap.size w w'))
   case atStart => exact ⟨(0), rs_, H', ⟨Nat.le_refl _⟩, ⟨pe_ aA.o⟩, ⟨bw_⟩⟩
   case round =>
    clear H'
    try clear c1
    try clear c2
    try clear p2
    try clear c5
    try clear cR
    try clear cS
    try clear c6
    try clear cT
    try clear cU
    try clear cV
    try clear bH
    try clear bI
    try clear bW
    try clear bX
    try clear bJ
    try clear bK
    try clear bY
    try clear bZ
    obtain ⟨aH, rfl, HA, dT, aA, HB⟩ := hrel
    cases gk with
    | zero => exact absurd HA.o (by simp [zk.l0])
    | succ k1 =>
     have H := HA.o; clear HA; simp only [zk.l0] at H
     by_cases cY : aH < (l1.length : Int)
     ·rw [if_pos cY] at H; have cK := decide_eq_true cY; clear cY
      by_cases dW : 0 ≤ aH
      ·rw [if_pos dW] at H; have cZ := decide_eq_true dW; clear dW
       by_cases dA : (rd l1 aH) < (-1)
       ·rw [if_pos dA] at H; have cL := decide_eq_true dA; clear dA; simp only [Option.some.injEq, Prod.mk.injEq] at H; obtain ⟨rfl, rfl⟩ := H; have aM : 0 ≤ (aH : Int) := od_; have aN : aH < (l1.length : Int) := od_; obtain ⟨cD, cN, aG⟩ := Kd.zQ dV.o aH aM aN; cases cN; replace aG := bx_ HB.o aG; replace aM := eq_true aM; replace aN := eq_true aN; go_wp2; go_ret2; exact ⟨_, er_, by first | exact Kd.zaI _ _ _ _ _ | exact Kd.N_nil _ _ _ _ _ | exact Kd.V_nil _ _ _ _ _ | exact Kd.Q_nil _ _ _ _ _ | exact Kd.zaP _ _ _ _ _, bw_⟩
       ·rw [if_neg dA] at H; have cL := decide_eq_false dA; clear dA
        by_cases dB : (rd l1 aH) > 1
        ·rw [if_pos dB] at H; have cM := decide_eq_true dB; clear dB; simp only [Option.some.injEq, Prod.mk.injEq] at H; obtain ⟨rfl, rfl⟩ := H; have aM : 0 ≤ (aH : Int) := od_; have aN : aH < (l1.length : Int) := od_; obtain ⟨cD, cN, aG⟩ := Kd.zQ dV.o aH aM aN; cases cN; replace aG := bx_ HB.o aG; replace aM := eq_true aM; replace aN := eq_true aN; have bM : 0 ≤ (aH : Int) := od_; have bN : aH < (l1.length : Int) := od_; obtain ⟨cJ, dI, aI⟩ := Kd.zQ dV.o aH bM bN; obtain rfl : cD = cJ := (by injection dI)
         replace aI := bx_ HB.o aI; replace bM := eq_true bM; replace bN := eq_true bN; go_wp2; go_ret2; exact ⟨_, er_, by first | exact Kd.zaI _ _ _ _ _ | exact Kd.N_nil _ _ _ _ _ | exact Kd.V_nil _ _ _ _ _ | exact Kd.Q_nil _ _ _ _ _ | exact Kd.zaP _ _ _ _ _, bw_⟩
        ·rw [if_neg dB] at H; have cM := decide_eq_false dB; clear dB; have H' := J H; clear H; have aM : 0 ≤ (aH : Int) := od_; have aN : aH < (l1.length : Int) := od_; obtain ⟨cD, cN, aG⟩ := Kd.zQ dV.o aH aM aN; cases cN; replace aG := bx_ HB.o aG; replace aM := eq_true aM; replace aN := eq_true aN; have bM : 0 ≤ (aH : Int) := od_; have bN : aH < (l1.length : Int) := od_; obtain ⟨cJ, dI, aI⟩ := Kd.zQ dV.o aH bM bN; obtain rfl : cD = cJ := (by injection dI)
         replace aI := bx_ HB.o aI; replace bM := eq_true bM; replace bN := eq_true bN; go_wp2; go_roundg k1
         case measure => have := dT.o; omega
         case rel => exact ⟨(wrap64 (aH + 1)), rs_, H', ⟨by have := dT.o; omega⟩, ⟨pe_ aA.o⟩, ⟨bw_⟩⟩
      ·rw [if_neg dW] at H; exact absurd H (by simp)
     ·rw [if_neg cY] at H; have cK := decide_eq_false cY; clear cY; have dH := J H; clear H; go_upto_region 10 with (fail)
      go_cut [46] (fun v46 wc => ∃ (kq : Nat) (bO : Bool), v46 = .bool bO ∧ ze (zk.j1 kq l1 a2 bO aD aE = some (r1, r2)) ∧ ze (kq ≤ k1) ∧ ze (wc.heap[aJ]? = some (.cells #[(.slice bA aD.length aQ), (.slice bB aE.length aR)] 24 (0, 0))) ∧ ze (Below w.heap.size w wc))
      case first =>
       have H := dH.o; clear dH
       by_cases dC : a2 < 0
       ·rw [if_pos dC] at H; have bC := decide_eq_true dC; clear dC
        (first | rw [bC] | (simp only [zat, zaM]; rw [bC]) | skip)
        have H' := J H; clear H; go_wp2; go_meet
        case rel => exact ⟨_, (true), rs_, H', ⟨by have := dT.o; first | omega | exact Nat.le_refl _⟩, ⟨pe_ aA.o⟩, ⟨bw_⟩⟩
       ·rw [if_neg dC] at H; have bC := decide_eq_false dC; clear dC
        (first | rw [bC] | (simp only [zat, zaM]; rw [bC]) | skip)
        have H' := J H; clear H; go_wp2; go_meet
        case rel => exact ⟨_, (decide (a2 > 8)), rs_, H', ⟨by have := dT.o; first | omega | exact Nat.le_refl _⟩, ⟨pe_ aA.o⟩, ⟨bw_⟩⟩
      case rest =>
       clear dH
       try clear c1
       try clear c2
       try clear p2
       try clear q2
       try clear hx2
       try clear c5
       try clear cR
       try clear cS
       try clear c6
       try clear cT
       try clear cU
       try clear cV
       try clear p6
       try clear cY
       try clear cK
       try clear dW
       try clear cZ
       try clear dA
       try clear cL
       try clear dB
       try clear cM
       try clear dC
       try clear bC
       try clear bH
       try clear bI
       try clear bW
       try clear bX
       try clear bJ
       try clear bK
       try clear bY
       try clear bZ
       try clear aG
       try clear aI
       try clear p2
       try clear aM
       try clear bM
       try clear aN
       try clear bN
       obtain ⟨kq, bO, rfl, HA, dZ, aA, HB⟩ := hcut
       cases kq with
       | zero => exact absurd HA.o (by simp [zk.j1])
       | succ dM =>
        have H := HA.o; clear HA; simp only [zk.j1] at H
        by_cases eG : bO = true
        ·subst eG; have H1 : (some (([] : List Int), 1)) = some (r1, r2) := by rw [if_pos rfl] at H; exact H
         clear H; have H := H1; clear H1; simp only [Option.some.injEq, Prod.mk.injEq] at H; obtain ⟨rfl, rfl⟩ := H; go_wp2; go_ret2; exact ⟨_, er_, by first | exact Kd.zaI _ _ _ _ _ | exact Kd.N_nil _ _ _ _ _ | exact Kd.V_nil _ _ _ _ _ | exact Kd.Q_nil _ _ _ _ _ | exact Kd.zaP _ _ _ _ _, bw_⟩
        ·replace eG := Bool.eq_false_iff.mpr eG; subst eG; have H1 : (zk.l1 dM l1 a2 ([] : List Int) 0 aD aE) = some (r1, r2) := by rw [if_neg (show ¬ (false = true) by decide)] at H; exact H
         clear H; have H := H1; clear H1; have H' := J H; clear H; go_wp2
         go_loopg [9, 10] dM (fun kq v9 v10 w' => ∃ (aT : List Int) (aC : Int), v10 = .int .i64 aC ∧ ze (zk.l1 kq l1 a2 aT aC aD aE = some (r1, r2)) ∧ ze (kq ≤ dM) ∧ ze (Kd.R (Kd.int .i64) 3 w' w.heap.size (fun _ => True) v9 aT) ∧ ze (w'.heap[aJ]? = some (.cells #[(.slice bA aD.length aQ), (.slice bB aE.length aR)] 24 (0, 0))) ∧ ze (Below w.heap.size w w'))
         case atStart => exact ⟨(([] : List Int)), (0), rs_, H', ⟨Nat.le_refl _⟩, ⟨by first | exact Kd.zaI _ _ _ _ _ | exact Kd.N_nil _ _ _ _ _ | exact Kd.V_nil _ _ _ _ _ | exact Kd.Q_nil _ _ _ _ _ | exact Kd.zaP _ _ _ _ _⟩, ⟨pe_ aA.o⟩, ⟨bw_⟩⟩
         case round =>
          clear H'
          try clear c1
          try clear c2
          try clear p2
          try clear q2
          try clear hx2
          try clear c5
          try clear cR
          try clear cS
          try clear c6
          try clear cT
          try clear cU
          try clear cV
          try clear p6
          try clear cY
          try clear cK
          try clear dW
          try clear cZ
          try clear dA
          try clear cL
          try clear dB
          try clear cM
          try clear dC
          try clear bC
          try clear eG
          try clear bH
          try clear bI
          try clear bW
          try clear bX
          try clear bJ
          try clear bK
          try clear bY
          try clear bZ
          try clear aG
          try clear aI
          try clear p2
          try clear aM
          try clear bM
          try clear p6
          try clear q2
          try clear aN
          try clear bN
          obtain ⟨aT, aC, rfl, HA, HK3, bQ, aA, HB⟩ := hrel
          cases gk with
          | zero => exact absurd HA.o (by simp [zk.l1])
          | succ k3 =>
           have H := HA.o; clear HA; simp only [zk.l1] at H
           by_cases dX : aC < (l1.length : Int)
           ·rw [if_pos dX] at H; have eH := decide_eq_true dX; clear dX
            by_cases eQ : 0 ≤ aC
            ·rw [if_pos eQ] at H; have c19b0 := decide_eq_true eQ; clear eQ
             by_cases eR : aC < (aD.length : Int)
             ·rw [if_pos eR] at H; have c20b0 := decide_eq_true eR; clear eR
              by_cases dY : a2 < (rd aD aC)
              ·rw [if_pos dY] at H; have eI := decide_eq_true dY; clear dY; simp only [Option.some.injEq, Prod.mk.injEq] at H; obtain ⟨rfl, rfl⟩ := H; have hcz22_0 := cz_ aA.o 0 rfl; have hcz22_1 := cz_ aA.o 1 rfl; have hfz22_0 := zb aA.o 0; have hfz22_1 := zb aA.o 1; have cA : 0 ≤ (aC : Int) := od_; have cB : aC < (aD.length : Int) := od_; obtain ⟨cE, dJ, aK⟩ := Kd.zQ bG.o aC cA cB; cases dJ; replace aK := bx_ HB.o aK; replace cA := eq_true cA; replace cB := eq_true cB; go_wp2; go_ret2; exact ⟨_, er_, by first | exact Kd.zaI _ _ _ _ _ | exact Kd.N_nil _ _ _ _ _ | exact Kd.V_nil _ _ _ _ _ | exact Kd.Q_nil _ _ _ _ _ | exact Kd.zaP _ _ _ _ _, bw_⟩
              ·rw [if_neg dY] at H; have eI := decide_eq_false dY; clear dY
               by_cases eS : aC < (aE.length : Int)
               ·rw [if_pos eS] at H; have c23b0 := decide_eq_true eS; clear eS; obtain ⟨bD, cO⟩ : ∃ j_ : Int, (wrap64 (a2 - (rd aD aC))) = j_ := ⟨_, rfl⟩
                replace H : (if 0 ≤ (bD) then (if 0 ≤ a2 then (if aT.length < 17592186044416 then (zk.l1 k3 l1 a2 (aT ++ [wrap64 ((shl .i64 (wrap64 ((wrap64 ((wrap64 (2 * (rd aE aC))) + 1)) + (rd l1 aC))) (bD)) - (shl .i64 1 a2))]) (wrap64 (aC + 1)) aD aE) else (none)) else (none)) else (none)) = some (r1, r2) := by first | (rw [cO] at H; exact H) | (simp only [cO] at H ⊢; exact H)
                have hji24w : (IntKind.i64.wrap (a2 - (rd aD aC))) = bD := (zat _).trans cO
                by_cases eJ : 0 ≤ (bD)
                ·rw [if_pos eJ] at H; have c25b0 := eq_true eJ; have c25b1 := decide_eq_true eJ; clear eJ; obtain ⟨bL, cF⟩ : ∃ j_ : Int, (shl .i64 (wrap64 ((wrap64 ((wrap64 (2 * (rd aE aC))) + 1)) + (rd l1 aC))) (bD)) = j_ := ⟨_, rfl⟩
                 replace H : (if 0 ≤ a2 then (if aT.length < 17592186044416 then (zk.l1 k3 l1 a2 (aT ++ [wrap64 ((bL) - (shl .i64 1 a2))]) (wrap64 (aC + 1)) aD aE) else (none)) else (none)) = some (r1, r2) := by first | (rw [cF] at H; exact H) | (simp only [cF] at H ⊢; exact H)
                 have dK : (IntKind.i64.wrap ((wrap64 ((wrap64 ((wrap64 (2 * (rd aE aC))) + 1)) + (rd l1 aC))) * 2 ^ min (bD).toNat 64)) = bL := cF; have dL : (bD) ≤ 64 → (IntKind.i64.wrap ((wrap64 ((wrap64 ((wrap64 (2 * (rd aE aC))) + 1)) + (rd l1 aC))) * 2 ^ (bD).toNat)) = bL := shl_small cF; have hji26y : (wrap64 ((wrap64 ((wrap64 ((wrap64 (2 * (rd aE aC))) + 1)) + (rd l1 aC))) * 2 ^ min (bD).toNat 64)) = bL := (zat _).symm.trans dK; have hji26x : (bD) ≤ 64 → (wrap64 ((wrap64 ((wrap64 ((wrap64 (2 * (rd aE aC))) + 1)) + (rd l1 aC))) * 2 ^ (bD).toNat)) = bL := fun h_ => (zat _).symm.trans (dL h_)
                 by_cases eK : 0 ≤ a2
                 ·rw [if_pos eK] at H; have c27b0 := eq_true eK; have c27b1 := decide_eq_true eK; clear eK; obtain ⟨bF, cG⟩ : ∃ j_ : Int, (shl .i64 1 a2) = j_ := ⟨_, rfl⟩
                  replace H : (if aT.length < 17592186044416 then (zk.l1 k3 l1 a2 (aT ++ [wrap64 ((bL) - (bF))]) (wrap64 (aC + 1)) aD aE) else (none)) = some (r1, r2) := by first | (rw [cG] at H; exact H) | (simp only [cG] at H ⊢; exact H)
                  have cP : (IntKind.i64.wrap (1 * 2 ^ min a2.toNat 64)) = bF := cG; have cQ : a2 ≤ 64 → (IntKind.i64.wrap (1 * 2 ^ a2.toNat)) = bF := shl_small cG; have hji28u : (IntKind.i64.wrap (2 ^ min a2.toNat 64)) = bF := by have h_ := cP; rw [Int.one_mul] at h_; exact h_
                  have hji28v : a2 ≤ 64 → (IntKind.i64.wrap (2 ^ a2.toNat)) = bF := fun eY => by have h_ := cQ eY; rw [Int.one_mul] at h_; exact h_
                  have hji28y : (wrap64 (1 * 2 ^ min a2.toNat 64)) = bF := (zat _).symm.trans cP; have hji28x : a2 ≤ 64 → (wrap64 (1 * 2 ^ a2.toNat)) = bF := fun h_ => (zat _).symm.trans (cQ h_)
                  by_cases eT : aT.length < 17592186044416
                  ·rw [if_pos eT] at H; have eB := J eT; clear eT; obtain ⟨eP, bR⟩ : ∃ y_ : List Int, y_ = (aT ++ [wrap64 ((bL) - (bF))]) := ⟨_, rfl⟩
                   replace H : (zk.l1 k3 l1 a2 eP (wrap64 (aC + 1)) aD aE) = some (r1, r2) := by first | (rw [bR]; with_reducible exact H) | (have eU := (Option.bind_some _ _).symm.trans H; rw [bR]; with_reducible exact eU) | (have eU := (Option.bind_some _ _).symm.trans H; with_reducible exact eU) | with_reducible exact H | (rw [bR]; exact H) | exact H
                   have eC := J bR; clear bR; have H' := J H; clear H; have hcz30_0 := cz_ aA.o 0 rfl; have hcz30_1 := cz_ aA.o 1 rfl; have hfz30_0 := zb aA.o 0; have hfz30_1 := zb aA.o 1; have cA : 0 ≤ (aC : Int) := od_; have cB : aC < (aD.length : Int) := od_; obtain ⟨cE, dJ, aK⟩ := Kd.zQ bG.o aC cA cB; cases dJ; replace aK := bx_ HB.o aK; replace cA := eq_true cA; replace cB := eq_true cB
                   try go_wp2
                   have eM := J (Kd.zI bQ.o); have eN := J (zA aA.o); have eO := J (zax HB.o); clear bQ; clear aA; clear HB; have bQ := eM; have aA := eN; have HB := eO; clear eM eN eO; have dN : 0 ≤ (aC : Int) := od_; have dQ : aC < (aE.length : Int) := od_; obtain ⟨cX, eV, aX⟩ := Kd.zQ cC.o aC dN dQ; have aU := aX; cases eV; replace aX := bx_ HB.o aX; replace dN := eq_true dN; replace dQ := eq_true dQ; have dO : 0 ≤ (aC : Int) := od_; have dR : aC < (l1.length : Int) := od_; obtain ⟨eD, eW, aY⟩ := Kd.zQ dV.o aC dO dR; have aV := aY; cases eW; replace aY := bx_ HB.o aY; replace dO := eq_true dO; replace dR := eq_true dR; have dP : 0 ≤ (aC : Int) := od_; have dS : aC < (aD.length : Int) := od_; obtain ⟨eF, eX, aZ⟩ := Kd.zQ bG.o aC dP dS; have aW := aZ; obtain rfl : cE = eF := (by injection eX)
                   replace aZ := bx_ HB.o aZ; replace dP := eq_true dP; replace dS := eq_true dS; refine zaw (n := 27) (S := fun w' => w'.cell? ⟨aJ, 0, none⟩ = some (.slice (some cE) aD.length aQ) ∧ w'.cell? ⟨aJ, 1, none⟩ = some (.slice (some cX) aE.length aR) ∧ w'.cell? (cX.add (aC).toNat) = some (.int .i64 (rd aE aC)) ∧ w'.cell? (eD.add (aC).toNat) = some (.int .i64 (rd l1 aC)) ∧ w'.cell? (cE.add (aC).toNat) = some (.int .i64 (rd aD aC))) (ds := []) (bl_ 27 0) yK_ rfl rfl ⟨(zg aA.o 0).trans rfl, (zg aA.o 1).trans rfl, (bx_ HB.o aU), (bx_ HB.o aV), (bx_ HB.o aW)⟩ (fun hHeld => ?_); refine zS zk.tab18 zk.bits18 (fun HT_ HW_ => ?_); generalize wr.drew = w31 at bQ aA HB aX aY aZ hHeld ⊢; refine pu_ 0 ?_; refine pu_ 1 ?_; refine pu_ 3 ?_; refine pu_ 8 ?_; refine pu_ 9 ?_; refine pu_ 10 ?_; refine pu_ 13 ?_; refine pu_ 14 ?_; refine pu_ 16 ?_; refine pu_ 21 ?_; refine pu_ 22 ?_; refine tk_ 2 ?_; refine pu_ 4 ?_; refine tk_ 5 ?_; refine pu_ 6 ?_; refine pu_ 7 ?_; refine tk_ 11 ?_; refine pu_ 12 ?_; refine tk_ 15 ?_; refine pu_ 17 ?_; refine tk_ 18 ?_; refine pu_ 19 ?_; refine pu_ 20 ?_; refine pu_ 23 ?_; refine on_ HT_ 24 (some 84) (bl_ 27 33554431) fun K hK => ?_
                   refine value_ (w1 := ?_) (v := ?_) (by rfl) rfl ?_ ?_; rotate_left 2
                   ·go_simp
                    constructor
                    ·rfl
                    ·rfl
                   refine hK.out _ _ ⟨(zg (zZ aA.o _) 0).trans rfl, (zg (zZ aA.o _) 1).trans rfl, (World.cell?_alloc_lt _ _ _ (World.block_lt_of_cell? _ _ ((bx_ HB.o aU)))).trans ((bx_ HB.o aU)), (World.cell?_alloc_lt _ _ _ (World.block_lt_of_cell? _ _ ((bx_ HB.o aV)))).trans ((bx_ HB.o aV)), (World.cell?_alloc_lt _ _ _ (World.block_lt_of_cell? _ _ ((bx_ HB.o aW)))).trans ((bx_ HB.o aW))⟩ (fun hHeld => ?_); clear hK K; refine zbl (a' := ?_) ?_ ?_; rotate_left
                   ·show Act.put _ (some 84) _ = _
                    simp only [Act.put, sI_, s0_, s1_, zat, zaM]; rfl
                   refine on_ HT_ 25 (some 85) (bl_ 27 67108863) fun K hK => ?_
                   refine Kd.R_append_step (Kd.int .i64) (w0 := w) w.heap.size (by rfl) (.tmp 60) (.tmp 84) 22 3 (.int .i64 0) 8 rfl Try.underlying22 info3 rfl yD_ yO_ u9 aT (wrap64 ((bL) - (bF))) [.int .i64 (wrap64 ((bL) - (bF)))] (fun _ => True) (fun _ => False) rfl rfl ?aP (fun _ hk => hk.elim) ?aF ?aO ?aB ?aS ?aL ?_
                   (case aP => exact rfl)
                   (case aB => exact bw_)
                   (case aF => exact (fun _ _ => trivial))
                   (case aO => exact (pk_ bQ.o))
                   (case aS => exact (zh bw_))
                   (case aL => have := eB.o; omega)
                   intro v303 w32 ho hb hg hat; rw [← eC.o] at ho; have eM := J (gr_ aA.o bQ.o hg); have eN := J (hb); have eO := J (ho); clear aA; clear HB; clear bQ; have aA := eM; have HB := eN; have eA := eO; clear eM eN eO; clear ho hb hg hat; refine hK.out _ _ ⟨(zg aA.o 0).trans rfl, (zg aA.o 1).trans rfl, (bx_ HB.o aU), (bx_ HB.o aV), (bx_ HB.o aW)⟩ (fun hHeld => ?_); clear hK K; refine zbl (a' := ?_) ?_ ?_; rotate_left
                   ·show Act.put _ (some 85) _ = _
                    simp only [Act.put, sI_, s0_, s1_, zat, zaM]; rfl
                   refine pu_ 26 ?_; refine zaL (zad HT_.o yK_) ?_
                   try go_wp2
                   go_roundg k3
                   case measure => have := dT.o; have := dZ.o; have := HK3.o; omega
                   case rel => exact ⟨(eP), (wrap64 (aC + 1)), rs_, H', ⟨by have := dT.o; have := dZ.o; have := HK3.o; omega⟩, ⟨pk_ eA.o⟩, ⟨pe_ aA.o⟩, ⟨bw_⟩⟩
                  ·rw [if_neg eT] at H; exact absurd H (by simp)
                 ·rw [if_neg eK] at H; exact absurd H (by simp)
                ·rw [if_neg eJ] at H; exact absurd H (by simp)
               ·rw [if_neg eS] at H; exact absurd H (by simp)
             ·rw [if_neg eR] at H; exact absurd H (by simp)
            ·rw [if_neg eQ] at H; exact absurd H (by simp)
           ·rw [if_neg dX] at H; have eH := decide_eq_false dX; clear dX; simp only [Option.some.injEq, Prod.mk.injEq] at H; obtain ⟨rfl, rfl⟩ := H; go_wp2; go_ret2; exact ⟨_, er_, pk_ bQ.o, bw_⟩
  ·rw [if_neg c6] at H; have cT : ((l1.length : Int) == (aD.length : Int)) = false := beq_eq_false_iff_ne.mpr c6; have cU : ((l1.length : Int) != (aD.length : Int)) = true := bne_iff_ne.mpr c6; have cV : (l1.length == aD.length) = false := by first | simpa using c6 | (simp at c6 ⊢; omega)
   simp only [Option.some.injEq, Prod.mk.injEq] at H; obtain ⟨rfl, rfl⟩ := H; go_enter Try.func22, Try.ntmps22; go_wp2_with (first | ((with_reducible refine zf (N := 3) rfl ?_); refine zah 3 (cs := #[.slice bA aD.length aQ, .slice bB aE.length aR]) (t := 24) ?_; intro aJ hg w33 hbox hb; have aA := J (hbox); have bP := J ((by rw [hg]; exact (zh bw_) : w.heap.size ≤ aJ)); replace HB := J (za bw_ hb); have cW := bP; clear hb hbox hg; have hcz34_0 := cz_ aA.o 0 rfl; have hcz34_1 := cz_ aA.o 1 rfl; have hfz34_0 := zb aA.o 0; have hfz34_1 := zb aA.o 1) | ((with_reducible refine zM (f := 18) rfl ?_); refine gl_ 15 Try.func18 #[.agg #[.slice bA aD.length aQ, .slice bB aE.length aR], .int .i64 (aD.length : Int)] ?_; (with_reducible refine (zl.calls k _ _ aD _ _ aE (aD.length : Int) bE _ ?bS ?bT ?bU ?bV A4.o).mono ?_); (case bS => exact sc_ (Kd.zm bG.o HB.o)); (case bT => exact cH.o); (case bU => exact sc_ (Kd.zm cC.o HB.o)); (case bV => exact cI.o); rintro e w35 ⟨rfl, hb⟩; refine ⟨_, rfl, ?_⟩; replace aA := J (fr_ aA.o hb); replace HB := J (za bw_ hb); (try clear hb); have hcz36_0 := cz_ aA.o 0 rfl; have hcz36_1 := cz_ aA.o 1 rfl; have hfz36_0 := zb aA.o 0; have hfz36_1 := zb aA.o 1)); go_ret2; exact ⟨_, er_, by first | exact Kd.zaI _ _ _ _ _ | exact Kd.N_nil _ _ _ _ _ | exact Kd.V_nil _ _ _ _ _ | exact Kd.Q_nil _ _ _ _ _ | exact Kd.zaP _ _ _ _ _, bw_⟩
 ·rw [if_neg c5] at H; have cR : (bE == 0) = false := beq_eq_false_iff_ne.mpr c5; have cS : (bE != 0) = true := bne_iff_ne.mpr c5; simp only [Option.some.injEq, Prod.mk.injEq] at H; obtain ⟨rfl, rfl⟩ := H; go_enter Try.func22, Try.ntmps22; go_wp2_with (first | ((with_reducible refine zf (N := 3) rfl ?_); refine zah 3 (cs := #[.slice bA aD.length aQ, .slice bB aE.length aR]) (t := 24) ?_; intro aJ hg w37 hbox hb; have aA := J (hbox); have bP := J ((by rw [hg]; exact (zh bw_) : w.heap.size ≤ aJ)); replace HB := J (za bw_ hb); have cW := bP; clear hb hbox hg; have hcz38_0 := cz_ aA.o 0 rfl; have hcz38_1 := cz_ aA.o 1 rfl; have hfz38_0 := zb aA.o 0; have hfz38_1 := zb aA.o 1) | ((with_reducible refine zM (f := 18) rfl ?_); refine gl_ 15 Try.func18 #[.agg #[.slice bA aD.length aQ, .slice bB aE.length aR], .int .i64 (aD.length : Int)] ?_; (with_reducible refine (zl.calls k _ _ aD _ _ aE (aD.length : Int) bE _ ?bS ?bT ?bU ?bV A4.o).mono ?_); (case bS => exact sc_ (Kd.zm bG.o HB.o)); (case bT => exact cH.o); (case bU => exact sc_ (Kd.zm cC.o HB.o)); (case bV => exact cI.o); rintro e w39 ⟨rfl, hb⟩; refine ⟨_, rfl, ?_⟩; replace aA := J (fr_ aA.o hb); replace HB := J (za bw_ hb); (try clear hb))); go_ret2; exact ⟨_, er_, by first | exact Kd.zaI _ _ _ _ _ | exact Kd.N_nil _ _ _ _ _ | exact Kd.V_nil _ _ _ _ _ | exact Kd.Q_nil _ _ _ _ _ | exact Kd.zaP _ _ _ _ _, bw_⟩
end Go.Proofs.Ytlidbaejhmamjaa.PB
namespace Go.Proofs.Ytlidbaejhmamjaa.LA
open Go.RowKit YtlidbaejhmamjaaW.PrintWords YtlidbaejhmamjaaW.PrintLast YtlidbaejhmamjaaW.PrintMore PB
section
variable (lv at_ sg : List Int) (d : Int)
theorem refEnds_ev : EvS (fun k => zk.f k lv at_ sg d) (eL lv at_ sg d, eE lv at_ sg d) := by
 unfold zk.f; refine EvS.bind (refCheck_ev lv at_ _) ?_; rw [chk_self]
 by_cases hr : Reg lv at_
 ·simp only [if_pos hr, if_true]
  by_cases hl : sg.length = lv.length
  ·simp only [if_pos (show (sg.length : Int) = (lv.length : Int) by omega)]; have hn := hr.1
   have bad : ¬ EOk lv at_ sg d → EvS (fun k => zk.j1 k sg d true lv at_) (eL lv at_ sg d, eE lv at_ sg d) := fun h => by
    rw [e_bad lv at_ sg d hr hl h]; exact EvS.done fun k => by simp only [zk.j1]; rfl
   have good : (∀ i : Nat, i < sg.length → -1 ≤ rd sg (i : Nat) ∧ rd sg (i : Nat) ≤ 1) → 0 ≤ d → d ≤ 8 → EvS (fun k => zk.j1 k sg d false lv at_) (eL lv at_ sg d, eE lv at_ sg d) := fun hs d0 d8 => by
    refine EvS.succ (fun k => by simp only [zk.j1]; rfl) ?_; simp only [Bool.false_eq_true, if_false]
    have key : ∀ m i : Nat, m + i = lv.length → (∀ j : Nat, j < i → rd lv (j : Nat) ≤ d) → EvS (fun k => zk.l1 k sg d (((List.range lv.length).map (eRow lv at_ sg d)).take i) (i : Int) lv at_) (eL lv at_ sg d, eE lv at_ sg d) := by
     intro m
     induction m with
     | zero =>
      intro i hi hall; rw [List.take_of_length_le (by simp; omega)]; have hok : EOk lv at_ sg d := ⟨hr, hl, hs, d0, d8, fun j hj => hall j yO_⟩
      unfold eL eE; simp only [if_pos hok]; exact EvS.done fun k => by simp only [zk.l1]; rw [if_neg yO_]
     | succ m ih =>
      intro i hi hall
      by_cases hd : d < rd lv (i : Int)
      ·rw [e_bad lv at_ sg d hr hl (fun h => by have := h.2.2.2.2.2 i yO_; omega)]
       exact EvS.done fun k => by
        simp only [zk.l1]; rw [if_pos yO_, if_pos yO_, if_pos yO_, if_pos hd]
      ·refine EvS.succ (fun k => ?_) (ih (i + 1) yO_ (fun j hj => by
        by_cases hji : j = i
        ·subst hji; omega
        ·exact hall j yO_))
       obtain ⟨e1, e2, e3, e4, e5, e6, e7⟩ := one_end d (rd lv (i : Int)) (rd at_ (i : Int)) (rd sg (i : Int)) (hr.2.2 i yO_) (hs i yO_) yO_ d0 d8; simp only [zk.l1]; rw [if_pos yO_, if_pos yO_, if_pos yO_, if_neg hd, if_pos (by have := hr.2.1; omega), e1, if_pos yO_, if_pos d0, if_pos (by simp; omega), e2, e3, e5, e7, wnext i yO_, take_range _ _ yO_]; rfl
    simpa using key lv.length 0 yO_ (fun j hj => by omega)
   have key : ∀ m i : Nat, m + i = sg.length → (∀ j : Nat, j < i → -1 ≤ rd sg (j : Nat) ∧ rd sg (j : Nat) ≤ 1) → EvS (fun k => zk.l0 k sg d (i : Int) lv at_) (eL lv at_ sg d, eE lv at_ sg d) := by
    intro m
    induction m with
    | zero =>
     intro i hi hall; obtain rfl : i = sg.length := by omega
     by_cases d0 : d < 0
     ·refine EvS.succ (fun k => ?_) (bad (fun h => by have := h.2.2.2.1; omega)); simp only [zk.l0]; rw [if_neg yO_, if_pos d0]
     ·by_cases d8 : d > 8
      ·refine EvS.succ (fun k => ?_) (bad (fun h => by have := h.2.2.2.2.1; omega)); simp only [zk.l0]; rw [if_neg yO_, if_neg d0, decide_eq_true d8]
      ·refine EvS.succ (fun k => ?_) (good hall yO_ yO_); simp only [zk.l0]; rw [if_neg yO_, if_neg d0, decide_eq_false d8]
    | succ m ih =>
     intro i hi hall
     by_cases s0 : rd sg (i : Int) < -1
     ·rw [e_bad lv at_ sg d hr hl (fun h => by have := h.2.2.1 i yO_; omega)]
      exact EvS.done fun k => by
       simp only [zk.l0]; rw [if_pos yO_, if_pos yO_, if_pos s0]
     ·by_cases s1 : rd sg (i : Int) > 1
      ·rw [e_bad lv at_ sg d hr hl (fun h => by have := h.2.2.1 i yO_; omega)]
       exact EvS.done fun k => by
        simp only [zk.l0]; rw [if_pos yO_, if_pos yO_, if_neg s0, if_pos s1]
      ·refine EvS.succ (fun k => ?_) (ih (i + 1) yO_ (fun j hj => by
        by_cases hji : j = i
        ·subst hji; omega
        ·exact hall j yO_))
       simp only [zk.l0]; rw [if_pos yO_, if_pos yO_, if_neg s0, if_neg s1, wnext i yO_]
   exact key sg.length 0 yO_ (fun j hj => by omega)
  ·simp only [if_neg (show ¬ (sg.length : Int) = (lv.length : Int) by omega)]; unfold eL eE; simp only [if_neg (show ¬ EOk lv at_ sg d from fun h => hl h.2.1), if_pos hr, if_neg hl]; exact EvS.pure _
 ·have hn : ¬ EOk lv at_ sg d := fun h => hr h.1
  simp only [if_neg hr, if_neg (show ¬ ((180 : Int) = 0) by decide)]; unfold eL eE; simp only [if_neg hn, if_neg hr]; exact EvS.pure _
end
end Go.Proofs.Ytlidbaejhmamjaa.LA
namespace Go.Proofs.Ytlidbaejhmamjaa.PB
open Go.RowKit YtlidbaejhmamjaaW.PrintWords YtlidbaejhmamjaaW.PrintLast YtlidbaejhmamjaaW.PrintMore
instance (es : List Int) : Decidable (AC.I64 es) := by unfold AC.I64; infer_instance
end Go.Proofs.Ytlidbaejhmamjaa.PB
namespace Go.Proofs.Ytlidbaejhmamjaa.LA
open Go.RowKit YtlidbaejhmamjaaW.PrintWords YtlidbaejhmamjaaW.PrintLast YtlidbaejhmamjaaW.PrintMore PB
section
variable (lv at_ sg : List Int) (d : Int)
theorem eL_ok (h : EOk lv at_ sg d) : eL lv at_ sg d = (List.range lv.length).map (eRow lv at_ sg d) ∧ eE lv at_ sg d = 0 ∧ (eL lv at_ sg d).length = lv.length := by
 unfold eL eE; simp only [if_pos h]; exact ⟨trivial, trivial, by simp⟩
end
end Go.Proofs.Ytlidbaejhmamjaa.LA
namespace Go.Proofs.Ytlidbaejhmamjaa.LW
open Go.RowKit YtlidbaejhmamjaaW.PrintWords YtlidbaejhmamjaaW.PrintLast YtlidbaejhmamjaaW.PrintMore PB LA AC
theorem hL_len (lv at_ : List Int) (s : Int) : (hL lv at_ s).length ≤ 100000 := by
 unfold hL
 split
 ·rename_i h; have := h.1.1; rw [List.length_set]; omega
 ·simp
theorem hA_len (lv at_ : List Int) (s : Int) : (hA lv at_ s).length ≤ 100000 := by
 unfold hA
 split
 ·rename_i h; have := h.1.1; have := h.1.2.1; rw [List.length_set]; omega
 ·simp
theorem hB_len (lv at_ : List Int) (s : Int) : (hB lv at_ s).length ≤ 100000 := by
 unfold hB
 split
 ·rename_i h; have := h.1.1; have := h.1.2.1; rw [List.length_set]; omega
 ·simp
theorem eL_len (lv at_ sg : List Int) (d : Int) : (eL lv at_ sg d).length ≤ 100000 := by
 by_cases h : EOk lv at_ sg d
 ·rw [(eL_ok lv at_ sg d h).2.2]; have := h.1.1; omega
 ·unfold eL; rw [if_neg h]; simp
theorem same_true (a b : List Int) (ha : a.length ≤ 100000) (hb : b.length ≤ 100000) : EvS (fun k => zaW.f k a b a b) true := by
 have := Same_ev a b a b ha hb
 rwa [decide_eq_true rfl, decide_eq_true rfl, Bool.true_and] at this
theorem ints_true (a : List Int) (ha : a.length ≤ 100000) : EvS (fun k => zq.f k a a) true := by
 have := same_ev a a ha
 rwa [decide_eq_true rfl] at this
theorem zbe {P : Program} {ops : Array Oper} {o : Oper} {a : Act} {Q : Exit → Act → World → Prop} {Kc : Act → World → Prop} {W : World} (hw : Region.wanted o (yielded ops a.tmps) = true) (ty : TypeId) {p v : Operand} (ho : o.op = .store ty p v) (hN : o.dst = none)
  (g : Nat) (cells : Array Value) (hx : a.eval p = .pointer (some ⟨g, 0, none⟩)) (hy : a.eval v = .agg cells)
  (t : TypeId) (old : Array Value) (hg : W.heap[g]? = some (.cells old t (0, 0))) (hi : (P.info? ty).map (·.size) = some cells.size)
  (hold : old.size = cells.size) (h1 : cells.all (·.oneCell') = true)
  (h : ∀ w', w'.heap[g]? = some (.cells cells t (0, 0)) → W.grownBy w' (some g) → Kc a w') : if Region.wanted o (yielded ops a.tmps) = true then Oper.wp P o a W Kc Q else Kc (a.put none undef) W := by
 rw [if_pos hw]; refine wp_store_row ty p v ho g cells hx hy t old hg hi hold h1 ?_; rw [hN]; exact h _ (setRow_heap W g old cells t (0, 0) hg) (grownBy_setRow W g cells)
theorem halve_c {A0 A1 : Option Addr} {c0 c1 : Nat} {lv at_ : List Int} (s : Int) (w : World) (r0 : Rd w A0 c0 lv) (r1 : Rd w A1 c1 at_) :
  Calls Try.prog 15 #[.agg #[.slice A0 lv.length c0, .slice A1 at_.length c1], .int .i64 s] w fun e w' => ∃ B0 d0 B1 d1 B2 d2 B3 d3, e = .returned (.tuple #[.agg #[.slice B0 (hL lv at_ s).length d0, .slice B1 (hA lv at_ s).length d1], .agg #[.slice B2 (hL lv at_ s).length d2, .slice B3 (hB lv at_ s).length d3], .int .i64 (hE lv at_ s)]) ∧ Rd w' B0 d0 (hL lv at_ s) ∧ Rd w' B1 d1 (hA lv at_ s) ∧ Rd w' B2 d2 (hL lv at_ s) ∧ Rd w' B3 d3 (hB lv at_ s) ∧ Below w.heap.size w w' := by
 obtain ⟨k, h⟩ := (Halve_ev lv at_ s).get; refine (zX.calls k A0 c0 lv A1 c1 at_ s _ _ _ _ _ w r0.row r0.cap r1.row r1.cap h).mono ?_; rintro e w' ⟨v0, v1, v2, v3, rfl, h0, h1, h2, h3, hb⟩; obtain ⟨B0, d0, rfl, q0⟩ := Rd.of_R h0; obtain ⟨B1, d1, rfl, q1⟩ := Rd.of_R h1; obtain ⟨B2, d2, rfl, q2⟩ := Rd.of_R h2; obtain ⟨B3, d3, rfl, q3⟩ := Rd.of_R h3; exact ⟨B0, d0, B1, d1, B2, d2, B3, d3, rfl, q0, q1, q2, q3, hb⟩
theorem rhalve_c {A0 A1 : Option Addr} {c0 c1 : Nat} {lv at_ : List Int} (s : Int) (w : World) (r0 : Rd w A0 c0 lv) (r1 : Rd w A1 c1 at_) :
  Calls Try.prog 16 #[.agg #[.slice A0 lv.length c0, .slice A1 at_.length c1], .int .i64 s] w fun e w' => ∃ B0 d0 B1 d1 B2 d2 B3 d3, e = .returned (.tuple #[.agg #[.slice B0 (hL lv at_ s).length d0, .slice B1 (hA lv at_ s).length d1], .agg #[.slice B2 (hL lv at_ s).length d2, .slice B3 (hB lv at_ s).length d3], .int .i64 (hE lv at_ s)]) ∧ Rd w' B0 d0 (hL lv at_ s) ∧ Rd w' B1 d1 (hA lv at_ s) ∧ Rd w' B2 d2 (hL lv at_ s) ∧ Rd w' B3 d3 (hB lv at_ s) ∧ Below w.heap.size w w' := by
 obtain ⟨k, h⟩ := (refHalve_ev lv at_ s).get; refine (zp.calls k A0 c0 lv A1 c1 at_ s _ _ _ _ _ w r0.row r0.cap r1.row r1.cap h).mono ?_; rintro e w' ⟨v0, v1, v2, v3, rfl, h0, h1, h2, h3, hb⟩; obtain ⟨B0, d0, rfl, q0⟩ := Rd.of_R h0; obtain ⟨B1, d1, rfl, q1⟩ := Rd.of_R h1; obtain ⟨B2, d2, rfl, q2⟩ := Rd.of_R h2; obtain ⟨B3, d3, rfl, q3⟩ := Rd.of_R h3; exact ⟨B0, d0, B1, d1, B2, d2, B3, d3, rfl, q0, q1, q2, q3, hb⟩
theorem check_c {A0 A1 : Option Addr} {c0 c1 : Nat} {lv at_ : List Int} (k : Int) (w : World) (r0 : Rd w A0 c0 lv) (r1 : Rd w A1 c1 at_) :
  Calls Try.prog 17 #[.agg #[.slice A0 lv.length c0, .slice A1 at_.length c1], .int .i64 k] w fun e w' => e = .returned (.int .i64 (chkE lv at_ k)) ∧ Below w.heap.size w w' := by
 obtain ⟨f, h⟩ := (Check_ev lv at_ k).get; exact zz.calls f A0 c0 lv A1 c1 at_ k _ w r0.row r0.cap r1.row r1.cap h
theorem rcheck_c {A0 A1 : Option Addr} {c0 c1 : Nat} {lv at_ : List Int} (k : Int) (w : World) (r0 : Rd w A0 c0 lv) (r1 : Rd w A1 c1 at_) :
  Calls Try.prog 18 #[.agg #[.slice A0 lv.length c0, .slice A1 at_.length c1], .int .i64 k] w fun e w' => e = .returned (.int .i64 (chkE lv at_ k)) ∧ Below w.heap.size w w' := by
 obtain ⟨f, h⟩ := (refCheck_ev lv at_ k).get; exact zl.calls f A0 c0 lv A1 c1 at_ k _ w r0.row r0.cap r1.row r1.cap h
theorem way_c {A0 A1 : Option Addr} {c0 c1 : Nat} {lv at_ : List Int} (w : World) (r0 : Rd w A0 c0 lv) (r1 : Rd w A1 c1 at_) :
  Calls Try.prog 19 #[.agg #[.slice A0 lv.length c0, .slice A1 at_.length c1]] w fun e w' => e = .returned (.tuple #[.int .i64 (wayN lv at_), .int .i64 (wayE lv at_)]) ∧ Below w.heap.size w w' := by
 obtain ⟨f, h⟩ := (Way_ev lv at_).get; exact zaJ.calls f A0 c0 lv A1 c1 at_ _ _ w r0.row r0.cap r1.row r1.cap h
theorem rway_c {A0 A1 : Option Addr} {c0 c1 : Nat} {lv at_ : List Int} (w : World) (r0 : Rd w A0 c0 lv) (r1 : Rd w A1 c1 at_) :
  Calls Try.prog 20 #[.agg #[.slice A0 lv.length c0, .slice A1 at_.length c1]] w fun e w' => e = .returned (.tuple #[.int .i64 (wayN lv at_), .int .i64 (wayE lv at_)]) ∧ Below w.heap.size w w' := by
 obtain ⟨f, h⟩ := (refWay_ev lv at_).get; exact zai.calls f A0 c0 lv A1 c1 at_ _ _ w r0.row r0.cap r1.row r1.cap h
theorem ends_c {A0 A1 : Option Addr} {c0 c1 : Nat} {lv at_ : List Int} {A2 : Option Addr} {c2 : Nat} {sg : List Int} (d : Int) (w : World) (r0 : Rd w A0 c0 lv) (r1 : Rd w A1 c1 at_) (r2 : Rd w A2 c2 sg) :
  Calls Try.prog 21 #[.agg #[.slice A0 lv.length c0, .slice A1 at_.length c1], .slice A2 sg.length c2, .int .i64 d] w fun e w' => ∃ B e0, e = .returned (.tuple #[.slice B (eL lv at_ sg d).length e0, .int .i64 (eE lv at_ sg d)]) ∧ Rd w' B e0 (eL lv at_ sg d) ∧ Below w.heap.size w w' := by
 obtain ⟨f, h⟩ := (Ends_ev lv at_ sg d).get; refine (zv.calls f A0 c0 lv A1 c1 at_ A2 c2 sg d _ _ w r0.row r0.cap r1.row r1.cap r2.row r2.cap h).mono ?_; rintro e w' ⟨v0, rfl, h0, hb⟩; obtain ⟨B, e0, rfl, q⟩ := Rd.of_R h0; exact ⟨B, e0, rfl, q, hb⟩
theorem rends_c {A0 A1 : Option Addr} {c0 c1 : Nat} {lv at_ : List Int} {A2 : Option Addr} {c2 : Nat} {sg : List Int} (d : Int) (w : World) (r0 : Rd w A0 c0 lv) (r1 : Rd w A1 c1 at_) (r2 : Rd w A2 c2 sg) :
  Calls Try.prog 22 #[.agg #[.slice A0 lv.length c0, .slice A1 at_.length c1], .slice A2 sg.length c2, .int .i64 d] w fun e w' => ∃ B e0, e = .returned (.tuple #[.slice B (eL lv at_ sg d).length e0, .int .i64 (eE lv at_ sg d)]) ∧ Rd w' B e0 (eL lv at_ sg d) ∧ Below w.heap.size w w' := by
 obtain ⟨f, h⟩ := (refEnds_ev lv at_ sg d).get; refine (zk.calls f A0 c0 lv A1 c1 at_ A2 c2 sg d _ _ w r0.row r0.cap r1.row r1.cap r2.row r2.cap h).mono ?_; rintro e w' ⟨v0, rfl, h0, hb⟩; obtain ⟨B, e0, rfl, q⟩ := Rd.of_R h0; exact ⟨B, e0, rfl, q, hb⟩
theorem same_c {A0 A1 B0 B1 : Option Addr} {c0 c1 d0 d1 : Nat} {a b : List Int} (w : World) (r0 : Rd w A0 c0 a) (r1 : Rd w A1 c1 b) (q0 : Rd w B0 d0 a) (q1 : Rd w B1 d1 b) (ha : a.length ≤ 100000) (hb : b.length ≤ 100000) :
  Calls Try.prog 13 #[.agg #[.slice A0 a.length c0, .slice A1 b.length c1], .agg #[.slice B0 a.length d0, .slice B1 b.length d1]] w fun e w' => e = .returned (.bool true) ∧ Below w.heap.size w w' := by
 obtain ⟨f, h⟩ := (same_true a b ha hb).get; exact zaW.calls f A0 c0 a A1 c1 b B0 d0 a B1 d1 b true w r0.row r0.cap r1.row r1.cap q0.row q0.cap q1.row q1.cap h
theorem ints_c {A0 B0 : Option Addr} {c0 d0 : Nat} {a : List Int} (w : World) (r0 : Rd w A0 c0 a) (q0 : Rd w B0 d0 a) (ha : a.length ≤ 100000) :
  Calls Try.prog 23 #[.slice A0 a.length c0, .slice B0 a.length d0] w fun e w' => e = .returned (.bool true) ∧ Below w.heap.size w w' := by
 obtain ⟨f, h⟩ := (ints_true a ha).get; refine (zq.calls f A0 c0 a B0 d0 a true w r0.row r0.cap q0.row q0.cap h).mono ?_; rintro e w' ⟨rfl, hd⟩; exact ⟨rfl, drawn0_below hd⟩
theorem win_c {A0 A1 : Option Addr} {c0 c1 : Nat} {lv at_ : List Int} {A2 : Option Addr} {c2 : Nat} {es : List Int} (d : Int) (w : World) (r0 : Rd w A0 c0 lv) (r1 : Rd w A1 c1 at_) (r2 : Rd w A2 c2 es) (hi : I64 es) {u : Bool} (hu : decide (Win lv at_ es d) = u) :
  Calls Try.prog 24 #[.agg #[.slice A0 lv.length c0, .slice A1 at_.length c1], .slice A2 es.length c2, .int .i64 d] w fun e w' => e = .returned (.bool u) ∧ Below w.heap.size w w' := by
 rw [← hu]; exact within_calls A0 c0 lv A1 c1 at_ A2 c2 es d w r0.row r0.cap r1.row r1.cap r2.row r2.cap hi
theorem rwin_c {A0 A1 : Option Addr} {c0 c1 : Nat} {lv at_ : List Int} {A2 : Option Addr} {c2 : Nat} {es : List Int} (d : Int) (w : World) (r0 : Rd w A0 c0 lv) (r1 : Rd w A1 c1 at_) (r2 : Rd w A2 c2 es) (hi : I64 es) {u : Bool} (hu : decide (Win lv at_ es d) = u) :
  Calls Try.prog 25 #[.agg #[.slice A0 lv.length c0, .slice A1 at_.length c1], .slice A2 es.length c2, .int .i64 d] w fun e w' => e = .returned (.bool u) ∧ Below w.heap.size w w' := by
 rw [← hu]; exact NW.rwithin_calls A0 c0 lv A1 c1 at_ A2 c2 es d w r0.row r0.cap r1.row r1.cap r2.row r2.cap hi
end Go.Proofs.Ytlidbaejhmamjaa.LW
namespace Go.Proofs.Ytlidbaejhmamjaa.SL
open Go.RowKit YtlidbaejhmamjaaW.PrintWords YtlidbaejhmamjaaW.PrintLast YtlidbaejhmamjaaW.PrintMore PB LA AC LW
section
variable {P : Program} {w : World} {base : Nat} {t ty e : TypeId} {i : TypeInfo} {z : Value} {size bytes : Nat}
/-- What an append of some cells leaves: the same row, or a new one, and then the old rows as they were. -/
theorem app_run (ht : P.underlying t = some (.slice e)) (hi : P.info? e = some i) (hz : i.zero = some z) (hsize : i.size = size) (hby : i.bytes = bytes) (hzs : z.cells.size = size) (hsz : 0 < size)
  {v : Value} {n : Nat} {xs : List Value} (hown : w.ownsRow base e size v n xs) {a : Addr} {m c : Nat} {news : List Value} (hl : news.length = m * size) (hm : 0 < m)
  (hnews : ∀ j u, news[j]? = some u → w.cell? (a.add j) = some u) (h1 : ∀ u ∈ news, u.oneCell' = true) (h63 : n + m ≤ maxLen) (hbytes : (n + m) * bytes ≤ 140737488355328) (hbase : base ≤ w.heap.size) :
  ∃ v' w', (Builtin.append_ #[t, t] ty #[v, .slice (some a) m c]).run P w = .ok v' w' ∧ w'.ownsRow base e size v' (n + m) (xs ++ news) ∧
   ((v'.ownBlock = v.ownBlock ∧ v.ownBlock ≠ none ∧ w.grownBy w' v.ownBlock) ∨ (w.grownBy w' none ∧ ∃ b, v'.ownBlock = some b ∧ w.heap.size ≤ b)) := by
 obtain ⟨v', w', hr, ho, hg, hnil, hat⟩ := run_append_own_at (P := P) w base t ty e i z size bytes ht hi hz hsize hby hzs hsz v n xs hown a m c news hl hnews h1 h63 hbytes hbase; refine ⟨v', w', hr, ho, ?_⟩; obtain ⟨g', cap', he, hb', _⟩ := ho.form yO_
 rcases hown.2 with ⟨hv, hn0⟩ | ⟨g, cap, cur, hv, hbg, hgc, hnc, hcm, hcs, htake⟩
 ·refine .inr ⟨by rw [hv] at hg; exact hg, ?_⟩
  rcases hat with hat | hat
  ·rw [he, hv] at hat; cases hat
  ·exact ⟨_, hat, Nat.le_refl _⟩
 ·by_cases hroom : n + m ≤ cap
  ·have hfit : n * size + news.length ≤ cur.size := by rw [hl, hcs, ← Nat.add_mul]; exact Nat.mul_le_mul_right _ hroom
   subst hsize
   have aB := run_append_room_cells (P := P) (w := w) t ty e i ht hi g 0 n cap a m c news hl hnews h1 hroom
    (fun j hj => by rw [cell_of_row w g _ cur e (0, 0) hgc]; simp; omega) (fun j _ => zb hgc _)
   rw [hv] at hr; have aA := hr.symm.trans aB; injection aA with e1 e2
   refine .inl ⟨by rw [e1, hv]; rfl, by rw [hv]; exact Option.some_ne_none _, hg⟩
  ·obtain ⟨v2, w2, aB, ho2, hg2⟩ := run_append_arg_grows (P := P) (w := w) t ty e i z size bytes ht hi hz hsize hby hzs hsz ⟨g, 0, none⟩ n cap xs hown.1 (hown.cells (g := g) (by rw [hv]; rfl)) a m c news hl hnews yO_ h63 hbytes; rw [hv] at hr; have aA := hr.symm.trans aB; injection aA with e1 e2
   subst e1 e2; obtain ⟨g2, cap2, he3, hb2, _⟩ := ho2.form yO_; exact .inr ⟨hg2, g2, by rw [he3]; rfl, hb2⟩
theorem app_event {ops : Array Oper} {rest : List Oper} {o : Oper} {a : Act} {Q : Exit → Act → World → Prop} (hgd : o.guard = none) (s x : Operand)
  (ho : o.op = .call { callee := .builtin .append, args := #[s, x], argTypes := #[t, t] })
  (ht : P.underlying t = some (.slice e)) (hi : (P.info? e).map (fun i => (i.zero, i.size, i.bytes)) = some (some z, size, bytes)) (hzs : z.cells.size = size) (hsz : 0 < size)
  {v : Value} {n : Nat} {xs : List Value} (hs : a.eval s = v) (hown : w.ownsRow base e size v n xs) {ad : Addr} {m c : Nat} {news : List Value} (hx : a.eval x = .slice (some ad) m c) (hl : news.length = m * size) (hm : 0 < m)
  (hnews : ∀ j u, news[j]? = some u → w.cell? (ad.add j) = some u) (h1 : ∀ u ∈ news, u.oneCell' = true) (h63 : n + m ≤ maxLen) (hbytes : (n + m) * bytes ≤ 140737488355328) (hbase : base ≤ w.heap.size)
  (h : ∀ v' w', w'.ownsRow base e size v' (n + m) (xs ++ news) → ((v'.ownBlock = v.ownBlock ∧ v.ownBlock ≠ none ∧ w.grownBy w' v.ownBlock) ∨ (w.grownBy w' none ∧ ∃ b, v'.ownBlock = some b ∧ w.heap.size ≤ b)) → wpList P ops Q rest (a.put o.dst v') w') :
  wpList P ops Q (o :: rest) a w := by
 obtain ⟨i0, hi0, hzz⟩ := Option.map_eq_some_iff.1 hi; simp only [Prod.mk.injEq] at hzz; obtain ⟨hz0, hz1, hz2⟩ := hzz; refine wpList_plain hgd fun K hK => ?_
 obtain ⟨v', w', hr, h2, h3⟩ := app_run (P := P) (ty := o.type) ht hi0 hz0 hz1 hz2 hzs hsz hown (c := c) hl hm hnews h1 h63 hbytes hbase; unfold Oper.wp execOp; simp only [ho, resolve, invoke, builtin, Sem.run_bind, Sem.run_pure, Result.andThen_ok, List.map_toArray, List.map_cons, List.map_nil, hs, hx, hr]; exact hK _ _ (h v' w' h2 h3)
end
theorem add_zero_at (g j : Nat) : (⟨g, 0, none⟩ : Addr).add j = ⟨g, j, none⟩ := by unfold Addr.add; split <;> simp_all
theorem Own.kept {w w' : World} {row : Option Nat} {base n size : Nat} {e : TypeId} {v : Value} {xs : List Value} (h : w.ownsRow base e size v n xs) (hg : w.grownBy w' row) (hne : ∀ k, v.ownBlock = some k → row ≠ some k) : w'.ownsRow base e size v n xs :=
 h.kept hg (by
  rcases hb : v.ownBlock with _ | k
  ·exact .inl rfl
  ·exact .inr (fun e => hne k hb e.symm))
theorem own_heap {w : World} {base n size k : Nat} {e : TypeId} {v : Value} {xs : List Value} (h : w.ownsRow base e size v n xs) (hk : v.ownBlock = some k) : ∃ cells, w.heap[k]? = some (.cells cells e (0, 0)) := by
 rcases h.2 with ⟨hn, _⟩ | ⟨g, cap, cur, hv2, hbg, hgc, _⟩
 ·rw [hn] at hk; cases hk
 ·rw [hv2] at hk; obtain rfl : g = k := Option.some.inj hk; exact ⟨cur, hgc⟩
end Go.Proofs.Ytlidbaejhmamjaa.SL
namespace Go.Proofs.Ytlidbaejhmamjaa.SL
open Go.RowKit YtlidbaejhmamjaaW.PrintWords YtlidbaejhmamjaaW.PrintLast YtlidbaejhmamjaaW.PrintMore PB LA AC LW
theorem grow_any {w w' : World} {v v' : Value} (h : (v'.ownBlock = v.ownBlock ∧ v.ownBlock ≠ none ∧ w.grownBy w' v.ownBlock) ∨ (w.grownBy w' none ∧ ∃ b, v'.ownBlock = some b ∧ w.heap.size ≤ b)) : w.grownBy w' v.ownBlock := by
 rcases h with h | h
 ·exact h.2.2
 ·exact ⟨h.1.os, h.1.tape, h.1.output, h.1.size, fun k hk _ => h.1.block k hk (fun e => by cases e)⟩
theorem own_form {w : World} {base n size : Nat} {e : TypeId} {v : Value} {xs : List Value} (h : w.ownsRow base e size v n xs) : ∃ A c, v = .slice A n c := by
 rcases h.2 with ⟨hn, h0⟩ | ⟨g, cap, cur, hv2, _⟩
 ·exact ⟨none, 0, by rw [hn, h0]⟩
 ·exact ⟨_, _, hv2⟩
theorem Own.below {w w' : World} {base n size : Nat} {e : TypeId} {v : Value} {xs : List Value} (h : w.ownsRow base e size v n xs) (hb : Below w.heap.size w w') : w'.ownsRow base e size v n xs :=
 own_move h (fun k hk => hb.block k (h.lt k hk).2)
end Go.Proofs.Ytlidbaejhmamjaa.SL
namespace Go.Proofs.Ytlidbaejhmamjaa.PB
open Go.RowKit YtlidbaejhmamjaaW.PrintWords YtlidbaejhmamjaaW.PrintLast YtlidbaejhmamjaaW.PrintMore
theorem zaz : (Try.prog.info? 101).map (fun i => (i.zero, i.size, i.bytes)) = some (some (.agg #[(.bool false), (.slice none 0 0), (.int .i64 0)]), 3, 40) := by kernel_rfl
theorem info140 : (Try.prog.info? 140).map (fun i => (i.zero, i.size, i.bytes)) = some (some (.slice none 0 0), 1, 24) := by kernel_rfl
structure zaU where
 f0 : Bool
 f1 : (List Int)
 f2 : Int
def z101 : zaU := ⟨false, ([] : List Int), (0 : Int)⟩
def k101 : Kd zaU := Kd.iso (Kd.pair Kd.bool (Kd.pair (Kd.slice 134 (Kd.int .u32)) (Kd.int .i64))) (fun x : zaU => (x.f0, x.f1, x.f2))
theorem k101_open {w : World} {x : zaU} {cs : List Value} (h : k101.K w x cs) : ∃ A1 c1, cs = [.bool x.f0, .slice A1 x.f1.length c1, .int .i64 x.f2] ∧ x.f1.length ≤ c1 ∧ (Kd.int .u32).C w A1 x.f1.length x.f1 := by
 obtain ⟨_, _, rfl, rfl, ⟨_, _, rfl, ⟨A1, c1, rfl, l1, g1⟩, rfl⟩⟩ := h; exact ⟨A1, c1, rfl, l1, g1⟩
theorem k101_mkM (w : World) (base : Nat) (ok : Nat → Prop) (x : zaU) {v1 : Value} (g1 : (Kd.int .u32).R 134 w base ok v1 x.f1) : k101.M w base ok x [.bool x.f0, v1, .int .i64 x.f2] := ⟨[.bool x.f0], [v1, .int .i64 x.f2], rfl, rfl, ⟨[v1], [.int .i64 x.f2], rfl, ⟨v1, rfl, g1⟩, rfl⟩⟩
def zay (xs : List zaU) (i : Int) : zaU := xs.getD i.toNat z101
theorem at_T101 {w : World} {A : Option Addr} {n : Nat} {xs : List zaU} (h : Kd.C k101 w A n xs) (i : Int) (h0 : 0 ≤ i) (h1 : i < n) : ∃ ad A1 c1, A = some ad ∧ w.cell? (ad.add (i.toNat * 3)) = some (.bool (zay xs i).f0) ∧ w.cell? ⟨(ad.add (i.toNat * 3)).block, (ad.add (i.toNat * 3)).off + 1, none⟩ = some (.slice A1 (zay xs i).f1.length c1) ∧ w.cell? ⟨(ad.add (i.toNat * 3)).block, (ad.add (i.toNat * 3)).off + 2, none⟩ = some (.int .i64 (zay xs i).f2) ∧ (zay xs i).f1.length ≤ c1 ∧ (Kd.int .u32).C w A1 (zay xs i).f1.length (zay xs i).f1 := by
 obtain ⟨ad, c, e, _, hK, hc0⟩ := Kd.C_get h z101 i h0 h1; have hc : ∀ j u, c[j]? = some u → w.cell? (ad.add (i.toNat * 3 + j)) = some u := hc0
 obtain ⟨A1, c1, rfl, l1, g1⟩ := k101_open hK; exact ⟨ad, A1, c1, e, hc 0 _ rfl, by rw [← add_field _ _ 1 yO_]; exact hc 1 _ rfl, by rw [← add_field _ _ 2 yO_]; exact hc 2 _ rfl, l1, g1⟩
def rd_L6 (xs : List (List Int)) (i : Int) : (List Int) := xs.getD i.toNat ([] : List Int)
theorem at_L6 {w : World} {A : Option Addr} {n : Nat} {xs : List (List Int)} (h : Kd.C (Kd.slice 114 (Kd.int .u64)) w A n xs) (i : Int) (h0 : 0 ≤ i) (h1 : i < n) : ∃ ad A0 c0, A = some ad ∧ w.cell? (ad.add i.toNat) = some (.slice A0 (rd_L6 xs i).length c0) ∧ (rd_L6 xs i).length ≤ c0 ∧ (Kd.int .u64).C w A0 (rd_L6 xs i).length (rd_L6 xs i) := by
 obtain ⟨ad, c, e, _, hK, hc0⟩ := Kd.C_get h ([] : List Int) i h0 h1; have hc : ∀ j u, c[j]? = some u → w.cell? (ad.add (i.toNat * 1 + j)) = some u := hc0
 obtain ⟨A0, c0, rfl, l0, g0⟩ := hK; exact ⟨ad, A0, c0, e, by have hq := hc 0 _ rfl; rwa [Nat.mul_one, Nat.add_zero] at hq, l0, g0⟩
def rd_L7 (xs : List (List zaU)) (i : Int) : (List zaU) := xs.getD i.toNat ([] : List zaU)
theorem at_L7 {w : World} {A : Option Addr} {n : Nat} {xs : List (List zaU)} (h : Kd.C (Kd.slice 101 k101) w A n xs) (i : Int) (h0 : 0 ≤ i) (h1 : i < n) : ∃ ad A0 c0, A = some ad ∧ w.cell? (ad.add i.toNat) = some (.slice A0 (rd_L7 xs i).length c0) ∧ (rd_L7 xs i).length ≤ c0 ∧ k101.C w A0 (rd_L7 xs i).length (rd_L7 xs i) := by
 obtain ⟨ad, c, e, _, hK, hc0⟩ := Kd.C_get h ([] : List zaU) i h0 h1; have hc : ∀ j u, c[j]? = some u → w.cell? (ad.add (i.toNat * 1 + j)) = some u := hc0
 obtain ⟨A0, c0, rfl, l0, g0⟩ := hK; exact ⟨ad, A0, c0, e, by have hq := hc 0 _ rfl; rwa [Nat.mul_one, Nat.add_zero] at hq, l0, g0⟩
end Go.Proofs.Ytlidbaejhmamjaa.PB
namespace Go.Proofs.Ytlidbaejhmamjaa.TC
open Go.RowKit YtlidbaejhmamjaaW.PrintWords YtlidbaejhmamjaaW.PrintLast YtlidbaejhmamjaaW.PrintMore PB LA AC LW SL
def kf : Kd Nat := Kd.scalar (fun u => Value.float .f64 u) (fun _ => rfl)
def rdn (us : List Nat) (i : Nat) : Nat := us.getD i 0
theorem at_kf {w : World} {A : Option Addr} {n : Nat} {us : List Nat} (h : kf.C w A n us) (i : Nat) (hi : i < n) : ∃ ad, A = some ad ∧ w.cell? (ad.add i) = some (.float .f64 (rdn us i)) := by
 obtain ⟨ad, e, h2⟩ := ReadsOf.at_ (Kd.reads_of_C (enc := fun u => Value.float .f64 u) (d := (0 : Nat)) (h1 := fun _ => rfl) h) (i : Int) yO_ yO_; rw [Int.toNat_natCast] at h2; exact ⟨ad, e, h2⟩
def ku (us : List Nat) : List Int := us.map (fun u : Nat => (u : Int))
theorem zaA (us : List Nat) : (ku us).length = us.length := by simp [ku]
theorem info114 : (Try.prog.info? 114).map (fun i => (i.zero, i.size, i.bytes)) = some (some (.int .u64 0), 1, 8) := by kernel_rfl
theorem info66 : (Try.prog.info? 66).map (fun i => (i.zero, i.size, i.bytes)) = some (some (.slice none 0 0), 1, 24) := by kernel_rfl
theorem take_one {α : Type} (us : List α) (x : Nat) (u : α) (h : us[x]? = some u) : us.take (x + 1) = us.take x ++ [u] := by
 rw [List.take_add_one, h]; rfl
theorem rdn_get {us : List Nat} {x : Nat} (h : x < us.length) : us[x]? = some (rdn us x) := by
 unfold rdn; rw [List.getD_eq_getElem?_getD, List.getElem?_eq_getElem h]; rfl
theorem za7 (A : Option Addr) (c : Nat) (us : List Nat) (w : World) (hr : kf.C w A us.length us) (hn : us.length * 8 ≤ 140737488355328) :
  Calls Try.prog 32 #[.slice A us.length c] w fun e w' => ∃ B d, e = .returned (.slice B us.length d) ∧ Kd.R (Kd.int .u64) 114 w' w.heap.size (fun _ => True) (.slice B us.length d) (ku us) ∧ Below w.heap.size w w' := by
 have hu60 := Try.underlying60; have hu66 := Try.underlying66; have HR := J hr; have HN := J hn; clear hr hn; go_enter Try.func32, Try.ntmps32; go_wp2_with fail
 go_loopg [3, 4] us.length (fun m v3 v4 wr => ∃ (x : Nat) (B : Option Addr) (d : Nat), v3 = .slice B x d ∧ v4 = .int .i64 (x : Int) ∧ ze (x + m = us.length) ∧ ze (wr.ownsRow w.heap.size 114 1 (.slice B x d) x ((ku (us.take x)).map (Value.int .u64))) ∧ ze (Below w.heap.size w wr))
 case atStart => exact ⟨0, none, 0, rfl, rfl, ⟨by omega⟩, ⟨by exact World.ownsRow_nil w w.heap.size 114 1⟩, ⟨Below.refl _ _⟩⟩
 case round =>
  obtain ⟨x, B, d, rfl, rfl, hm, RB, HB⟩ := hrel
  by_cases hx : x < us.length
  ·have hxb : decide ((x : Int) < (us.length : Int)) = true := decide_eq_true yO_; have HX := J hx; have HLE := J (show (x + 1) * 8 ≤ 140737488355328 ∧ x + 1 ≤ 17592186044416 by have := HN.o; omega); have h1 := eq_true hx; have h2 := eq_true (show (x : Int) < (us.length : Int) by omega); have h3 := eq_true (show (0 : Int) ≤ (x : Int) by omega); obtain ⟨ad, ead, hc0⟩ := at_kf (Kd.zm HR.o HB.o) x hx; cases ead; have HG := J (rdn_get hx); clear hx; generalize rdn us x = u at *
   go_wp2_with fail; refine (bits_calls u wr).mono ?_; rintro e_ w_ ⟨rfl, rfl⟩
   go_wp2_with (first
    | ((with_reducible refine zf (N := 18) rfl ?_); refine app_event (w := wr.alloc (.cells #[.int .u64 (u : Int)] 114)) (base := w.heap.size) (t := 66) (e := 114) (v := .slice B x d) (news := [.int .u64 (u : Int)]) rfl _ _ rfl Try.underlying66 info114 rfl yD_ rfl (RB.o.alloc _) rfl rfl yD_ (World.news_of_block (cs := #[.int .u64 (u : Int)]) (heap_alloc_new _ _)) (by simp [Value.oneCell']) (Nat.le_trans HLE.o.2 yD_) HLE.o.1 (Nat.le_trans HB.o.size (by simp)) ?_; intro v1 w1 ho alt; have GA := World.grownBy.trans (World.grownBy_alloc wr (.cells #[.int .u64 (u : Int)] 114) _) (grow_any alt); obtain ⟨B2, d2, rfl⟩ := own_form ho; have aA := J (show w1.ownsRow w.heap.size 114 1 (.slice B2 (x + 1) d2) (x + 1) ((ku (us.take (x + 1))).map (Value.int .u64)) by rw [take_one us x u HG.o]; unfold ku; rw [List.map_append, List.map_append]; exact ho); have HB2 := J (HB.o.grown GA HB.o.size (own_base RB.o)); clear GA alt ho RB HB)
    | fail)
   go_roundg (gk - 1)
   case measure => have := hm.o; have := HX.o; omega
   case rel => exact ⟨x + 1, B2, d2, rfl, by first | rfl | (rw [w64 _ yO_ (by have := HLE.o; omega)]; rfl), ⟨by have := hm.o; have := HX.o; omega⟩, aA, HB2⟩
  ·have hxb : decide ((x : Int) < (us.length : Int)) = false := decide_eq_false yO_; have hxc : (x < us.length) = False := eq_false hx; have hxd : ((x : Int) < (us.length : Int)) = False := eq_false yO_; have e : x = us.length := by have := hm.o; omega
   have h := RB.o; rw [List.take_of_length_le (show us.length ≤ x by omega)] at h; have aA := J (show wr.ownsRow w.heap.size 114 1 (.slice B (ku us).length d) (ku us).length ((ku us).map (Value.int .u64)) by rw [zaA, ← e]; exact h); have EX := J e; clear h e; clear hx hm RB; go_wp2_with fail; go_ret; have q1 : Kd.R (Kd.int .u64) 114 wr w.heap.size (fun _ => True) (.slice B us.length d) (ku us) := by rw [← zaA us]; exact Kd.R_of_own aA.o (fun _ _ => trivial)
   exact ⟨B, d, by first | (rw [EX.o]; done) | (simp [EX.o]; done) | rfl, q1, HB.o⟩
theorem bits49_calls (A : Option Addr) (c : Nat) (us : List Nat) (w : World) (hr : kf.C w A us.length us) (hn : us.length * 8 ≤ 140737488355328) :
  Calls Try.prog 49 #[.slice A us.length c] w fun e w' => ∃ B d, e = .returned (.slice B us.length d) ∧ Kd.R (Kd.int .u64) 114 w' w.heap.size (fun _ => True) (.slice B us.length d) (ku us) ∧ Below w.heap.size w w' := by
 have hu60 := Try.underlying60; have hu66 := Try.underlying66; have HR := J hr; have HN := J hn; clear hr hn; go_enter Try.func49, Try.ntmps49; go_wp2_with fail
 go_loopg [3, 4] us.length (fun m v3 v4 wr => ∃ (x : Nat) (B : Option Addr) (d : Nat), v3 = .slice B x d ∧ v4 = .int .i64 (x : Int) ∧ ze (x + m = us.length) ∧ ze (wr.ownsRow w.heap.size 114 1 (.slice B x d) x ((ku (us.take x)).map (Value.int .u64))) ∧ ze (Below w.heap.size w wr))
 case atStart => exact ⟨0, none, 0, rfl, rfl, ⟨by omega⟩, ⟨by exact World.ownsRow_nil w w.heap.size 114 1⟩, ⟨Below.refl _ _⟩⟩
 case round =>
  obtain ⟨x, B, d, rfl, rfl, hm, RB, HB⟩ := hrel
  by_cases hx : x < us.length
  ·have hxb : decide ((x : Int) < (us.length : Int)) = true := decide_eq_true yO_; have HX := J hx; have HLE := J (show (x + 1) * 8 ≤ 140737488355328 ∧ x + 1 ≤ 17592186044416 by have := HN.o; omega); have h1 := eq_true hx; have h2 := eq_true (show (x : Int) < (us.length : Int) by omega); have h3 := eq_true (show (0 : Int) ≤ (x : Int) by omega); obtain ⟨ad, ead, hc0⟩ := at_kf (Kd.zm HR.o HB.o) x hx; cases ead; have HG := J (rdn_get hx); clear hx; generalize rdn us x = u at *
   go_wp2_with fail; refine (bits_calls u wr).mono ?_; rintro e_ w_ ⟨rfl, rfl⟩
   go_wp2_with (first
    | ((with_reducible refine zf (N := 18) rfl ?_); refine app_event (w := wr.alloc (.cells #[.int .u64 (u : Int)] 114)) (base := w.heap.size) (t := 66) (e := 114) (v := .slice B x d) (news := [.int .u64 (u : Int)]) rfl _ _ rfl Try.underlying66 info114 rfl yD_ rfl (RB.o.alloc _) rfl rfl yD_ (World.news_of_block (cs := #[.int .u64 (u : Int)]) (heap_alloc_new _ _)) (by simp [Value.oneCell']) (Nat.le_trans HLE.o.2 yD_) HLE.o.1 (Nat.le_trans HB.o.size (by simp)) ?_; intro v1 w1 ho alt; have GA := World.grownBy.trans (World.grownBy_alloc wr (.cells #[.int .u64 (u : Int)] 114) _) (grow_any alt); obtain ⟨B2, d2, rfl⟩ := own_form ho; have aA := J (show w1.ownsRow w.heap.size 114 1 (.slice B2 (x + 1) d2) (x + 1) ((ku (us.take (x + 1))).map (Value.int .u64)) by rw [take_one us x u HG.o]; unfold ku; rw [List.map_append, List.map_append]; exact ho); have HB2 := J (HB.o.grown GA HB.o.size (own_base RB.o)); clear GA alt ho RB HB)
    | fail)
   go_roundg (gk - 1)
   case measure => have := hm.o; have := HX.o; omega
   case rel => exact ⟨x + 1, B2, d2, rfl, by first | rfl | (rw [w64 _ yO_ (by have := HLE.o; omega)]; rfl), ⟨by have := hm.o; have := HX.o; omega⟩, aA, HB2⟩
  ·have hxb : decide ((x : Int) < (us.length : Int)) = false := decide_eq_false yO_; have hxc : (x < us.length) = False := eq_false hx; have hxd : ((x : Int) < (us.length : Int)) = False := eq_false yO_; have e : x = us.length := by have := hm.o; omega
   have h := RB.o; rw [List.take_of_length_le (show us.length ≤ x by omega)] at h; have aA := J (show wr.ownsRow w.heap.size 114 1 (.slice B (ku us).length d) (ku us).length ((ku us).map (Value.int .u64)) by rw [zaA, ← e]; exact h); have EX := J e; clear h e; clear hx hm RB; go_wp2_with fail; go_ret; have q1 : Kd.R (Kd.int .u64) 114 wr w.heap.size (fun _ => True) (.slice B us.length d) (ku us) := by rw [← zaA us]; exact Kd.R_of_own aA.o (fun _ _ => trivial)
   exact ⟨B, d, by first | (rw [EX.o]; done) | (simp [EX.o]; done) | rfl, q1, HB.o⟩
theorem read_num (u : Nat) (hu : u < 18446744073709551616) : Ieee.double.read u = match fnum u with
  | some (s, m, e) => .number s m e
  | none => if u % 4503599627370496 = 0 then .infinity (u / 9223372036854775808 == 1) else .nan (u / 9223372036854775808 == 1) (u % 4503599627370496) := by
 have c1 : Ieee.double.signWeight = 9223372036854775808 := by decide
 have c2 : Ieee.double.binade = 4503599627370496 := by decide
 have c3 : Ieee.double.infRung = 9218868437227405312 := by decide
 have c4 : Ieee.double.leastPlace = -1074 := by decide
 have hn : (u / 9223372036854775808 % 2 == 1) = (u / 9223372036854775808 == 1) := by
  rw [Bool.eq_iff_iff, beq_iff_eq, beq_iff_eq]
  omega
 unfold Ieee.Format.read fnum; simp only [c1, c2, c3, c4, hn]
 by_cases h1 : u / 4503599627370496 % 2048 = 2047
 ·simp only [if_pos h1]; rw [if_neg yO_, if_neg yO_]
  by_cases h2 : u % 4503599627370496 = 0
  ·rw [if_pos yO_, if_pos h2]
  ·rw [if_neg yO_, if_neg h2, show u % 9223372036854775808 - 9218868437227405312 = u % 4503599627370496 by omega]
 ·simp only [if_neg h1]
  by_cases h0 : u / 4503599627370496 % 2048 = 0
  ·simp only [if_pos h0]; rw [if_pos yO_, show u % 9223372036854775808 = u % 4503599627370496 by omega]
  ·simp only [if_neg h0]; rw [if_neg yO_, if_pos yO_, show u % 9223372036854775808 % 4503599627370496 = u % 4503599627370496 by omega, show 4503599627370496 + u % 4503599627370496 = u % 4503599627370496 + 4503599627370496 by omega, show (-1074 : Int) + ((u % 9223372036854775808 / 4503599627370496 - 1 : Nat) : Int) = ((u / 4503599627370496 % 2048 : Nat) : Int) - 1075 by omega]
/-- Of a number: it is equal to itself, of none: it is not. -/
theorem order_self (u : Nat) (hu : u < 18446744073709551616) : (FloatKind.f64.format.order u u != some Ordering.eq) = ((fnum u).isNone && decide (u % 4503599627370496 ≠ 0)) := by
 show (Ieee.Datum.order (Ieee.double.read u) (Ieee.double.read u) != some Ordering.eq) = _
 rw [read_num u hu]
 cases hf : fnum u with
 | none =>
  by_cases h : u % 4503599627370496 = 0
  ·simp only [if_pos h]; simp [Ieee.Datum.order, h]
  ·simp only [if_neg h]; simp [Ieee.Datum.order, h]
 | some r =>
  obtain ⟨s, m, e⟩ := r; simp [Ieee.Datum.order]
theorem isnan_calls (u : Nat) (hu : u < 18446744073709551616) (w : World) : Calls Try.prog 105 #[.float .f64 u] w fun e w' => e = .returned (.bool ((fnum u).isNone && decide (u % 4503599627370496 ≠ 0))) ∧ w = w' := by
 rw [← order_self u hu]; go_enter Try.func105, Try.ntmps105; go_wp2_with fail; go_ret; exact ⟨rfl, rfl⟩
theorem xor63 (u : Nat) (hu : u < 18446744073709551616) : u ^^^ 9223372036854775808 = if u < 9223372036854775808 then u + 9223372036854775808 else u - 9223372036854775808 := by
 have lo : ∀ r : Nat, r < 9223372036854775808 → r ^^^ 9223372036854775808 = 9223372036854775808 + r := by
  intro r hr; refine Nat.eq_of_testBit_eq fun i => ?_
  have e : (9223372036854775808 : Nat) = 2 ^ 63 := by decide
  rw [e] at hr ⊢; rw [Nat.testBit_xor, Nat.testBit_two_pow]
  rcases Nat.lt_trichotomy i 63 with h | h | h
  ·rw [Nat.testBit_two_pow_add_gt h, decide_eq_false yO_, Bool.xor_false]
  ·subst h; rw [Nat.testBit_two_pow_add_eq, decide_eq_true rfl, Bool.xor_true]
  ·rw [decide_eq_false yO_, Bool.xor_false]; have h2 : (2 : Nat) ^ 64 ≤ 2 ^ i := Nat.pow_le_pow_right yD_ h; have h3 : (2 : Nat) ^ 64 = 2 * 2 ^ 63 := by decide
   rw [Nat.testBit_lt_two_pow yO_, Nat.testBit_lt_two_pow yO_]
 by_cases h : u < 9223372036854775808
 ·rw [if_pos h, lo u h, Nat.add_comm]
 ·rw [if_neg h]; obtain ⟨r, hr⟩ : ∃ r, r = u - 9223372036854775808 := ⟨_, rfl⟩
  have h1 := lo r yO_; rw [← hr, show u = 9223372036854775808 + r by omega, ← h1, Nat.xor_assoc, Nat.xor_self, Nat.xor_zero]
theorem andnot63 (u : Nat) (hu : u < 18446744073709551616) : bits .andNot .u64 (u : Int) 9223372036854775808 = ((u % 9223372036854775808 : Nat) : Int) := by
 have h2 : (~~~ BitVec.ofInt 64 (9223372036854775808 : Int)).toNat = 2 ^ 63 - 1 := by decide
 have h3 : bits .andNot .u64 (u : Int) 9223372036854775808 = IntKind.u64.wrap ((BitVec.ofInt 64 (u : Int) &&& ~~~ BitVec.ofInt 64 (9223372036854775808 : Int)).toNat : Int) := rfl; rw [h3, BitVec.toNat_and, h2, Nat.and_two_pow_sub_one_eq_mod, BitVec.ofInt_natCast, BitVec.toNat_ofNat, Nat.mod_eq_of_lt (show u < 2 ^ 64 from hu)]; exact AC.wraps_u64 _ (Int.natCast_nonneg _) (by have : (2 : Int) ^ 64 = 18446744073709551616 := yD_; have : (2 : Nat) ^ 63 = 9223372036854775808 := yD_; omega)
theorem f64from (n : Nat) (w : World) : (callFunc 108 #[.int .u64 (n : Int)]).run Try.prog w = .ok (.value (.float .f64 n)) w := by
 rw [run_callFunc_extern (fn := Try.f108) Try.func108 yK_ yK_ yK_ (e := Extern.MathFloatBits.float64frombits) yK_]; rfl
/-- Without the sign. -/
def aF (u : Nat) : Nat := u % 9223372036854775808
theorem aF_num (u : Nat) (hu : u < 18446744073709551616) : fnum (aF u) = (fnum u).map fun r => (false, r.2) := by
 unfold aF fnum
 rw [show u % 9223372036854775808 / 4503599627370496 % 2048 = u / 4503599627370496 % 2048 by omega, show u % 9223372036854775808 % 4503599627370496 = u % 4503599627370496 by omega,
  show (u % 9223372036854775808 / 9223372036854775808 == 1) = false from beq_eq_false_iff_ne.mpr yO_]
 split
 ·rfl
 ·split <;> rfl
def nF (u : Nat) : Nat := if u < 9223372036854775808 then u + 9223372036854775808 else u - 9223372036854775808
theorem nF_lt (u : Nat) (hu : u < 18446744073709551616) : nF u < 18446744073709551616 := by unfold nF; split <;> omega
theorem nF_num (u : Nat) (hu : u < 18446744073709551616) : fnum (nF u) = (fnum u).map fun r => (!r.1, r.2) := by
 have e1 : nF u / 4503599627370496 % 2048 = u / 4503599627370496 % 2048 := by unfold nF; split <;> omega
 have e2 : nF u % 4503599627370496 = u % 4503599627370496 := by unfold nF; split <;> omega
 have e3 : (nF u / 9223372036854775808 == 1) = !(u / 9223372036854775808 == 1) := by
  unfold nF
  by_cases h : u < 9223372036854775808
  ·rw [if_pos h, show (u + 9223372036854775808) / 9223372036854775808 = 1 by omega, show u / 9223372036854775808 = 0 by omega]; rfl
  ·rw [if_neg h, show (u - 9223372036854775808) / 9223372036854775808 = 0 by omega, show u / 9223372036854775808 = 1 by omega]; rfl
 unfold fnum; rw [e1, e2, e3]
 split
 ·rfl
 ·split <;> rfl
theorem abs_calls (u : Nat) (hu : u < 18446744073709551616) (w : World) : Calls Try.prog 107 #[.float .f64 u] w fun e w' => e = .returned (.float .f64 (aF u)) ∧ w = w' := by
 have h1 := f64bits u
 have h2 : ∀ w : World, (callFunc 108 #[.int .u64 ((u : Int) % 9223372036854775808)]).run Try.prog w = .ok (.value (.float .f64 (aF u))) w := fun w => by
  rw [show ((u : Int) % 9223372036854775808) = ((aF u : Nat) : Int) by unfold aF; omega]; exact f64from (aF u) w
 have h3 := andnot63 u hu; go_enter Try.func107, Try.ntmps107; go_wp2_with fail; go_ret; exact ⟨rfl, rfl⟩
/-- Greater than the greatest number. -/
theorem order_inf (u : Nat) (hu : u < 18446744073709551616) : (FloatKind.f64.format.order (aF u) 9218868437227405311 == some Ordering.gt) = ((fnum u).isNone && decide (u % 4503599627370496 = 0)) := by
 have e0 : fnum 9218868437227405311 = some (false, 9007199254740991, 971) := by decide
 have ea := aF_num u hu; have eb : aF u % 4503599627370496 = u % 4503599627370496 := by unfold aF; omega
 have ec : (aF u / 9223372036854775808 == 1) = false := by unfold aF; exact beq_eq_false_iff_ne.mpr yO_
 show (Ieee.Datum.order (Ieee.double.read (aF u)) (Ieee.double.read 9218868437227405311) == some Ordering.gt) = _
 rw [read_num (aF u) (by unfold aF; omega), read_num 9218868437227405311 yD_, e0, ea, eb, ec]
 cases hf : fnum u with
 | none =>
  by_cases h : u % 4503599627370496 = 0
  ·simp [Ieee.Datum.order, h]
  ·simp [Ieee.Datum.order, h]
 | some r =>
  obtain ⟨s, m, e⟩ := r; have f1 := fm_hi u; have f2 := fe_in u; obtain ⟨g0, g1, g2, g3⟩ := of_fnum hf; rw [g2] at f1; rw [g3] at f2; simp only [Option.map_some, Ieee.Datum.order, Option.isNone_some, Bool.false_and]; rw [beq_eq_false_iff_ne]; intro hc; have hc := Option.some.inj hc; rw [show min e 971 = e by omega, Int.sub_self] at hc
  have h1 : (m : Int) < Ieee.signed false 9007199254740991 (971 - e).toNat ∨ (m : Int) = Ieee.signed false 9007199254740991 (971 - e).toNat := by
   show (m : Int) < ((9007199254740991 <<< (971 - e).toNat : Nat) : Int) ∨ (m : Int) = ((9007199254740991 <<< (971 - e).toNat : Nat) : Int)
   rw [Nat.shiftLeft_eq]; have : 0 < 2 ^ (971 - e).toNat := Nat.pow_pos yD_; generalize 2 ^ (971 - e).toNat = P at *
   have : 9007199254740991 * 1 ≤ 9007199254740991 * P := Nat.mul_le_mul_left _ this
   omega
  have h2 : Ieee.signed false m (Int.toNat 0) = (m : Int) := by
   show ((m <<< 0 : Nat) : Int) = m
   rw [Nat.shiftLeft_zero]
  rw [h2] at hc; have := Int.compare_eq_gt.1 hc
  omega
theorem isinf_calls (u : Nat) (hu : u < 18446744073709551616) (w : World) : Calls Try.prog 106 #[.float .f64 u, .int .i64 0] w fun e w' => e = .returned (.bool ((fnum u).isNone && decide (u % 4503599627370496 = 0))) ∧ w = w' := by
 have hc := abs_calls u hu; have HO := J (order_inf u hu); generalize ((fnum u).isNone && decide (u % 4503599627370496 = 0)) = b at *
 go_enter Try.func106, Try.ntmps106; go_wp2_with fail; refine (hc w).mono ?_; rintro e_ w_ ⟨rfl, rfl⟩; have ho := HO.o; go_wp2_with fail; go_ret; exact ⟨rfl, rfl⟩
theorem number_calls (u : Nat) (hu : u < 18446744073709551616) (w : World) : Calls Try.prog 104 #[.float .f64 u] w fun e w' => e = .returned (.bool (fo u)) ∧ w = w' := by
 have h1 := isnan_calls u hu; have h2 := isinf_calls u hu; have hfo : fo u = (fnum u).isSome := rfl
 have hq : fo u = (!((fnum u).isNone && decide (u % 4503599627370496 ≠ 0)) && !((fnum u).isNone && decide (u % 4503599627370496 = 0))) := by
  rw [hfo]
  cases fnum u with
  | some r => rfl
  | none => by_cases h : u % 4503599627370496 = 0 <;> simp [h]
 rw [hq]; generalize ((fnum u).isNone && decide (u % 4503599627370496 ≠ 0)) = p at *
 generalize ((fnum u).isNone && decide (u % 4503599627370496 = 0)) = q at *
 clear hfo hq; go_enter Try.func104, Try.ntmps104; go_wp2_with fail; refine (h1 w).mono ?_; rintro e_ w_ ⟨rfl, rfl⟩; cases p
 ·go_wp2_with fail; refine (h2 w).mono ?_; rintro e_ w_ ⟨rfl, rfl⟩; go_wp2_with fail; go_ret; exact ⟨rfl, rfl⟩
 ·go_wp2_with fail; go_ret; exact ⟨rfl, rfl⟩
/-- n numbers? -/
def rowB (us : List Nat) (n : Int) : Bool := us.all fo && decide ((us.length : Int) = n)
def Wf (us : List Nat) : Prop := ∀ u, u ∈ us → u < 18446744073709551616
theorem wf_rdn {us : List Nat} (h : Wf us) (i : Nat) : rdn us i < 18446744073709551616 := by
 unfold rdn; rw [List.getD_eq_getElem?_getD]
 cases hg : us[i]? with
 | none => decide
 | some u => exact h u (List.mem_of_getElem? hg)
theorem all_step {us : List Nat} {f : Nat → Bool} {x : Nat} (h : (us.take x).all f = true) (hx : x < us.length) (hf : f (rdn us x) = true) : (us.take (x + 1)).all f = true := by
 rw [take_one us x _ (rdn_get hx), List.all_append, h]; simp [hf]
theorem all_not {us : List Nat} {f : Nat → Bool} {x : Nat} (hx : x < us.length) (hf : f (rdn us x) = false) : us.all f = false := by
 rw [List.all_eq_false]; exact ⟨rdn us x, List.mem_of_getElem? (rdn_get hx), by simp [hf]⟩
theorem row_calls (A : Option Addr) (c : Nat) (us : List Nat) (n : Int) (w : World) (hr : kf.C w A us.length us) (hw : Wf us) :
  Calls Try.prog 101 #[.slice A us.length c, .int .i64 n] w fun e w' => e = .returned (.bool (rowB us n)) ∧ w = w' := by
 have HR := J hr; have HW := J hw; have HN := J hr.2.1; clear hr hw; generalize hb : rowB us n = b; have HB := J hb; clear hb; go_enter Try.func101, Try.ntmps101; go_wp2_with fail
 go_loopg [9] us.length (fun m v9 wr => ∃ (x : Nat), v9 = .int .i64 (x : Int) ∧ ze (x + m = us.length) ∧ ze ((us.take x).all fo = true) ∧ wr = w)
 case atStart => exact ⟨0, rfl, ⟨by omega⟩, ⟨rfl⟩, rfl⟩
 case round =>
  obtain ⟨x, rfl, hm, HA, rfl⟩ := hrel
  by_cases hx : x < us.length
  ·have HX := J hx; have h2 := eq_true (show (x : Int) < (us.length : Int) by omega); have h3 := eq_true (show (0 : Int) ≤ (x : Int) by omega); have h1 := eq_true hx; have hwx := wf_rdn HW.o x; obtain ⟨ad, ead, hc0⟩ := at_kf HR.o x hx; cases ead; have HG := J (fun h => all_step (f := fo) HA.o hx h); have HF := J (fun h => all_not (f := fo) hx h); clear hx; generalize rdn us x = u at *
   have nc := number_calls u hwx; go_wp2_with fail; refine (nc wr).mono ?_; rintro e_ w_ ⟨rfl, rfl⟩
   cases hfu : fo u
   ·have HZ := J (HF.o hfu); go_wp2_with fail; go_ret; exact ⟨by rw [← HB.o]; unfold rowB; rw [HZ.o]; rfl, rfl⟩
   ·have HZ := J (HG.o hfu); go_wp2_with fail; go_roundg (gk - 1)
    case measure => have := hm.o; have := HX.o; omega
    case rel => exact ⟨x + 1, by rw [w64 _ yO_ (by have := HX.o; have := HN.o; omega)]; rfl, ⟨by have := hm.o; have := HX.o; omega⟩, HZ, rfl⟩
  ·have hxc : (x < us.length) = False := eq_false hx; have hxd : ((x : Int) < (us.length : Int)) = False := eq_false yO_; have HZ := J (show us.all fo = true by have h := HA.o; rwa [List.take_of_length_le (show us.length ≤ x by omega)] at h); clear hx; go_wp2_with fail; go_ret; exact ⟨by rw [← HB.o]; unfold rowB; rw [HZ.o, Bool.true_and]; by_cases h : (us.length : Int) = n <;> simp [h], rfl⟩
end Go.Proofs.Ytlidbaejhmamjaa.TC
namespace Go.Proofs.Ytlidbaejhmamjaa.TC
open Go.RowKit YtlidbaejhmamjaaW.PrintWords YtlidbaejhmamjaaW.PrintLast YtlidbaejhmamjaaW.PrintMore PB LA AC LW SL NW
/-- Rows of floats in a list. -/
def kff : Kd (List Nat) := Kd.slice 95 kf
def rdl (uss : List (List Nat)) (i : Nat) : List Nat := uss.getD i []
theorem at_kff {w : World} {A : Option Addr} {n : Nat} {uss : List (List Nat)} (h : kff.C w A n uss) (i : Nat) (hi : i < n) : ∃ ad A0 c0, A = some ad ∧ w.cell? (ad.add i) = some (.slice A0 (rdl uss i).length c0) ∧ (rdl uss i).length ≤ c0 ∧ kf.C w A0 (rdl uss i).length (rdl uss i) := by
 obtain ⟨ad, c, e, _, hK, hc0⟩ := Kd.C_get h ([] : List Nat) (i : Int) yO_ yO_; rw [Int.toNat_natCast] at hK hc0; have hc : ∀ j u, c[j]? = some u → w.cell? (ad.add (i * 1 + j)) = some u := hc0
 obtain ⟨A0, c0, rfl, l0, g0⟩ := hK; exact ⟨ad, A0, c0, e, by have hq := hc 0 _ rfl; rwa [Nat.mul_one, Nat.add_zero] at hq, l0, g0⟩
/-- A zonotope; where its lists lie. -/
structure Zn where
 N : Int
 C : List Nat
 ids : List Int
 G : List (List Nat)
 R : List Nat
 bad : Bool
structure Zh where
 a1 : Option Addr
 c1 : Nat
 a2 : Option Addr
 c2 : Nat
 a3 : Option Addr
 c3 : Nat
 a4 : Option Addr
 c4 : Nat
def zc (z : Zn) (h : Zh) : Array Value := #[.int .i64 z.N, .slice h.a1 z.C.length h.c1, .slice h.a2 z.ids.length h.c2, .slice h.a3 z.G.length h.c3, .slice h.a4 z.R.length h.c4, .bool z.bad]
structure Zr (w : World) (z : Zn) (h : Zh) : Prop where
 r1 : kf.C w h.a1 z.C.length z.C
 r2 : Rd w h.a2 h.c2 z.ids
 r3 : kff.C w h.a3 z.G.length z.G
 r4 : kf.C w h.a4 z.R.length z.R
theorem Zr.step {w w' : World} {z : Zn} {h : Zh} (r : Zr w z h) (hb : Below w.heap.size w w') : Zr w' z h := ⟨Kd.zm r.r1 hb, r.r2.step hb, Kd.zm r.r3 hb, Kd.zm r.r4 hb⟩
/-- Floats are of 64 bits. -/
structure Zf (z : Zn) : Prop where
 C : Wf z.C
 G : ∀ us, us ∈ z.G → Wf us
 R : Wf z.R
theorem wf_rdl {uss : List (List Nat)} (h : ∀ us, us ∈ uss → Wf us) (i : Nat) : Wf (rdl uss i) := by
 unfold rdl; rw [List.getD_eq_getElem?_getD]
 cases hg : uss[i]? with
 | none => intro u hu; simp at hu
 | some us => exact h us (List.mem_of_getElem? hg)
def Z6 (w : World) (g : Nat) (z : Zn) (h : Zh) : Prop := w.heap[g]? = some (.cells (zc z h) 63 (0, 0))
/-- Below 0? -/
def ltz (u : Nat) : Bool := FloatKind.f64.format.order u 0 == some Ordering.lt
def IdOk (z : Zn) (k : Nat) : Prop := (0 ≤ rd z.ids (k : Int) ∧ rd z.ids (k : Int) ≤ 1073741824) ∧ (0 < k → rd z.ids ((k - 1 : Nat) : Int) < rd z.ids (k : Int)) ∧ rowB (rdl z.G k) z.N = true
def Good (z : Zn) : Prop := z.bad = false ∧ (1 ≤ z.N ∧ z.N ≤ 256) ∧ rowB z.C z.N = true ∧ rowB z.R z.N = true ∧ z.ids.length = z.G.length ∧ z.R.all (fun u => !ltz u) = true ∧ ∀ k, k < z.ids.length → IdOk z k
noncomputable def goodB (z : Zn) : Bool := @decide (Good z) (Classical.propDecidable _)
theorem goodB_true {z : Zn} (h : Good z) : goodB z = true := @decide_eq_true _ (Classical.propDecidable _) h
theorem zW {z : Zn} (h : ¬ Good z) : goodB z = false := @decide_eq_false _ (Classical.propDecidable _) h
theorem goodB_iff {z : Zn} : goodB z = true ↔ Good z := @decide_eq_true_iff _ (Classical.propDecidable _)
def Lost (z : Zn) : Prop := z.bad = true ∧ (0 ≤ z.N ∧ z.N ≤ 256) ∧ z.C.length = 0 ∧ z.ids.length = 0 ∧ z.G.length = 0 ∧ z.R.length = 0
def good.T12 : Bool × List (List Nat × List Nat) := (true, [([], []), ([0], [0]), ([1], [1]), ([2], [2]), ([3, 2], [2, 3]), ([2, 4], [2, 4]), ([5, 2], [5]), ([6], [6]), ([7, 6], [6, 7]), ([8, 6, 6], [6, 8]), ([9], [9]), ([9], [9]), ([11, 9], [9, 11]), ([9], [9]), ([13, 9], [9, 13]), ([12, 14, 9], [9, 12, 14]), ([15, 9], [9, 15]), ([10, 16, 9], [9, 10, 16]), ([9, 17, 6], [6, 9, 17]), ([6, 18], [6, 18]), ([19, 9], [19]), ([20], [20]), ([21, 20], [20, 21]), ([20], [20]), ([22, 23, 20], [20, 22, 23]), ([24, 20], [20, 24]), ([20], [20]), ([26, 20], [20, 26]), ([25, 27, 20, 20], [20, 25, 27]), ([28, 20], [20, 28]), ([20, 29], [20, 29])])
def good.B12 : List Nat := [0, 1, 3, 7, 15, 31, 63, 127, 255, 511, 1023, 1023, 3071, 1023, 9215, 31743, 64511, 131071, 262143, 524287, 1048575, 2097151, 4194303, 2097151, 16777215, 33554431, 2097151, 69206015, 268435455, 536870911, 1073741823]
theorem good.tab12 : zbc .any (opsOf Try.f90 12) = good.T12 := by kernel_rfl
theorem good.bits12 : zal good.T12.2 good.B12 = true := by kernel_rfl
theorem good_calls (z : Zn) (h : Zh) (w : World) (hr : Zr w z h) (hf : Zf z) :
  Calls Try.prog 90 #[.agg (zc z h)] w fun e w' => e = .returned (.bool (goodB z)) ∧ Below w.heap.size w w' := by
 obtain ⟨z1, z2, z3, z4, z5, z6⟩ := z; obtain ⟨a1, k1, a2, k2, a3, k3, a4, k4⟩ := h; have HR := J hr; have HF := J hf; clear hr hf; have hu63 := Try.underlying63; generalize hz : (⟨z1, z2, z3, z4, z5, z6⟩ : Zn) = Z at *
 generalize hh : (⟨a1, k1, a2, k2, a3, k3, a4, k4⟩ : Zh) = H at *
 have HZ := J hz; have HH := J hh; have hv : zc Z H = #[.int .i64 z1, .slice a1 z2.length k1, .slice a2 z3.length k2, .slice a3 z4.length k3, .slice a4 z5.length k4, .bool z6] := by rw [← hz, ← hh]; rfl
 rw [hv]; clear hv hz hh; generalize hb : goodB Z = b; have HB := J hb; clear hb; go_enter Try.func90, Try.ntmps90; cases z6
 ·by_cases h1 : z1 < 1
  ·have q1 := eq_true h1; have q2 := decide_eq_true h1; have N1 := J h1; clear h1; go_wp2_with (first
  | ((with_reducible refine zf (N := 1) rfl ?_); refine zah 1 (cs := #[.int .i64 z1, .slice a1 z2.length k1, .slice a2 z3.length k2, .slice a3 z4.length k3, .slice a4 z5.length k4, .bool false]) (t := 63) ?_; intro g1 aI w1 aA aB; have B1 := J aB; have K1 := J (show Z6 w1 g1 Z H by rw [← HZ.o, ← HH.o]; exact aA); have L1 := J (show w.heap.size ≤ g1 by omega); have c0 := cz_ aA 0 rfl; have c1 := cz_ aA 1 rfl; have c2 := cz_ aA 2 rfl; have c3 := cz_ aA 3 rfl; have c4 := cz_ aA 4 rfl; have c5 := cz_ aA 5 rfl; clear aI aA aB)
  | fail)
   go_ret; exact ⟨by rw [← HB.o, zW (fun h_ => by rw [← HZ.o] at h_; have := h_.2.1.1; have := N1.o; simp only at *; omega)]; first | done | rfl, B1.o⟩
  ·have q1 := eq_false h1; have q2 := decide_eq_false h1
   by_cases h2 : 256 < z1
   ·have q3 := eq_true h2; have q4 := decide_eq_true h2; have N2 := J h2; clear h1 h2; go_wp2_with (first
  | ((with_reducible refine zf (N := 1) rfl ?_); refine zah 1 (cs := #[.int .i64 z1, .slice a1 z2.length k1, .slice a2 z3.length k2, .slice a3 z4.length k3, .slice a4 z5.length k4, .bool false]) (t := 63) ?_; intro g1 aI w1 aA aB; have B1 := J aB; have K1 := J (show Z6 w1 g1 Z H by rw [← HZ.o, ← HH.o]; exact aA); have L1 := J (show w.heap.size ≤ g1 by omega); have c0 := cz_ aA 0 rfl; have c1 := cz_ aA 1 rfl; have c2 := cz_ aA 2 rfl; have c3 := cz_ aA 3 rfl; have c4 := cz_ aA 4 rfl; have c5 := cz_ aA 5 rfl; clear aI aA aB)
  | fail)
    go_ret; exact ⟨by rw [← HB.o, zW (fun h_ => by rw [← HZ.o] at h_; have := h_.2.1.2; have := N2.o; simp only at *; omega)]; first | done | rfl, B1.o⟩
   ·have q3 := eq_false h2; have q4 := decide_eq_false h2; have N2 := J (show 1 ≤ z1 ∧ z1 ≤ 256 by omega); clear h1 h2; go_wp2_with (first
  | ((with_reducible refine zf (N := 1) rfl ?_); refine zah 1 (cs := #[.int .i64 z1, .slice a1 z2.length k1, .slice a2 z3.length k2, .slice a3 z4.length k3, .slice a4 z5.length k4, .bool false]) (t := 63) ?_; intro g1 aI w1 aA aB; have B1 := J aB; have K1 := J (show Z6 w1 g1 Z H by rw [← HZ.o, ← HH.o]; exact aA); have L1 := J (show w.heap.size ≤ g1 by omega); have c0 := cz_ aA 0 rfl; have c1 := cz_ aA 1 rfl; have c2 := cz_ aA 2 rfl; have c3 := cz_ aA 3 rfl; have c4 := cz_ aA 4 rfl; have c5 := cz_ aA 5 rfl; clear aI aA aB)
  | fail)
    have RR := J (show Zr w1 ⟨z1, z2, z3, z4, z5, false⟩ ⟨a1, k1, a2, k2, a3, k3, a4, k4⟩ by rw [HZ.o, HH.o]; exact HR.o.step B1.o); have FF := J (show Zf ⟨z1, z2, z3, z4, z5, false⟩ by rw [HZ.o]; exact HF.o); refine (row_calls a1 k1 z2 z1 w1 RR.o.r1 FF.o.C).mono ?_; rintro e_ w_ ⟨rfl, rfl⟩
    cases aM : rowB z2 z1
    ·have N3 := J aM; clear aM; go_wp2_with fail; go_ret; exact ⟨by rw [← HB.o, zW (fun h_ => by rw [← HZ.o] at h_; have aC := h_.2.2.1; have aJ := N3.o; rw [aJ] at aC; cases aC)]; first | done | rfl, B1.o⟩
    ·have N3 := J aM; clear aM; go_wp2_with fail; refine (row_calls a4 k4 z5 z1 w1 RR.o.r4 FF.o.R).mono ?_; rintro e_ w_ ⟨rfl, rfl⟩
     cases aN : rowB z5 z1
     ·have N4 := J aN; clear aN; go_wp2_with fail; go_ret; exact ⟨by rw [← HB.o, zW (fun h_ => by rw [← HZ.o] at h_; have aC := h_.2.2.2.1; have aJ := N4.o; rw [aJ] at aC; cases aC)]; first | done | rfl, B1.o⟩
     ·have N4 := J aN; clear aN
      by_cases hl : z3.length = z4.length
      ·have q5 : ((z3.length : Int) != (z4.length : Int)) = false := by rw [hl]; exact bne_self_eq_false _
       have N5 := J hl; clear hl; go_wp2_with fail
       go_loopg [47] z5.length (fun m v47 wr => ∃ (x : Nat), v47 = .int .i64 (x : Int) ∧ ze (x + m = z5.length) ∧ ze ((z5.take x).all (fun u => !ltz u) = true) ∧ w1 = wr)
       case atStart => exact ⟨0, rfl, ⟨by omega⟩, ⟨rfl⟩, rfl⟩
       case round =>
        obtain ⟨x, rfl, hm, HA, rfl⟩ := hrel
        by_cases hx : x < z5.length
        ·have HX := J hx; have p2 := eq_true (show (x : Int) < (z5.length : Int) by omega); have p3 := eq_true (show (0 : Int) ≤ (x : Int) by omega); have p1 := eq_true hx; obtain ⟨ad, ead, hc0⟩ := at_kf RR.o.r4 x hx; cases ead; have HG := J (fun h => all_step (f := fun u => !ltz u) HA.o hx h); have HFN := J (fun h => all_not (f := fun u => !ltz u) hx h); have HLEN := J RR.o.r4.2.1; clear hx; generalize rdn z5 x = u at *
         cases hlt : ltz u
         ·have aQ : (FloatKind.f64.format.order u 0 == some Ordering.lt) = false := hlt; have aO := J (HG.o (by rw [hlt]; rfl)); clear hlt; go_wp2_with fail; go_roundg (gk - 1)
          case measure => have := hm.o; have := HX.o; omega
          case rel => exact ⟨x + 1, by rw [w64 _ yO_ (by have := HX.o; have := HLEN.o; omega)]; rfl, ⟨by have := hm.o; have := HX.o; omega⟩, aO, rfl⟩
         ·have aQ : (FloatKind.f64.format.order u 0 == some Ordering.lt) = true := hlt; have aO := J (HFN.o (by rw [hlt]; rfl)); clear hlt; go_wp2_with fail; go_ret; exact ⟨by rw [← HB.o, zW (fun h_ => by rw [← HZ.o] at h_; have aC := h_.2.2.2.2.2.1; have aJ := aO.o; rw [aJ] at aC; cases aC)]; first | done | rfl, B1.o⟩
        ·have p1 := eq_false hx; have p2 := eq_false (show ¬ (x : Int) < (z5.length : Int) by omega); have N6 := J (show z5.all (fun u => !ltz u) = true by have h := HA.o; rwa [List.take_of_length_le (show z5.length ≤ x by omega)] at h); clear hx hm HA; go_wp2_with fail
         go_loopg [57] z3.length (fun m v57 wr => ∃ (k : Nat), v57 = .int .i64 (k : Int) ∧ ze (k + m = z3.length) ∧ ze (∀ j, j < k → IdOk ⟨z1, z2, z3, z4, z5, false⟩ j) ∧ ze (Below w1.heap.size w1 wr))
         case atStart => exact ⟨0, rfl, ⟨by omega⟩, ⟨fun j hj => by omega⟩, ⟨Below.refl _ _⟩⟩
         case round =>
          obtain ⟨k, rfl, aK, aL, W2⟩ := hrel
          by_cases hx : k < z3.length
          ·have HK := J hx; clear hx; have p3 := eq_true HK.o; have p4 := eq_true (show (k : Int) < (z3.length : Int) by have := HK.o; omega); have p5 := eq_true (show (0 : Int) ≤ (k : Int) by omega); have p6 := eq_true (show k < z4.length by rw [← N5.o]; exact HK.o); have p7 := eq_true (show (k : Int) < (z4.length : Int) by have := HK.o; have := N5.o; omega); have HLEN := J (show z3.length ≤ 9223372036854775807 from RR.o.r2.row.2.1); obtain ⟨ai, eai, hci⟩ := Kd.zQ RR.o.r2.row (k : Int) yO_ (show (k : Int) < (z3.length : Int) by have := HK.o; omega); cases eai; rw [Int.toNat_natCast] at hci; obtain ⟨ag, Ak, ck, eag, hcg, hlk, hrk⟩ := at_kff RR.o.r3 k (show k < z4.length by have := N5.o; have := HK.o; omega); cases eag; have HGK := J hrk; have HGW := J (wf_rdl FF.o.G k); have HID := J (show IdOk ⟨z1, z2, z3, z4, z5, false⟩ k ↔ (0 ≤ rd z3 (k : Int) ∧ rd z3 (k : Int) ≤ 1073741824) ∧ (0 < k → rd z3 ((k - 1 : Nat) : Int) < rd z3 (k : Int)) ∧ rowB (rdl z4 k) z1 = true from Iff.rfl); have aD := J (show Good ⟨z1, z2, z3, z4, z5, false⟩ → IdOk ⟨z1, z2, z3, z4, z5, false⟩ k from fun h => h.2.2.2.2.2.2 k HK.o)
           have HQ := J (show IdOk ⟨z1, z2, z3, z4, z5, false⟩ k → ∀ j, j < k + 1 → IdOk ⟨z1, z2, z3, z4, z5, false⟩ j from fun h j hj => by
            by_cases e : j = k
            ·subst e; exact h
            ·exact aL.o j yO_)
           have HS := J (show ∀ w' : World, Below w1.heap.size w1 w' → w'.cell? ⟨g1, 0, none⟩ = some (.int .i64 z1) ∧ w'.cell? ⟨g1, 2, none⟩ = some (.slice (some ai) z3.length k2) ∧ w'.cell? ⟨g1, 3, none⟩ = some (.slice (some ag) z4.length k3) ∧ w'.cell? (ai.add k) = some (.int .i64 (rd z3 (k : Int))) ∧ w'.cell? (ag.add k) = some (.slice Ak (rdl z4 k).length ck) from fun W hW => ⟨zr hW c0, zr hW c2, zr hW c3, zr hW hci, zr hW hcg⟩); have aE := (HS.o _ W2.o).1; have aG := (HS.o _ W2.o).2.1; have aH := (HS.o _ W2.o).2.2.1; have cci := (HS.o _ W2.o).2.2.2.1; have ccg := (HS.o _ W2.o).2.2.2.2; clear hci hcg hlk hrk aL
           by_cases aP : k = 0
           ·have HK0 := J aP; have p8 := eq_false (show ¬ (0 : Int) < (k : Int) by omega); have p9 := decide_eq_false (show ¬ (0 : Int) < (k : Int) by omega); have p8n := eq_false (show ¬ 0 < k by omega); have p9n := decide_eq_false (show ¬ 0 < k by omega); clear aP; generalize rd z3 (k : Int) = idk at *
            generalize rdl z4 k = us at *
            by_cases i1 : idk < 0
            ·have x1 := eq_true i1; have x2 := decide_eq_true i1; have HBAD := J (show ¬ ((0 ≤ idk ∧ idk ≤ 1073741824) ∧ (0 < k → rd z3 ((k - 1 : Nat) : Int) < idk) ∧ rowB us z1 = true) from fun h_ => by have := h_.1.1; omega); clear i1; go_wp2_with fail; have W3 := J (za W2.o (zU (Below.refl wr.heap.size wr))); clear aE aG aH cci ccg; refine zaw (n := 31) (S := fun w' => w'.cell? ⟨g1, 0, none⟩ = some (.int .i64 z1) ∧ w'.cell? ⟨g1, 2, none⟩ = some (.slice (some ai) z3.length k2) ∧ w'.cell? ⟨g1, 3, none⟩ = some (.slice (some ag) z4.length k3) ∧ w'.cell? (ai.add k) = some (.int .i64 (idk)) ∧ w'.cell? (ag.add k) = some (.slice Ak (us).length ck)) (ds := []) (bl_ 31 0) yK_ rfl rfl ⟨(HS.o _ W3.o).1, (HS.o _ W3.o).2.1, (HS.o _ W3.o).2.2.1, (HS.o _ W3.o).2.2.2.1, (HS.o _ W3.o).2.2.2.2⟩ (fun hHeld => ?_); refine zS good.tab12 good.bits12 (fun HT_ HW_ => ?_); generalize wr.drew = w9 at W3 hHeld ⊢; refine pu_ 0 ?_; refine pu_ 1 ?_; refine pu_ 2 ?_; refine ps_ 3 ?_; refine ps_ 4 ?_; refine pu_ 5 ?_; refine pu_ 6 ?_; refine ps_ 7 ?_; refine ps_ 8 ?_; refine ps_ 9 ?_; refine ps_ 10 ?_; refine ps_ 11 ?_; refine ps_ 12 ?_; refine ps_ 13 ?_; refine ps_ 14 ?_; refine ps_ 15 ?_; refine ps_ 16 ?_; refine ps_ 17 ?_; refine ps_ 18 ?_; refine pu_ 19 ?_; refine pu_ 20 ?_; refine ps_ 21 ?_; refine ps_ 22 ?_; refine ps_ 23 ?_; refine ps_ 24 ?_; refine ps_ 25 ?_; refine ps_ 26 ?_; refine ps_ 27 ?_; refine ps_ 28 ?_; refine ps_ 29 ?_; refine pu_ 30 ?_
             refine zaL (zad HT_.o yK_) ?_; go_wp2_with fail; go_ret; exact ⟨by rw [← HB.o, zW (fun h_ => by rw [← HZ.o] at h_; exact HBAD.o (HID.o.1 (aD.o h_)))]; first | done | rfl, za B1.o W3.o⟩
            ·have x1 := eq_false i1; have x2 := decide_eq_false i1
             by_cases i2 : 1073741824 < idk
             ·have x3 := eq_true i2; have x4 := decide_eq_true i2; have HBAD := J (show ¬ ((0 ≤ idk ∧ idk ≤ 1073741824) ∧ (0 < k → rd z3 ((k - 1 : Nat) : Int) < idk) ∧ rowB us z1 = true) from fun h_ => by have := h_.1.2; omega); clear i1 i2; go_wp2_with fail; have W3 := J (za W2.o (zU (Below.refl wr.heap.size wr))); clear aE aG aH cci ccg; refine zaw (n := 31) (S := fun w' => w'.cell? ⟨g1, 0, none⟩ = some (.int .i64 z1) ∧ w'.cell? ⟨g1, 2, none⟩ = some (.slice (some ai) z3.length k2) ∧ w'.cell? ⟨g1, 3, none⟩ = some (.slice (some ag) z4.length k3) ∧ w'.cell? (ai.add k) = some (.int .i64 (idk)) ∧ w'.cell? (ag.add k) = some (.slice Ak (us).length ck)) (ds := []) (bl_ 31 0) yK_ rfl rfl ⟨(HS.o _ W3.o).1, (HS.o _ W3.o).2.1, (HS.o _ W3.o).2.2.1, (HS.o _ W3.o).2.2.2.1, (HS.o _ W3.o).2.2.2.2⟩ (fun hHeld => ?_); refine zS good.tab12 good.bits12 (fun HT_ HW_ => ?_); generalize wr.drew = w9 at W3 hHeld ⊢; refine pu_ 0 ?_; refine pu_ 1 ?_; refine pu_ 2 ?_; refine pu_ 3 ?_; refine pu_ 4 ?_; refine pu_ 5 ?_; refine pu_ 6 ?_; refine ps_ 7 ?_; refine ps_ 8 ?_; refine ps_ 9 ?_; refine ps_ 10 ?_; refine ps_ 11 ?_; refine ps_ 12 ?_; refine ps_ 13 ?_; refine ps_ 14 ?_; refine ps_ 15 ?_; refine ps_ 16 ?_; refine ps_ 17 ?_; refine ps_ 18 ?_; refine pu_ 19 ?_; refine pu_ 20 ?_; refine ps_ 21 ?_; refine ps_ 22 ?_; refine ps_ 23 ?_; refine ps_ 24 ?_; refine ps_ 25 ?_; refine ps_ 26 ?_; refine ps_ 27 ?_; refine ps_ 28 ?_; refine ps_ 29 ?_
              refine pu_ 30 ?_; refine zaL (zad HT_.o yK_) ?_; go_wp2_with fail; go_ret; exact ⟨by rw [← HB.o, zW (fun h_ => by rw [← HZ.o] at h_; exact HBAD.o (HID.o.1 (aD.o h_)))]; first | done | rfl, za B1.o W3.o⟩
             ·have x3 := eq_false i2; have x4 := decide_eq_false i2; have I0 := J (show 0 ≤ idk ∧ idk ≤ 1073741824 by omega); clear i1 i2; have I1 := J (show 0 < k → rd z3 ((k - 1 : Nat) : Int) < idk from fun h_ => absurd HK0.o yO_); go_wp2_with fail; have W3 := J (za W2.o (zU (Below.refl wr.heap.size wr))); clear aE aG aH cci ccg; refine zaw (n := 31) (S := fun w' => w'.cell? ⟨g1, 0, none⟩ = some (.int .i64 z1) ∧ w'.cell? ⟨g1, 2, none⟩ = some (.slice (some ai) z3.length k2) ∧ w'.cell? ⟨g1, 3, none⟩ = some (.slice (some ag) z4.length k3) ∧ w'.cell? (ai.add k) = some (.int .i64 (idk)) ∧ w'.cell? (ag.add k) = some (.slice Ak (us).length ck)) (ds := []) (bl_ 31 0) yK_ rfl rfl ⟨(HS.o _ W3.o).1, (HS.o _ W3.o).2.1, (HS.o _ W3.o).2.2.1, (HS.o _ W3.o).2.2.2.1, (HS.o _ W3.o).2.2.2.2⟩ (fun hHeld => ?_); refine zS good.tab12 good.bits12 (fun HT_ HW_ => ?_); generalize wr.drew = w9 at W3 hHeld ⊢; refine pu_ 0 ?_; refine pu_ 1 ?_; refine pu_ 2 ?_; refine pu_ 3 ?_; refine pu_ 4 ?_; refine pu_ 5 ?_; refine pu_ 6 ?_; refine pu_ 7 ?_; refine pu_ 8 ?_; refine pu_ 9 ?_; refine ps_ 10 ?_; refine ps_ 11 ?_; refine ps_ 12 ?_; refine ps_ 13 ?_; refine ps_ 14 ?_; refine ps_ 15 ?_; refine ps_ 16 ?_; refine ps_ 17 ?_; refine pu_ 18 ?_; refine pu_ 19 ?_; refine pu_ 20 ?_; refine pu_ 21 ?_; refine pu_ 23 ?_; refine pu_ 26 ?_; refine tk_ 22 ?_; refine pu_ 24 ?_; refine tk_ 25 ?_; refine tk_ 27 ?_
              refine on_ HT_ 28 (some 90) (bl_ 31 536870911) fun K hK => ?_
              refine go1_ Try.func101 #[.slice Ak us.length ck, .int .i64 z1] ?_; refine (row_calls Ak ck us z1 w9 (Kd.zm HGK.o W3.o) HGW.o).mono ?_; rintro e_ w_ ⟨rfl, rfl⟩; refine ⟨_, rfl, ?_⟩; refine hK.out _ _ ⟨(HS.o _ W3.o).1, (HS.o _ W3.o).2.1, (HS.o _ W3.o).2.2.1, (HS.o _ W3.o).2.2.2.1, (HS.o _ W3.o).2.2.2.2⟩ (fun hHeld => ?_); clear hK K; refine nm_ ?_; refine pu_ 29 ?_; refine pu_ 30 ?_; refine zaL (zad HT_.o yK_) ?_
              cases hrb : rowB us z1
              ·have HBAD := J (show ¬ ((0 ≤ idk ∧ idk ≤ 1073741824) ∧ (0 < k → rd z3 ((k - 1 : Nat) : Int) < idk) ∧ rowB us z1 = true) from fun h_ => by rw [hrb] at h_; cases h_.2.2)
               skip
               go_wp2_with fail; go_ret; exact ⟨by rw [← HB.o, zW (fun h_ => by rw [← HZ.o] at h_; exact HBAD.o (HID.o.1 (aD.o h_)))]; first | done | rfl, za B1.o W3.o⟩
              ·have HOK := J (And.intro I0.o (And.intro I1.o hrb)); go_wp2_with fail; go_roundg (gk - 1)
               case measure => have := aK.o; have := HK.o; omega
               case rel => exact ⟨k + 1, by rw [w64 _ yO_ (by have := HK.o; have := HLEN.o; omega)]; rfl, ⟨by have := aK.o; have := HK.o; omega⟩, ⟨HQ.o (HID.o.2 HOK.o)⟩, W3⟩
           ·obtain ⟨p, hp⟩ : ∃ p : Nat, k = p + 1 := ⟨k - 1, by omega⟩
            have HP := J hp; have p8 := eq_true (show (0 : Int) < (k : Int) by omega); have p9 := decide_eq_true (show (0 : Int) < (k : Int) by omega); have p8n := eq_true (show 0 < k by omega); have p9n := decide_eq_true (show 0 < k by omega); have pw : wrap64 ((k : Int) - 1) = (p : Int) := by rw [w64 _ yO_ (by have := HK.o; have := HLEN.o; omega)]; omega
            have pp1 := eq_true (show p < z3.length by have := HK.o; omega); have pp2 := eq_true (show (p : Int) < (z3.length : Int) by have := HK.o; omega); have pp3 := eq_true (show (0 : Int) ≤ (p : Int) by omega); obtain ⟨ap, eap, hcp⟩ := Kd.zQ RR.o.r2.row (p : Int) yO_ (show (p : Int) < (z3.length : Int) by have := HK.o; omega); cases eap; rw [Int.toNat_natCast] at hcp; have HPP := J (show ∀ w' : World, Below w1.heap.size w1 w' → w'.cell? (ai.add p) = some (.int .i64 (rd z3 (p : Int))) from fun W hW => zr hW hcp); have ccp := HPP.o _ W2.o; rw [show k - 1 = p by omega] at HID; clear hcp hp aP; generalize rd z3 (p : Int) = idp at *
            generalize rd z3 (k : Int) = idk at *
            generalize rdl z4 k = us at *
            by_cases i1 : idk < 0
            ·have x1 := eq_true i1; have x2 := decide_eq_true i1; have HBAD := J (show ¬ ((0 ≤ idk ∧ idk ≤ 1073741824) ∧ (0 < k → idp < idk) ∧ rowB us z1 = true) from fun h_ => by have := h_.1.1; omega); clear i1; go_wp2_with fail; have W3 := J (za W2.o (zU (Below.refl wr.heap.size wr))); clear aE aG aH cci ccg ccp; refine zaw (n := 31) (S := fun w' => w'.cell? ⟨g1, 0, none⟩ = some (.int .i64 z1) ∧ w'.cell? ⟨g1, 2, none⟩ = some (.slice (some ai) z3.length k2) ∧ w'.cell? ⟨g1, 3, none⟩ = some (.slice (some ag) z4.length k3) ∧ w'.cell? (ai.add k) = some (.int .i64 (idk)) ∧ w'.cell? (ag.add k) = some (.slice Ak (us).length ck) ∧ w'.cell? (ai.add p) = some (.int .i64 (idp))) (ds := []) (bl_ 31 0) yK_ rfl rfl ⟨(HS.o _ W3.o).1, (HS.o _ W3.o).2.1, (HS.o _ W3.o).2.2.1, (HS.o _ W3.o).2.2.2.1, (HS.o _ W3.o).2.2.2.2, HPP.o _ W3.o⟩ (fun hHeld => ?_); refine zS good.tab12 good.bits12 (fun HT_ HW_ => ?_); generalize wr.drew = w9 at W3 hHeld ⊢; refine pu_ 0 ?_; refine pu_ 1 ?_; refine pu_ 2 ?_; refine ps_ 3 ?_; refine ps_ 4 ?_; refine pu_ 5 ?_; refine pu_ 6 ?_; refine ps_ 7 ?_; refine ps_ 8 ?_; refine ps_ 9 ?_; refine ps_ 10 ?_; refine ps_ 11 ?_; refine ps_ 12 ?_; refine ps_ 13 ?_; refine ps_ 14 ?_; refine ps_ 15 ?_; refine ps_ 16 ?_; refine ps_ 17 ?_; refine ps_ 18 ?_; refine pu_ 19 ?_; refine pu_ 20 ?_; refine ps_ 21 ?_; refine ps_ 22 ?_; refine ps_ 23 ?_; refine ps_ 24 ?_; refine ps_ 25 ?_; refine ps_ 26 ?_; refine ps_ 27 ?_
             refine ps_ 28 ?_; refine ps_ 29 ?_; refine pu_ 30 ?_; refine zaL (zad HT_.o yK_) ?_; go_wp2_with fail; go_ret; exact ⟨by rw [← HB.o, zW (fun h_ => by rw [← HZ.o] at h_; exact HBAD.o (HID.o.1 (aD.o h_)))]; first | done | rfl, za B1.o W3.o⟩
            ·have x1 := eq_false i1; have x2 := decide_eq_false i1
             by_cases i2 : 1073741824 < idk
             ·have x3 := eq_true i2; have x4 := decide_eq_true i2; have HBAD := J (show ¬ ((0 ≤ idk ∧ idk ≤ 1073741824) ∧ (0 < k → idp < idk) ∧ rowB us z1 = true) from fun h_ => by have := h_.1.2; omega); clear i1 i2; go_wp2_with fail; have W3 := J (za W2.o (zU (Below.refl wr.heap.size wr))); clear aE aG aH cci ccg ccp; refine zaw (n := 31) (S := fun w' => w'.cell? ⟨g1, 0, none⟩ = some (.int .i64 z1) ∧ w'.cell? ⟨g1, 2, none⟩ = some (.slice (some ai) z3.length k2) ∧ w'.cell? ⟨g1, 3, none⟩ = some (.slice (some ag) z4.length k3) ∧ w'.cell? (ai.add k) = some (.int .i64 (idk)) ∧ w'.cell? (ag.add k) = some (.slice Ak (us).length ck) ∧ w'.cell? (ai.add p) = some (.int .i64 (idp))) (ds := []) (bl_ 31 0) yK_ rfl rfl ⟨(HS.o _ W3.o).1, (HS.o _ W3.o).2.1, (HS.o _ W3.o).2.2.1, (HS.o _ W3.o).2.2.2.1, (HS.o _ W3.o).2.2.2.2, HPP.o _ W3.o⟩ (fun hHeld => ?_); refine zS good.tab12 good.bits12 (fun HT_ HW_ => ?_); generalize wr.drew = w9 at W3 hHeld ⊢; refine pu_ 0 ?_; refine pu_ 1 ?_; refine pu_ 2 ?_; refine pu_ 3 ?_; refine pu_ 4 ?_; refine pu_ 5 ?_; refine pu_ 6 ?_; refine ps_ 7 ?_; refine ps_ 8 ?_; refine ps_ 9 ?_; refine ps_ 10 ?_; refine ps_ 11 ?_; refine ps_ 12 ?_; refine ps_ 13 ?_; refine ps_ 14 ?_; refine ps_ 15 ?_; refine ps_ 16 ?_; refine ps_ 17 ?_; refine ps_ 18 ?_; refine pu_ 19 ?_; refine pu_ 20 ?_; refine ps_ 21 ?_; refine ps_ 22 ?_; refine ps_ 23 ?_; refine ps_ 24 ?_; refine ps_ 25 ?_; refine ps_ 26 ?_; refine ps_ 27 ?_
              refine ps_ 28 ?_; refine ps_ 29 ?_; refine pu_ 30 ?_; refine zaL (zad HT_.o yK_) ?_; go_wp2_with fail; go_ret; exact ⟨by rw [← HB.o, zW (fun h_ => by rw [← HZ.o] at h_; exact HBAD.o (HID.o.1 (aD.o h_)))]; first | done | rfl, za B1.o W3.o⟩
             ·have x3 := eq_false i2; have x4 := decide_eq_false i2; have I0 := J (show 0 ≤ idk ∧ idk ≤ 1073741824 by omega); clear i1 i2
              by_cases i3 : idk ≤ idp
              ·have x5 := eq_true i3; have x6 := decide_eq_true i3; have HBAD := J (show ¬ ((0 ≤ idk ∧ idk ≤ 1073741824) ∧ (0 < k → idp < idk) ∧ rowB us z1 = true) from fun h_ => by have := h_.2.1 (by have := HP.o; omega); omega); clear i3; go_wp2_with fail; have W3 := J (za W2.o (zU (Below.refl wr.heap.size wr))); clear aE aG aH cci ccg ccp; refine zaw (n := 31) (S := fun w' => w'.cell? ⟨g1, 0, none⟩ = some (.int .i64 z1) ∧ w'.cell? ⟨g1, 2, none⟩ = some (.slice (some ai) z3.length k2) ∧ w'.cell? ⟨g1, 3, none⟩ = some (.slice (some ag) z4.length k3) ∧ w'.cell? (ai.add k) = some (.int .i64 (idk)) ∧ w'.cell? (ag.add k) = some (.slice Ak (us).length ck) ∧ w'.cell? (ai.add p) = some (.int .i64 (idp))) (ds := []) (bl_ 31 0) yK_ rfl rfl ⟨(HS.o _ W3.o).1, (HS.o _ W3.o).2.1, (HS.o _ W3.o).2.2.1, (HS.o _ W3.o).2.2.2.1, (HS.o _ W3.o).2.2.2.2, HPP.o _ W3.o⟩ (fun hHeld => ?_); refine zS good.tab12 good.bits12 (fun HT_ HW_ => ?_); generalize wr.drew = w9 at W3 hHeld ⊢; refine pu_ 0 ?_; refine pu_ 1 ?_; refine pu_ 2 ?_; refine pu_ 3 ?_; refine pu_ 4 ?_; refine pu_ 5 ?_; refine pu_ 6 ?_; refine pu_ 7 ?_; refine pu_ 8 ?_; refine pu_ 9 ?_; refine pu_ 10 ?_; refine pu_ 11 ?_; refine pu_ 13 ?_; refine pu_ 14 ?_; refine tk_ 12 ?_; refine pu_ 15 ?_; refine tk_ 16 ?_; refine pu_ 17 ?_; refine pu_ 18 ?_; refine pu_ 19 ?_; refine pu_ 20 ?_; refine ps_ 21 ?_; refine ps_ 22 ?_; refine ps_ 23 ?_; refine ps_ 24 ?_; refine ps_ 25 ?_
               refine ps_ 26 ?_; refine ps_ 27 ?_; refine ps_ 28 ?_; refine ps_ 29 ?_; refine pu_ 30 ?_; refine zaL (zad HT_.o yK_) ?_; go_wp2_with fail; go_ret; exact ⟨by rw [← HB.o, zW (fun h_ => by rw [← HZ.o] at h_; exact HBAD.o (HID.o.1 (aD.o h_)))]; first | done | rfl, za B1.o W3.o⟩
              ·have x5 := eq_false i3; have x6 := decide_eq_false i3; have I1 := J (show 0 < k → idp < idk from fun _ => by omega); clear i3; go_wp2_with fail; have W3 := J (za W2.o (zU (Below.refl wr.heap.size wr))); clear aE aG aH cci ccg ccp; refine zaw (n := 31) (S := fun w' => w'.cell? ⟨g1, 0, none⟩ = some (.int .i64 z1) ∧ w'.cell? ⟨g1, 2, none⟩ = some (.slice (some ai) z3.length k2) ∧ w'.cell? ⟨g1, 3, none⟩ = some (.slice (some ag) z4.length k3) ∧ w'.cell? (ai.add k) = some (.int .i64 (idk)) ∧ w'.cell? (ag.add k) = some (.slice Ak (us).length ck) ∧ w'.cell? (ai.add p) = some (.int .i64 (idp))) (ds := []) (bl_ 31 0) yK_ rfl rfl ⟨(HS.o _ W3.o).1, (HS.o _ W3.o).2.1, (HS.o _ W3.o).2.2.1, (HS.o _ W3.o).2.2.2.1, (HS.o _ W3.o).2.2.2.2, HPP.o _ W3.o⟩ (fun hHeld => ?_); refine zS good.tab12 good.bits12 (fun HT_ HW_ => ?_); generalize wr.drew = w9 at W3 hHeld ⊢; refine pu_ 0 ?_; refine pu_ 1 ?_; refine pu_ 2 ?_; refine pu_ 3 ?_; refine pu_ 4 ?_; refine pu_ 5 ?_; refine pu_ 6 ?_; refine pu_ 7 ?_; refine pu_ 8 ?_; refine pu_ 9 ?_; refine pu_ 10 ?_; refine pu_ 11 ?_; refine pu_ 13 ?_; refine pu_ 14 ?_; refine tk_ 12 ?_; refine pu_ 15 ?_; refine tk_ 16 ?_; refine pu_ 17 ?_; refine pu_ 18 ?_; refine pu_ 19 ?_; refine pu_ 20 ?_; refine pu_ 21 ?_; refine pu_ 23 ?_; refine pu_ 26 ?_; refine tk_ 22 ?_; refine pu_ 24 ?_; refine tk_ 25 ?_; refine tk_ 27 ?_; refine on_ HT_ 28 (some 90) (bl_ 31 536870911) fun K hK => ?_
               refine go1_ Try.func101 #[.slice Ak us.length ck, .int .i64 z1] ?_; refine (row_calls Ak ck us z1 w9 (Kd.zm HGK.o W3.o) HGW.o).mono ?_; rintro e_ w_ ⟨rfl, rfl⟩; refine ⟨_, rfl, ?_⟩; refine hK.out _ _ ⟨(HS.o _ W3.o).1, (HS.o _ W3.o).2.1, (HS.o _ W3.o).2.2.1, (HS.o _ W3.o).2.2.2.1, (HS.o _ W3.o).2.2.2.2, HPP.o _ W3.o⟩ (fun hHeld => ?_); clear hK K; refine nm_ ?_; refine pu_ 29 ?_; refine pu_ 30 ?_; refine zaL (zad HT_.o yK_) ?_
               cases hrb : rowB us z1
               ·have HBAD := J (show ¬ ((0 ≤ idk ∧ idk ≤ 1073741824) ∧ (0 < k → idp < idk) ∧ rowB us z1 = true) from fun h_ => by rw [hrb] at h_; cases h_.2.2)
                skip
                go_wp2_with fail; go_ret; exact ⟨by rw [← HB.o, zW (fun h_ => by rw [← HZ.o] at h_; exact HBAD.o (HID.o.1 (aD.o h_)))]; first | done | rfl, za B1.o W3.o⟩
               ·have HOK := J (And.intro I0.o (And.intro I1.o hrb)); go_wp2_with fail; go_roundg (gk - 1)
                case measure => have := aK.o; have := HK.o; omega
                case rel => exact ⟨k + 1, by rw [w64 _ yO_ (by have := HK.o; have := HLEN.o; omega)]; rfl, ⟨by have := aK.o; have := HK.o; omega⟩, ⟨HQ.o (HID.o.2 HOK.o)⟩, W3⟩
          ·have p3 := eq_false hx; have p4 := eq_false (show ¬ (k : Int) < (z3.length : Int) by omega); have N7 := J (show ∀ j, j < z3.length → IdOk ⟨z1, z2, z3, z4, z5, false⟩ j from fun j hj => aL.o j yO_); clear hx aK aL; go_wp2_with fail; go_ret; exact ⟨by rw [← HB.o, goodB_true (by rw [← HZ.o]; exact ⟨rfl, N2.o, N3.o, N4.o, N5.o, N6.o, N7.o⟩)]; first | done | rfl, za B1.o W2.o⟩
      ·have q5 : ((z3.length : Int) != (z4.length : Int)) = true := by rw [bne_iff_ne]; omega
       have N5 := J hl; clear hl; go_wp2_with fail; go_ret; exact ⟨by rw [← HB.o, zW (fun h_ => by rw [← HZ.o] at h_; exact N5.o h_.2.2.2.2.1)]; first | done | rfl, B1.o⟩
 ·go_wp2_with (first
  | ((with_reducible refine zf (N := 1) rfl ?_); refine zah 1 (cs := #[.int .i64 z1, .slice a1 z2.length k1, .slice a2 z3.length k2, .slice a3 z4.length k3, .slice a4 z5.length k4, .bool true]) (t := 63) ?_; intro g1 aI w1 aA aB; have B1 := J aB; have K1 := J (show Z6 w1 g1 Z H by rw [← HZ.o, ← HH.o]; exact aA); have L1 := J (show w.heap.size ≤ g1 by omega); have c0 := cz_ aA 0 rfl; have c1 := cz_ aA 1 rfl; have c2 := cz_ aA 2 rfl; have c3 := cz_ aA 3 rfl; have c4 := cz_ aA 4 rfl; have c5 := cz_ aA 5 rfl; clear aI aA aB)
  | fail)
  go_ret; exact ⟨by rw [← HB.o, zW (fun h_ => by rw [← HZ.o] at h_; have aC := h_.1; cases aC)]; first | done | rfl, B1.o⟩
noncomputable def lostB (z : Zn) : Bool := @decide (Lost z) (Classical.propDecidable _)
theorem lostB_true {z : Zn} (h : Lost z) : lostB z = true := @decide_eq_true _ (Classical.propDecidable _) h
theorem za9 {z : Zn} (h : ¬ Lost z) : lostB z = false := @decide_eq_false _ (Classical.propDecidable _) h
theorem lost_calls (z : Zn) (h : Zh) (w : World) :
  Calls Try.prog 91 #[.agg (zc z h)] w fun e w' => e = .returned (.bool (lostB z)) ∧ Below w.heap.size w w' := by
 obtain ⟨z1, z2, z3, z4, z5, z6⟩ := z; obtain ⟨a1, k1, a2, k2, a3, k3, a4, k4⟩ := h; have hu63 := Try.underlying63; generalize hz : (⟨z1, z2, z3, z4, z5, z6⟩ : Zn) = Z at *
 generalize hh : (⟨a1, k1, a2, k2, a3, k3, a4, k4⟩ : Zh) = H at *
 have HZ := J hz; have HH := J hh; have hv : zc Z H = #[.int .i64 z1, .slice a1 z2.length k1, .slice a2 z3.length k2, .slice a3 z4.length k3, .slice a4 z5.length k4, .bool z6] := by rw [← hz, ← hh]; rfl
 rw [hv]; clear hv hz hh; generalize hb : lostB Z = b; have HB := J hb; clear hb; go_enter Try.func91, Try.ntmps91; cases z6
 ·go_wp2_with (first
  | ((with_reducible refine zf (N := 1) rfl ?_); refine zah 1 (cs := #[.int .i64 z1, .slice a1 z2.length k1, .slice a2 z3.length k2, .slice a3 z4.length k3, .slice a4 z5.length k4, .bool false]) (t := 63) ?_; intro g1 aC w1 aA aB; have B1 := J aB; have K1 := J (show Z6 w1 g1 Z H by rw [← HZ.o, ← HH.o]; exact aA); have L1 := J (show w.heap.size ≤ g1 by omega); have c0 := cz_ aA 0 rfl; have c1 := cz_ aA 1 rfl; have c2 := cz_ aA 2 rfl; have c3 := cz_ aA 3 rfl; have c4 := cz_ aA 4 rfl; have c5 := cz_ aA 5 rfl; clear aC aA aB)
  | fail)
  go_ret; exact ⟨by rw [← HB.o, za9 (fun h_ => by rw [← HZ.o] at h_; have aI := h_.1; cases aI)]; first | done | rfl, B1.o⟩
 ·skip
  by_cases h1 : 0 ≤ z1
  ·have q1 := eq_true h1; have q2 := decide_eq_true h1; have N1 := J h1; clear h1
   by_cases h2 : z1 ≤ 256
   ·have q3 := eq_true h2; have q4 := decide_eq_true h2; have N2 := J h2; clear h2
    by_cases aD : z2.length = 0
    ·have x0 : ((z2.length : Int) == 0) = true := by rw [aD]; rfl
     have M0 := J aD; clear aD
     by_cases aE : z3.length = 0
     ·have x1 : ((z3.length : Int) == 0) = true := by rw [aE]; rfl
      have M1 := J aE; clear aE
      by_cases aG : z4.length = 0
      ·have x2 : ((z4.length : Int) == 0) = true := by rw [aG]; rfl
       have M2 := J aG; clear aG
       by_cases aH : z5.length = 0
       ·have x3 : ((z5.length : Int) == 0) = true := by rw [aH]; rfl
        have M3 := J aH; clear aH; go_wp2_with (first
  | ((with_reducible refine zf (N := 1) rfl ?_); refine zah 1 (cs := #[.int .i64 z1, .slice a1 z2.length k1, .slice a2 z3.length k2, .slice a3 z4.length k3, .slice a4 z5.length k4, .bool true]) (t := 63) ?_; intro g1 aC w1 aA aB; have B1 := J aB; have K1 := J (show Z6 w1 g1 Z H by rw [← HZ.o, ← HH.o]; exact aA); have L1 := J (show w.heap.size ≤ g1 by omega); have c0 := cz_ aA 0 rfl; have c1 := cz_ aA 1 rfl; have c2 := cz_ aA 2 rfl; have c3 := cz_ aA 3 rfl; have c4 := cz_ aA 4 rfl; have c5 := cz_ aA 5 rfl; clear aC aA aB)
  | fail)
        go_ret; exact ⟨by rw [← HB.o, lostB_true (by rw [← HZ.o]; exact ⟨rfl, ⟨N1.o, N2.o⟩, M0.o, M1.o, M2.o, M3.o⟩)]; first | done | rfl, B1.o⟩
       ·have x3 : ((z5.length : Int) == 0) = false := beq_eq_false_iff_ne.mpr yO_; have y3 : ¬ (z5 = []) := fun h_ => aH (by rw [h_]; rfl)
        have M3 := J aH; clear aH; go_wp2_with (first
  | ((with_reducible refine zf (N := 1) rfl ?_); refine zah 1 (cs := #[.int .i64 z1, .slice a1 z2.length k1, .slice a2 z3.length k2, .slice a3 z4.length k3, .slice a4 z5.length k4, .bool true]) (t := 63) ?_; intro g1 aC w1 aA aB; have B1 := J aB; have K1 := J (show Z6 w1 g1 Z H by rw [← HZ.o, ← HH.o]; exact aA); have L1 := J (show w.heap.size ≤ g1 by omega); have c0 := cz_ aA 0 rfl; have c1 := cz_ aA 1 rfl; have c2 := cz_ aA 2 rfl; have c3 := cz_ aA 3 rfl; have c4 := cz_ aA 4 rfl; have c5 := cz_ aA 5 rfl; clear aC aA aB)
  | fail)
        go_ret; exact ⟨by rw [← HB.o, za9 (fun h_ => by rw [← HZ.o] at h_; exact M3.o h_.2.2.2.2.2)]; first | done | rfl, B1.o⟩
      ·have x2 : ((z4.length : Int) == 0) = false := beq_eq_false_iff_ne.mpr yO_; have y2 : ¬ (z4 = []) := fun h_ => aG (by rw [h_]; rfl)
       have M2 := J aG; clear aG; go_wp2_with (first
  | ((with_reducible refine zf (N := 1) rfl ?_); refine zah 1 (cs := #[.int .i64 z1, .slice a1 z2.length k1, .slice a2 z3.length k2, .slice a3 z4.length k3, .slice a4 z5.length k4, .bool true]) (t := 63) ?_; intro g1 aC w1 aA aB; have B1 := J aB; have K1 := J (show Z6 w1 g1 Z H by rw [← HZ.o, ← HH.o]; exact aA); have L1 := J (show w.heap.size ≤ g1 by omega); have c0 := cz_ aA 0 rfl; have c1 := cz_ aA 1 rfl; have c2 := cz_ aA 2 rfl; have c3 := cz_ aA 3 rfl; have c4 := cz_ aA 4 rfl; have c5 := cz_ aA 5 rfl; clear aC aA aB)
  | fail)
       go_ret; exact ⟨by rw [← HB.o, za9 (fun h_ => by rw [← HZ.o] at h_; exact M2.o h_.2.2.2.2.1)]; first | done | rfl, B1.o⟩
     ·have x1 : ((z3.length : Int) == 0) = false := beq_eq_false_iff_ne.mpr yO_; have y1 : ¬ (z3 = []) := fun h_ => aE (by rw [h_]; rfl)
      have M1 := J aE; clear aE; go_wp2_with (first
  | ((with_reducible refine zf (N := 1) rfl ?_); refine zah 1 (cs := #[.int .i64 z1, .slice a1 z2.length k1, .slice a2 z3.length k2, .slice a3 z4.length k3, .slice a4 z5.length k4, .bool true]) (t := 63) ?_; intro g1 aC w1 aA aB; have B1 := J aB; have K1 := J (show Z6 w1 g1 Z H by rw [← HZ.o, ← HH.o]; exact aA); have L1 := J (show w.heap.size ≤ g1 by omega); have c0 := cz_ aA 0 rfl; have c1 := cz_ aA 1 rfl; have c2 := cz_ aA 2 rfl; have c3 := cz_ aA 3 rfl; have c4 := cz_ aA 4 rfl; have c5 := cz_ aA 5 rfl; clear aC aA aB)
  | fail)
      go_ret; exact ⟨by rw [← HB.o, za9 (fun h_ => by rw [← HZ.o] at h_; exact M1.o h_.2.2.2.1)]; first | done | rfl, B1.o⟩
    ·have x0 : ((z2.length : Int) == 0) = false := beq_eq_false_iff_ne.mpr yO_; have y0 : ¬ (z2 = []) := fun h_ => aD (by rw [h_]; rfl)
     have M0 := J aD; clear aD; go_wp2_with (first
  | ((with_reducible refine zf (N := 1) rfl ?_); refine zah 1 (cs := #[.int .i64 z1, .slice a1 z2.length k1, .slice a2 z3.length k2, .slice a3 z4.length k3, .slice a4 z5.length k4, .bool true]) (t := 63) ?_; intro g1 aC w1 aA aB; have B1 := J aB; have K1 := J (show Z6 w1 g1 Z H by rw [← HZ.o, ← HH.o]; exact aA); have L1 := J (show w.heap.size ≤ g1 by omega); have c0 := cz_ aA 0 rfl; have c1 := cz_ aA 1 rfl; have c2 := cz_ aA 2 rfl; have c3 := cz_ aA 3 rfl; have c4 := cz_ aA 4 rfl; have c5 := cz_ aA 5 rfl; clear aC aA aB)
  | fail)
     go_ret; exact ⟨by rw [← HB.o, za9 (fun h_ => by rw [← HZ.o] at h_; exact M0.o h_.2.2.1)]; first | done | rfl, B1.o⟩
   ·have q3 := eq_false h2; have q4 := decide_eq_false h2; have N2 := J h2; clear h2; go_wp2_with (first
  | ((with_reducible refine zf (N := 1) rfl ?_); refine zah 1 (cs := #[.int .i64 z1, .slice a1 z2.length k1, .slice a2 z3.length k2, .slice a3 z4.length k3, .slice a4 z5.length k4, .bool true]) (t := 63) ?_; intro g1 aC w1 aA aB; have B1 := J aB; have K1 := J (show Z6 w1 g1 Z H by rw [← HZ.o, ← HH.o]; exact aA); have L1 := J (show w.heap.size ≤ g1 by omega); have c0 := cz_ aA 0 rfl; have c1 := cz_ aA 1 rfl; have c2 := cz_ aA 2 rfl; have c3 := cz_ aA 3 rfl; have c4 := cz_ aA 4 rfl; have c5 := cz_ aA 5 rfl; clear aC aA aB)
  | fail)
    go_ret; exact ⟨by rw [← HB.o, za9 (fun h_ => by rw [← HZ.o] at h_; have aI := h_.2.1.2; have h5_ := N2.o; simp only at aI; omega)]; first | done | rfl, B1.o⟩
  ·have q3 := eq_false h1; have q4 := decide_eq_false h1; have N2 := J h1; clear h1; go_wp2_with (first
  | ((with_reducible refine zf (N := 1) rfl ?_); refine zah 1 (cs := #[.int .i64 z1, .slice a1 z2.length k1, .slice a2 z3.length k2, .slice a3 z4.length k3, .slice a4 z5.length k4, .bool true]) (t := 63) ?_; intro g1 aC w1 aA aB; have B1 := J aB; have K1 := J (show Z6 w1 g1 Z H by rw [← HZ.o, ← HH.o]; exact aA); have L1 := J (show w.heap.size ≤ g1 by omega); have c0 := cz_ aA 0 rfl; have c1 := cz_ aA 1 rfl; have c2 := cz_ aA 2 rfl; have c3 := cz_ aA 3 rfl; have c4 := cz_ aA 4 rfl; have c5 := cz_ aA 5 rfl; clear aC aA aB)
  | fail)
   go_ret; exact ⟨by rw [← HB.o, za9 (fun h_ => by rw [← HZ.o] at h_; have aI := h_.2.1.1; have h5_ := N2.o; simp only at aI; omega)]; first | done | rfl, B1.o⟩
/-- What Check tells: 0, or 100. -/
noncomputable def zchk (z : Zn) : Int := if (goodB z || lostB z) = true then 0 else 100
theorem zcheck_calls (z : Zn) (h : Zh) (w : World) (hr : Zr w z h) (hf : Zf z) :
  Calls Try.prog 74 #[.agg (zc z h)] w fun e w' => e = .returned (.int .i64 (zchk z)) ∧ Below w.heap.size w w' := by
 obtain ⟨z1, z2, z3, z4, z5, z6⟩ := z; obtain ⟨a1, k1, a2, k2, a3, k3, a4, k4⟩ := h; have gc := fun w1 (r : Zr w1 ⟨z1, z2, z3, z4, z5, z6⟩ ⟨a1, k1, a2, k2, a3, k3, a4, k4⟩) => good_calls _ _ w1 r hf
 have lc := lost_calls ⟨z1, z2, z3, z4, z5, z6⟩ ⟨a1, k1, a2, k2, a3, k3, a4, k4⟩; unfold zchk; generalize goodB (⟨z1, z2, z3, z4, z5, z6⟩ : Zn) = p at *
 generalize lostB (⟨z1, z2, z3, z4, z5, z6⟩ : Zn) = q at *
 have HR := J hr; have GC := J gc; have LC := J lc; have hu63 := Try.underlying63; clear hr hf gc lc; have hv : zc ⟨z1, z2, z3, z4, z5, z6⟩ ⟨a1, k1, a2, k2, a3, k3, a4, k4⟩ = #[.int .i64 z1, .slice a1 z2.length k1, .slice a2 z3.length k2, .slice a3 z4.length k3, .slice a4 z5.length k4, .bool z6] := rfl; rw [hv] at GC LC ⊢; clear hv; go_enter Try.func74, Try.ntmps74
 go_wp2_with (first
  | ((with_reducible refine zf (N := 1) rfl ?_); refine zah 1 (cs := #[.int .i64 z1, .slice a1 z2.length k1, .slice a2 z3.length k2, .slice a3 z4.length k3, .slice a4 z5.length k4, .bool z6]) (t := 63) ?_; intro g1 hg_ w1 hw_ hb_; have B1 := J hb_; have K1 := J hw_; clear hg_ hw_ hb_; have c0 := cz_ K1.o 0 rfl; have c1 := cz_ K1.o 1 rfl; have c2 := cz_ K1.o 2 rfl; have c3 := cz_ K1.o 3 rfl; have c4 := cz_ K1.o 4 rfl; have c5 := cz_ K1.o 5 rfl)
  | fail)
 refine (GC.o w1 (HR.o.step B1.o)).mono ?_; rintro e_ w2 ⟨rfl, aA⟩; have B2 := J (za B1.o aA); replace K1 := J (zd K1.o aA); clear aA c0 c1 c2 c3 c4 c5; have c0 := cz_ K1.o 0 rfl; have c1 := cz_ K1.o 1 rfl; have c2 := cz_ K1.o 2 rfl; have c3 := cz_ K1.o 3 rfl; have c4 := cz_ K1.o 4 rfl; have c5 := cz_ K1.o 5 rfl; cases p
 ·go_wp2_with fail; refine (LC.o w2).mono ?_; rintro e_ w3 ⟨rfl, hb3⟩; have B3 := J (za B2.o hb3); clear hb3; cases q
  ·go_wp2_with fail; go_ret; exact ⟨rfl, B3.o⟩
  ·go_wp2_with fail; go_ret; exact ⟨rfl, B3.o⟩
 ·go_wp2_with fail; go_ret; exact ⟨by cases q <;> rfl, B2.o⟩
theorem grown_any_of {w w1 : World} (h : Below w.heap.size w w1) (b : Nat) : w.grownBy w1 (some b) := grown_of_below h (some b)
theorem set_take_any (cs : List Value) (o : Nat) (v : Value) (h : o < cs.length) : (cs.set o v).take (o + 1) = cs.take o ++ [v] := by
 rw [List.take_add_one, List.getElem?_set_self h, List.take_set, List.set_eq_of_length_le (by rw [List.length_take]; omega)]; rfl
theorem setCells_blk : ∀ (vs : List Value) (w : World) (b o : Nat) (cs : List Value) (t : TypeId), w.heap[b]? = some (.cells cs.toArray t (0, 0)) → o + vs.length ≤ cs.length →
  (w.setCells b o vs).heap[b]? = some (.cells (cs.take o ++ vs ++ cs.drop (o + vs.length)).toArray t (0, 0)) ∧ w.grownBy (w.setCells b o vs) (some b)
 | [], w, b, o, cs, t, h, hl => by
  refine ⟨?_, ⟨rfl, rfl, rfl, Nat.le_refl _, fun k _ _ => rfl⟩⟩; rw [List.append_nil, List.length_nil, Nat.add_zero, List.take_append_drop]; exact h
 | v :: vs, w, b, o, cs, t, h, hl => by
  rw [List.length_cons] at hl; have h1 := zav h o v; rw [sI_] at h1; obtain ⟨q1, q2⟩ := setCells_blk vs (w.setCell ⟨b, o, none⟩ v) b (o + 1) (cs.set o v) t h1 (by rw [List.length_set]; omega); refine ⟨?_, World.grownBy.trans (NW.zx w b o v) q2⟩; rw [World.setCells, q1]
  congr 3
  rw [set_take_any cs o v yO_, List.drop_set_of_lt yO_, List.length_cons, show o + 1 + vs.length = o + (vs.length + 1) by omega]; simp
theorem accabs_calls (w : World) (b : Nat) (n : Int) (hn : accOk (some n)) (hb : w.heap[b]? = some (.cells (zbf (some n)) 124 (0, 0))) :
  Calls Try.prog 75 #[.pointer (some ⟨b, 0, none⟩)] w fun e w' => e = .returned (.tuple #[]) ∧ w'.heap[b]? = some (.cells (zbf (some (zaS n))) 124 (0, 0)) ∧ w.grownBy w' (some b) := by
 have bd : -2 ^ 4800 ≤ n ∧ n < 2 ^ 4800 := by
  have h1 : zaS n < 2 ^ 4772 := hn; have h2 : (2 : Int) ^ 4772 ≤ 2 ^ 4800 := za3 yD_; generalize (2 : Int) ^ 4772 = P at *
  generalize (2 : Int) ^ 4800 = Q at *
  unfold zaS at h1
  split at h1 <;> omega
 have sc := fun w1 aA => size_calls w1 b n false bd.1 bd.2 aA
 have SC := J sc; have HB := J hb; clear sc bd hb hn; go_enter Try.func75, Try.ntmps75; go_wp2_with fail; refine (SC.o w HB.o).mono ?_; rintro e_ w1 ⟨rfl, aA⟩; have K1 := J (show w1.heap[b]? = some (.cells (zbf (some n)) 124 (0, 0)) from zd HB.o aA); have B1 := J aA; clear aA
 have TH := J (show w1.there b 0 (List.map (Value.int .u64) (wds (zaS n))).toArray.size from fun j hj => by
  have hj2 : j < 76 := by simpa [zak] using hj
  rw [Nat.zero_add]; refine ⟨?_, zb K1.o j⟩; rw [show w1.cell? ⟨b, j, none⟩ = (zbf (some n))[j]? from zg K1.o j, Array.getElem?_eq_getElem (by rw [zaV]; omega)]; rfl)
 go_wp2_with (first
  | ((with_reducible refine zj (t := 122) (p := 6) rfl ?_); refine wpList_store_mid rfl 122 _ _ rfl b 0 (List.map (Value.int .u64) (wds (zaS n))).toArray rfl rfl TH.o (info122a _ (zak _)) (words_one _) ?_; obtain ⟨q1, q2⟩ := setCells_blk (List.map (Value.int .u64) (wds (zaS n))) w1 b 0 ((wds n).map (Value.int .u64) ++ [Value.bool false]) 124 K1.o (by simp [zak]); have Q1 := J q1; have Q2 := J (World.grownBy.trans (grown_any_of B1.o b) q2); clear q1 q2)
  | fail)
 go_end0; refine ⟨rfl, ?_, Q2.o⟩; rw [Q1.o]; have e : (List.map (Value.int IntKind.u64) (wds (zaS n))).length = 76 := by rw [List.length_map, zak]
 show _ = some (Obj.cells (zaR (wds (zaS n)) false) 124 (0, 0))
 unfold zaR; rw [e, List.take_zero, List.nil_append, List.drop_left' (by rw [List.length_map, zak])]
theorem accbad_calls (w : World) (b : Nat) (v : Option Int) (hb : w.heap[b]? = some (.cells (zbf v) 124 (0, 0))) :
  Calls Try.prog 53 #[.pointer (some ⟨b, 0, none⟩)] w fun e w' => e = .returned (.bool v.isNone) ∧ w = w' := by
 have hc : w.cell? ⟨b, 76, none⟩ = some (.bool v.isNone) := (zg hb 76).trans (zbg v); clear hb; generalize v.isNone = p at *
 go_enter Try.func53, Try.ntmps53; go_wp2_with fail; go_ret; exact ⟨rfl, rfl⟩
def cmpI (a b : Int) : Int := if a < b then -1 else if b < a then 1 else 0
theorem isnani_calls (a : Int) (w : World) : Calls Try.prog 100 #[.int .i64 a] w fun e w' => e = .returned (.bool false) ∧ w = w' := by
 go_enter Try.func100, Try.ntmps100; go_wp2_with fail; go_ret; exact ⟨by first | rfl | simp, rfl⟩
theorem compare_calls (a b : Int) (w : World) : Calls Try.prog 89 #[.int .i64 a, .int .i64 b] w fun e w' => e = .returned (.int .i64 (cmpI a b)) ∧ w = w' := by
 have n1 := isnani_calls; generalize hr : cmpI a b = r; have HR := J hr; clear hr; go_enter Try.func89, Try.ntmps89; go_wp2_with fail; refine (n1 a w).mono ?_; rintro e_ w_ ⟨rfl, rfl⟩; go_wp2_with fail; refine (n1 b w).mono ?_; rintro e_ w_ ⟨rfl, rfl⟩
 by_cases h1 : a < b
 ·have q1 := eq_true h1; have q2 := decide_eq_true h1; have Q := J (show cmpI a b = -1 from if_pos h1); clear h1; go_wp2_with fail; go_ret; exact ⟨by rw [← HR.o, Q.o]; first | done | rfl, rfl⟩
 ·have q1 := eq_false h1; have q2 := decide_eq_false h1
  by_cases h2 : b < a
  ·have q3 := eq_true h2; have q4 := decide_eq_true h2; have Q := J (show cmpI a b = 1 by unfold cmpI; rw [if_neg h1, if_pos h2]); clear h1 h2; go_wp2_with fail; go_ret; exact ⟨by rw [← HR.o, Q.o]; first | done | rfl, rfl⟩
  ·have q3 := eq_false h2; have q4 := decide_eq_false h2; have Q := J (show cmpI a b = 0 by unfold cmpI; rw [if_neg h1, if_neg h2]); clear h1 h2; go_wp2_with fail; go_ret; exact ⟨by rw [← HR.o, Q.o]; first | done | rfl, rfl⟩
/-- Or of two. -/
theorem or_calls (g c : Nat) (x y : Int) (w : World) (h0 : w.cell? ⟨g, 0, none⟩ = some (.int .i64 x)) (h1 : w.cell? ⟨g, 1, none⟩ = some (.int .i64 y)) : Calls Try.prog 88 #[.slice (some ⟨g, 0, none⟩) 2 c] w fun e w' => e = .returned (.int .i64 (if x = 0 then y else x)) ∧ w = w' := by
 generalize hr : (if x = 0 then y else x) = r; have HR := J hr; clear hr; go_enter Try.func88, Try.ntmps88; go_wp2_with fail
 go_loopg [8] 2 (fun m v8 wr => ∃ k : Nat, v8 = .int .i64 (k : Int) ∧ ze (k + m = 2) ∧ ze ((1 ≤ k → x = 0) ∧ (2 ≤ k → y = 0)) ∧ w = wr)
 case atStart => exact ⟨0, rfl, ⟨rfl⟩, ⟨by omega, by omega⟩, rfl⟩
 case round =>
  obtain ⟨k, rfl, hm, hz, rfl⟩ := hrel; have hk : k = 0 ∨ k = 1 ∨ k = 2 := by have := hm.o; omega
  rcases hk with rfl | rfl | rfl
  ·by_cases hx : x = 0
   ·have q1 : (x != 0) = false := by rw [hx]; rfl
    have HX := J hx; clear hx; go_wp2_with fail; go_roundg (gk - 1)
    case measure => have := hm.o; omega
    case rel => exact ⟨1, rfl, ⟨by have := hm.o; omega⟩, ⟨fun _ => HX.o, by omega⟩, rfl⟩
   ·have q1 : (x != 0) = true := by rw [bne_iff_ne]; exact hx
    have HX := J hx; clear hx; go_wp2_with fail; go_ret; exact ⟨by rw [← HR.o, if_neg HX.o]; first | done | rfl, rfl⟩
  ·by_cases hx : y = 0
   ·have q1 : (y != 0) = false := by rw [hx]; rfl
    have HX := J hx; clear hx; go_wp2_with fail; go_roundg (gk - 1)
    case measure => have := hm.o; omega
    case rel => exact ⟨2, rfl, ⟨by have := hm.o; omega⟩, ⟨fun _ => hz.o.1 yO_, fun _ => HX.o⟩, rfl⟩
   ·have q1 : (y != 0) = true := by rw [bne_iff_ne]; exact hx
    have HX := J (And.intro (hz.o.1 (Nat.le_refl 1)) hx); clear hx; go_wp2_with fail; go_ret; exact ⟨by rw [← HR.o, if_pos HX.o.1]; first | done | rfl, rfl⟩
  ·have HX := J (And.intro (hz.o.1 yO_) (hz.o.2 yO_)); go_wp2_with fail; go_ret; exact ⟨by rw [← HR.o, if_pos HX.o.1, HX.o.2]; first | done | rfl, rfl⟩
/-- A score. -/
structure Sco where
 s : Int
 b : Nat
 n : Int
def heldV (x y : Sco) : Int := if sgnI (x.n - y.n) = 0 then cmpI y.s x.s else sgnI (x.n - y.n)
def Scb (w : World) (x : Sco) : Prop := w.heap[x.b]? = some (.cells (zbf (some x.n)) 124 (0, 0)) ∧ accOk (some x.n)
theorem Scb.step {w w' : World} {x : Sco} (h : Scb w x) (hb : Below w.heap.size w w') : Scb w' x := ⟨zd h.1 hb, h.2⟩
theorem held_calls (x y : Sco) (w : World) (hx : Scb w x) (hy : Scb w y) : Calls Try.prog 73 #[.agg #[.int .i64 x.s, .pointer (some ⟨x.b, 0, none⟩)], .agg #[.int .i64 y.s, .pointer (some ⟨y.b, 0, none⟩)]] w fun e w' => e = .returned (.int .i64 (heldV x y)) ∧ Below w.heap.size w w' := by
 have hu111 := Try.underlying111; obtain ⟨s, b, n⟩ := x; obtain ⟨t, c, m⟩ := y; have HX := J hx; have HY := J hy; clear hx hy; have HV := J (show heldV ⟨s, b, n⟩ ⟨t, c, m⟩ = if sgnI (n - m) = 0 then cmpI t s else sgnI (n - m) from rfl); generalize heldV ⟨s, b, n⟩ ⟨t, c, m⟩ = r at *
 go_enter Try.func73, Try.ntmps73
 go_wp2_with (first
  | ((with_reducible refine zf (N := 2) rfl ?_); refine zah 2 (cs := #[.int .i64 s, .pointer (some ⟨b, 0, none⟩)]) (t := 111) ?_; intro g2 aD w1 aB aA; have B1 := J aA; have K2 := J aB; clear aD aB aA)
  | ((with_reducible refine zf (N := 3) rfl ?_); refine zah 3 (cs := #[.int .i64 t, .pointer (some ⟨c, 0, none⟩)]) (t := 111) ?_; intro g3 aD w2 aB aA; have B2 := J (za B1.o aA); replace K2 := J (zd K2.o aA); have K3 := J aB; have d0 := cz_ K2.o 1 rfl; have d1 := cz_ K3.o 1 rfl; clear aD aB aA)
  | fail)
 have cc := cmp_calls w2 b c (some n) (some m) HX.o.2 HY.o.2 (HX.o.step B2.o).1 (HY.o.step B2.o).1; rw [show cmpR (some n) (some m) = .tuple #[.int .i64 (sgnI (n - m)), .bool true] from rfl] at cc; refine cc.mono ?_; clear cc; rintro e_ w3 ⟨rfl, aC⟩; generalize sgnI (n - m) = k at *
 have B3 := J (za B2.o aC); have c0 : w3.cell? ⟨g2, 0, none⟩ = some (.int .i64 s) := (zg (zd K2.o aC) 0).trans rfl; have c1 : w3.cell? ⟨g3, 0, none⟩ = some (.int .i64 t) := (zg (zd K3.o aC) 0).trans rfl; clear aC d0 d1; go_wp2_with fail; have pc := compare_calls t s w3; generalize cmpI t s = q at *
 refine pc.mono ?_; rintro e_ w_ ⟨rfl, rfl⟩; clear pc; go_wp2_with fail; have oc := or_calls w3.heap.size 2 k q (w3.alloc (.cells #[.int .i64 k, .int .i64 q] 3)) ((zg (blk_new w3 _) 0).trans rfl) ((zg (blk_new w3 _) 1).trans rfl); rw [← HV.o] at oc; refine oc.mono ?_; rintro e_ w_ ⟨rfl, rfl⟩; go_wp2_with fail; go_ret; exact ⟨rfl, z7 B3.o _⟩
end Go.Proofs.Ytlidbaejhmamjaa.TC
