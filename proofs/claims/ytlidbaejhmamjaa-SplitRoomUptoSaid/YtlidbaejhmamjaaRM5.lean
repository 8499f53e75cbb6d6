/- Part 5 of the proof of SplitRoomUpto: what the functions below it compute, each shown by a walk or by plain reasoning; no condition of its own. -/
import Derived.Test.YtlidbaejhmamjaaRM4
import Derived.Test.YtlidbaejhmamjaaRM1
import Derived.Test.YtlidbaejhmamjaaRM2
import Derived.Test.YtlidbaejhmamjaaRM3
set_option linter.unusedVariables false
set_option linter.unusedSimpArgs false
set_option maxHeartbeats 16000000
set_option maxRecDepth 100000
namespace Go.Proofs.Ytlidbaejhmamjaa.TC
open Go.RowKit YtlidbaejhmamjaaW.PrintWords YtlidbaejhmamjaaW.PrintLast YtlidbaejhmamjaaW.PrintMore PB LA AC LW SL NW
/-- The symbol of the first of the greatest values above 0. -/
def pks (p x : Int × Int) : Int × Int := if p.2 < x.2 then x else p
def pk (l : List (Int × Int)) : Int × Int := l.foldl pks (-1, 0)
theorem pk_app (l : List (Int × Int)) (x : Int × Int) : pk (l ++ [x]) = pks (pk l) x := by unfold pk; rw [List.foldl_append]; rfl
def sp (l : List Sco) : List (Int × Int) := l.map fun x => (x.s, x.n)
def zsc : Sco := ⟨0, 0, 0⟩
def rds (l : List Sco) (i : Nat) : Sco := l.getD i zsc
theorem rds_get {l : List Sco} {i : Nat} (h : i < l.length) : l[i]? = some (rds l i) := by
 unfold rds; rw [List.getD_eq_getElem?_getD, List.getElem?_eq_getElem h]; rfl
def Up (l : List Sco) : Prop := (∀ i j, i < j → j < l.length → (rds l i).s < (rds l j).s) ∧ ∀ x, x ∈ l → 0 ≤ x.n
def AtOk (l : List Sco) (i : Nat) (a : Int) : Prop := (i = 0 ∧ a = -1) ∨ ∃ j : Nat, j < i ∧ a = j ∧ pk (sp (l.take i)) = if 0 < (rds l j).n then ((rds l j).s, (rds l j).n) else (-1, 0)
theorem sp_take {l : List Sco} {i : Nat} (h : i < l.length) : sp (l.take (i + 1)) = sp (l.take i) ++ [((rds l i).s, (rds l i).n)] := by
 rw [take_one l i _ (rds_get h)]; unfold sp; rw [List.map_append]; rfl
theorem rds_pos {l : List Sco} (h : Up l) {i : Nat} (hi : i < l.length) : 0 ≤ (rds l i).n := h.2 _ (List.mem_of_getElem? (rds_get hi))
theorem at_first {l : List Sco} (h : Up l) (hl : 0 < l.length) : AtOk l 1 ((0 : Nat) : Int) := by
 refine .inr ⟨0, by omega, rfl, ?_⟩; rw [sp_take hl, pk_app]
 show pks (pk []) _ = _
 have := rds_pos h hl; unfold pks pk; rfl
theorem at_more {l : List Sco} (h : Up l) {i j : Nat} (hi : i < l.length) (hj : j < i) (hp : pk (sp (l.take i)) = if 0 < (rds l j).n then ((rds l j).s, (rds l j).n) else (-1, 0)) (hgt : (rds l j).n < (rds l i).n) : AtOk l (i + 1) (i : Int) := by
 refine .inr ⟨i, by omega, rfl, ?_⟩; have := rds_pos h (i := j) yO_; rw [sp_take hi, pk_app, hp, if_pos (show (0 : Int) < (rds l i).n by omega)]
 by_cases h0 : 0 < (rds l j).n
 ·rw [if_pos h0]; exact if_pos hgt
 ·rw [if_neg h0]; exact if_pos (show (0 : Int) < (rds l i).n by omega)
theorem at_same {l : List Sco} (h : Up l) {i j : Nat} (hi : i < l.length) (hj : j < i) (hp : pk (sp (l.take i)) = if 0 < (rds l j).n then ((rds l j).s, (rds l j).n) else (-1, 0)) (hgt : ¬ (rds l j).n < (rds l i).n) : AtOk l (i + 1) (j : Int) := by
 refine .inr ⟨j, by omega, rfl, ?_⟩; rw [sp_take hi, pk_app, hp]
 by_cases h0 : 0 < (rds l j).n
 ·rw [if_pos h0]; exact if_neg hgt
 ·rw [if_neg h0]; exact if_neg (show ¬ (0 : Int) < (rds l i).n by omega)
theorem heldV_pos {x y : Sco} (h : y.s < x.s) : (0 < heldV x y) ↔ y.n < x.n := by
 unfold heldV
 rcases Int.lt_trichotomy (x.n - y.n) 0 with h1 | h1 | h1
 ·rw [zbh h1, if_neg yD_]; omega
 ·rw [sgnI_zero h1, if_pos rfl]; unfold cmpI; rw [if_pos h]; omega
 ·rw [zbi h1, if_neg yD_]; omega
/-- A row of scores that is read. -/
def Sr (w : World) (A : Option Addr) (l : List Sco) : Prop := l.length ≤ 9223372036854775807 ∧ (0 < l.length → ∃ ad : Addr, A = some ad ∧ ∀ i, i < l.length → w.cell? (ad.add (i * 2)) = some (.int .i64 (rds l i).s) ∧ w.cell? ⟨(ad.add (i * 2)).block, (ad.add (i * 2)).off + 1, none⟩ = some (.pointer (some ⟨(rds l i).b, 0, none⟩))) ∧ ∀ x, x ∈ l → Scb w x
theorem Sr.step {w w' : World} {A : Option Addr} {l : List Sco} (h : Sr w A l) (hb : Below w.heap.size w w') : Sr w' A l := by
 refine ⟨h.1, fun hl => ?_, fun x hx => (h.2.2 x hx).step hb⟩; obtain ⟨ad, e, hc⟩ := h.2.1 hl; exact ⟨ad, e, fun i hi => ⟨zr hb (hc i hi).1, zr hb (hc i hi).2⟩⟩
theorem Sr.at_ {w : World} {A : Option Addr} {l : List Sco} (h : Sr w A l) {i : Nat} (hi : i < l.length) : ∃ ad : Addr, A = some ad ∧ w.cell? (ad.add (i * 2)) = some (.int .i64 (rds l i).s) ∧ w.cell? ⟨(ad.add (i * 2)).block, (ad.add (i * 2)).off + 1, none⟩ = some (.pointer (some ⟨(rds l i).b, 0, none⟩)) ∧ Scb w (rds l i) := by
 obtain ⟨ad, e, hc⟩ := h.2.1 yO_; exact ⟨ad, e, (hc i hi).1, (hc i hi).2, h.2.2 _ (List.mem_of_getElem? (rds_get hi))⟩
/-- A call through a value. -/
theorem goesv_ {P : Program} {ops : Array Oper} {Q : Exit → Act → World → Prop} {oi : Oper} {N : Option Tmp} {a : Act} {w : World} {K : Act → World → Prop} {f : FuncId} {fn : Func} {x : Operand} {xs : Array Operand} {ts : Array TypeId} (hf : P.funcs[f]? = some fn) (hname : (fn.name == "runtime.NumGoroutine") = false) (hb : fn.body.isSome = true) (args : Array Value)
  (hw : Region.wanted oi (yielded ops a.tmps) = true) (hN : oi.dst = N) (hop : oi.op = .call { callee := .value x, args := xs, argTypes := ts }) (hx : a.eval x = .func (.func f) #[] #[]) (hargs : xs.map a.eval = args)
  (h : Calls P f args w fun e w' => ∃ v, e = .returned v ∧ K (a.put N v) w') : if Region.wanted oi (yielded ops a.tmps) = true then Oper.wp P oi a w K Q else K (a.put N undef) w := by
 refine call_ f args hw hN ?_ h; have he := enters_ hf hname hb args w; unfold execOp; simp [hop, resolve, Deferred.ofValue, invoke, hx, hargs, he]
def great.T5 : Bool × List (List Nat × List Nat) := (true, [([], []), ([0], [0]), ([1], [1]), ([2], [2]), ([2], [2]), ([2], [2]), ([4, 5, 2], [2, 4, 5]), ([6, 2], [2, 6]), ([2], [2]), ([2], [2]), ([8, 9, 2], [2, 8, 9]), ([10, 2], [2, 10]), ([3, 7, 11, 2, 2], [2, 3, 7, 11]), ([12, 2], [2, 12]), ([2, 13], [2, 13])])
def great.B5 : List Nat := [0, 1, 3, 7, 7, 7, 55, 119, 7, 7, 775, 1799, 4095, 8191, 16383]
theorem great.tab5 : zbc .any (opsOf Try.f72 5) = great.T5 := by kernel_rfl
theorem great.bits5 : zal great.T5.2 great.B5 = true := by kernel_rfl
theorem greatest_calls (A : Option Addr) (c : Nat) (l : List Sco) (w : World) (hr : Sr w A l) (hu : Up l) :
  Calls Try.prog 72 #[.slice A l.length c, .func (.func 73) #[] #[]] w fun e w' => ∃ a : Int, e = .returned (.int .i64 a) ∧ AtOk l l.length a ∧ Below w.heap.size w w' := by
 have hu111 := Try.underlying111; have HR := J hr; have HU := J hu; have HN := J hr.1; clear hr hu; go_enter Try.func72, Try.ntmps72; go_wp2_with fail
 go_loopg [5, 9] l.length (fun m v5 v9 wr => ∃ (i : Nat) (a : Int), v5 = .int .i64 a ∧ v9 = .int .i64 (i : Int) ∧ ze (i + m = l.length) ∧ ze (AtOk l i a) ∧ ze (Below w.heap.size w wr))
 case atStart => exact ⟨0, -1, rfl, rfl, ⟨by omega⟩, ⟨.inl ⟨rfl, rfl⟩⟩, ⟨Below.refl _ _⟩⟩
 case round =>
  obtain ⟨i, a, rfl, rfl, hm, HA, HB⟩ := hrel
  by_cases hx : i < l.length
  ·have HI := J hx; have p1 := eq_true hx; have p2 := eq_true (show (i : Int) < (l.length : Int) by omega); have p3 := eq_true (show (0 : Int) ≤ (i : Int) by omega); obtain ⟨ad, ead, aA, aB, si⟩ := (HR.o.step HB.o).at_ hx; cases ead; have SI := J si; clear hx si
   rcases HA.o with ⟨h0, h1⟩ | ⟨j, hj, h1, hp⟩
   ·subst h1; have H0 := J (show AtOk l (i + 1) (i : Int) by rw [h0]; exact at_first HU.o (by have := HI.o; omega)); clear h0 HA; go_wp2_with fail; replace HB := J (za HB.o (zU (Below.refl wr.heap.size wr))); clear aA aB SI; refine zaw (n := 15) (S := fun w' => True) (ds := []) (bl_ 15 0) yK_ rfl rfl trivial (fun hHeld => ?_); refine zS great.tab5 great.bits5 (fun HT_ HW_ => ?_); generalize wr.drew = w9 at HB ⊢; refine pu_ 0 ?_; refine pu_ 1 ?_; refine pu_ 2 ?_; refine ps_ 3 ?_; refine ps_ 4 ?_; refine ps_ 5 ?_; refine ps_ 6 ?_; refine ps_ 7 ?_; refine ps_ 8 ?_; refine ps_ 9 ?_; refine ps_ 10 ?_; refine ps_ 11 ?_; refine ps_ 12 ?_; refine ps_ 13 ?_; refine pu_ 14 ?_; refine zaL (zad HT_.o yK_) ?_; go_wp2_with fail; go_roundg (gk - 1)
    case measure => have := hm.o; have := HI.o; omega
    case rel => exact ⟨i + 1, _, rfl, by rw [w64 _ yO_ (by have := HI.o; have := HN.o; omega)]; rfl, ⟨by have := hm.o; have := HI.o; omega⟩, ⟨H0.o⟩, HB⟩
   ·subst h1; have HJ := J hj; have HP := J hp; have j1 := eq_true (show j < l.length by have := HI.o; omega); have j2 := eq_true (show (j : Int) < (l.length : Int) by have := HI.o; omega); have j3 := eq_true (show (0 : Int) ≤ (j : Int) by omega); have j4 := eq_false (show ¬ (j : Int) < 0 by omega); have j5 := decide_eq_false (show ¬ (j : Int) < 0 by omega); obtain ⟨ad2, ead, cj0, cj1, sj⟩ := (HR.o.step HB.o).at_ (i := j) (by have := HI.o; omega); cases ead; have SJ := J sj; have HV := J (heldV_pos (HU.o.1 j i hj HI.o)); have HM := J (fun h => at_more HU.o HI.o hj hp h); have HS := J (fun h => at_same HU.o HI.o hj hp h); clear hj hp HA sj; have HC := J (show ∀ w' : World, Below wr.heap.size wr w' → w'.cell? (ad.add (i * 2)) = some (.int .i64 (rds l i).s) ∧ w'.cell? ⟨(ad.add (i * 2)).block, (ad.add (i * 2)).off + 1, none⟩ = some (.pointer (some ⟨(rds l i).b, 0, none⟩)) ∧ w'.cell? (ad.add (j * 2)) = some (.int .i64 (rds l j).s) ∧ w'.cell? ⟨(ad.add (j * 2)).block, (ad.add (j * 2)).off + 1, none⟩ = some (.pointer (some ⟨(rds l j).b, 0, none⟩)) from fun W hW => ⟨zr hW aA, zr hW aB, zr hW cj0, zr hW cj1⟩); generalize rds l i = x at *
    generalize rds l j = y at *
    have B0 := J (Below.refl wr.heap.size wr); go_wp2_with fail; replace B0 := J (zU (Below.refl wr.heap.size wr)); clear aA aB cj0 cj1; refine zaw (n := 15) (S := fun w' => w'.cell? (ad.add (i * 2)) = some (.int .i64 x.s) ∧ w'.cell? ⟨(ad.add (i * 2)).block, (ad.add (i * 2)).off + 1, none⟩ = some (.pointer (some ⟨x.b, 0, none⟩)) ∧ w'.cell? (ad.add (j * 2)) = some (.int .i64 y.s) ∧ w'.cell? ⟨(ad.add (j * 2)).block, (ad.add (j * 2)).off + 1, none⟩ = some (.pointer (some ⟨y.b, 0, none⟩))) (ds := []) (bl_ 15 0) yK_ rfl rfl ⟨(HC.o _ B0.o).1, (HC.o _ B0.o).2.1, (HC.o _ B0.o).2.2.1, (HC.o _ B0.o).2.2.2⟩ (fun hHeld => ?_); refine zS great.tab5 great.bits5 (fun HT_ HW_ => ?_); generalize wr.drew = w9 at B0 hHeld ⊢; refine pu_ 0 ?_; refine pu_ 1 ?_; refine pu_ 2 ?_; refine pu_ 3 ?_; refine pu_ 4 ?_; refine pu_ 5 ?_; refine pu_ 6 ?_; refine pu_ 8 ?_; refine pu_ 9 ?_; refine pu_ 10 ?_; refine tk_ 7 ?_; refine tk_ 11 ?_; refine on_ HT_ 12 (some 24) (bl_ 15 8191) fun K hK => ?_
    refine goesv_ Try.func73 yK_ rfl #[.agg #[.int .i64 x.s, .pointer (some ⟨x.b, 0, none⟩)], .agg #[.int .i64 y.s, .pointer (some ⟨y.b, 0, none⟩)]] (by rfl) rfl rfl (by rfl) (by (try simp only [List.map_toArray, List.map_cons, List.map_nil]); first | done | rfl) ?_; refine (held_calls x y w9 (SI.o.step B0.o) (SJ.o.step B0.o)).mono ?_; rintro e_ w8 ⟨rfl, hb⟩; refine ⟨_, rfl, ?_⟩; replace B0 := J (za B0.o hb); clear hb; generalize heldV x y = hv at *
    refine hK.out _ _ ⟨(HC.o _ B0.o).1, (HC.o _ B0.o).2.1, (HC.o _ B0.o).2.2.1, (HC.o _ B0.o).2.2.2⟩ (fun hHeld => ?_); clear hK K; refine nm_ ?_; refine pu_ 13 ?_; refine pu_ 14 ?_; refine zaL (zad HT_.o yK_) ?_; clear hHeld; replace HB := J (za HB.o B0.o); generalize hd : decide (0 < hv) = d at *
    cases d
    ·have HG := J (HS.o (by have h1_ := of_decide_eq_false hd; have h2_ := HV.o; omega)); clear hd; go_wp2_with fail; go_roundg (gk - 1)
     case measure => have := hm.o; have := HI.o; omega
     case rel => exact ⟨i + 1, _, rfl, by rw [w64 _ yO_ (by have := HI.o; have := HN.o; omega)]; rfl, ⟨by have := hm.o; have := HI.o; omega⟩, ⟨HG.o⟩, HB⟩
    ·have HG := J (HM.o (by have h1_ := of_decide_eq_true hd; have h2_ := HV.o; omega)); clear hd; go_wp2_with fail; go_roundg (gk - 1)
     case measure => have := hm.o; have := HI.o; omega
     case rel => exact ⟨i + 1, _, rfl, by rw [w64 _ yO_ (by have := HI.o; have := HN.o; omega)]; rfl, ⟨by have := hm.o; have := HI.o; omega⟩, ⟨HG.o⟩, HB⟩
  ·have p1 := eq_false hx; have p2 := eq_false (show ¬ (i : Int) < (l.length : Int) by omega); have HE := J (show AtOk l l.length a by have h := HA.o; rwa [show i = l.length by have := hm.o; omega] at h); clear hx HA hm; go_wp2_with fail; go_ret; exact ⟨_, rfl, HE.o, HB.o⟩
theorem best_of {l : List Sco} {a : Int} (h : AtOk l l.length a) : (a = -1 ∧ l = [] ∧ (pk (sp l)).1 = -1) ∨ ∃ j : Nat, j < l.length ∧ a = j ∧ (pk (sp l)).1 = if 0 < (rds l j).n then (rds l j).s else -1 := by
 rcases h with ⟨h0, h1⟩ | ⟨j, hj, h1, hp⟩
 ·have := List.length_eq_zero_iff.1 h0; subst this; exact .inl ⟨h1, rfl, rfl⟩
 ·refine .inr ⟨j, hj, h1, ?_⟩; rw [List.take_length] at hp; rw [hp]
  split <;> rfl
theorem best_calls (A : Option Addr) (c : Nat) (l : List Sco) (w : World) (hr : Sr w A l) (hu : Up l) :
  Calls Try.prog 51 #[.slice A l.length c] w fun e w' => e = .returned (.int .i64 (pk (sp l)).1) ∧ Below w.heap.size w w' := by
 have hu111 := Try.underlying111; have HR := J hr; have HU := J hu; have HN := J hr.1; clear hr hu; generalize hb : (pk (sp l)).1 = r; have HB := J hb; clear hb; go_enter Try.func51, Try.ntmps51; go_wp2_with fail; refine (greatest_calls A c l w HR.o HU.o).mono ?_; rintro e_ w1 ⟨a, rfl, ha, hb⟩; have B1 := J hb
 rcases best_of ha with ⟨h1, h2, h3⟩ | ⟨j, hj, h1, h3⟩
 ·subst h1; have H3 := J h3; clear h2 h3 ha hb; go_wp2_with fail; go_ret; exact ⟨by rw [← HB.o, H3.o]; first | done | rfl, B1.o⟩
 ·subst h1; have HJ := J hj; have H3 := J h3; have j1 := eq_true (show j < l.length from hj); have j2 := eq_true (show (j : Int) < (l.length : Int) by omega); have j3 := eq_true (show (0 : Int) ≤ (j : Int) by omega); have j4 := eq_false (show ¬ (j : Int) < 0 by omega); have j5 := decide_eq_false (show ¬ (j : Int) < 0 by omega); obtain ⟨ad, ead, cj0, cj1, sj⟩ := (HR.o.step hb).at_ hj; cases ead; have SJ := J sj; clear h3 ha hb hj sj; generalize rds l j = y at *
  go_wp2_with fail
  have bd : -2 ^ 4800 < y.n ∧ y.n < 2 ^ 4800 := by
   have h1 : zaS y.n < 2 ^ 4772 := SJ.o.2; have h2 : (2 : Int) ^ 4772 ≤ 2 ^ 4800 := za3 yD_; generalize (2 : Int) ^ 4772 = P at *
   generalize (2 : Int) ^ 4800 = Q at *
   unfold zaS at h1
   split at h1 <;> omega
  have sc := sign_calls w1 y.b y.n bd.1 bd.2 SJ.o.1; clear bd; refine sc.mono ?_; clear sc; rintro e_ w_ ⟨rfl, rfl⟩
  by_cases hp : 0 < y.n
  ·rw [zbi hp]; have H4 := J (show r = y.s by rw [← HB.o, H3.o, if_pos hp]); clear hp; go_wp2_with fail; go_ret; exact ⟨by rw [H4.o]; first | done | rfl, B1.o⟩
  ·have hq : sgnI y.n ≤ 0 := by
    by_cases h0 : y.n = 0
    ·rw [sgnI_zero h0]; decide
    ·rw [zbh yO_]; decide
   generalize sgnI y.n = s at *
   have q1 := eq_true hq; have q2 := decide_eq_true hq; have H4 := J (show r = -1 by rw [← HB.o, H3.o, if_neg hp]); clear hp hq; go_wp2_with fail; go_ret; exact ⟨by rw [H4.o]; first | done | rfl, B1.o⟩
theorem info111 : (Try.prog.info? 111).map (fun i => (i.zero, i.size, i.bytes)) = some (some (.agg #[.int .i64 0, .pointer none]), 2, 16) := by kernel_rfl
def scv (x : Sco) : List Value := [.int .i64 x.s, .pointer (some ⟨x.b, 0, none⟩)]
def scs (l : List Sco) : List Value := l.flatMap scv
theorem scs_app (l m : List Sco) : scs (l ++ m) = scs l ++ scs m := by unfold scs; rw [List.flatMap_append]
theorem scs_at : ∀ (l : List Sco) (i : Nat) (x : Sco), l[i]? = some x → (scs l)[i * 2]? = some (.int .i64 x.s) ∧ (scs l)[i * 2 + 1]? = some (.pointer (some ⟨x.b, 0, none⟩))
 | [], i, x, h => by simp at h
 | y :: l, 0, x, h => by
  obtain rfl : y = x := by simpa using h
  exact ⟨rfl, rfl⟩
 | y :: l, i + 1, x, h => by
  have := scs_at l i x (by simpa using h); have e1 : scs (y :: l) = .int .i64 y.s :: .pointer (some ⟨y.b, 0, none⟩) :: scs l := rfl; rw [e1, show (i + 1) * 2 = i * 2 + 1 + 1 by omega]; exact this
/-- A row of scores of its own. -/
structure So (w : World) (base : Nat) (v : Value) (l : List Sco) : Prop where
 own : w.ownsRow base 111 2 v l.length (scs l)
 sc : ∀ x, x ∈ l → Scb w x
theorem So.nil (w : World) (base : Nat) : So w base (.slice none 0 0) [] := ⟨World.ownsRow_nil w base 111 2, fun x hx => by simp at hx⟩
theorem So.step {w w' : World} {base : Nat} {v : Value} {l : List Sco} (h : So w base v l) (hb : Below w.heap.size w w') : So w' base v l := ⟨Own.below h.own hb, fun x hx => (h.sc x hx).step hb⟩
theorem Scb.lt {w : World} {x : Sco} (h : Scb w x) : x.b < w.heap.size := zac h.1
theorem Scb.grown {w w' : World} {row : Option Nat} {x : Sco} (h : Scb w x) (hg : w.grownBy w' row) (hne : row ≠ some x.b) : Scb w' x := ⟨zu hg h.1 (fun e => hne e.symm), h.2⟩
/-- A block that is younger than all that is told. -/
def Far (b : Nat) (v : Value) (l : List Sco) : Prop := (∀ k, v.ownBlock = some k → k ≠ b) ∧ ∀ x, x ∈ l → x.b ≠ b
theorem So.far {w : World} {base : Nat} {v : Value} {l : List Sco} (h : So w base v l) {b : Nat} (hb : w.heap.size ≤ b) : Far b v l :=
 ⟨fun k hk e => by have := (World.ownsRow.lt h.own k hk).2; omega, fun x hx e => by have := (h.sc x hx).lt; omega⟩
theorem So.put {w w' : World} {base : Nat} {v : Value} {l : List Sco} (h : So w base v l) {b : Nat} (f : Far b v l) (hg : w.grownBy w' (some b)) : So w' base v l :=
 ⟨Own.kept h.own hg (fun k hk e => f.1 k hk (Option.some.inj e).symm), fun x hx => (h.sc x hx).grown hg (fun e => f.2 x hx (Option.some.inj e).symm)⟩
theorem Scb.type {w : World} {x : Sco} (h : Scb w x) {base n size : Nat} {e : TypeId} {v : Value} {xs : List Value} (ho : w.ownsRow base e size v n xs) (he : e ≠ 124) : v.ownBlock ≠ some x.b := by
 intro hk; obtain ⟨cs, hcs⟩ := own_heap ho hk; rw [h.1] at hcs; have := Option.some.inj hcs; injection this with a1 a2 a3
 exact he a2.symm
/-- An append. -/
theorem So.app {w w' : World} {base : Nat} {v v' : Value} {l : List Sco} (h : So w base v l) (x : Sco) (hx : Scb w x) (ho : w'.ownsRow base 111 2 v' (l.length + 1) (scs l ++ scv x)) (hg : w.grownBy w' v.ownBlock) : So w' base v' (l ++ [x]) := by
 refine ⟨?_, fun y hy => ?_⟩
 ·rw [List.length_append, scs_app]
  simpa [scs] using ho
 ·rcases List.mem_append.1 hy with hy | hy
  ·exact (h.sc y hy).grown hg ((h.sc y hy).type h.own yD_)
  ·obtain rfl := List.mem_singleton.1 hy; exact hx.grown hg (hx.type h.own yD_)
theorem So.read {w : World} {base c : Nat} {A : Option Addr} {l : List Sco} (h : So w base (.slice A l.length c) l) : Sr w A l := by
 have hm : l.length ≤ 9223372036854775807 := by
  rcases h.own.2 with ⟨_, h1⟩ | ⟨g', cap', cur, he, _, _, h1, h2, _⟩
  ·omega
  ·simp only [maxLen] at h2
   omega
 refine ⟨hm, fun hl => ?_, h.sc⟩; obtain ⟨g, cap, e, _, _⟩ := h.own.form hl; injection e with e1 e2 e3
 refine ⟨⟨g, 0, none⟩, e1, fun i hi => ?_⟩; obtain ⟨q1, q2⟩ := scs_at l i _ (rds_get hi); have hc := h.own.cells (g := g) (by rw [e1]; rfl); have z0 := hc _ _ q1; have z1 := hc _ _ q2; rw [add_zero_at] at z0 z1 ⊢; exact ⟨z0, z1⟩
/-- What Prod adds. -/
def prT (x y : Nat) (n : Int) : Int := if (fs x != fs y) = true then -((fm x : Int) * fm y * P22 (fe x + fe y + n)) else (fm x : Int) * fm y * P22 (fe x + fe y + n)
theorem prodV_T (a : Int) (x y : Nat) (n : Int) (hx : fo x = true) (hy : fo y = true) (d0 : -64 ≤ n) (d1 : n ≤ 64) : prodV (some a) x y n = normA (a + prT x y n) := by
 rw [prodV_P a x y n hx hy d0 d1]; unfold prT
 split
 ·rw [Int.sub_eq_add_neg]
 ·rfl
/-- A bound of one product. -/
theorem prT_bound (x y : Nat) (n : Int) (d1 : n ≤ 64) : zaS (prT x y n) ≤ 2 ^ 4330 := by
 have hx := fm_hi x; have hy := fm_hi y; have ex := fe_in x; have ey := fe_in y; have h1 : (fm x : Int) * fm y ≤ 2 ^ 53 * 2 ^ 53 := Int.mul_le_mul yO_ yO_ yO_ yD_; have h0 : 0 ≤ (fm x : Int) * fm y := Int.mul_nonneg yO_ yO_; have h2 : P22 (fe x + fe y + n) ≤ 2 ^ 4224 := by unfold P22; exact za3 yO_
 have h3 : 0 ≤ P22 (fe x + fe y + n) := by unfold P22; exact Int.le_of_lt (zY _)
 have h4 : (fm x : Int) * fm y * P22 (fe x + fe y + n) ≤ 2 ^ 53 * 2 ^ 53 * 2 ^ 4224 := Int.mul_le_mul h1 h2 h3 yD_; rw [← Int.pow_add, ← Int.pow_add, show 53 + 53 + 4224 = 4330 by decide] at h4; have h5 : 0 ≤ (fm x : Int) * fm y * P22 (fe x + fe y + n) := Int.mul_nonneg h0 h3; unfold prT zaS; generalize (fm x : Int) * fm y * P22 (fe x + fe y + n) = q at *
 generalize (2 : Int) ^ 4330 = Q at *
 split <;> split <;> omega
/-- The sum of the products of two lists' first numbers. -/
def dotN (a b : List Nat) : Nat → Int
 | 0 => 0
 | i + 1 => dotN a b i + prT (rdn a i) (rdn b i) 0
theorem absI_add (a b : Int) : zaS (a + b) ≤ zaS a + zaS b := by unfold zaS; split <;> split <;> split <;> omega
theorem dotN_bound (a b : List Nat) : ∀ i : Nat, zaS (dotN a b i) ≤ (i : Int) * 2 ^ 4330
 | 0 => by generalize (2 : Int) ^ 4330 = p_; simp [dotN, zaS]
 | i + 1 => by
  have h1 := dotN_bound a b i; have h2 := prT_bound (rdn a i) (rdn b i) 0 yD_; have h3 := absI_add (dotN a b i) (prT (rdn a i) (rdn b i) 0)
  show zaS (dotN a b i + prT (rdn a i) (rdn b i) 0) ≤ _
  generalize (2 : Int) ^ 4330 = Q at *
  have e : ((i + 1 : Nat) : Int) * Q = (i : Int) * Q + Q := by rw [show ((i + 1 : Nat) : Int) = (i : Int) + 1 by omega, Int.add_mul, Int.one_mul]
  rw [e]
  omega
theorem small_ok {v : Int} {i : Nat} (h : zaS v ≤ (i : Int) * 2 ^ 4330) (hi : i ≤ 140737488355328) : zaS v < 2 ^ 4772 := by
 have h1 : (i : Int) * 2 ^ 4330 ≤ 2 ^ 47 * 2 ^ 4330 := Int.mul_le_mul_of_nonneg_right yO_ (Int.le_of_lt (zY _)); rw [← Int.pow_add] at h1; have h2 : (2 : Int) ^ (47 + 4330) ≤ 2 ^ 4771 := za3 yD_; have h3 : (2 : Int) ^ 4772 = 2 ^ 4771 * 2 := Int.pow_succ 2 4771; have h4 := zY 4771; rw [h3]; generalize (2 : Int) ^ (47 + 4330) = Q at *
 generalize (2 : Int) ^ 4771 = R at *
 omega
theorem normA_eq {v : Int} (h : zaS v < 2 ^ 4772) : normA v = some v := by unfold normA; exact if_pos h
theorem dot_step (a b : List Nat) (i : Nat) (hi : i < 140737488355328) (ha : fo (rdn a i) = true) (hb : fo (rdn b i) = true) : prodV (some (dotN a b i)) (rdn a i) (rdn b i) 0 = some (dotN a b (i + 1)) := by
 rw [prodV_T _ _ _ _ ha hb yD_ yD_]; exact normA_eq (small_ok (i := i + 1) (dotN_bound a b (i + 1)) yO_)
theorem dot_ok (a b : List Nat) (i : Nat) (hi : i ≤ 140737488355328) : accOk (some (dotN a b i)) := small_ok (dotN_bound a b i) hi
/-- The columns' scores. -/
def colsN (z : Zn) (a : List Nat) (k : Int) : Nat → List (Int × Int)
 | 0 => []
 | c + 1 => colsN z a k c ++ (if rd z.ids (c : Int) < k then [(rd z.ids (c : Int), zaS (dotN a (rdl z.G c) (rdl z.G c).length))] else [])
/-- Ids rise: they are few. -/
theorem ids_ge {z : Zn} (h : Good z) : ∀ k : Nat, k < z.ids.length → (k : Int) ≤ rd z.ids (k : Int)
 | 0, hk => (h.2.2.2.2.2.2 0 hk).1.1
 | k + 1, hk => by
  have h1 := ids_ge h k yO_; have h2 := (h.2.2.2.2.2.2 (k + 1) hk).2.1 yO_; rw [show k + 1 - 1 = k by omega] at h2
  omega
theorem ids_len {z : Zn} (h : Good z) : z.ids.length ≤ 1073741825 := by
 apply Classical.byContradiction
 intro hc; have h1 := ids_ge h (z.ids.length - 1) yO_; have h2 := (h.2.2.2.2.2.2 (z.ids.length - 1) yO_).1.2
 omega
theorem ids_lt {z : Zn} (h : Good z) : ∀ (d k : Nat), k + d + 1 < z.ids.length → rd z.ids (k : Int) < rd z.ids ((k + d + 1 : Nat) : Int)
 | 0, k, hk => by
  have h2 := (h.2.2.2.2.2.2 (k + 1) yO_).2.1 yO_
  rwa [show k + 1 - 1 = k by omega] at h2
 | d + 1, k, hk => by
  have h1 := ids_lt h d k yO_; have h2 := (h.2.2.2.2.2.2 (k + (d + 1) + 1) yO_).2.1 yO_; rw [show k + (d + 1) + 1 - 1 = k + d + 1 by omega] at h2
  omega
theorem rowB_iff {us : List Nat} {n : Int} (h : rowB us n = true) : (∀ i, i < us.length → fo (rdn us i) = true) ∧ (us.length : Int) = n := by
 unfold rowB at h; rw [Bool.and_eq_true] at h; refine ⟨fun i hi => List.all_eq_true.1 h.1 _ (List.mem_of_getElem? (rdn_get hi)), of_decide_eq_true h.2⟩
/-- Rising scores, one more. -/
theorem Up.nil : Up [] := ⟨fun i j _ h => by simp at h, fun x hx => by simp at hx⟩
theorem Up.app {l : List Sco} (h : Up l) (x : Sco) (hx : 0 ≤ x.n) (hl : ∀ y, y ∈ l → y.s < x.s) : Up (l ++ [x]) := by
 refine ⟨fun i j hij hj => ?_, fun y hy => ?_⟩
 ·rw [List.length_append, List.length_singleton] at hj
  have el : ∀ k, k < l.length → rds (l ++ [x]) k = rds l k := fun k hk => by
   unfold rds; rw [List.getD_eq_getElem?_getD, List.getD_eq_getElem?_getD, List.getElem?_append_left hk]
  by_cases e : j = l.length
  ·have e2 : rds (l ++ [x]) j = x := by
    unfold rds; rw [List.getD_eq_getElem?_getD, e, List.getElem?_append_right (Nat.le_refl _), Nat.sub_self]; rfl
   rw [e2, el i yO_]; exact hl _ (List.mem_of_getElem? (rds_get yO_))
  ·rw [el i yO_, el j yO_]; exact h.1 i j hij yO_
 ·rcases List.mem_append.1 hy with hy | hy
  ·exact h.2 y hy
  ·obtain rfl := List.mem_singleton.1 hy; exact hx
theorem sp_app (l : List Sco) (x : Sco) : sp (l ++ [x]) = sp l ++ [(x.s, x.n)] := by unfold sp; rw [List.map_append]; rfl
noncomputable def seenV (z : Zn) (a : List Nat) (k : Int) : List (Int × Int) := if (goodB z && decide ((a.length : Int) = z.N + 1) && a.all fo) = true then colsN z a k z.ids.length else []
theorem Sr.nil (w : World) : Sr w none [] := ⟨by decide, fun h => absurd h yD_, fun x hx => by simp at hx⟩
theorem exp_fo (u : Nat) : fo u = !(u / 4503599627370496 % 2048 == 2047) := by
 unfold fo fnum
 by_cases h : u / 4503599627370496 % 2048 = 2047
 ·rw [if_pos h, h]; rfl
 ·rw [if_neg h, beq_eq_false_iff_ne.mpr h]
  split <;> rfl
theorem exp_and (u : Nat) (hu : u < 18446744073709551616) : bits .and .u64 ((u : Int) / 4503599627370496) 2047 = ((u / 4503599627370496 % 2048 : Nat) : Int) := by
 rw [and_2047 _ yO_ yO_]; omega
theorem seen_calls (z : Zn) (h : Zh) (A : Option Addr) (c : Nat) (a : List Nat) (k : Int) (w : World) (hr : Zr w z h) (hf : Zf z) (ha : kf.C w A a.length a) (hwa : Wf a) (hn : a.length ≤ 140737488355328) :
  Calls Try.prog 52 #[.agg (zc z h), .slice A a.length c, .int .i64 k] w fun e w' => ∃ B d l, e = .returned (.slice B (l : List Sco).length d) ∧ Sr w' B l ∧ Up l ∧ sp l = seenV z a k ∧ Below w.heap.size w w' := by
 have hu63 := Try.underlying63; have hu111 := Try.underlying111; have HF := J hf; have HR := J hr; have HA := J ha; have HWA := J hwa; have HN := J hn; clear hf ha hwa hn; obtain ⟨Z, hz⟩ : ∃ Z, Z = z := ⟨_, rfl⟩
 obtain ⟨H, hh⟩ : ∃ H, H = h := ⟨_, rfl⟩
 obtain ⟨z1, z2, z3, z4, z5, z6⟩ := z; obtain ⟨a1, k1, a2, k2, a3, k3, a4, k4⟩ := h; rw [← hz, ← hh] at hr HR; rw [← hz] at HF; rw [← hz, ← hh]; have HZ := J hz; have HH := J hh; have hv : zc Z H = #[.int .i64 z1, .slice a1 z2.length k1, .slice a2 z3.length k2, .slice a3 z4.length k3, .slice a4 z5.length k4, .bool z6] := by rw [hz, hh]; rfl
 rw [hv]; clear hv; clear hz hh hr; go_enter Try.func52, Try.ntmps52
 go_wp2_with (first
  | ((with_reducible refine zf (N := 3) rfl ?_); refine zah 3 (cs := #[.int .i64 z1, .slice a1 z2.length k1, .slice a2 z3.length k2, .slice a3 z4.length k3, .slice a4 z5.length k4, .bool z6]) (t := 63) ?_; intro g1 hg_ w1 hw_ hb_; have B1 := J hb_; have K1 := J hw_; have L1 := J (show w.heap.size ≤ g1 by omega); clear hg_ hw_ hb_; have c0 := cz_ K1.o 0 rfl; have c1 := cz_ K1.o 1 rfl; have c2 := cz_ K1.o 2 rfl; have c3 := cz_ K1.o 3 rfl; have c4 := cz_ K1.o 4 rfl; have c5 := cz_ K1.o 5 rfl)
  | fail)
 have zcc := zcheck_calls Z H w1 (HR.o.step B1.o) HF.o; rw [show zc Z H = #[.int .i64 z1, .slice a1 z2.length k1, .slice a2 z3.length k2, .slice a3 z4.length k3, .slice a4 z5.length k4, .bool z6] by rw [HZ.o, HH.o]; rfl] at zcc; refine zcc.mono ?_; clear zcc; rintro e_ w2 ⟨rfl, aC⟩; replace K1 := J (zd K1.o aC); have B2 := J (za B1.o aC); clear aC c0 c1 c2 c3 c4 c5; have c0 := cz_ K1.o 0 rfl; have c1 := cz_ K1.o 1 rfl; have c2 := cz_ K1.o 2 rfl; have c3 := cz_ K1.o 3 rfl; have c4 := cz_ K1.o 4 rfl; have c5 := cz_ K1.o 5 rfl
 by_cases hG : goodB Z = true
 ·have GG := J (goodB_iff.1 hG); rw [show zchk Z = 0 by unfold zchk; rw [hG]; rfl]; obtain rfl : z6 = false := by have := GG.o.1; rw [HZ.o] at this; exact this
  have N1 := J (show 1 ≤ z1 ∧ z1 ≤ 256 by have := GG.o.2.1; rw [HZ.o] at this; exact this); have hw1 : wrap64 (z1 + 1) = z1 + 1 := w64 _ (by have := N1.o; omega) (by have := N1.o; omega); have aA := J hG; clear hG
  by_cases hl : (a.length : Int) = z1 + 1
  ·have q1 : ((a.length : Int) != z1 + 1) = false := bne_eq_false_iff_eq.mpr hl; have HL := J hl; clear hl; go_wp2_with fail; clear hw1
   go_loopg [32] a.length (fun m v32 wr => ∃ (x : Nat), v32 = .int .i64 (x : Int) ∧ ze (x + m = a.length) ∧ ze ((a.take x).all fo = true) ∧ w2 = wr)
   case atStart => exact ⟨0, rfl, ⟨by omega⟩, ⟨rfl⟩, rfl⟩
   case round =>
    obtain ⟨x, rfl, hm, HT, rfl⟩ := hrel
    by_cases hx : x < a.length
    ·have HX := J hx; have p1 := eq_true hx; have p2 := eq_true (show (x : Int) < (a.length : Int) by omega); have p3 := eq_true (show (0 : Int) ≤ (x : Int) by omega); have hux := wf_rdn HWA.o x; obtain ⟨ad, ead, hc0⟩ := at_kf (Kd.zm HA.o B2.o) x hx; cases ead; have HQ := J (fun h => all_step (f := fo) HT.o hx h); have HF0 := J (fun h => all_not (f := fo) hx h); clear hx; generalize rdn a x = u at *
     have he := exp_and u hux; have hfo := exp_fo u; generalize u / 4503599627370496 % 2048 = e at *
     go_wp2_with fail; refine (bits_calls u w2).mono ?_; rintro e_ w_ ⟨rfl, rfl⟩
     by_cases h7 : e = 2047
     ·have h8 : ((e : Int) == 2047) = true := by rw [h7]; rfl
      have HE := J (HF0.o (by rw [hfo, h7]; rfl)); clear h7 hfo; go_wp2_with fail; go_ret; exact ⟨none, 0, [], rfl, Sr.nil _, Up.nil, by unfold seenV; rw [if_neg (by rw [HE.o, Bool.and_false]; decide)]; rfl, B2.o⟩
     ·have h8 : ((e : Int) == 2047) = false := beq_eq_false_iff_ne.mpr yO_; have HE := J (HQ.o (by rw [hfo, beq_eq_false_iff_ne.mpr h7]; rfl)); clear h7 hfo; go_wp2_with fail; go_roundg (gk - 1)
      case measure => have := hm.o; have := HX.o; omega
      case rel => exact ⟨x + 1, by rw [w64 _ yO_ (by have := HX.o; have := HN.o; omega)]; rfl, ⟨by have := hm.o; have := HX.o; omega⟩, HE, rfl⟩
    ·have p1 := eq_false hx; have p2 := eq_false (show ¬ (x : Int) < (a.length : Int) by omega); have HAF := J (show a.all fo = true by have h := HT.o; rwa [List.take_of_length_le (show a.length ≤ x by omega)] at h); clear hx hm HT; have EI := J (show Z.ids = z3 by rw [HZ.o]); have EG := J (show Z.G = z4 by rw [HZ.o]); have EN := J (show Z.N = z1 by rw [HZ.o]); have R2 := J (show Rd w2 a2 k2 z3 by have h := (HR.o.step B2.o).r2; rw [HZ.o, HH.o] at h; exact h); have R3 := J (show kff.C w2 a3 z4.length z4 by have h := (HR.o.step B2.o).r3; rw [HZ.o, HH.o] at h; exact h); have NI := J (show z3.length ≤ 1073741825 by have h := ids_len GG.o; rwa [EI.o] at h); have NG := J (show z3.length = z4.length by have h := GG.o.2.2.2.2.1; rwa [EI.o, EG.o] at h); go_wp2_with fail
     go_loopg [7, 45] z3.length (fun m v7 v45 wr => ∃ (n : Nat) (l : List Sco) (B : Option Addr) (d : Nat), v7 = .slice B l.length d ∧ v45 = .int .i64 (n : Int) ∧ ze (n + m = z3.length) ∧ ze (So wr w2.heap.size (.slice B l.length d) l) ∧ ze (l.length ≤ n ∧ Up l ∧ sp l = colsN Z a k n ∧ ∀ y, y ∈ l → ∀ j : Nat, n ≤ j → j < z3.length → y.s < rd z3 (j : Int)) ∧ ze (Below w2.heap.size w2 wr))
     case atStart => exact ⟨0, [], none, 0, rfl, rfl, ⟨by omega⟩, ⟨So.nil _ _⟩, ⟨Nat.le_refl 0, Up.nil, rfl, fun y hy => by simp at hy⟩, ⟨Below.refl _ _⟩⟩
     case round =>
      obtain ⟨n, l, B, d, rfl, rfl, hm, SO, HI, HB⟩ := hrel
      by_cases hx : n < z3.length
      ·have HX := J hx; have p3 := eq_true hx; have p4 := eq_true (show (n : Int) < (z3.length : Int) by omega); have p5 := eq_true (show (0 : Int) ≤ (n : Int) by omega); have p6 := eq_true (show n < z4.length by have := NG.o; omega); have p7 := eq_true (show (n : Int) < (z4.length : Int) by have := NG.o; omega); obtain ⟨ai, eai, hci⟩ := Kd.zQ (R2.o.step HB.o).row (n : Int) yO_ yO_; cases eai; rw [Int.toNat_natCast] at hci; have HGD := J (show IdOk Z n from GG.o.2.2.2.2.2.2 n (by rw [EI.o]; exact hx)); have HUP := J (show ∀ j : Nat, n < j → j < z3.length → rd z3 (n : Int) < rd z3 (j : Int) from fun j h1 h2 => by have h := ids_lt GG.o (j - n - 1) n (by rw [EI.o]; omega); rwa [show n + (j - n - 1) + 1 = j by omega, EI.o] at h); have HSL := J (show ∀ y, y ∈ l → y.s < rd z3 (n : Int) from fun y hy => HI.o.2.2.2 y hy n (Nat.le_refl n) hx); clear hx; have HCOL := J (show colsN Z a k (n + 1) = colsN Z a k n ++ (if rd z3 (n : Int) < k then [(rd z3 (n : Int), zaS (dotN a (rdl z4 n) (rdl z4 n).length))] else []) by show colsN Z a k n ++ _ = _; rw [EI.o, EG.o]); have HROW := J (show (∀ i, i < (rdl z4 n).length → fo (rdn (rdl z4 n) i) = true) ∧ ((rdl z4 n).length : Int) = z1 by have h := rowB_iff HGD.o.2.2; rwa [EG.o, EN.o] at h); have HWF := J (show Wf (rdl z4 n) by have h := wf_rdl HF.o.G n; rwa [EG.o] at h); generalize hid : rd z3 (n : Int) = id at *
       clear hid
       by_cases hk : k ≤ id
       ·have k1_ := eq_true hk; have k2_ := decide_eq_true hk; have k3_ := decide_eq_true (show id ≥ k from hk); have HK := J hk; clear hk; clear c0 c1 c2 c3 c4 c5; go_wp2_with fail; go_roundg (gk - 1)
        case measure => have := hm.o; have := HX.o; omega
        case rel => exact ⟨n + 1, l, B, d, rfl, by rw [w64 _ yO_ (by have := HX.o; have := NI.o; omega)]; rfl, ⟨by have := hm.o; have := HX.o; omega⟩, SO, ⟨by have := HI.o.1; omega, HI.o.2.1, by rw [HCOL.o, if_neg (by have := HK.o; omega), List.append_nil]; exact HI.o.2.2.1, fun y hy j h1 h2 => HI.o.2.2.2 y hy j yO_ h2⟩, HB⟩
       ·have k1_ := eq_false hk; have k2_ := decide_eq_false hk; have k3_ := decide_eq_false (show ¬ id ≥ k from hk); have HK := J (show id < k by omega); clear hk; clear c0 c1 c2 c3 c4 c5; go_wp2_with fail; refine (new_calls wr).mono ?_; rintro e_ w3 ⟨b, rfl, hbs, hbk, aD⟩; have FAR := J (SO.o.far hbs); have LB := J (show w2.heap.size ≤ b by have := HB.o.size; omega); replace SO := J (SO.o.step aD); replace HB := J (za HB.o aD); have KB := J (show w3.heap[b]? = some (.cells (zbf (some (dotN a (rdl z4 n) 0))) 124 (0, 0)) from hbk); clear hbs hbk aD hci; obtain ⟨ag, Ak, ck, eag, aB, _, hrk⟩ := at_kff R3.o n (by have := NG.o; have := HX.o; omega); cases eag; have hcg := zr HB.o aB; have c3 : w3.cell? ⟨g1, 3, none⟩ = some (.slice (some ag) z4.length k3) := (zg (zd K1.o HB.o) 3).trans rfl; have HRK := J hrk; clear hrk; generalize hus : rdl z4 n = us at *
        clear hus; go_wp2_with fail; clear hcg aB c3
        go_loopg [60] us.length (fun m v60 wr => ∃ (i : Nat), v60 = .int .i64 (i : Int) ∧ ze (i + m = us.length) ∧ ze (wr.heap[b]? = some (.cells (zbf (some (dotN a us i))) 124 (0, 0))) ∧ ze (So wr w2.heap.size (.slice B l.length d) l) ∧ ze (Below w2.heap.size w2 wr))
        case atStart => exact ⟨0, rfl, ⟨by omega⟩, KB, SO, HB⟩
        case round =>
         obtain ⟨i, rfl, hmi, KI, SI, BI⟩ := hrel
         by_cases hx : i < us.length
         ·have HXI := J hx; have r1 := eq_true hx; have r2 := eq_true (show (i : Int) < (us.length : Int) by omega); have r3 := eq_true (show (0 : Int) ≤ (i : Int) by omega); have HAL := J (show us.length < a.length by have := HROW.o.2; have := HL.o; omega); have r4 := eq_true (show i < a.length by have := HAL.o; omega); have r5 := eq_true (show (i : Int) < (a.length : Int) by have := HAL.o; omega); obtain ⟨au, eau, hcu⟩ := at_kf (Kd.zm HRK.o BI.o) i hx; cases eau; obtain ⟨aa, eaa, hca⟩ := at_kf (Kd.zm (Kd.zm HA.o B2.o) BI.o) i (by have := HAL.o; omega); cases eaa; have DS := J (dot_step a us i (by have := HAL.o; have := HN.o; omega) (List.all_eq_true.1 HAF.o _ (List.mem_of_getElem? (rdn_get (by have := HAL.o; omega)))) (HROW.o.1 i hx)); have DO := J (dot_ok a us i (by have := HAL.o; have := HN.o; omega)); have XU := J (wf_rdn HWA.o i); have YU := J (wf_rdn HWF.o i); clear hx; generalize rdn a i = x_ at *
          generalize rdn us i = y_ at *
          go_wp2_with fail; refine (prod_calls wr b (some (dotN a us i)) x_ y_ 0 XU.o YU.o DO.o KI.o).mono ?_; rintro e_ w5 ⟨rfl, h5, g5⟩; rw [DS.o] at h5; have K5 := J h5; replace SI := J (SI.o.put FAR.o g5); replace BI := J (BI.o.grown g5 BI.o.size (fun k_ aE => by cases aE; exact LB.o)); clear h5 g5 hcu hca; go_wp2_with fail; go_roundg (gk - 1)
          case measure => have := hmi.o; have := HXI.o; omega
          case rel => exact ⟨i + 1, by rw [w64 _ yO_ (by have := HXI.o; have := HAL.o; have := HN.o; omega)]; rfl, ⟨by have := hmi.o; have := HXI.o; omega⟩, K5, SI, BI⟩
         ·have r1 := eq_false hx; have r2 := eq_false (show ¬ (i : Int) < (us.length : Int) by omega); obtain rfl : i = us.length := by have := hmi.o; omega
          clear hx hmi; go_wp2_with fail; have DO := J (dot_ok a us us.length (by have := HROW.o.2; have := N1.o; omega)); refine (accabs_calls wr b _ DO.o KI.o).mono ?_; rintro e_ w6 ⟨rfl, h6, g6⟩; have XS := J (show Scb w6 ⟨id, b, zaS (dotN a us us.length)⟩ from ⟨h6, show zaS (zaS (dotN a us us.length)) < 2 ^ 4772 by rw [absI_pos (absI_lo _)]; exact DO.o⟩); replace SI := J (SI.o.put FAR.o g6); replace BI := J (BI.o.grown g6 BI.o.size (fun k_ aE => by cases aE; exact LB.o)); clear h6 g6; have LL := J (show (l.length + 1) * 16 ≤ 140737488355328 ∧ l.length + 1 ≤ 17592186044416 by have := HI.o.1; have := HX.o; have := NI.o; omega); generalize habs : zaS (dotN a us us.length) = dv at *
          have HAB := J habs; clear habs; go_wp2_with (first
 | ((with_reducible refine zf (N := 80) rfl ?_); refine app_event (w := w6.alloc (.cells #[.int .i64 id, .pointer (some ⟨b, 0, none⟩)] 111)) (base := w2.heap.size) (t := 108) (e := 111) (v := .slice B l.length d) (news := [.int .i64 id, .pointer (some ⟨b, 0, none⟩)]) rfl _ _ rfl Try.underlying108 info111 rfl yD_ rfl (SI.o.own.alloc _) rfl rfl yD_ (World.news_of_block (cs := #[.int .i64 id, .pointer (some ⟨b, 0, none⟩)]) (heap_alloc_new _ _)) (by simp [Value.oneCell']) (Nat.le_trans LL.o.2 yD_) LL.o.1 (Nat.le_trans BI.o.size (by simp)) ?_; intro v7 w7 ho alt; have GA := World.grownBy.trans (World.grownBy_alloc w6 (.cells #[.int .i64 id, .pointer (some ⟨b, 0, none⟩)] 111) _) (grow_any alt); obtain ⟨B2_, d2, rfl⟩ := own_form ho; have SN := J (SI.o.app ⟨id, b, dv⟩ XS.o ho GA); have BN := J (BI.o.grown GA BI.o.size (own_base SI.o.own)); clear GA alt ho)
 | fail)
          go_roundg (z3.length - n - 1)
          case measure => have := hm.o; have := HX.o; omega
          case rel =>
           refine ⟨n + 1, l ++ [⟨id, b, dv⟩], B2_, d2, by rw [List.length_append]; rfl, by rw [w64 _ yO_ (by have := HX.o; have := NI.o; omega)]; rfl, ⟨by have := hm.o; have := HX.o; omega⟩, ⟨by have h := SN.o; rwa [show l.length + 1 = (l ++ [(⟨id, b, dv⟩ : Sco)]).length by rw [List.length_append]; rfl] at h⟩, ⟨by rw [List.length_append]; have := HI.o.1; simp; omega, HI.o.2.1.app _ (by rw [← HAB.o]; exact absI_lo _) HSL.o, by rw [sp_app, HCOL.o, if_pos HK.o, HI.o.2.2.1], fun y hy j h1 h2 => ?_⟩, BN⟩
           rcases List.mem_append.1 hy with hy | hy
           ·exact HI.o.2.2.2 y hy j yO_ h2
           ·obtain rfl := List.mem_singleton.1 hy; exact HUP.o j yO_ h2
      ·have p3 := eq_false hx; have p4 := eq_false (show ¬ (n : Int) < (z3.length : Int) by omega); obtain rfl : n = z3.length := by have := hm.o; omega
       clear hx hm; go_wp2_with fail; go_ret; exact ⟨B, d, l, rfl, SO.o.read, HI.o.2.1, by unfold seenV; rw [if_pos (by rw [aA.o, HAF.o, EN.o, decide_eq_true HL.o]; rfl), EI.o]; exact HI.o.2.2.1, za B2.o HB.o⟩
  ·have q1 : ((a.length : Int) != z1 + 1) = true := by rw [bne_iff_ne]; exact hl
   have HL := J hl; clear hl; go_wp2_with fail; go_ret; exact ⟨none, 0, [], rfl, Sr.nil _, Up.nil, by unfold seenV; rw [if_neg (by rw [HZ.o]; simp only; rw [decide_eq_false HL.o, Bool.and_false, Bool.false_and]; decide)]; rfl, B2.o⟩
 ·have aA := J (show goodB Z = false by simpa using hG)
  cases hL : lostB Z
  ·rw [show zchk Z = 100 by unfold zchk; rw [aA.o, hL]; rfl]; clear hG hL; go_wp2_with fail; go_ret; exact ⟨none, 0, [], rfl, Sr.nil _, Up.nil, by unfold seenV; rw [if_neg (by rw [aA.o, Bool.false_and, Bool.false_and]; decide)]; rfl, B2.o⟩
  ·rw [show zchk Z = 0 by unfold zchk; rw [aA.o, hL]; rfl]
   obtain rfl : z6 = true := by
    have h : Lost Z := by apply Classical.byContradiction; intro h; rw [za9 h] at hL; cases hL
    have := h.1; rw [HZ.o] at this; exact this
   clear hG hL; go_wp2_with fail; go_ret; exact ⟨none, 0, [], rfl, Sr.nil _, Up.nil, by unfold seenV; rw [if_neg (by rw [aA.o, Bool.false_and, Bool.false_and]; decide)]; rfl, B2.o⟩
theorem neg_n (u : Nat) (hu : u < 18446744073709551616) : Op.negFloat .f64 u = nF u := by
 have e : Op.negFloat .f64 u = u ^^^ 9223372036854775808 := rfl; rw [e, xor63 u hu]; rfl
theorem nF_fields (u : Nat) (hu : u < 18446744073709551616) (h : fo u = true) : fo (nF u) = true ∧ fm (nF u) = fm u ∧ fe (nF u) = fe u ∧ fs (nF u) = !fs u := by
 have e := nF_num u hu; unfold fo at h
 cases hf : fnum u with
 | none => rw [hf] at h; cases h
 | some r =>
  obtain ⟨s, m, x⟩ := r; rw [hf] at e; obtain ⟨p0, p1, p2, p3⟩ := of_fnum hf; obtain ⟨q0, q1, q2, q3⟩ := of_fnum (e : fnum (nF u) = some (!s, m, x)); exact ⟨q0, by rw [q2, p2], by rw [q3, p3], by rw [q1, p1]⟩
theorem nF_none (u : Nat) (hu : u < 18446744073709551616) (h : fo u = false) : fo (nF u) = false := by
 have e := nF_num u hu; unfold fo at h ⊢
 cases hf : fnum u with
 | none => rw [hf] at e; rw [e]; rfl
 | some r => rw [hf] at h; cases h
theorem nan_none (t : Nat) : fo ((t % 2) * 2 ^ 63 + 0x7ff0000000000000 + 1 + (t / 2) % (2 ^ 52 - 1)) = false := by
 rw [exp_fo]; have e1 : (2 : Nat) ^ 63 = 9223372036854775808 := by decide
 have e2 : (2 : Nat) ^ 52 - 1 = 4503599627370495 := by decide
 have e3 : (0x7ff0000000000000 : Nat) = 9218868437227405312 := by decide
 rw [e1, e2, e3]; have : t / 2 % 4503599627370495 < 4503599627370495 := Nat.mod_lt _ yD_; generalize t / 2 % 4503599627370495 = r at *
 have : t % 2 = 0 ∨ t % 2 = 1 := by omega
 rw [show ((t % 2) * 9223372036854775808 + 9218868437227405312 + 1 + r) / 4503599627370496 % 2048 = 2047 by omega]; rfl
theorem nan_lt (t : Nat) : (t % 2) * 2 ^ 63 + 0x7ff0000000000000 + 1 + (t / 2) % (2 ^ 52 - 1) < 18446744073709551616 := by
 have e1 : (2 : Nat) ^ 63 = 9223372036854775808 := by decide
 have e2 : (2 : Nat) ^ 52 - 1 = 4503599627370495 := by decide
 have e3 : (0x7ff0000000000000 : Nat) = 9218868437227405312 := by decide
 rw [e1, e2, e3]; have : t / 2 % 4503599627370495 < 4503599627370495 := Nat.mod_lt _ yD_
 omega
/-- u or what stands for its size. -/
def Mx (u m : Nat) : Prop := m < 18446744073709551616 ∧ fo m = fo u ∧ (fo u = true → fm m = fm u ∧ fe m = fe u ∧ (fs m = false ∨ fm u = 0))
theorem nan_cut (u v t : Nat) : (Question.nanMinMax .f64 true u v).cut t < 18446744073709551616 ∧ fo ((Question.nanMinMax .f64 true u v).cut t) = false := by
 unfold Question.cut; exact ⟨nan_lt t, nan_none t⟩
theorem max2_lt (P : Program) (x y : Nat) (W : World) (h : FloatKind.f64.format.order x y = some .lt) : (Builtin.max2 (.float .f64 x) (.float .f64 y)).run P W = .ok (.float .f64 y) W := by simp only [Builtin.max2, h, Sem.run_pure]
theorem max2_gt (P : Program) (x y : Nat) (W : World) (h : FloatKind.f64.format.order x y = some .gt) : (Builtin.max2 (.float .f64 x) (.float .f64 y)).run P W = .ok (.float .f64 x) W := by simp only [Builtin.max2, h, Sem.run_pure]
theorem max2_eqt (P : Program) (x y : Nat) (W : World) (h : FloatKind.f64.format.order x y = some .eq) (hb : (FloatKind.f64.decode x).neg = true) : (Builtin.max2 (.float .f64 x) (.float .f64 y)).run P W = .ok (.float .f64 y) W := by simp only [Builtin.max2, h, Sem.run_pure, hb, if_true]
theorem max2_eqf (P : Program) (x y : Nat) (W : World) (h : FloatKind.f64.format.order x y = some .eq) (hb : (FloatKind.f64.decode x).neg = false) : (Builtin.max2 (.float .f64 x) (.float .f64 y)).run P W = .ok (.float .f64 x) W := by simp only [Builtin.max2, h, Sem.run_pure, hb, Bool.false_eq_true, if_false]
theorem max2_none (P : Program) (x y : Nat) (W : World) (h : FloatKind.f64.format.order x y = none) : (Builtin.max2 (.float .f64 x) (.float .f64 y)).run P W = .ok (.float .f64 ((Question.nanMinMax .f64 true x y).cut (W.tape W.drawn (.nanMinMax .f64 true x y)))) W.drew := by
 simp only [Builtin.max2, h, Sem.run_bind, run_choose_drew, Question.forced, Bool.false_eq_true, if_false, Sem.run_pure, Result.andThen_ok]
theorem mx_run (P : Program) (ts : Array TypeId) (ty : TypeId) (u : Nat) (hu : u < 18446744073709551616) (W : World) : ∃ m W1, (Builtin.max_ ts ty #[.float .f64 u, .float .f64 (nF u)]).run P W = .ok (.float .f64 m) W1 ∧ Mx u m ∧ (W1 = W ∨ W1 = W.drew) := by
 have hrun : (Builtin.max_ ts ty #[.float .f64 u, .float .f64 (nF u)]).run P W = (Builtin.max2 (.float .f64 u) (.float .f64 (nF u))).run P W := by
  show (List.foldlM Builtin.max2 (Value.float .f64 u) [.float .f64 (nF u)]).run P W = _
  simp [List.foldlM]
 rw [hrun]; have bad : ∀ m, m < 18446744073709551616 → fo m = false → fo u = false → Mx u m := fun m h1 h2 h3 => ⟨h1, by rw [h2, h3], fun h => by rw [h3] at h; cases h⟩
 cases hfo : fo u with
 | false =>
  have hn := nF_none u hu hfo
  cases ho : FloatKind.f64.format.order u (nF u) with
  | none =>
   refine ⟨(Question.nanMinMax .f64 true u (nF u)).cut (W.tape W.drawn (.nanMinMax .f64 true u (nF u))), W.drew, ?_, bad _ (nan_cut _ _ _).1 (nan_cut _ _ _).2 hfo, .inr rfl⟩; exact max2_none P u (nF u) W ho
  | some c =>
   cases c with
   | lt => exact ⟨nF u, W, max2_lt P u (nF u) W ho, bad _ (nF_lt u hu) hn hfo, .inl rfl⟩
   | gt => exact ⟨u, W, max2_gt P u (nF u) W ho, bad _ hu hfo hfo, .inl rfl⟩
   | eq =>
    cases hd : (FloatKind.f64.decode u).neg with
    | true => exact ⟨nF u, W, max2_eqt P u (nF u) W ho hd, bad _ (nF_lt u hu) hn hfo, .inl rfl⟩
    | false => exact ⟨u, W, max2_eqf P u (nF u) W ho hd, bad _ hu hfo hfo, .inl rfl⟩
 | true =>
  obtain ⟨q0, q1, q2, q3⟩ := nF_fields u hu hfo
  have hr : Ieee.double.read u = .number (fs u) (fm u) (fe u) := by
   rw [read_num u hu]; unfold fo at hfo; unfold fs fm fe
   cases hf : fnum u with
   | none => rw [hf] at hfo; cases hfo
   | some r => rfl
  have hr2 : Ieee.double.read (nF u) = .number (!fs u) (fm u) (fe u) := by
   rw [read_num (nF u) (nF_lt u hu), ← q3, ← q2, ← q1]; unfold fo at q0; unfold fs fm fe
   cases hf : fnum (nF u) with
   | none => rw [hf] at q0; cases q0
   | some r => rfl
  have ho : FloatKind.f64.format.order u (nF u) = some (compare (Ieee.signed (fs u) (fm u) 0) (Ieee.signed (!fs u) (fm u) 0)) := by
   show Ieee.Datum.order (Ieee.double.read u) (Ieee.double.read (nF u)) = _
   rw [hr, hr2]; simp only [Ieee.Datum.order]; rw [show min (fe u) (fe u) = fe u by omega, Int.sub_self]; rfl
  have s0 : Ieee.signed false (fm u) 0 = (fm u : Int) := by unfold Ieee.signed; rw [if_neg yD_, Nat.shiftLeft_zero]
  have s1 : Ieee.signed true (fm u) 0 = -(fm u : Int) := by unfold Ieee.signed; rw [if_pos rfl, Nat.shiftLeft_zero]
  have hd : (FloatKind.f64.decode u).neg = fs u := by
   show (Ieee.double.read u).neg = _
   rw [hr]; rfl
  have mn : fs u = true → Mx u (nF u) := fun h => ⟨nF_lt u hu, by rw [q0, hfo], fun _ => ⟨q1, q2, .inl (by rw [q3, h]; rfl)⟩⟩
  have mu : fs u = false → Mx u u := fun h => ⟨hu, rfl, fun _ => ⟨rfl, rfl, .inl h⟩⟩
  cases hs : fs u with
  | true =>
   rw [hs, show (!true) = false from rfl, s0, s1] at ho
   rcases Nat.eq_zero_or_pos (fm u) with hz | hz
   ·rw [show compare (-(fm u : Int)) (fm u : Int) = .eq by rw [hz]; rfl] at ho; exact ⟨nF u, W, max2_eqt P u (nF u) W ho (hd.trans hs), mn hs, .inl rfl⟩
   ·rw [show compare (-(fm u : Int)) (fm u : Int) = .lt from Int.compare_eq_lt.2 yO_] at ho; exact ⟨nF u, W, max2_lt P u (nF u) W ho, mn hs, .inl rfl⟩
  | false =>
   rw [hs, show (!false) = true from rfl, s0, s1] at ho
   rcases Nat.eq_zero_or_pos (fm u) with hz | hz
   ·rw [show compare (fm u : Int) (-(fm u : Int)) = .eq by rw [hz]; rfl] at ho; exact ⟨u, W, max2_eqf P u (nF u) W ho (hd.trans hs), mu hs, .inl rfl⟩
   ·rw [show compare (fm u : Int) (-(fm u : Int)) = .gt from Int.compare_eq_gt.2 yO_] at ho; exact ⟨u, W, max2_gt P u (nF u) W ho, mu hs, .inl rfl⟩
theorem max_event {P : Program} {ops : Array Oper} {rest : List Oper} {o : Oper} {a : Act} {Q : Exit → Act → World → Prop} {W : World} (hgd : o.guard = none) (x y : Operand) {t : TypeId}
  (ho : o.op = .call { callee := .builtin .max, args := #[x, y], argTypes := #[t, t] }) {u v m : Nat} {W1 : World} (hx : a.eval x = .float .f64 u) (hy : a.eval y = .float .f64 v)
  (hr : (Builtin.max_ #[t, t] o.type #[.float .f64 u, .float .f64 v]).run P W = .ok (.float .f64 m) W1) (h : wpList P ops Q rest (a.put o.dst (.float .f64 m)) W1) : wpList P ops Q (o :: rest) a W := by
 refine wpList_plain hgd fun K hK => ?_
 unfold Oper.wp execOp; simp only [ho, resolve, invoke, builtin, Sem.run_bind, Sem.run_pure, Result.andThen_ok, List.map_toArray, List.map_cons, List.map_nil, hx, hy, hr]; exact hK _ _ h
/-- The size of a number, moved by a level. -/
def szT (u : Nat) (lv : Int) : Int := (fm u : Int) * P22 (fe u - lv)
def zbn (us : List Nat) (lv : Int) : Nat → Int
 | 0 => 0
 | i + 1 => zbn us lv i + szT (rdn us i) lv
theorem szT_nn (u : Nat) (lv : Int) : 0 ≤ szT u lv := Int.mul_nonneg yO_ (by unfold P22; exact Int.le_of_lt (zY _))
theorem sizeT_nn (us : List Nat) (lv : Int) : ∀ i, 0 ≤ zbn us lv i
 | 0 => Int.le_refl 0
 | i + 1 => Int.add_nonneg (sizeT_nn us lv i) (szT_nn _ lv)
theorem szT_bound (u : Nat) (lv : Int) (h0 : 0 ≤ lv) : szT u lv ≤ 2 ^ 4330 := by
 have h1 := fm_hi u; have h2 := fe_in u; have h3 : (fm u : Int) * P22 (fe u - lv) ≤ 2 ^ 53 * 2 ^ 3200 := Int.mul_le_mul (by have : (2 : Int) ^ 53 = 9007199254740992 := yD_; omega) (by unfold P22; exact za3 yO_) (by unfold P22; exact Int.le_of_lt (zY _)) yD_; rw [← Int.pow_add] at h3; exact Int.le_trans h3 (za3 yD_)
theorem sizeT_bound (us : List Nat) (lv : Int) (h0 : 0 ≤ lv) : ∀ i : Nat, zaS (zbn us lv i) ≤ (i : Int) * 2 ^ 4330
 | 0 => by generalize (2 : Int) ^ 4330 = p_; simp [zbn, zaS]
 | i + 1 => by
  have h1 := sizeT_bound us lv h0 i; have h2 := szT_bound (rdn us i) lv h0; have h3 := szT_nn (rdn us i) lv; have h4 := absI_add (zbn us lv i) (szT (rdn us i) lv); rw [absI_pos h3] at h4
  show zaS (zbn us lv i + szT (rdn us i) lv) ≤ _
  generalize (2 : Int) ^ 4330 = Q at *
  have e : ((i + 1 : Nat) : Int) * Q = (i : Int) * Q + Q := by rw [show ((i + 1 : Nat) : Int) = (i : Int) + 1 by omega, Int.add_mul, Int.one_mul]
  rw [e]
  omega
/-- What an Acc holds behind some of a column's numbers. -/
def accS (us : List Nat) (lv : Int) (i : Nat) : Option Int := if (us.take i).all fo = true then some (zbn us lv i) else none
theorem one_prT (u m : Nat) (lv : Int) (h : Mx u m) (hf : fo u = true) (h0 : 0 ≤ lv) (h8 : lv ≤ 8) : prT m oneF (-lv) = szT u lv := by
 obtain ⟨k1, k2, k3⟩ := h.2.2 hf; obtain ⟨p0, p1, p2, p3⟩ := pow_parts 0 yD_; rw [← oneF_pow] at p0 p1 p2 p3; have e := fe_in u; unfold prT szT P22; rw [p1, p2, p3, k1, k2]; have e1 : (fe u + ((0 : Nat) - 52) + -lv + 2212).toNat + 52 = (fe u - lv + 2212).toNat := by omega
 have key : (fm u : Int) * ((4503599627370496 : Nat) : Int) * 2 ^ (fe u + (((0 : Nat) : Int) - 52) + -lv + 2212).toNat = (fm u : Int) * 2 ^ (fe u - lv + 2212).toNat := by
  rw [show (fe u - lv + 2212).toNat = 52 + (fe u + (((0 : Nat) : Int) - 52) + -lv + 2212).toNat by omega, zaG, show (((4503599627370496 : Nat)) : Int) = 2 ^ 52 from by decide, Int.mul_assoc]
 rw [key]
 rcases k3 with k | k
 ·rw [k]; rfl
 ·rw [k]; simp
theorem accS_step (us : List Nat) (lv : Int) (i m : Nat) (hi : i < us.length) (hn : us.length ≤ 140737488355328) (h : Mx (rdn us i) m) (h0 : 0 ≤ lv) (h8 : lv ≤ 8) : prodV (accS us lv i) m oneF (-lv) = accS us lv (i + 1) := by
 obtain ⟨p0, p1, p2, p3⟩ := pow_parts 0 yD_; rw [← oneF_pow] at p0; have et : (us.take (i + 1)).all fo = ((us.take i).all fo && fo (rdn us i)) := by rw [take_one us i _ (rdn_get hi), List.all_append]; simp
 unfold accS; rw [et]
 cases ha : (us.take i).all fo with
 | false => rw [Bool.false_and, if_neg yD_]; rfl
 | true =>
  rw [if_pos rfl]
  cases hf : fo (rdn us i) with
  | false =>
   rw [if_neg yD_]
   show (if (fo m && fo oneF && decide (-64 ≤ -lv) && decide (-lv ≤ 64)) = true then _ else _) = _
   rw [h.2.1, hf, Bool.false_and, Bool.false_and, Bool.false_and, if_neg yD_]
  | true =>
   rw [if_pos yD_, prodV_T _ _ _ _ (by rw [h.2.1, hf]) p0 yO_ yO_, one_prT _ m lv h hf h0 h8]; exact normA_eq (small_ok (i := i + 1) (sizeT_bound us lv h0 (i + 1)) yO_)
theorem accS_ok (us : List Nat) (lv : Int) (i : Nat) (hi : i ≤ 140737488355328) (h0 : 0 ≤ lv) : accOk (accS us lv i) := by
 unfold accS
 split
 ·exact small_ok (sizeT_bound us lv h0 i) hi
 ·trivial
/-- A question; where its lists lie. -/
structure Pn where
 C : List Nat
 G : List (List Nat)
 T : Int
 L : List (List Nat)
 K : Int
 D : Int
 O : Int
structure Ph where
 a1 : Option Addr
 c1 : Nat
 a2 : Option Addr
 c2 : Nat
 a4 : Option Addr
 c4 : Nat
def pcv (p : Pn) (h : Ph) : Array Value := #[.slice h.a1 p.C.length h.c1, .slice h.a2 p.G.length h.c2, .int .i64 p.T, .slice h.a4 p.L.length h.c4, .int .i64 p.K, .int .i64 p.D, .int .i64 p.O]
structure Pr (w : World) (p : Pn) (h : Ph) : Prop where
 r1 : kf.C w h.a1 p.C.length p.C
 r2 : kff.C w h.a2 p.G.length p.G
 r4 : kff.C w h.a4 p.L.length p.L
theorem Pr.step {w w' : World} {p : Pn} {h : Ph} (r : Pr w p h) (hb : Below w.heap.size w w') : Pr w' p h := ⟨Kd.zm r.r1 hb, Kd.zm r.r2 hb, Kd.zm r.r4 hb⟩
def sizesN (G : List (List Nat)) (lv : List Int) : Nat → List (Int × Int)
 | 0 => []
 | s + 1 => sizesN G lv s ++ [((s : Int), zbn (rdl G s) (rd lv (s : Int)) (rdl G s).length)]
/-- What Choose tells. -/
noncomputable def chooseV (z : Zn) (a : List Nat) (G : List (List Nat)) (lv at_ : List Int) : Int :=
 if chkE lv at_ G.length = 0 then (if 0 ≤ (pk (seenV z a G.length)).1 then (pk (seenV z a G.length)).1 else if (G.all fun us => us.all fo) = true then (pk (sizesN G lv G.length)).1 else -1) else -1
theorem rdl_get {uss : List (List Nat)} {x : Nat} (h : x < uss.length) : uss[x]? = some (rdl uss x) := by
 unfold rdl; rw [List.getD_eq_getElem?_getD, List.getElem?_eq_getElem h]; rfl
theorem alll_step {uss : List (List Nat)} {f : List Nat → Bool} {x : Nat} (h : (uss.take x).all f = true) (hx : x < uss.length) (hf : f (rdl uss x) = true) : (uss.take (x + 1)).all f = true := by
 rw [take_one uss x _ (rdl_get hx), List.all_append, h]; simp [hf]
theorem alll_not {uss : List (List Nat)} {f : List Nat → Bool} {x : Nat} (hx : x < uss.length) (hf : f (rdl uss x) = false) : uss.all f = false := by
 rw [List.all_eq_false]; exact ⟨rdl uss x, List.mem_of_getElem? (rdl_get hx), by simp [hf]⟩
theorem chk_all {lv at_ : List Int} {k : Int} (h : chkE lv at_ k = 0) : (lv.length : Int) = k ∧ Reg lv at_ := by
 unfold chkE at h
 split at h
 ·assumption
 ·exact absurd h yD_
theorem choose_calls (z : Zn) (h : Zh) (A : Option Addr) (c : Nat) (a : List Nat) (p : Pn) (q : Ph) (A0 : Option Addr) (c0 : Nat) (lv : List Int) (A1 : Option Addr) (c1 : Nat) (at_ : List Int) (w : World)
  (hr : Zr w z h) (hf : Zf z) (ha : kf.C w A a.length a) (hwa : Wf a) (hn : a.length ≤ 140737488355328) (hp : Pr w p q) (hg : ∀ us, us ∈ p.G → Wf us ∧ us.length ≤ 140737488355328) (r0 : Rd w A0 c0 lv) (r1 : Rd w A1 c1 at_) :
  Calls Try.prog 29 #[.agg (zc z h), .slice A a.length c, .agg (pcv p q), .agg #[.slice A0 lv.length c0, .slice A1 at_.length c1]] w fun e w' => e = .returned (.int .i64 (chooseV z a p.G lv at_)) ∧ Below w.heap.size w w' := by
 have hu63 := Try.underlying63; have hu65 := Try.underlying65; have hu24 := Try.underlying24; have hu111 := Try.underlying111; have HF := J hf; have HR := J hr; have HA := J ha; have HWA := J hwa; have HN := J hn; have HP := J hp; have HG := J hg; have R0 := J r0; have R1 := J r1; clear hf hr ha hwa hn hp hg r0 r1; obtain ⟨Z, hz⟩ : ∃ Z, Z = z := ⟨_, rfl⟩
 obtain ⟨H, hh⟩ : ∃ H, H = h := ⟨_, rfl⟩
 obtain ⟨z1, z2, z3, z4, z5, z6⟩ := z; obtain ⟨a1, k1, a2, k2, a3, k3, a4, k4⟩ := h; obtain ⟨y1, y2, y3, y4, y5, y6, y7⟩ := p; obtain ⟨b1, l1, b2, l2, b4, l4⟩ := q; rw [← hz, ← hh] at HR; rw [← hz] at HF; rw [← hz, ← hh]; have HZ := J hz; have HH := J hh; have hv : zc Z H = #[.int .i64 z1, .slice a1 z2.length k1, .slice a2 z3.length k2, .slice a3 z4.length k3, .slice a4 z5.length k4, .bool z6] := by rw [hz, hh]; rfl
 rw [hv]
 show Calls Try.prog 29 #[.agg #[.int .i64 z1, .slice a1 z2.length k1, .slice a2 z3.length k2, .slice a3 z4.length k3, .slice a4 z5.length k4, .bool z6], .slice A a.length c, .agg #[.slice b1 y1.length l1, .slice b2 y2.length l2, .int .i64 y3, .slice b4 y4.length l4, .int .i64 y5, .int .i64 y6, .int .i64 y7], .agg #[.slice A0 lv.length c0, .slice A1 at_.length c1]] w fun e w' => e = .returned (.int .i64 (chooseV Z a y2 lv at_)) ∧ Below w.heap.size w w'
 have HV := J hv; clear hv hz hh; have RG := J (show kff.C w b2 y2.length y2 from HP.o.r2); replace HG := J (show ∀ us, us ∈ y2 → Wf us ∧ us.length ≤ 140737488355328 from HG.o); clear HP; generalize hres : chooseV Z a y2 lv at_ = res; have RES := J hres; clear hres; go_enter Try.func29, Try.ntmps29
 go_wp2_with (first
  | ((with_reducible refine zf (N := 4) rfl ?_); refine zah 4 (cs := #[.int .i64 z1, .slice a1 z2.length k1, .slice a2 z3.length k2, .slice a3 z4.length k3, .slice a4 z5.length k4, .bool z6]) (t := 63) ?_; intro g4 aD w1 aB aA; have B1 := J aA; have K4 := J aB; clear aD aB aA)
  | ((with_reducible refine zf (N := 6) rfl ?_); refine zah 6 (cs := #[.slice b1 y1.length l1, .slice b2 y2.length l2, .int .i64 y3, .slice b4 y4.length l4, .int .i64 y5, .int .i64 y6, .int .i64 y7]) (t := 65) ?_; intro g6 aD w2 aB aA; have B2 := J (za B1.o aA); replace K4 := J (zd K4.o aA); have K6 := J aB; clear aD aB aA)
  | ((with_reducible refine zf (N := 7) rfl ?_); refine zah 7 (cs := #[.slice A0 lv.length c0, .slice A1 at_.length c1]) (t := 24) ?_; intro g7 aD w3 aB aA; have B3 := J (za B2.o aA); replace K4 := J (zd K4.o aA); replace K6 := J (zd K6.o aA); have K7 := J aB; clear aD aB aA; have p1 := cz_ K6.o 1 rfl; have r0 := cz_ K7.o 0 rfl; have r1 := cz_ K7.o 1 rfl)
  | fail)
 clear B1 B2; replace HR := J (HR.o.step B3.o); replace HA := J (Kd.zm HA.o B3.o); replace RG := J (Kd.zm RG.o B3.o); replace R0 := J (R0.o.step B3.o); replace R1 := J (R1.o.step B3.o); refine (check_c (y2.length : Int) w3 R0.o R1.o).mono ?_; rintro e_ w4 ⟨rfl, hb⟩; have HB := J hb; clear hb p1 r0 r1; generalize hcr : chkE lv at_ (y2.length : Int) = cr
 by_cases hcz : cr = 0
 ·subst hcz; have CHK := J (chk_all hcr); have CRZ := J hcr; clear hcr; have q0 : w4.cell? ⟨g4, 0, none⟩ = some (.int .i64 z1) := (zg (zd K4.o HB.o) 0).trans rfl; have q1 : w4.cell? ⟨g4, 1, none⟩ = some (.slice a1 z2.length k1) := (zg (zd K4.o HB.o) 1).trans rfl; have q2 : w4.cell? ⟨g4, 2, none⟩ = some (.slice a2 z3.length k2) := (zg (zd K4.o HB.o) 2).trans rfl; have q3 : w4.cell? ⟨g4, 3, none⟩ = some (.slice a3 z4.length k3) := (zg (zd K4.o HB.o) 3).trans rfl; have q4 : w4.cell? ⟨g4, 4, none⟩ = some (.slice a4 z5.length k4) := (zg (zd K4.o HB.o) 4).trans rfl; have q5 : w4.cell? ⟨g4, 5, none⟩ = some (.bool z6) := (zg (zd K4.o HB.o) 5).trans rfl; go_wp2_with fail; have sc := seen_calls Z H A c a (y2.length : Int) w4 (HR.o.step HB.o) HF.o (Kd.zm HA.o HB.o) HWA.o HN.o; rw [HV.o] at sc; refine sc.mono ?_; clear sc; rintro e_ w5 ⟨B, d, l, rfl, hsr, hup, hsp, hb⟩; replace HB := J (za HB.o hb); have bc := best_calls B d l w5 hsr hup; rw [hsp] at bc; have BC := J bc; clear bc hb hsr hup hsp q0 q1 q2 q3 q4 q5; go_wp2_with fail; refine BC.o.mono ?_; rintro e_ w6 ⟨rfl, hb⟩; replace HB := J (za HB.o hb); clear hb BC; generalize hs : (pk (seenV Z a (y2.length : Int))).1 = s; have HS := J hs; clear hs
  by_cases h0 : 0 ≤ s
  ·have s1 := eq_true h0; have s2 := decide_eq_true h0; have s3 := decide_eq_true (show s ≥ 0 from h0); have QS := J (show res = s by rw [← RES.o]; unfold chooseV; rw [if_pos CRZ.o, HS.o, if_pos h0]); clear h0; go_wp2_with fail; go_ret; exact ⟨by rw [QS.o]; first | done | rfl, za B3.o HB.o⟩
  ·have s1 := eq_false h0; have s2 := decide_eq_false h0; have s3 := decide_eq_false (show ¬ s ≥ 0 from h0); have QS := J (show res = if (y2.all fun us => us.all fo) = true then (pk (sizesN y2 lv y2.length)).1 else -1 by rw [← RES.o]; unfold chooseV; rw [if_pos CRZ.o, HS.o, if_neg h0]); clear h0; have p1 : w6.cell? ⟨g6, 1, none⟩ = some (.slice b2 y2.length l2) := (zg (zd K6.o HB.o) 1).trans rfl; have LEN := J (show lv.length = y2.length ∧ y2.length ≤ 256 by have h1 := CHK.o.1; have h2 := CHK.o.2.1; omega); go_wp2_with fail; clear p1
   go_loopg [11, 35] y2.length (fun m v11 v35 wr => ∃ (n : Nat) (l : List Sco) (B : Option Addr) (d : Nat), v11 = .slice B l.length d ∧ v35 = .int .i64 (n : Int) ∧ ze (n + m = y2.length) ∧ ze (So wr w3.heap.size (.slice B l.length d) l) ∧ ze (l.length ≤ n ∧ Up l ∧ sp l = sizesN y2 lv n ∧ (∀ y, y ∈ l → y.s < (n : Int)) ∧ ((y2.take n).all fun us => us.all fo) = true) ∧ ze (Below w3.heap.size w3 wr))
   case atStart => exact ⟨0, [], none, 0, rfl, rfl, ⟨by omega⟩, ⟨So.nil _ _⟩, ⟨Nat.le_refl 0, Up.nil, rfl, (fun y hy => by simp at hy), rfl⟩, HB⟩
   case round =>
    obtain ⟨n, l, B, d, rfl, rfl, hm, SO, HI, HB⟩ := hrel
    by_cases hx : n < y2.length
    ·have HX := J hx; have x1 := eq_true hx; have x2 := eq_true (show (n : Int) < (y2.length : Int) by omega); have x3 := eq_true (show (0 : Int) ≤ (n : Int) by omega); have x4 := eq_true (show n < lv.length by have := LEN.o; omega); have x5 := eq_true (show (n : Int) < (lv.length : Int) by have := LEN.o; omega); obtain ⟨ag, Ak, ck, eag, aC, _, hrk⟩ := at_kff RG.o n hx; cases eag; have hcg := zr HB.o aC; have HRK := J hrk; have FIT := J (CHK.o.2.2.2 n (by have := LEN.o; omega)); obtain ⟨al, eal, hcl⟩ := Kd.zQ R0.o.row (n : Int) yO_ (by have := LEN.o; omega); cases eal; rw [Int.toNat_natCast] at hcl; have HCL := J hcl; have HUS := J (HG.o _ (List.mem_of_getElem? (rdl_get hx))); have HCOL := J (show sizesN y2 lv (n + 1) = sizesN y2 lv n ++ [((n : Int), zbn (rdl y2 n) (rd lv (n : Int)) (rdl y2 n).length)] from rfl); have HAL := J (fun h => alll_step (f := fun us => us.all fo) HI.o.2.2.2.2 hx h); have HNO := J (fun h => alll_not (f := fun us => us.all fo) hx h); clear hx hrk aC hcl; generalize rdl y2 n = us at *
     generalize rd lv (n : Int) = lev at *
     go_wp2_with fail; refine (new_calls wr).mono ?_; rintro e_ w7 ⟨b, rfl, hbs, hbk, aE⟩; have FAR := J (SO.o.far hbs); have LB := J (show w3.heap.size ≤ b by have := HB.o.size; omega); replace SO := J (SO.o.step aE); replace HB := J (za HB.o aE); have KB := J (show w7.heap[b]? = some (.cells (zbf (accS us lev 0)) 124 (0, 0)) from hbk); clear hbs hbk aE hcg; go_wp2_with fail
     go_loopg [43] us.length (fun m v43 wr => ∃ (i : Nat), v43 = .int .i64 (i : Int) ∧ ze (i + m = us.length) ∧ ze (wr.heap[b]? = some (.cells (zbf (accS us lev i)) 124 (0, 0))) ∧ ze (So wr w3.heap.size (.slice B l.length d) l) ∧ ze (Below w3.heap.size w3 wr))
     case atStart => exact ⟨0, rfl, ⟨by omega⟩, KB, SO, HB⟩
     case round =>
      obtain ⟨i, rfl, hmi, KI, SI, BI⟩ := hrel
      by_cases hx : i < us.length
      ·have HXI := J hx; have i1 := eq_true hx; have i2 := eq_true (show (i : Int) < (us.length : Int) by omega); have i3 := eq_true (show (0 : Int) ≤ (i : Int) by omega); obtain ⟨au, eau, hcu⟩ := at_kf (Kd.zm HRK.o BI.o) i hx; cases eau; have hux := wf_rdn HUS.o.1 i; have STEP := J (fun m hm => accS_step us lev i m hx HUS.o.2 hm FIT.o.1 FIT.o.2.1); clear hx; generalize rdn us i = u at *
       have hneg : ∀ W : World, (Op.unary .neg (.float .f64 u)).run Try.prog W = .ok (.float .f64 (nF u)) W := fun W => by rw [← neg_n u hux]; rfl
       obtain ⟨m, W1, hrun, hmx, hW⟩ := mx_run Try.prog #[95, 95] 95 u hux wr; have MX := J hmx; have BW := J (show Below wr.heap.size wr W1 by rcases hW with rfl | rfl; exact Below.refl _ _; exact zU (Below.refl _ _)); have HRUN := J hrun; clear hmx hW hrun hux; have hlw : wrap64 (-lev) = -lev := w64 _ (by have := FIT.o.1; have := FIT.o.2.1; omega) (by have := FIT.o.1; have := FIT.o.2.1; omega); go_wp2_with (first
 | ((with_reducible refine zf (N := 51) rfl ?_); refine max_event rfl _ _ rfl rfl rfl HRUN.o ?_; have r0 : W1.cell? ⟨g7, 0, none⟩ = some (.slice (some al) lv.length c0) := (zg (zd K7.o (za BI.o BW.o)) 0).trans rfl; have hcl := zr (za BI.o BW.o) HCL.o)
 | fail)
       refine (prod_calls W1 b (accS us lev i) m oneF (-lev) MX.o.1 yD_ (accS_ok us lev i (by have := HUS.o.2; have := HXI.o; omega) FIT.o.1) (zd KI.o BW.o)).mono ?_; rintro e_ w8 ⟨rfl, h8, g8⟩; rw [STEP.o m MX.o] at h8; have K8 := J h8; replace SI := J ((SI.o.step BW.o).put FAR.o g8); replace BI := J ((za BI.o BW.o).grown g8 (za BI.o BW.o).size (fun k_ hk_ => by cases hk_; exact LB.o)); clear h8 g8 hcu r0 hcl hlw hneg STEP; go_wp2_with fail; go_roundg (gk - 1)
       case measure => have := hmi.o; have := HXI.o; omega
       case rel => exact ⟨i + 1, by rw [w64 _ yO_ (by have := HXI.o; have := HUS.o.2; omega)]; rfl, ⟨by have := hmi.o; have := HXI.o; omega⟩, K8, SI, BI⟩
      ·have i1 := eq_false hx; have i2 := eq_false (show ¬ (i : Int) < (us.length : Int) by omega); obtain rfl : i = us.length := by have := hmi.o; omega
       clear hx hmi; go_wp2_with fail; refine (accbad_calls wr b _ KI.o).mono ?_; rintro e_ w_ ⟨rfl, rfl⟩; have EA := J (show accS us lev us.length = if us.all fo = true then some (zbn us lev us.length) else none by unfold accS; rw [List.take_length])
       cases hall : us.all fo
       ·have E2 := J (show accS us lev us.length = none by rw [EA.o, hall]; rfl); have HNN := J (HNO.o hall); rw [E2.o]; clear hall; go_wp2_with fail; go_ret; exact ⟨by rw [QS.o, HNN.o]; first | done | rfl, za B3.o BI.o⟩
       ·have E2 := J (show accS us lev us.length = some (zbn us lev us.length) by rw [EA.o, hall]; rfl); have HAA := J (HAL.o hall); rw [E2.o]; have XS := J (show Scb wr ⟨(n : Int), b, zbn us lev us.length⟩ from ⟨by have := KI.o; rwa [E2.o] at this, by have := accS_ok us lev us.length HUS.o.2 FIT.o.1; rwa [E2.o] at this⟩); clear hall; have NN := J (sizeT_nn us lev us.length); have LL := J (show (l.length + 1) * 16 ≤ 140737488355328 ∧ l.length + 1 ≤ 17592186044416 by have := HI.o.1; have := HX.o; have := LEN.o; omega); generalize zbn us lev us.length = dv at *
        go_wp2_with (first
 | ((with_reducible refine zf (N := 67) rfl ?_); refine app_event (w := wr.alloc (.cells #[.int .i64 (n : Int), .pointer (some ⟨b, 0, none⟩)] 111)) (base := w3.heap.size) (t := 108) (e := 111) (v := .slice B l.length d) (news := [.int .i64 (n : Int), .pointer (some ⟨b, 0, none⟩)]) rfl _ _ rfl Try.underlying108 info111 rfl yD_ rfl (SI.o.own.alloc _) rfl rfl yD_ (World.news_of_block (cs := #[.int .i64 (n : Int), .pointer (some ⟨b, 0, none⟩)]) (heap_alloc_new _ _)) (by simp [Value.oneCell']) (Nat.le_trans LL.o.2 yD_) LL.o.1 (Nat.le_trans BI.o.size (by simp)) ?_; intro v9 w9 ho alt; have GA := World.grownBy.trans (World.grownBy_alloc wr (.cells #[.int .i64 (n : Int), .pointer (some ⟨b, 0, none⟩)] 111) _) (grow_any alt); obtain ⟨B2_, d2, rfl⟩ := own_form ho; have SN := J (SI.o.app ⟨(n : Int), b, dv⟩ XS.o ho GA); have BN := J (BI.o.grown GA BI.o.size (own_base SI.o.own)); clear GA alt ho)
 | fail)
        go_roundg (y2.length - n - 1)
        case measure => have := hm.o; have := HX.o; omega
        case rel =>
         refine ⟨n + 1, l ++ [⟨(n : Int), b, dv⟩], B2_, d2, by rw [List.length_append]; rfl, by rw [w64 _ yO_ (by have := HX.o; have := LEN.o; omega)]; rfl, ⟨by have := hm.o; have := HX.o; omega⟩, ⟨by have h := SN.o; rwa [show l.length + 1 = (l ++ [(⟨(n : Int), b, dv⟩ : Sco)]).length by rw [List.length_append]; rfl] at h⟩, ⟨by rw [List.length_append]; have := HI.o.1; simp; omega, HI.o.2.1.app _ NN.o (fun y hy => HI.o.2.2.2.1 y hy), by rw [sp_app, HCOL.o, HI.o.2.2.1], fun y hy => ?_, HAA.o⟩, BN⟩
         rcases List.mem_append.1 hy with hy | hy
         ·have := HI.o.2.2.2.1 y hy; omega
         ·obtain rfl := List.mem_singleton.1 hy; simp only; omega
    ·have x1 := eq_false hx; have x2 := eq_false (show ¬ (n : Int) < (y2.length : Int) by omega); obtain rfl : n = y2.length := by have := hm.o; omega
     clear hx hm; have QA := J (show (y2.all fun us => us.all fo) = true by have h := HI.o.2.2.2.2; rwa [List.take_length] at h); go_wp2_with fail; have bc := best_calls B d l wr SO.o.read HI.o.2.1; rw [HI.o.2.2.1] at bc; refine bc.mono ?_; clear bc; rintro e_ w8 ⟨rfl, hb⟩; replace HB := J (za HB.o hb); clear hb; generalize hq : (pk (sizesN y2 lv y2.length)).1 = q; have HQ := J hq; clear hq; go_wp2_with fail; go_ret; exact ⟨by rw [QS.o, if_pos QA.o, HQ.o]; first | done | rfl, za B3.o HB.o⟩
 ·have hzb : (cr != 0) = true := by rw [bne_iff_ne]; exact hcz
  have QZ := J (show res = -1 by rw [← RES.o]; unfold chooseV; rw [if_neg (by rw [hcr]; exact hcz)]); clear hcz hcr; go_wp2_with fail; go_ret; exact ⟨by rw [QZ.o]; first | done | rfl, za B3.o HB.o⟩
def dU : Kd (List Int) := Kd.slice 114 (Kd.int .u64)
theorem kus_take {uss : List (List Nat)} {x : Nat} (h : x < uss.length) : (uss.take (x + 1)).map ku = (uss.take x).map ku ++ [ku (rdl uss x)] := by
 rw [take_one uss x _ (rdl_get h), List.map_append]; rfl
theorem bits50_calls (A : Option Addr) (c : Nat) (uss : List (List Nat)) (w : World) (hr : kff.C w A uss.length uss) (hn : uss.length * 24 ≤ 140737488355328) (hn2 : ∀ us, us ∈ uss → us.length * 8 ≤ 140737488355328) :
  Calls Try.prog 50 #[.slice A uss.length c] w fun e w' => ∃ v, e = .returned v ∧ Kd.R dU 66 w' w.heap.size (fun _ => True) v (uss.map ku) ∧ Below w.heap.size w w' := by
 have hu61 := Try.underlying61; have hu67 := Try.underlying67; have HR := J hr; have HN := J hn; have HN2 := J hn2; clear hr hn hn2; go_enter Try.func50, Try.ntmps50; go_wp2_with fail
 go_loopg [3, 4] uss.length (fun m v3 v4 wr => ∃ (x : Nat), v4 = .int .i64 (x : Int) ∧ ze (x + m = uss.length) ∧ ze (Kd.R dU 66 wr w.heap.size (fun _ => True) v3 ((uss.take x).map ku)) ∧ ze (Below w.heap.size w wr))
 case atStart => exact ⟨0, rfl, ⟨by omega⟩, ⟨Kd.zaI _ _ _ _ _⟩, ⟨Below.refl _ _⟩⟩
 case round =>
  obtain ⟨x, rfl, hm, RR, HB⟩ := hrel; obtain ⟨B, d, rfl⟩ := Kd.zJ RR.o
  by_cases hx : x < uss.length
  ·have HX := J hx; have p1 := eq_true hx; have p2 := eq_true (show (x : Int) < (uss.length : Int) by omega); have p3 := eq_true (show (0 : Int) ≤ (x : Int) by omega); have p4 := decide_eq_true (show (x : Int) < (uss.length : Int) by omega); obtain ⟨ad, Ak, ck, ead, hc0, _, hrk⟩ := at_kff (Kd.zm HR.o HB.o) x hx; cases ead; have HRK := J hrk; have HUL := J (HN2.o _ (List.mem_of_getElem? (rdl_get hx))); have HT := J (kus_take hx); clear hx hrk; generalize rdl uss x = us at *
   have LX := J (show ((uss.take x).map ku).length = x by rw [List.length_map, List.length_take]; have := HX.o; omega); generalize (uss.take x).map ku = xs at *
   go_wp2_with fail; refine (bits49_calls Ak ck us wr HRK.o HUL.o).mono ?_; rintro e_ w2 ⟨B2, d2, rfl, hr2, aA⟩; have M2 := J (show dU.M w2 w.heap.size (fun k => True ∧ some k ≠ (Value.slice B xs.length d).ownBlock) (ku us) [.slice B2 us.length d2] from ⟨_, rfl, Kd.z9 (Kd.R_new hr2 (Kd.R_own RR.o).choose_spec) HB.o.size⟩); replace RR := J (Kd.zF RR.o aA); replace HB := J (za HB.o aA); clear aA hr2; go_wp2_with (first
 | ((with_reducible refine zf (N := 18) rfl ?_); refine Kd.R_append dU (W := w2) (w0 := w) w.heap.size rfl _ _ 67 66 (.slice none 0 0) 24 rfl Try.underlying67 info66 rfl yD_ yD_ (.slice B xs.length d) xs (ku us) [.slice B2 us.length d2] (fun _ => True) _ rfl rfl M2.o (fun _ hk => hk) (fun _ _ => trivial) RR.o HB.o HB.o.size (by rw [LX.o]; have := HX.o; have := HN.o; omega) ?_; intro v1 w3 hr3 hb3 _ _; have R3 := J hr3; have B3 := J hb3; clear hr3 hb3)
 | fail)
   go_roundg (gk - 1)
   case measure => have := hm.o; have := HX.o; omega
   case rel => exact ⟨x + 1, by first | rfl | (rw [w64 _ yO_ (by have := HX.o; have := HN.o; omega)]; rfl), ⟨by have := hm.o; have := HX.o; omega⟩, ⟨by rw [HT.o]; exact R3.o⟩, B3⟩
  ·have p1 := eq_false hx; have p2 := eq_false (show ¬ (x : Int) < (uss.length : Int) by omega); have p4 := decide_eq_false (show ¬ (x : Int) < (uss.length : Int) by omega); have hr := RR.o; have RZ := J (show ∃ v, v = .slice B ((uss.take x).map ku).length d ∧ Kd.R dU 66 wr w.heap.size (fun _ => True) v (uss.map ku) from ⟨_, rfl, by have h := RR.o; rw [List.take_of_length_le (show uss.length ≤ x by omega)] at h ⊢; exact h⟩); obtain ⟨v, ev, rv⟩ := RZ.o; have RV := J rv; have EV := J ev; clear hx hm RR hr rv ev; go_wp2_with fail; go_ret; exact ⟨v, by rw [EV.o]; first | done | rfl | (simp; done), RV.o, HB.o⟩
theorem info74 : (Try.prog.info? 74).map (·.size) = some 6 := by kernel_rfl
theorem info22c : (Try.prog.info? 3).map (fun i => (i.zero, i.size, i.bytes)) = some (some (.int .i64 0), 1, 8) := by kernel_rfl
theorem r_put {α : Type} {d : Kd α} {e base : Nat} {ok : Nat → Prop} {w w1 : World} {v : Value} {xs : List α} (h : d.R e w base ok v xs) {g t : Nat} {cells : Array Value} (hb : w.heap[g]? = some (.cells cells t (0, 0))) (ht : ∀ q, q ∈ e :: d.E → q ≠ t) (hg : w.grownBy w1 (some g)) : d.R e w1 base ok v xs :=
 Kd.zB (Kd.R_grown (Kd.zV h hb ht) hg (fun k hk e => hk.2 (Option.some.inj e))) (fun _ hk => hk.1)
/-- The document's zonotope: where its lists lie. -/
def uc (z : Zn) (h : Zh) : Array Value := #[.int .i64 z.N, .slice h.a1 (ku z.C).length h.c1, .slice h.a2 z.ids.length h.c2, .slice h.a3 (z.G.map ku).length h.c3, .slice h.a4 (ku z.R).length h.c4, .bool z.bad]
structure Ur (w : World) (z : Zn) (h : Zh) : Prop where
 r1 : Kd.C (Kd.int .u64) w h.a1 (ku z.C).length (ku z.C)
 k1 : (ku z.C).length ≤ h.c1
 r2 : Rd w h.a2 h.c2 z.ids
 r3 : dU.C w h.a3 (z.G.map ku).length (z.G.map ku)
 r4 : Kd.C (Kd.int .u64) w h.a4 (ku z.R).length (ku z.R)
 k4 : (ku z.R).length ≤ h.c4
theorem Ur.step {w w' : World} {z : Zn} {h : Zh} (r : Ur w z h) (hb : Below w.heap.size w w') : Ur w' z h := ⟨Kd.zm r.r1 hb, r.k1, r.r2.step hb, Kd.zm r.r3 hb, Kd.zm r.r4 hb, r.k4⟩
/-- The lists are no longer than any machine's. -/
structure Zs (z : Zn) : Prop where
 C : z.C.length * 8 ≤ 140737488355328
 I : z.ids.length * 8 ≤ 140737488355328
 G : z.G.length * 24 ≤ 140737488355328
 U : ∀ us, us ∈ z.G → us.length * 8 ≤ 140737488355328
 R : z.R.length * 8 ≤ 140737488355328
def rof.T1 : Bool × List (List Nat × List Nat) := (true, [([], []), ([0], [0]), ([], []), ([2], [2]), ([3], [3]), ([], []), ([5], [5]), ([6, 4], [6]), ([], []), ([8], [8]), ([1, 4, 7, 9], [1, 4, 7, 9]), ([], []), ([11, 10, 7, 0, 1, 2, 3, 4, 5, 6, 7, 8, 9, 10, 11], [10, 11])])
def rof.B1 : List Nat := [0, 1, 0, 4, 12, 0, 32, 124, 0, 256, 1023, 0, 4095]
theorem rof.tab1 : zbc .any (opsOf Try.f31 1) = rof.T1 := by kernel_rfl
theorem rof.bits1 : zal rof.T1.2 rof.B1 = true := by kernel_rfl
def rof.T6 : Bool × List (List Nat × List Nat) := (true, [([], []), ([0], [0]), ([], []), ([2], [2]), ([], []), ([3, 4], [3, 4]), ([5], [5]), ([6], [6]), ([7], [7]), ([1, 8, 7], [1, 8]), ([0, 1, 2, 3, 4, 5, 6, 7, 8, 9], []), ([10, 9, 9, 0, 1, 2, 3, 4, 5, 6, 7, 8, 9], [9, 10])])
def rof.B6 : List Nat := [0, 1, 0, 4, 0, 28, 60, 124, 252, 511, 1023, 2047]
theorem rof.tab6 : zbc .any (opsOf Try.f31 6) = rof.T6 := by kernel_rfl
theorem rof.bits6 : zal rof.T6.2 rof.B6 = true := by kernel_rfl
theorem of_calls (z : Zn) (h : Zh) (w : World) (hr : Zr w z h) (hs : Zs z) :
  Calls Try.prog 31 #[.agg (zc z h)] w fun e w' => ∃ q, e = .returned (.agg (uc z q)) ∧ Ur w' z q ∧ Below w.heap.size w w' := by
 obtain ⟨z1, z2, z3, z4, z5, z6⟩ := z; obtain ⟨a1, k1, a2, k2, a3, k3, a4, k4⟩ := h; have hu63 := Try.underlying63; have hu74 := Try.underlying74; have HR := J hr; have HS := J hs; clear hr hs; have hv : zc ⟨z1, z2, z3, z4, z5, z6⟩ ⟨a1, k1, a2, k2, a3, k3, a4, k4⟩ = #[.int .i64 z1, .slice a1 z2.length k1, .slice a2 z3.length k2, .slice a3 z4.length k3, .slice a4 z5.length k4, .bool z6] := rfl; rw [hv]; clear hv; have Q1 := J HR.o.r1; have Q2 := J HR.o.r2; have Q3 := J HR.o.r3; have Q4 := J HR.o.r4; replace Q1 := J (show kf.C w a1 z2.length z2 from Q1.o); replace Q2 := J (show Rd w a2 k2 z3 from Q2.o); replace Q3 := J (show kff.C w a3 z4.length z4 from Q3.o); replace Q4 := J (show kf.C w a4 z5.length z5 from Q4.o); have S1 := J (show z2.length * 8 ≤ 140737488355328 from HS.o.C); have S2 := J (show z3.length * 8 ≤ 140737488355328 from HS.o.I); have S3 := J (show z4.length * 24 ≤ 140737488355328 from HS.o.G); have S4 := J (show z5.length * 8 ≤ 140737488355328 from HS.o.R); have S5 := J (show ∀ us, us ∈ z4 → us.length * 8 ≤ 140737488355328 from HS.o.U); clear HR HS; go_enter Try.func31, Try.ntmps31
 go_wp2_with (first
  | ((with_reducible refine zf (N := 1) rfl ?_); refine zah 1 (cs := #[.int .i64 z1, .slice a1 z2.length k1, .slice a2 z3.length k2, .slice a3 z4.length k3, .slice a4 z5.length k4, .bool z6]) (t := 63) ?_; intro g1 aB w1 aC aA; have HB := J aA; have K1 := J aC; have L1 := J (show w.heap.size ≤ g1 by omega); clear aB aC aA)
  | ((with_reducible refine zf (N := 2) rfl ?_); refine zah 2 (cs := #[.int .i64 0, .slice none 0 0, .slice none 0 0, .slice none 0 0, .slice none 0 0, .bool false]) (t := 74) ?_; intro g2 aB w2 aC aA; have N12 := J (show g1 ≠ g2 by have := zac K1.o; omega); have L2 := J (show w.heap.size ≤ g2 by have := HB.o.size; omega); replace HB := J (za HB.o aA); replace K1 := J (zd K1.o aA); have K2 := J aC; clear aB aC aA; have c0 := cz_ K1.o 0 rfl; have c1 := cz_ K1.o 1 rfl; have c2 := cz_ K1.o 2 rfl; have c3 := cz_ K1.o 3 rfl; have c4 := cz_ K1.o 4 rfl; have c5 := cz_ K1.o 5 rfl)
  | fail)
 have aA : Below w2.heap.size w2 w2.drew := zU (Below.refl _ _); replace HB := J (show Below w.heap.size w w2.drew from za HB.o aA); replace K1 := J (show w2.drew.heap[g1]? = some (.cells #[.int .i64 z1, .slice a1 z2.length k1, .slice a2 z3.length k2, .slice a3 z4.length k3, .slice a4 z5.length k4, .bool z6] 63 (0, 0)) from zd K1.o aA); replace K2 := J (show w2.drew.heap[g2]? = some (.cells #[.int .i64 0, .slice none 0 0, .slice none 0 0, .slice none 0 0, .slice none 0 0, .bool false] 74 (0, 0)) from zd K2.o aA); clear aA c0 c1 c2 c3 c4 c5; refine zaw (n := 13) (S := fun w' => w'.cell? ⟨g1, 0, none⟩ = some (.int .i64 z1) ∧ w'.cell? ⟨g1, 1, none⟩ = some (.slice a1 z2.length k1) ∧ w'.cell? ⟨g1, 2, none⟩ = some (.slice a2 z3.length k2) ∧ w'.cell? ⟨g1, 3, none⟩ = some (.slice a3 z4.length k3) ∧ w'.cell? ⟨g1, 4, none⟩ = some (.slice a4 z5.length k4) ∧ w'.cell? ⟨g1, 5, none⟩ = some (.bool z6)) (ds := [12]) (bl_ 13 0) yK_ rfl rfl ⟨(zg K1.o 0).trans rfl, (zg K1.o 1).trans rfl, (zg K1.o 2).trans rfl, (zg K1.o 3).trans rfl, (zg K1.o 4).trans rfl, (zg K1.o 5).trans rfl⟩ (fun hHeld => ?_); refine zS rof.tab1 rof.bits1 (fun HT_ HW_ => ?_); generalize w2.drew = v0 at HB K1 K2 hHeld ⊢; refine pu_ 0 ?_; refine pu_ 2 ?_; refine pu_ 5 ?_; refine pu_ 8 ?_; refine tk_ 1 ?_; refine tk_ 3 ?_; refine tk_ 6 ?_; refine tk_ 9 ?_
 refine join_ (σ := Option Addr × Nat × Option Addr × Nat × Nat) 1 (bl_ 13 4095) (fun s_ => [(9, .slice s_.1 z2.length s_.2.1), (12, .slice s_.2.2.1 z5.length s_.2.2.2.1), (15, .agg #[.int .i64 z1, .slice s_.1 z2.length s_.2.1, .slice none 0 0, .slice none 0 0, .slice s_.2.2.1 z5.length s_.2.2.2.1, .bool z6]), (3, .pointer (some ⟨s_.2.2.2.2, 0, none⟩))]) (fun s_ w' => (w'.cell? ⟨g1, 0, none⟩ = some (.int .i64 z1) ∧ w'.cell? ⟨g1, 1, none⟩ = some (.slice a1 z2.length k1) ∧ w'.cell? ⟨g1, 2, none⟩ = some (.slice a2 z3.length k2) ∧ w'.cell? ⟨g1, 3, none⟩ = some (.slice a3 z4.length k3) ∧ w'.cell? ⟨g1, 4, none⟩ = some (.slice a4 z5.length k4) ∧ w'.cell? ⟨g1, 5, none⟩ = some (.bool z6)) ∧ (Below w.heap.size w w') ∧ (w'.heap[g1]? = some (.cells #[.int .i64 z1, .slice a1 z2.length k1, .slice a2 z3.length k2, .slice a3 z4.length k3, .slice a4 z5.length k4, .bool z6] 63 (0, 0))) ∧ (w'.heap[g2]? = some (.cells #[.int .i64 0, .slice none 0 0, .slice none 0 0, .slice none 0 0, .slice none 0 0, .bool false] 74 (0, 0))) ∧ (w'.heap[s_.2.2.2.2]? = some (.cells #[.int .i64 0, .slice none 0 0, .slice none 0 0, .slice none 0 0, .slice none 0 0, .bool false] 74 (0, 0))) ∧ (w.heap.size ≤ s_.2.2.2.2) ∧ (g1 ≠ s_.2.2.2.2 ∧ g2 ≠ s_.2.2.2.2) ∧ (Kd.R (Kd.int .u64) 114 w' w.heap.size (fun _ => True) (.slice s_.1 z2.length s_.2.1) (ku z2)) ∧ (Kd.R (Kd.int .u64) 114 w' w.heap.size (fun _ => True) (.slice s_.2.2.1 z5.length s_.2.2.2.1) (ku z5))) ?_ ?_; rotate_left
 ·intro hJ; refine two_ (i := 4) (j := 11) (Ni := some 9) (Nj := some 3) (bl_ 13 895) (bl_ 13 2927) rfl rfl rfl rfl (two_of HT_.o yK_) yD_ yD_ (fun K hK => ?_) (fun K hK => ?_)
  ·skip
   refine go1_ Try.func32 #[.slice a1 z2.length k1] ?_; refine (za7 a1 k1 z2 v0 (Kd.zm Q1.o HB.o) S1.o).mono ?_; rintro e_ v1 ⟨B_c, d_c, rfl, aD, aA⟩; refine ⟨_, rfl, ?_⟩; have R_c := J (show Kd.R (Kd.int .u64) 114 v1 w.heap.size (fun _ => True) (.slice B_c z2.length d_c) (ku z2) from Kd.z9 aD HB.o.size); replace HB := J (show Below w.heap.size w v1 from za HB.o aA); replace K1 := J (show v1.heap[g1]? = some (.cells #[.int .i64 z1, .slice a1 z2.length k1, .slice a2 z3.length k2, .slice a3 z4.length k3, .slice a4 z5.length k4, .bool z6] 63 (0, 0)) from zd K1.o aA); replace K2 := J (show v1.heap[g2]? = some (.cells #[.int .i64 0, .slice none 0 0, .slice none 0 0, .slice none 0 0, .slice none 0 0, .bool false] 74 (0, 0)) from zd K2.o aA); clear aD aA; refine hK.out _ _ ⟨(zg K1.o 0).trans rfl, (zg K1.o 1).trans rfl, (zg K1.o 2).trans rfl, (zg K1.o 3).trans rfl, (zg K1.o 4).trans rfl, (zg K1.o 5).trans rfl⟩ (fun hHeld => ?_); clear hK K; refine nm_ ?_; refine two_ (i := 7) (j := 11) (Ni := some 12) (Nj := some 3) (bl_ 13 1023) (bl_ 13 2943) rfl rfl rfl rfl (two_of HT_.o yK_) yD_ yD_ (fun K hK => ?_) (fun K hK => ?_)
   ·skip
    refine go1_ Try.func32 #[.slice a4 z5.length k4] ?_; refine (za7 a4 k4 z5 v1 (Kd.zm Q4.o HB.o) S4.o).mono ?_; rintro e_ v2 ⟨B_r, d_r, rfl, aD, aA⟩; refine ⟨_, rfl, ?_⟩; have R_r := J (show Kd.R (Kd.int .u64) 114 v2 w.heap.size (fun _ => True) (.slice B_r z5.length d_r) (ku z5) from Kd.z9 aD HB.o.size); replace HB := J (show Below w.heap.size w v2 from za HB.o aA); replace K1 := J (show v2.heap[g1]? = some (.cells #[.int .i64 z1, .slice a1 z2.length k1, .slice a2 z3.length k2, .slice a3 z4.length k3, .slice a4 z5.length k4, .bool z6] 63 (0, 0)) from zd K1.o aA); replace K2 := J (show v2.heap[g2]? = some (.cells #[.int .i64 0, .slice none 0 0, .slice none 0 0, .slice none 0 0, .slice none 0 0, .bool false] 74 (0, 0)) from zd K2.o aA); replace R_c := J (show Kd.R (Kd.int .u64) 114 v2 w.heap.size (fun _ => True) (.slice B_c z2.length d_c) (ku z2) from Kd.zF R_c.o aA); clear aD aA; refine hK.out _ _ ⟨(zg K1.o 0).trans rfl, (zg K1.o 1).trans rfl, (zg K1.o 2).trans rfl, (zg K1.o 3).trans rfl, (zg K1.o 4).trans rfl, (zg K1.o 5).trans rfl⟩ (fun hHeld => ?_); clear hK K; refine nm_ ?_; refine pu_ 10 ?_; refine on_ HT_ 11 (some 3) (bl_ 13 4095) fun K hK => ?_
    refine za2 ?hg (N := 3) ?hd (cs := #[.int .i64 0, .slice none 0 0, .slice none 0 0, .slice none 0 0, .slice none 0 0, .bool false]) (t := 74) ?hr ?_; (case hd => rfl); (case hg => rfl); (case hr => first | (go_simp; done) | (go_simp; rfl)); intro g3 aB v3 aC aA; have L3 := J (show w.heap.size ≤ g3 by have := HB.o.size; omega); have N3 := J (show g1 ≠ g3 ∧ g2 ≠ g3 by have := zac K1.o; have := zac K2.o; omega); replace HB := J (show Below w.heap.size w v3 from za HB.o aA); replace K1 := J (show v3.heap[g1]? = some (.cells #[.int .i64 z1, .slice a1 z2.length k1, .slice a2 z3.length k2, .slice a3 z4.length k3, .slice a4 z5.length k4, .bool z6] 63 (0, 0)) from zd K1.o aA); replace K2 := J (show v3.heap[g2]? = some (.cells #[.int .i64 0, .slice none 0 0, .slice none 0 0, .slice none 0 0, .slice none 0 0, .bool false] 74 (0, 0)) from zd K2.o aA); replace R_c := J (show Kd.R (Kd.int .u64) 114 v3 w.heap.size (fun _ => True) (.slice B_c z2.length d_c) (ku z2) from Kd.zF R_c.o aA); replace R_r := J (show Kd.R (Kd.int .u64) 114 v3 w.heap.size (fun _ => True) (.slice B_r z5.length d_r) (ku z5) from Kd.zF R_r.o aA); have K3 := J aC; clear aB aC aA; refine hK.out _ _ ⟨(zg K1.o 0).trans rfl, (zg K1.o 1).trans rfl, (zg K1.o 2).trans rfl, (zg K1.o 3).trans rfl, (zg K1.o 4).trans rfl, (zg K1.o 5).trans rfl⟩ (fun hHeld => ?_); clear hK K; refine nm_ ?_
    exact np_ (hJ (B_c, d_c, B_r, d_r, g3) _ ⟨hHeld, HB.o, K1.o, K2.o, K3.o, L3.o, N3.o, R_c.o, R_r.o⟩)
   ·skip
    refine za2 ?hg (N := 3) ?hd (cs := #[.int .i64 0, .slice none 0 0, .slice none 0 0, .slice none 0 0, .slice none 0 0, .bool false]) (t := 74) ?hr ?_; (case hd => rfl); (case hg => rfl); (case hr => first | (go_simp; done) | (go_simp; rfl)); intro g3 aB v2 aC aA; have L3 := J (show w.heap.size ≤ g3 by have := HB.o.size; omega); have N3 := J (show g1 ≠ g3 ∧ g2 ≠ g3 by have := zac K1.o; have := zac K2.o; omega); replace HB := J (show Below w.heap.size w v2 from za HB.o aA); replace K1 := J (show v2.heap[g1]? = some (.cells #[.int .i64 z1, .slice a1 z2.length k1, .slice a2 z3.length k2, .slice a3 z4.length k3, .slice a4 z5.length k4, .bool z6] 63 (0, 0)) from zd K1.o aA); replace K2 := J (show v2.heap[g2]? = some (.cells #[.int .i64 0, .slice none 0 0, .slice none 0 0, .slice none 0 0, .slice none 0 0, .bool false] 74 (0, 0)) from zd K2.o aA); replace R_c := J (show Kd.R (Kd.int .u64) 114 v2 w.heap.size (fun _ => True) (.slice B_c z2.length d_c) (ku z2) from Kd.zF R_c.o aA); have K3 := J aC; clear aB aC aA; refine hK.out _ _ ⟨(zg K1.o 0).trans rfl, (zg K1.o 1).trans rfl, (zg K1.o 2).trans rfl, (zg K1.o 3).trans rfl, (zg K1.o 4).trans rfl, (zg K1.o 5).trans rfl⟩ (fun hHeld => ?_); clear hK K; refine nm_ ?_; refine on_ HT_ 7 (some 12) (bl_ 13 3071) fun K hK => ?_
    refine go1_ Try.func32 #[.slice a4 z5.length k4] ?_; refine (za7 a4 k4 z5 v2 (Kd.zm Q4.o HB.o) S4.o).mono ?_; rintro e_ v3 ⟨B_r, d_r, rfl, aD, aA⟩; refine ⟨_, rfl, ?_⟩; have R_r := J (show Kd.R (Kd.int .u64) 114 v3 w.heap.size (fun _ => True) (.slice B_r z5.length d_r) (ku z5) from Kd.z9 aD HB.o.size); replace HB := J (show Below w.heap.size w v3 from za HB.o aA); replace K1 := J (show v3.heap[g1]? = some (.cells #[.int .i64 z1, .slice a1 z2.length k1, .slice a2 z3.length k2, .slice a3 z4.length k3, .slice a4 z5.length k4, .bool z6] 63 (0, 0)) from zd K1.o aA); replace K2 := J (show v3.heap[g2]? = some (.cells #[.int .i64 0, .slice none 0 0, .slice none 0 0, .slice none 0 0, .slice none 0 0, .bool false] 74 (0, 0)) from zd K2.o aA); replace R_c := J (show Kd.R (Kd.int .u64) 114 v3 w.heap.size (fun _ => True) (.slice B_c z2.length d_c) (ku z2) from Kd.zF R_c.o aA); replace K3 := J (show v3.heap[g3]? = some (.cells #[.int .i64 0, .slice none 0 0, .slice none 0 0, .slice none 0 0, .slice none 0 0, .bool false] 74 (0, 0)) from zd K3.o aA); replace L3 := J (show w.heap.size ≤ g3 from L3.o); replace N3 := J (show g1 ≠ g3 ∧ g2 ≠ g3 from N3.o); clear aD aA; refine hK.out _ _ ⟨(zg K1.o 0).trans rfl, (zg K1.o 1).trans rfl, (zg K1.o 2).trans rfl, (zg K1.o 3).trans rfl, (zg K1.o 4).trans rfl, (zg K1.o 5).trans rfl⟩ (fun hHeld => ?_); clear hK K; refine nm_ ?_; refine pu_ 10 ?_
    exact np_ (hJ (B_c, d_c, B_r, d_r, g3) _ ⟨hHeld, HB.o, K1.o, K2.o, K3.o, L3.o, N3.o, R_c.o, R_r.o⟩)
  ·skip
   refine za2 ?hg (N := 3) ?hd (cs := #[.int .i64 0, .slice none 0 0, .slice none 0 0, .slice none 0 0, .slice none 0 0, .bool false]) (t := 74) ?hr ?_; (case hd => rfl); (case hg => rfl); (case hr => first | (go_simp; done) | (go_simp; rfl)); intro g3 aB v1 aC aA; have L3 := J (show w.heap.size ≤ g3 by have := HB.o.size; omega); have N3 := J (show g1 ≠ g3 ∧ g2 ≠ g3 by have := zac K1.o; have := zac K2.o; omega); replace HB := J (show Below w.heap.size w v1 from za HB.o aA); replace K1 := J (show v1.heap[g1]? = some (.cells #[.int .i64 z1, .slice a1 z2.length k1, .slice a2 z3.length k2, .slice a3 z4.length k3, .slice a4 z5.length k4, .bool z6] 63 (0, 0)) from zd K1.o aA); replace K2 := J (show v1.heap[g2]? = some (.cells #[.int .i64 0, .slice none 0 0, .slice none 0 0, .slice none 0 0, .slice none 0 0, .bool false] 74 (0, 0)) from zd K2.o aA); have K3 := J aC; clear aB aC aA; refine hK.out _ _ ⟨(zg K1.o 0).trans rfl, (zg K1.o 1).trans rfl, (zg K1.o 2).trans rfl, (zg K1.o 3).trans rfl, (zg K1.o 4).trans rfl, (zg K1.o 5).trans rfl⟩ (fun hHeld => ?_); clear hK K; refine nm_ ?_; refine on_ HT_ 4 (some 9) (bl_ 13 2943) fun K hK => ?_
   refine go1_ Try.func32 #[.slice a1 z2.length k1] ?_; refine (za7 a1 k1 z2 v1 (Kd.zm Q1.o HB.o) S1.o).mono ?_; rintro e_ v2 ⟨B_c, d_c, rfl, aD, aA⟩; refine ⟨_, rfl, ?_⟩; have R_c := J (show Kd.R (Kd.int .u64) 114 v2 w.heap.size (fun _ => True) (.slice B_c z2.length d_c) (ku z2) from Kd.z9 aD HB.o.size); replace HB := J (show Below w.heap.size w v2 from za HB.o aA); replace K1 := J (show v2.heap[g1]? = some (.cells #[.int .i64 z1, .slice a1 z2.length k1, .slice a2 z3.length k2, .slice a3 z4.length k3, .slice a4 z5.length k4, .bool z6] 63 (0, 0)) from zd K1.o aA); replace K2 := J (show v2.heap[g2]? = some (.cells #[.int .i64 0, .slice none 0 0, .slice none 0 0, .slice none 0 0, .slice none 0 0, .bool false] 74 (0, 0)) from zd K2.o aA); replace K3 := J (show v2.heap[g3]? = some (.cells #[.int .i64 0, .slice none 0 0, .slice none 0 0, .slice none 0 0, .slice none 0 0, .bool false] 74 (0, 0)) from zd K3.o aA); replace L3 := J (show w.heap.size ≤ g3 from L3.o); replace N3 := J (show g1 ≠ g3 ∧ g2 ≠ g3 from N3.o); clear aD aA; refine hK.out _ _ ⟨(zg K1.o 0).trans rfl, (zg K1.o 1).trans rfl, (zg K1.o 2).trans rfl, (zg K1.o 3).trans rfl, (zg K1.o 4).trans rfl, (zg K1.o 5).trans rfl⟩ (fun hHeld => ?_); clear hK K; refine nm_ ?_; refine on_ HT_ 7 (some 12) (bl_ 13 3071) fun K hK => ?_
   refine go1_ Try.func32 #[.slice a4 z5.length k4] ?_; refine (za7 a4 k4 z5 v2 (Kd.zm Q4.o HB.o) S4.o).mono ?_; rintro e_ v3 ⟨B_r, d_r, rfl, aD, aA⟩; refine ⟨_, rfl, ?_⟩; have R_r := J (show Kd.R (Kd.int .u64) 114 v3 w.heap.size (fun _ => True) (.slice B_r z5.length d_r) (ku z5) from Kd.z9 aD HB.o.size); replace HB := J (show Below w.heap.size w v3 from za HB.o aA); replace K1 := J (show v3.heap[g1]? = some (.cells #[.int .i64 z1, .slice a1 z2.length k1, .slice a2 z3.length k2, .slice a3 z4.length k3, .slice a4 z5.length k4, .bool z6] 63 (0, 0)) from zd K1.o aA); replace K2 := J (show v3.heap[g2]? = some (.cells #[.int .i64 0, .slice none 0 0, .slice none 0 0, .slice none 0 0, .slice none 0 0, .bool false] 74 (0, 0)) from zd K2.o aA); replace K3 := J (show v3.heap[g3]? = some (.cells #[.int .i64 0, .slice none 0 0, .slice none 0 0, .slice none 0 0, .slice none 0 0, .bool false] 74 (0, 0)) from zd K3.o aA); replace L3 := J (show w.heap.size ≤ g3 from L3.o); replace N3 := J (show g1 ≠ g3 ∧ g2 ≠ g3 from N3.o); replace R_c := J (show Kd.R (Kd.int .u64) 114 v3 w.heap.size (fun _ => True) (.slice B_c z2.length d_c) (ku z2) from Kd.zF R_c.o aA); clear aD aA; refine hK.out _ _ ⟨(zg K1.o 0).trans rfl, (zg K1.o 1).trans rfl, (zg K1.o 2).trans rfl, (zg K1.o 3).trans rfl, (zg K1.o 4).trans rfl, (zg K1.o 5).trans rfl⟩ (fun hHeld => ?_); clear hK K; refine nm_ ?_; refine pu_ 10 ?_
   exact np_ (hJ (B_c, d_c, B_r, d_r, g3) _ ⟨hHeld, HB.o, K1.o, K2.o, K3.o, L3.o, N3.o, R_c.o, R_r.o⟩)
 rintro ⟨B_c, d_c, B_r, d_r, g3⟩ v1 ⟨hHeld, h0_, h1_, h2_, h3_, h4_, h5_, h6_, h7_⟩; clear HB K1 K2; have HB := J (show Below w.heap.size w v1 from h0_); have K1 := J (show v1.heap[g1]? = some (.cells #[.int .i64 z1, .slice a1 z2.length k1, .slice a2 z3.length k2, .slice a3 z4.length k3, .slice a4 z5.length k4, .bool z6] 63 (0, 0)) from h1_); have K2 := J (show v1.heap[g2]? = some (.cells #[.int .i64 0, .slice none 0 0, .slice none 0 0, .slice none 0 0, .slice none 0 0, .bool false] 74 (0, 0)) from h2_); have K3 := J (show v1.heap[g3]? = some (.cells #[.int .i64 0, .slice none 0 0, .slice none 0 0, .slice none 0 0, .slice none 0 0, .bool false] 74 (0, 0)) from h3_); have L3 := J (show w.heap.size ≤ g3 from h4_); have N3 := J (show g1 ≠ g3 ∧ g2 ≠ g3 from h5_); have R_c := J (show Kd.R (Kd.int .u64) 114 v1 w.heap.size (fun _ => True) (.slice B_c z2.length d_c) (ku z2) from h6_); have R_r := J (show Kd.R (Kd.int .u64) 114 v1 w.heap.size (fun _ => True) (.slice B_r z5.length d_r) (ku z5) from h7_); clear h0_ h1_ h2_ h3_ h4_ h5_ h6_ h7_; refine zbl (a' := ?_) ?_ ?_; rotate_left; (focus (simp only [putAll, Act.put, sI_, s0_, s1_]; first | done | rfl)); refine last_ (i := 12) (N := none) (bl_ 13 8191) rfl rfl (zaY HT_.o yK_) yD_ (fun K hK => ?_)
 refine zbe (by rfl) 74 rfl rfl g3 #[.int .i64 z1, .slice B_c z2.length d_c, .slice none 0 0, .slice none 0 0, .slice B_r z5.length d_r, .bool z6] rfl rfl 74 _ K3.o (info74.trans rfl) rfl (by simp [Value.oneCell']) ?_; intro wS aC aB; have K3n := J aC; have RCn := J (r_put R_c.o K3.o yD_ aB); have RRn := J (r_put R_r.o K3.o yD_ aB); have HBn := J (HB.o.grown aB HB.o.size (fun k_ aJ => by cases aJ; exact L3.o)); have K1n := J (zu aB K1.o (fun e => N3.o.1 (Option.some.inj e))); have K2n := J (zu aB K2.o (fun e => N3.o.2 (Option.some.inj e))); clear aC aB; refine hK.out _ _ ?_; clear hK K; refine zaL (zad HT_.o yK_) ?_; clear hHeld HB K1 K2 K3 R_c R_r; have HB := HBn; have K1 := K1n; have K2 := K2n; have K3 := K3n; have R_c := RCn; have R_r := RRn; clear HBn K1n K2n K3n RCn RRn; have aT := cz_ K3.o 2 rfl; have c12 := cz_ K1.o 2 rfl; have Q2S := J (Q2.o.step HB.o)
 go_wp2_with (first
  | ((with_reducible refine zf (N := 20) rfl ?_); refine Kd.R_append_row (Value.int .i64) (0 : Int) (h1 := fun _ => rfl) (w0 := w) w.heap.size rfl _ _ 22 3 (.int .i64 0) 8 rfl Try.underlying22 info22c rfl yD_ (.slice none 0 0) [] z3 a2 z3.length k2 (fun _ => True) rfl rfl (fun _ _ => trivial) (Kd.zaI _ _ _ _ _) Q2S.o.row HB.o HB.o.size (by rw [List.length_nil, Nat.zero_add]; exact S2.o) ?_; intro v4 w4 aD aA aB _; obtain ⟨B_i, d_i, rfl⟩ := Kd.zJ (xs := z3) aD; have R_i := J (show Kd.R (Kd.int .i64) 3 w4 w.heap.size (fun _ => True) (.slice B_i z3.length d_i) z3 from aD); replace K1 := J (zu aB K1.o (fun e => by cases e)); replace K2 := J (zu aB K2.o (fun e => by cases e)); replace K3 := J (zu aB K3.o (fun e => by cases e)); replace R_c := J (Kd.R_grown R_c.o aB (fun k _ e => by cases e)); replace R_r := J (Kd.R_grown R_r.o aB (fun k _ e => by cases e)); replace HB := J aA; clear aD aA aB aT c12; have aT := cz_ K3.o 2 rfl; have f22 := zb K3.o 2)
  | fail)
 clear aT f22; have aE := NW.zx w4 g3 2 (.slice B_i z3.length d_i); have aK := J (show (w4.setCell ⟨g3, 2, none⟩ (.slice B_i z3.length d_i)).heap[g3]? = some (.cells #[.int .i64 z1, .slice B_c z2.length d_c, .slice B_i z3.length d_i, .slice none 0 0, .slice B_r z5.length d_r, .bool z6] 74 (0, 0)) from zav K3.o 2 _); replace R_c := J (r_put R_c.o K3.o yD_ aE); replace R_i := J (r_put R_i.o K3.o yD_ aE); replace R_r := J (r_put R_r.o K3.o yD_ aE); replace HB := J (HB.o.grown aE HB.o.size (fun k_ aJ => by cases aJ; exact L3.o)); replace K1 := J (zu aE K1.o (fun e => N3.o.1 (Option.some.inj e))); replace K2 := J (zu aE K2.o (fun e => N3.o.2 (Option.some.inj e))); replace K3 := aK; clear aK aE; generalize w4.setCell ⟨g3, 2, none⟩ (.slice B_i z3.length d_i) = w5 at HB K1 K2 K3 R_c R_i R_r ⊢; have R_g := J (Kd.zaI dU 66 w5 w.heap.size (fun _ => True))
 go_loopg [4] z4.length (fun m v4 wr => ∃ (x : Nat) (B : Option Addr) (d : Nat), v4 = .int .i64 (x : Int) ∧ ze (x + m = z4.length) ∧ ze (wr.heap[g3]? = some (.cells #[.int .i64 z1, .slice B_c z2.length d_c, .slice B_i z3.length d_i, .slice B x d, .slice B_r z5.length d_r, .bool z6] 74 (0, 0))) ∧ ze (Kd.R dU 66 wr w.heap.size (fun _ => True) (.slice B x d) ((z4.take x).map ku)) ∧ ze (Kd.R (Kd.int .u64) 114 wr w.heap.size (fun _ => True) (.slice B_c z2.length d_c) (ku z2)) ∧ ze (Kd.R (Kd.int .i64) 3 wr w.heap.size (fun _ => True) (.slice B_i z3.length d_i) z3) ∧ ze (Kd.R (Kd.int .u64) 114 wr w.heap.size (fun _ => True) (.slice B_r z5.length d_r) (ku z5)) ∧ ze (wr.heap[g1]? = some (.cells #[.int .i64 z1, .slice a1 z2.length k1, .slice a2 z3.length k2, .slice a3 z4.length k3, .slice a4 z5.length k4, .bool z6] 63 (0, 0))) ∧ ze (wr.heap[g2]? = some (.cells #[.int .i64 0, .slice none 0 0, .slice none 0 0, .slice none 0 0, .slice none 0 0, .bool false] 74 (0, 0))) ∧ ze (Below w.heap.size w wr))
 case atStart => exact ⟨0, none, 0, rfl, ⟨by omega⟩, K3, R_g, R_c, R_i, R_r, K1, K2, HB⟩
 case round =>
  clear K3 R_g R_c R_i R_r K1 K2 HB; obtain ⟨x, B, d, rfl, hm, K3, R_g, R_c, R_i, R_r, K1, K2, HB⟩ := hrel
  by_cases hx : x < z4.length
  ·have HX := J hx; have p1 := eq_true hx; have p2 := eq_true (show (x : Int) < (z4.length : Int) by omega); have p3 := eq_true (show (0 : Int) ≤ (x : Int) by omega); have p4 := decide_eq_true (show (x : Int) < (z4.length : Int) by omega); obtain ⟨ag, Ak, ck, eag, aL, _, hrk⟩ := at_kff Q3.o x hx; cases eag; have HRK := J hrk; have HCG := J aL; have HUL := J (S5.o _ (List.mem_of_getElem? (rdl_get hx))); have HT := J (kus_take hx); clear hx hrk aL; generalize rdl z4 x = us at *
   have LX := J (show ((z4.take x).map ku).length = x by rw [List.length_map, List.length_take]; have := HX.o; omega); generalize (z4.take x).map ku = xs at *
   have c13 := cz_ K1.o 3 rfl; go_wp2_with fail; clear c13; have aA : Below wr.heap.size wr wr.drew := zU (Below.refl _ _); replace HB := J (show Below w.heap.size w wr.drew from za HB.o aA); replace K1 := J (show wr.drew.heap[g1]? = some (.cells #[.int .i64 z1, .slice a1 z2.length k1, .slice a2 z3.length k2, .slice (some ag) z4.length k3, .slice a4 z5.length k4, .bool z6] 63 (0, 0)) from zd K1.o aA); replace K2 := J (show wr.drew.heap[g2]? = some (.cells #[.int .i64 0, .slice none 0 0, .slice none 0 0, .slice none 0 0, .slice none 0 0, .bool false] 74 (0, 0)) from zd K2.o aA); replace K3 := J (show wr.drew.heap[g3]? = some (.cells #[.int .i64 z1, .slice B_c z2.length d_c, .slice B_i z3.length d_i, .slice B x d, .slice B_r z5.length d_r, .bool z6] 74 (0, 0)) from zd K3.o aA); replace R_g := J (show Kd.R dU 66 wr.drew w.heap.size (fun _ => True) (.slice B x d) xs from Kd.zF R_g.o aA); replace R_c := J (show Kd.R (Kd.int .u64) 114 wr.drew w.heap.size (fun _ => True) (.slice B_c z2.length d_c) (ku z2) from Kd.zF R_c.o aA); replace R_i := J (show Kd.R (Kd.int .i64) 3 wr.drew w.heap.size (fun _ => True) (.slice B_i z3.length d_i) z3 from Kd.zF R_i.o aA); replace R_r := J (show Kd.R (Kd.int .u64) 114 wr.drew w.heap.size (fun _ => True) (.slice B_r z5.length d_r) (ku z5) from Kd.zF R_r.o aA); clear aA
   skip
   refine zaw (n := 12) (S := fun w' => w'.cell? ⟨g3, 3, none⟩ = some (.slice B x d) ∧ w'.cell? ⟨g1, 3, none⟩ = some (.slice (some ag) z4.length k3) ∧ w'.cell? (ag.add x) = some (.slice Ak us.length ck)) (ds := [9, 11]) (bl_ 12 0) yK_ rfl rfl ⟨(zg K3.o 3).trans rfl, (zg K1.o 3).trans rfl, zr HB.o HCG.o⟩ (fun hHeld => ?_); refine zS rof.tab6 rof.bits6 (fun HT_ HW_ => ?_); generalize wr.drew = v0 at HB K1 K2 K3 R_g R_c R_i R_r hHeld ⊢; refine pu_ 0 ?_; refine pu_ 2 ?_; refine pu_ 4 ?_; refine tk_ 1 ?_; refine tk_ 3 ?_; refine pu_ 5 ?_; refine tk_ 6 ?_; refine on_ HT_ 7 (some 36) (bl_ 12 255) fun K hK => ?_
   refine go1_ Try.func32 #[.slice Ak us.length ck] ?_; refine (za7 Ak ck us v0 (Kd.zm HRK.o HB.o) HUL.o).mono ?_; rintro e_ v1 ⟨B2, d2, rfl, hr2, aG⟩; refine ⟨_, rfl, ?_⟩; have M2 := J (show dU.M v1 w.heap.size (fun k => True ∧ some k ≠ (Value.slice B x d).ownBlock) (ku us) [.slice B2 us.length d2] from ⟨_, rfl, Kd.z9 (Kd.R_new hr2 (Kd.R_own R_g.o).choose_spec) HB.o.size⟩); replace HB := J (show Below w.heap.size w v1 from za HB.o aG); replace K1 := J (show v1.heap[g1]? = some (.cells #[.int .i64 z1, .slice a1 z2.length k1, .slice a2 z3.length k2, .slice (some ag) z4.length k3, .slice a4 z5.length k4, .bool z6] 63 (0, 0)) from zd K1.o aG); replace K2 := J (show v1.heap[g2]? = some (.cells #[.int .i64 0, .slice none 0 0, .slice none 0 0, .slice none 0 0, .slice none 0 0, .bool false] 74 (0, 0)) from zd K2.o aG); replace K3 := J (show v1.heap[g3]? = some (.cells #[.int .i64 z1, .slice B_c z2.length d_c, .slice B_i z3.length d_i, .slice B x d, .slice B_r z5.length d_r, .bool z6] 74 (0, 0)) from zd K3.o aG); replace R_g := J (show Kd.R dU 66 v1 w.heap.size (fun _ => True) (.slice B x d) xs from Kd.zF R_g.o aG); replace R_c := J (show Kd.R (Kd.int .u64) 114 v1 w.heap.size (fun _ => True) (.slice B_c z2.length d_c) (ku z2) from Kd.zF R_c.o aG); replace R_i := J (show Kd.R (Kd.int .i64) 3 v1 w.heap.size (fun _ => True) (.slice B_i z3.length d_i) z3 from Kd.zF R_i.o aG)
   replace R_r := J (show Kd.R (Kd.int .u64) 114 v1 w.heap.size (fun _ => True) (.slice B_r z5.length d_r) (ku z5) from Kd.zF R_r.o aG); clear aG hr2; refine hK.out _ _ ⟨(zg K3.o 3).trans rfl, (zg K1.o 3).trans rfl, zr HB.o HCG.o⟩ (fun hHeld => ?_); clear hK K; refine nm_ ?_; refine on_ HT_ 8 (some 37) (bl_ 12 511) fun K hK => ?_
   refine value_ (w1 := v1.alloc (.cells #[.slice B2 us.length d2] 66)) (v := .slice (some ⟨v1.heap.size, 0, none⟩) 1 1) (by rfl) rfl (by go_simp; first | done | rfl) ?_; refine hK.out _ _ ⟨zr (z7 (Below.refl v1.heap.size v1) _) ((zg K3.o 3).trans rfl), zr (z7 (Below.refl v1.heap.size v1) _) ((zg K1.o 3).trans rfl), zr (z7 (Below.refl v1.heap.size v1) _) (zr HB.o HCG.o)⟩ (fun hHeld => ?_); clear hK K; refine nm_ ?_; refine last_ (i := 9) (N := some 38) (bl_ 12 1023) rfl rfl (zaY HT_.o yK_) yD_ (fun K hK => ?_); refine Kd.R_append_step dU (W := v1) (w0 := w) w.heap.size (by rfl) _ _ 67 66 (.slice none 0 0) 24 rfl Try.underlying67 info66 rfl yD_ yD_ (.slice B x d) xs (ku us) [.slice B2 us.length d2] (fun _ => True) _ rfl rfl M2.o (fun _ hk => hk) (fun _ _ => trivial) R_g.o HB.o HB.o.size (by rw [LX.o]; have := HX.o; have := S3.o; omega) ?_; intro vv1 w7 aO hb3 aI _; have ne_ := Kd.R_ne R_g.o K3.o yD_; have aM := Kd.R_ne R_g.o K1.o yD_; have aN := Kd.R_ne R_g.o K2.o yD_; have aH : ∀ k, (Value.slice B x d).ownBlock = some k → ∃ cells, v1.heap[k]? = some (.cells cells 66 (0, 0)) := Kd.R_typed R_g.o
   replace R_c := J (Kd.R_over' R_c.o aH yD_ aI); replace R_i := J (Kd.R_over' R_i.o aH yD_ aI); replace R_r := J (Kd.R_over' R_r.o aH yD_ aI); replace K1 := J (zu aI K1.o aM); replace K2 := J (zu aI K2.o aN); replace K3 := J (zu aI K3.o ne_); replace HB := J hb3; have hl_ : (xs ++ [ku us]).length = x + 1 := by rw [List.length_append, LX.o]; rfl
   obtain ⟨B3, d3, rfl⟩ := Kd.zJ aO; rw [hl_] at aO ⊢; replace R_g := J aO; clear aO hb3 aI ne_ aM aN aH hl_ M2; have c33 := cz_ K3.o 3 rfl; have f33 := zb K3.o 3; refine hK.out _ _ ?_; clear hK K; refine nm_ ?_; refine pu_ 10 ?_; refine last_ (i := 11) (N := none) (bl_ 12 4095) rfl rfl (zaY HT_.o yK_) yD_ (fun K hK => ?_); refine skip_ (w1 := ?_) (by rfl) rfl ?_ ?_; rotate_left; (focus (go_simp; first | done | rfl)); refine hK.out _ _ ?_; clear hK K; refine zaL (zad HT_.o yK_) ?_; clear hHeld c33 f33; have aE := NW.zx w7 g3 3 (.slice B3 (x + 1) d3); have aK := J (show (w7.setCell ⟨g3, 3, none⟩ (.slice B3 (x + 1) d3)).heap[g3]? = some (.cells #[.int .i64 z1, .slice B_c z2.length d_c, .slice B_i z3.length d_i, .slice B3 (x + 1) d3, .slice B_r z5.length d_r, .bool z6] 74 (0, 0)) from zav K3.o 3 _); replace R_g := J (r_put R_g.o K3.o yD_ aE); replace R_c := J (r_put R_c.o K3.o yD_ aE); replace R_i := J (r_put R_i.o K3.o yD_ aE); replace R_r := J (r_put R_r.o K3.o yD_ aE); replace HB := J (HB.o.grown aE HB.o.size (fun k_ aJ => by cases aJ; exact L3.o)); replace K1 := J (zu aE K1.o (fun e => N3.o.1 (Option.some.inj e))); replace K2 := J (zu aE K2.o (fun e => N3.o.2 (Option.some.inj e))); replace K3 := aK; clear aK aE; generalize w7.setCell ⟨g3, 3, none⟩ (.slice B3 (x + 1) d3) = w8 at HB K1 K2 K3 R_g R_c R_i R_r ⊢; go_wp2_with fail; go_roundg (gk - 1)
   case measure => have := hm.o; have := HX.o; omega
   case rel => exact ⟨x + 1, B3, d3, by first | rfl | (rw [w64 _ yO_ (by have := HX.o; have := S3.o; omega)]; rfl), ⟨by have := hm.o; have := HX.o; omega⟩, K3, ⟨by rw [HT.o]; exact R_g.o⟩, R_c, R_i, R_r, K1, K2, HB⟩
  ·have p1 := eq_false hx; have p2 := eq_false (show ¬ (x : Int) < (z4.length : Int) by omega); have p4 := decide_eq_false (show ¬ (x : Int) < (z4.length : Int) by omega); obtain rfl : x = z4.length := by have := hm.o; omega
   rw [List.take_length] at R_g; have c13 := cz_ K1.o 3 rfl; have e0 := cz_ K3.o 0 rfl; have e1 := cz_ K3.o 1 rfl; have e2 := cz_ K3.o 2 rfl; have e3 := cz_ K3.o 3 rfl; have e4 := cz_ K3.o 4 rfl; have e5 := cz_ K3.o 5 rfl; clear hx hm
   go_wp2_with (first
    | ((with_reducible refine zj (t := 74) (p := 2) rfl ?_); refine zi rfl 74 rfl rfl g2 #[.int .i64 z1, .slice B_c z2.length d_c, .slice B_i z3.length d_i, .slice B z4.length d, .slice B_r z5.length d_r, .bool z6] rfl rfl 74 _ K2.o (info74.trans rfl) rfl (by simp [Value.oneCell']) ?_; intro w9 aC aB; have aQ := J (r_put R_g.o K2.o yD_ aB); have aP := J (r_put R_c.o K2.o yD_ aB); have aR := J (r_put R_i.o K2.o yD_ aB); have aS := J (r_put R_r.o K2.o yD_ aB); replace HB := J (HB.o.grown aB HB.o.size (fun k_ aJ => by cases aJ; exact L2.o)); replace K2 := J aC; clear aC aB)
    | fail)
   refine bodyPost_ret (results_cell_row rfl _ _ g2 74 #[.int .i64 z1, .slice B_c z2.length d_c, .slice B_i z3.length d_i, .slice B z4.length d, .slice B_r z5.length d_r, .bool z6] (0, 0) _ rfl K2.o Try.underlying74 rfl yK_) rfl ?_; have y1 := Kd.zK (show Kd.R (Kd.int .u64) 114 w9 w.heap.size (fun _ => True) (.slice B_c (ku z2).length d_c) (ku z2) by rw [zaA]; exact aP.o); have y2 := Kd.zK aR.o; have y3 := Kd.zK (show Kd.R dU 66 w9 w.heap.size (fun _ => True) (.slice B (z4.map ku).length d) (z4.map ku) by rw [List.length_map]; exact aQ.o); have y4 := Kd.zK (show Kd.R (Kd.int .u64) 114 w9 w.heap.size (fun _ => True) (.slice B_r (ku z5).length d_r) (ku z5) by rw [zaA]; exact aS.o); exact ⟨⟨B_c, d_c, B_i, d_i, B, d, B_r, d_r⟩, by unfold uc; simp only [zaA, List.length_map], ⟨y1.2.2, y1.2.1, ⟨y2.2.2, y2.2.1⟩, y3.2.2, y4.2.2, y4.2.1⟩, HB.o⟩
theorem info69 : (Try.prog.info? 69).map (·.size) = some 7 := by kernel_rfl
def qcv (p : Pn) (h : Ph) : Array Value := #[.slice h.a1 (ku p.C).length h.c1, .slice h.a2 (p.G.map ku).length h.c2, .int .i64 p.T, .slice h.a4 (p.L.map ku).length h.c4, .int .i64 p.K, .int .i64 p.D, .int .i64 p.O]
structure Qr (w : World) (p : Pn) (h : Ph) : Prop where
 r1 : Kd.C (Kd.int .u64) w h.a1 (ku p.C).length (ku p.C)
 k1 : (ku p.C).length ≤ h.c1
 r2 : dU.C w h.a2 (p.G.map ku).length (p.G.map ku)
 k2 : (p.G.map ku).length ≤ h.c2
 r4 : dU.C w h.a4 (p.L.map ku).length (p.L.map ku)
 k4 : (p.L.map ku).length ≤ h.c4
structure Ps (p : Pn) : Prop where
 C : p.C.length * 8 ≤ 140737488355328
 G : p.G.length * 24 ≤ 140737488355328
 U : ∀ us, us ∈ p.G → us.length * 8 ≤ 140737488355328
 L : p.L.length * 24 ≤ 140737488355328
 V : ∀ us, us ∈ p.L → us.length * 8 ≤ 140737488355328
def rprop.T1 : Bool × List (List Nat × List Nat) := (true, [([], []), ([0], [0]), ([1], [1]), ([], []), ([3], [3]), ([4, 2], [4]), ([], []), ([6], [6]), ([], []), ([8], [8]), ([9, 5], [9]), ([], []), ([11], [11]), ([], []), ([13], [13]), ([], []), ([15], [15]), ([2, 5, 7, 10, 12, 14, 16], [2, 5, 7, 10, 12, 14, 16]), ([17, 10, 0, 1, 2, 3, 4, 5, 6, 7, 8, 9, 10, 11, 12, 13, 14, 15, 16, 17], [17])])
def rprop.B1 : List Nat := [0, 1, 3, 0, 8, 31, 0, 64, 0, 256, 831, 0, 2048, 0, 8192, 0, 32768, 131071, 262143]
theorem rprop.tab1 : zbc .any (opsOf Try.f28 1) = rprop.T1 := by kernel_rfl
theorem rprop.bits1 : zal rprop.T1.2 rprop.B1 = true := by kernel_rfl
theorem ofprop_calls (p : Pn) (h : Ph) (w : World) (hr : Pr w p h) (hs : Ps p) :
  Calls Try.prog 28 #[.agg (pcv p h)] w fun e w' => ∃ q, e = .returned (.agg (qcv p q)) ∧ Qr w' p q ∧ Below w.heap.size w w' := by
 obtain ⟨y1, y2, y3, y4, y5, y6, y7⟩ := p; obtain ⟨b1, l1, b2, l2, b4, l4⟩ := h; have hu65 := Try.underlying65; have hu69 := Try.underlying69; have HR := J hr; have HS := J hs; clear hr hs; have hv : pcv ⟨y1, y2, y3, y4, y5, y6, y7⟩ ⟨b1, l1, b2, l2, b4, l4⟩ = #[.slice b1 y1.length l1, .slice b2 y2.length l2, .int .i64 y3, .slice b4 y4.length l4, .int .i64 y5, .int .i64 y6, .int .i64 y7] := rfl; rw [hv]; clear hv; have Q1 := J (show kf.C w b1 y1.length y1 from HR.o.r1); have Q2 := J (show kff.C w b2 y2.length y2 from HR.o.r2); have Q4 := J (show kff.C w b4 y4.length y4 from HR.o.r4); have S1 := J (show y1.length * 8 ≤ 140737488355328 from HS.o.C); have S2 := J (show y2.length * 24 ≤ 140737488355328 from HS.o.G); have S3 := J (show ∀ us, us ∈ y2 → us.length * 8 ≤ 140737488355328 from HS.o.U); have S4 := J (show y4.length * 24 ≤ 140737488355328 from HS.o.L); have S5 := J (show ∀ us, us ∈ y4 → us.length * 8 ≤ 140737488355328 from HS.o.V); clear HR HS; go_enter Try.func28, Try.ntmps28
 go_wp2_with (first
  | ((with_reducible refine zf (N := 1) rfl ?_); refine zah 1 (cs := #[.slice b1 y1.length l1, .slice b2 y2.length l2, .int .i64 y3, .slice b4 y4.length l4, .int .i64 y5, .int .i64 y6, .int .i64 y7]) (t := 65) ?_; intro g1 aC w1 aD aA; have HB := J aA; have K1 := J aD; have L1 := J (show w.heap.size ≤ g1 by omega); clear aC aD aA)
  | ((with_reducible refine zf (N := 2) rfl ?_); refine zah 2 (cs := #[.slice none 0 0, .slice none 0 0, .int .i64 0, .slice none 0 0, .int .i64 0, .int .i64 0, .int .i64 0]) (t := 69) ?_; intro g2 aC w2 aD aA; have N12 := J (show g1 ≠ g2 by have := zac K1.o; omega); have L2 := J (show w.heap.size ≤ g2 by have := HB.o.size; omega); replace HB := J (za HB.o aA); replace K1 := J (zd K1.o aA); have K2 := J aD; clear aC aD aA)
  | fail)
 have aA : Below w2.heap.size w2 w2.drew := zU (Below.refl _ _); replace HB := J (show Below w.heap.size w w2.drew from za HB.o aA); replace K1 := J (show w2.drew.heap[g1]? = some (.cells #[.slice b1 y1.length l1, .slice b2 y2.length l2, .int .i64 y3, .slice b4 y4.length l4, .int .i64 y5, .int .i64 y6, .int .i64 y7] 65 (0, 0)) from zd K1.o aA); replace K2 := J (show w2.drew.heap[g2]? = some (.cells #[.slice none 0 0, .slice none 0 0, .int .i64 0, .slice none 0 0, .int .i64 0, .int .i64 0, .int .i64 0] 69 (0, 0)) from zd K2.o aA); clear aA; refine zaw (n := 19) (S := fun w' => w'.cell? ⟨g1, 0, none⟩ = some (.slice b1 y1.length l1) ∧ w'.cell? ⟨g1, 1, none⟩ = some (.slice b2 y2.length l2) ∧ w'.cell? ⟨g1, 2, none⟩ = some (.int .i64 y3) ∧ w'.cell? ⟨g1, 3, none⟩ = some (.slice b4 y4.length l4) ∧ w'.cell? ⟨g1, 4, none⟩ = some (.int .i64 y5) ∧ w'.cell? ⟨g1, 5, none⟩ = some (.int .i64 y6) ∧ w'.cell? ⟨g1, 6, none⟩ = some (.int .i64 y7)) (ds := [18]) (bl_ 19 0) yK_ rfl rfl ⟨(zg K1.o 0).trans rfl, (zg K1.o 1).trans rfl, (zg K1.o 2).trans rfl, (zg K1.o 3).trans rfl, (zg K1.o 4).trans rfl, (zg K1.o 5).trans rfl, (zg K1.o 6).trans rfl⟩ (fun hHeld => ?_); refine zS rprop.tab1 rprop.bits1 (fun HT_ HW_ => ?_); generalize w2.drew = v0 at HB K1 K2 hHeld ⊢; refine pu_ 0 ?_; refine pu_ 3 ?_; refine pu_ 6 ?_; refine pu_ 8 ?_; refine pu_ 11 ?_; refine pu_ 13 ?_; refine pu_ 15 ?_; refine tk_ 1 ?_; refine tk_ 4 ?_; refine tk_ 7 ?_; refine tk_ 9 ?_
 refine tk_ 12 ?_; refine tk_ 14 ?_; refine tk_ 16 ?_; refine join_ (σ := Option Addr × Nat × Option Addr × Nat × Option Addr × Nat) 1 (bl_ 19 262143) (fun s_ => [(5, .slice s_.1 y1.length s_.2.1), (8, .slice s_.2.2.1 y2.length s_.2.2.2.1), (13, .slice s_.2.2.2.2.1 y4.length s_.2.2.2.2.2), (20, .agg #[.slice s_.1 y1.length s_.2.1, .slice s_.2.2.1 y2.length s_.2.2.2.1, .int .i64 y3, .slice s_.2.2.2.2.1 y4.length s_.2.2.2.2.2, .int .i64 y5, .int .i64 y6, .int .i64 y7])]) (fun s_ w' => (w'.cell? ⟨g1, 0, none⟩ = some (.slice b1 y1.length l1) ∧ w'.cell? ⟨g1, 1, none⟩ = some (.slice b2 y2.length l2) ∧ w'.cell? ⟨g1, 2, none⟩ = some (.int .i64 y3) ∧ w'.cell? ⟨g1, 3, none⟩ = some (.slice b4 y4.length l4) ∧ w'.cell? ⟨g1, 4, none⟩ = some (.int .i64 y5) ∧ w'.cell? ⟨g1, 5, none⟩ = some (.int .i64 y6) ∧ w'.cell? ⟨g1, 6, none⟩ = some (.int .i64 y7)) ∧ (Below w.heap.size w w') ∧ (w'.heap[g1]? = some (.cells #[.slice b1 y1.length l1, .slice b2 y2.length l2, .int .i64 y3, .slice b4 y4.length l4, .int .i64 y5, .int .i64 y6, .int .i64 y7] 65 (0, 0))) ∧ (w'.heap[g2]? = some (.cells #[.slice none 0 0, .slice none 0 0, .int .i64 0, .slice none 0 0, .int .i64 0, .int .i64 0, .int .i64 0] 69 (0, 0))) ∧ (Kd.R (Kd.int .u64) 114 w' w.heap.size (fun _ => True) (.slice s_.1 y1.length s_.2.1) (ku y1)) ∧ (Kd.R dU 66 w' w.heap.size (fun _ => True) (.slice s_.2.2.1 y2.length s_.2.2.2.1) (y2.map ku)) ∧ (Kd.R dU 66 w' w.heap.size (fun _ => True) (.slice s_.2.2.2.2.1 y4.length s_.2.2.2.2.2) (y4.map ku))) ?_ ?_
 rotate_left
 ·intro hJ; refine on_ HT_ 2 (some 5) (bl_ 19 130015) fun K hK => ?_
  refine go1_ Try.func49 #[.slice b1 y1.length l1] ?_; refine (bits49_calls b1 l1 y1 v0 (Kd.zm Q1.o HB.o) S1.o).mono ?_; rintro e_ v1 ⟨B_c, d_c, rfl, aB, aA⟩; refine ⟨_, rfl, ?_⟩; have R_c := J (show Kd.R (Kd.int .u64) 114 v1 w.heap.size (fun _ => True) (.slice B_c y1.length d_c) (ku y1) from Kd.z9 aB HB.o.size); replace HB := J (show Below w.heap.size w v1 from za HB.o aA); replace K1 := J (show v1.heap[g1]? = some (.cells #[.slice b1 y1.length l1, .slice b2 y2.length l2, .int .i64 y3, .slice b4 y4.length l4, .int .i64 y5, .int .i64 y6, .int .i64 y7] 65 (0, 0)) from zd K1.o aA); replace K2 := J (show v1.heap[g2]? = some (.cells #[.slice none 0 0, .slice none 0 0, .int .i64 0, .slice none 0 0, .int .i64 0, .int .i64 0, .int .i64 0] 69 (0, 0)) from zd K2.o aA); clear aB aA; refine hK.out _ _ ⟨(zg K1.o 0).trans rfl, (zg K1.o 1).trans rfl, (zg K1.o 2).trans rfl, (zg K1.o 3).trans rfl, (zg K1.o 4).trans rfl, (zg K1.o 5).trans rfl, (zg K1.o 6).trans rfl⟩ (fun hHeld => ?_); clear hK K; refine nm_ ?_; refine on_ HT_ 5 (some 8) (bl_ 19 130047) fun K hK => ?_
  refine go1_ Try.func50 #[.slice b2 y2.length l2] ?_; refine (bits50_calls b2 l2 y2 v1 (Kd.zm Q2.o HB.o) S2.o S3.o).mono ?_; rintro e_ v2 ⟨v_, rfl, aB, aA⟩; obtain ⟨B_g, d_g, rfl⟩ := Kd.zJ aB; rw [List.length_map] at aB ⊢; refine ⟨_, rfl, ?_⟩; have R_g := J (show Kd.R dU 66 v2 w.heap.size (fun _ => True) (.slice B_g y2.length d_g) (y2.map ku) from Kd.z9 aB HB.o.size); replace HB := J (show Below w.heap.size w v2 from za HB.o aA); replace K1 := J (show v2.heap[g1]? = some (.cells #[.slice b1 y1.length l1, .slice b2 y2.length l2, .int .i64 y3, .slice b4 y4.length l4, .int .i64 y5, .int .i64 y6, .int .i64 y7] 65 (0, 0)) from zd K1.o aA); replace K2 := J (show v2.heap[g2]? = some (.cells #[.slice none 0 0, .slice none 0 0, .int .i64 0, .slice none 0 0, .int .i64 0, .int .i64 0, .int .i64 0] 69 (0, 0)) from zd K2.o aA); replace R_c := J (show Kd.R (Kd.int .u64) 114 v2 w.heap.size (fun _ => True) (.slice B_c y1.length d_c) (ku y1) from Kd.zF R_c.o aA); clear aB aA; refine hK.out _ _ ⟨(zg K1.o 0).trans rfl, (zg K1.o 1).trans rfl, (zg K1.o 2).trans rfl, (zg K1.o 3).trans rfl, (zg K1.o 4).trans rfl, (zg K1.o 5).trans rfl, (zg K1.o 6).trans rfl⟩ (fun hHeld => ?_); clear hK K; refine nm_ ?_; refine on_ HT_ 10 (some 13) (bl_ 19 131071) fun K hK => ?_
  refine go1_ Try.func50 #[.slice b4 y4.length l4] ?_; refine (bits50_calls b4 l4 y4 v2 (Kd.zm Q4.o HB.o) S4.o S5.o).mono ?_; rintro e_ v3 ⟨v_, rfl, aB, aA⟩; obtain ⟨B_l, d_l, rfl⟩ := Kd.zJ aB; rw [List.length_map] at aB ⊢; refine ⟨_, rfl, ?_⟩; have R_l := J (show Kd.R dU 66 v3 w.heap.size (fun _ => True) (.slice B_l y4.length d_l) (y4.map ku) from Kd.z9 aB HB.o.size); replace HB := J (show Below w.heap.size w v3 from za HB.o aA); replace K1 := J (show v3.heap[g1]? = some (.cells #[.slice b1 y1.length l1, .slice b2 y2.length l2, .int .i64 y3, .slice b4 y4.length l4, .int .i64 y5, .int .i64 y6, .int .i64 y7] 65 (0, 0)) from zd K1.o aA); replace K2 := J (show v3.heap[g2]? = some (.cells #[.slice none 0 0, .slice none 0 0, .int .i64 0, .slice none 0 0, .int .i64 0, .int .i64 0, .int .i64 0] 69 (0, 0)) from zd K2.o aA); replace R_c := J (show Kd.R (Kd.int .u64) 114 v3 w.heap.size (fun _ => True) (.slice B_c y1.length d_c) (ku y1) from Kd.zF R_c.o aA); replace R_g := J (show Kd.R dU 66 v3 w.heap.size (fun _ => True) (.slice B_g y2.length d_g) (y2.map ku) from Kd.zF R_g.o aA); clear aB aA; refine hK.out _ _ ⟨(zg K1.o 0).trans rfl, (zg K1.o 1).trans rfl, (zg K1.o 2).trans rfl, (zg K1.o 3).trans rfl, (zg K1.o 4).trans rfl, (zg K1.o 5).trans rfl, (zg K1.o 6).trans rfl⟩ (fun hHeld => ?_); clear hK K; refine nm_ ?_; refine pu_ 17 ?_; exact np_ (hJ (B_c, d_c, B_g, d_g, B_l, d_l) _ ⟨hHeld, HB.o, K1.o, K2.o, R_c.o, R_g.o, R_l.o⟩)
 rintro ⟨B_c, d_c, B_g, d_g, B_l, d_l⟩ v1 ⟨hHeld, h0_, h1_, h2_, h3_, h4_, h5_⟩; clear HB K1 K2; have HB := J (show Below w.heap.size w v1 from h0_); have K1 := J (show v1.heap[g1]? = some (.cells #[.slice b1 y1.length l1, .slice b2 y2.length l2, .int .i64 y3, .slice b4 y4.length l4, .int .i64 y5, .int .i64 y6, .int .i64 y7] 65 (0, 0)) from h1_); have K2 := J (show v1.heap[g2]? = some (.cells #[.slice none 0 0, .slice none 0 0, .int .i64 0, .slice none 0 0, .int .i64 0, .int .i64 0, .int .i64 0] 69 (0, 0)) from h2_); have R_c := J (show Kd.R (Kd.int .u64) 114 v1 w.heap.size (fun _ => True) (.slice B_c y1.length d_c) (ku y1) from h3_); have R_g := J (show Kd.R dU 66 v1 w.heap.size (fun _ => True) (.slice B_g y2.length d_g) (y2.map ku) from h4_); have R_l := J (show Kd.R dU 66 v1 w.heap.size (fun _ => True) (.slice B_l y4.length d_l) (y4.map ku) from h5_); clear h0_ h1_ h2_ h3_ h4_ h5_; refine zbl (a' := ?_) ?_ ?_; rotate_left; (focus (simp only [putAll, Act.put, sI_, s0_, s1_]; first | done | rfl)); refine last_ (i := 18) (N := none) (bl_ 19 524287) rfl rfl (zaY HT_.o yK_) yD_ (fun K hK => ?_); refine zbe (by rfl) 69 rfl rfl g2 #[.slice B_c y1.length d_c, .slice B_g y2.length d_g, .int .i64 y3, .slice B_l y4.length d_l, .int .i64 y5, .int .i64 y6, .int .i64 y7] rfl rfl 69 _ K2.o (info69.trans rfl) rfl (by simp [Value.oneCell']) ?_; intro wS aD aC; have K2n := J aD; have RCn := J (r_put R_c.o K2.o yD_ aC)
 have RGn := J (r_put R_g.o K2.o yD_ aC); have RLn := J (r_put R_l.o K2.o yD_ aC); have HBn := J (HB.o.grown aC HB.o.size (fun k_ hk_ => by cases hk_; exact L2.o)); clear aD aC; refine hK.out _ _ ?_; clear hK K; refine zaL (zad HT_.o yK_) ?_; clear hHeld HB K1 K2 R_c R_g R_l; have K2 := K2n; clear K2n; go_wp2_with fail; refine bodyPost_ret (results_cell_row rfl _ _ g2 69 #[.slice B_c y1.length d_c, .slice B_g y2.length d_g, .int .i64 y3, .slice B_l y4.length d_l, .int .i64 y5, .int .i64 y6, .int .i64 y7] (0, 0) _ rfl K2.o Try.underlying69 rfl yK_) rfl ?_; have y1_ := Kd.zK (show Kd.R (Kd.int .u64) 114 wS w.heap.size (fun _ => True) (.slice B_c (ku y1).length d_c) (ku y1) by rw [zaA]; exact RCn.o); have y2_ := Kd.zK (show Kd.R dU 66 wS w.heap.size (fun _ => True) (.slice B_g (y2.map ku).length d_g) (y2.map ku) by rw [List.length_map]; exact RGn.o); have y4_ := Kd.zK (show Kd.R dU 66 wS w.heap.size (fun _ => True) (.slice B_l (y4.map ku).length d_l) (y4.map ku) by rw [List.length_map]; exact RLn.o); exact ⟨⟨B_c, d_c, B_g, d_g, B_l, d_l⟩, by unfold qcv; simp only [zaA, List.length_map], ⟨y1_.2.2, y1_.2.1, y2_.2.2, y2_.2.1, y4_.2.2, y4_.2.1⟩, HBn.o⟩
end Go.Proofs.Ytlidbaejhmamjaa.TC
namespace Go.Proofs.Ytlidbaejhmamjaa.PB
open Go.RowKit YtlidbaejhmamjaaW.PrintWords YtlidbaejhmamjaaW.PrintLast YtlidbaejhmamjaaW.PrintMore
attribute [local go_sem] zao zaq zaB zaC zae zaf zap zar   -- for this text's walks alone
def zaj.f (k : Nat) (a0 : Int) : Option (Bool × List Int × Int × Bool) := if (wrap64 (Go.bits .and .u64 (a0 / 4503599627370496) 2047)) = 2047 then (some (false, ([] : List Int), 0, false)) else (if (wrap64 (Go.bits .and .u64 (a0 / 4503599627370496) 2047)) > 0 then (if (Go.bits .or .u64 (Go.bits .and .u64 a0 4503599627370495) 4503599627370496) = 0 then (some (false, ([] : List Int), 0, true)) else ((zo.f k (([(Go.bits .or .u64 (Go.bits .and .u64 a0 4503599627370495) 4503599627370496) % 4294967296, ((Go.bits .or .u64 (Go.bits .and .u64 a0 4503599627370495) 4503599627370496) / 4294967296) % 4294967296] : List Int))).bind fun t129 => (some (((a0 / 9223372036854775808) == 1), t129, wrap64 ((wrap64 (Go.bits .and .u64 (a0 / 4503599627370496) 2047)) - 1075), true)))) else (if (Go.bits .and .u64 a0 4503599627370495) = 0 then (some (false, ([] : List Int), 0, true)) else ((zo.f k (([(Go.bits .and .u64 a0 4503599627370495) % 4294967296, ((Go.bits .and .u64 a0 4503599627370495) / 4294967296) % 4294967296] : List Int))).bind fun t135 => (some (((a0 / 9223372036854775808) == 1), t135, 1 - 1075, true)))))
theorem zaj.calls (k : Nat) (a0 : Int) (r1 : Bool) (r2 : List Int) (r3 : Int) (r4 : Bool) (w : World) (h : zaj.f k a0 = some (r1, r2, r3, r4)) :
  Calls Try.prog 93 #[.int .u64 a0] w fun e w' => ∃ v1_ : Value, e = .returned (.tuple #[.agg #[.bool r1, v1_, .int .i64 r3], .bool r4]) ∧ Kd.R (Kd.int .u32) 134 w' w.heap.size (fun _ => True) v1_ r2 ∧ Below w.heap.size w w' := by
 have hu101 := Try.underlying101; have HB := J (Below.refl w.heap.size w); have H : (if (wrap64 (Go.bits .and .u64 (a0 / 4503599627370496) 2047)) = 2047 then (some (false, ([] : List Int), 0, false)) else (if (wrap64 (Go.bits .and .u64 (a0 / 4503599627370496) 2047)) > 0 then (if (Go.bits .or .u64 (Go.bits .and .u64 a0 4503599627370495) 4503599627370496) = 0 then (some (false, ([] : List Int), 0, true)) else ((zo.f k (([(Go.bits .or .u64 (Go.bits .and .u64 a0 4503599627370495) 4503599627370496) % 4294967296, ((Go.bits .or .u64 (Go.bits .and .u64 a0 4503599627370495) 4503599627370496) / 4294967296) % 4294967296] : List Int))).bind fun t129 => (some (((a0 / 9223372036854775808) == 1), t129, wrap64 ((wrap64 (Go.bits .and .u64 (a0 / 4503599627370496) 2047)) - 1075), true)))) else (if (Go.bits .and .u64 a0 4503599627370495) = 0 then (some (false, ([] : List Int), 0, true)) else ((zo.f k (([(Go.bits .and .u64 a0 4503599627370495) % 4294967296, ((Go.bits .and .u64 a0 4503599627370495) / 4294967296) % 4294967296] : List Int))).bind fun t135 => (some (((a0 / 9223372036854775808) == 1), t135, 1 - 1075, true)))))) = some (r1, r2, r3, r4) := h; clear h
 by_cases c2 : (wrap64 (Go.bits .and .u64 (a0 / 4503599627370496) 2047)) = 2047
 ·rw [if_pos c2] at H; have bI : ((wrap64 (Go.bits .and .u64 (a0 / 4503599627370496) 2047)) == 2047) = true := beq_iff_eq.mpr c2; have bJ : ((wrap64 (Go.bits .and .u64 (a0 / 4503599627370496) 2047)) != 2047) = false := bne_eq_false_iff_eq.mpr c2; clear c2; simp only [Option.some.injEq, Prod.mk.injEq] at H; obtain ⟨rfl, rfl, rfl, rfl⟩ := H; go_enter Try.func93, Try.ntmps93; go_wp2_with (first | ((with_reducible refine zf (N := 2) rfl ?_); refine zah 2 (cs := #[.bool false, .slice none 0 0, .int .i64 0]) (t := 101) ?_; intro aB hg w3 hbox hb; have aA := J (hbox); have aC := J ((by rw [hg]; exact (zh bw_) : w.heap.size ≤ aB)); replace HB := J (za bw_ hb); have aG := aC; clear hb hbox hg; have hcz4_0 := cz_ aA.o 0 rfl; have hcz4_1 := cz_ aA.o 1 rfl; have hcz4_2 := cz_ aA.o 2 rfl; have hfz4_0 := zb aA.o 0; have hfz4_1 := zb aA.o 1; have hfz4_2 := zb aA.o 2)); refine bodyPost_ret (zan rfl _ _ aB 101 #[.bool false, .slice none 0 0, .int .i64 0] (0, 0) _ rfl (hp_ aA.o) Try.underlying101 rfl yK_) rfl ?_; exact ⟨_, er_, by first | exact Kd.zaI _ _ _ _ _ | exact Kd.N_nil _ _ _ _ _ | exact Kd.V_nil _ _ _ _ _ | exact Kd.Q_nil _ _ _ _ _ | exact Kd.zaP _ _ _ _ _, bw_⟩
 ·rw [if_neg c2] at H; have bI : ((wrap64 (Go.bits .and .u64 (a0 / 4503599627370496) 2047)) == 2047) = false := beq_eq_false_iff_ne.mpr c2; have bJ : ((wrap64 (Go.bits .and .u64 (a0 / 4503599627370496) 2047)) != 2047) = true := bne_iff_ne.mpr c2
  by_cases c5 : (wrap64 (Go.bits .and .u64 (a0 / 4503599627370496) 2047)) > 0
  ·rw [if_pos c5] at H; have bK := decide_eq_true c5; clear c5
   by_cases c6 : (Go.bits .or .u64 (Go.bits .and .u64 a0 4503599627370495) 4503599627370496) = 0
   ·rw [if_pos c6] at H; have bL : ((Go.bits .or .u64 (Go.bits .and .u64 a0 4503599627370495) 4503599627370496) == 0) = true := beq_iff_eq.mpr c6; have bM : ((Go.bits .or .u64 (Go.bits .and .u64 a0 4503599627370495) 4503599627370496) != 0) = false := bne_eq_false_iff_eq.mpr c6; clear c6; simp only [Option.some.injEq, Prod.mk.injEq] at H; obtain ⟨rfl, rfl, rfl, rfl⟩ := H; go_enter Try.func93, Try.ntmps93; go_wp2_with (first | ((with_reducible refine zf (N := 2) rfl ?_); refine zah 2 (cs := #[.bool false, .slice none 0 0, .int .i64 0]) (t := 101) ?_; intro aB hg w7 hbox hb; have aA := J (hbox); have aC := J ((by rw [hg]; exact (zh bw_) : w.heap.size ≤ aB)); replace HB := J (za bw_ hb); have aG := aC; clear hb hbox hg; have hcz8_0 := cz_ aA.o 0 rfl; have hcz8_1 := cz_ aA.o 1 rfl; have hcz8_2 := cz_ aA.o 2 rfl; have hfz8_0 := zb aA.o 0; have hfz8_1 := zb aA.o 1; have hfz8_2 := zb aA.o 2)); refine bodyPost_ret (zan rfl _ _ aB 101 #[.bool false, .slice none 0 0, .int .i64 0] (0, 0) _ rfl (hp_ aA.o) Try.underlying101 rfl yK_) rfl ?_; exact ⟨_, er_, by first | exact Kd.zaI _ _ _ _ _ | exact Kd.N_nil _ _ _ _ _ | exact Kd.V_nil _ _ _ _ _ | exact Kd.Q_nil _ _ _ _ _ | exact Kd.zaP _ _ _ _ _, bw_⟩
   ·rw [if_neg c6] at H; have bL : ((Go.bits .or .u64 (Go.bits .and .u64 a0 4503599627370495) 4503599627370496) == 0) = false := beq_eq_false_iff_ne.mpr c6; have bM : ((Go.bits .or .u64 (Go.bits .and .u64 a0 4503599627370495) 4503599627370496) != 0) = true := bne_iff_ne.mpr c6; obtain ⟨aO, aD⟩ : ∃ y_ : List Int, y_ = (([(Go.bits .or .u64 (Go.bits .and .u64 a0 4503599627370495) 4503599627370496) % 4294967296, ((Go.bits .or .u64 (Go.bits .and .u64 a0 4503599627370495) 4503599627370496) / 4294967296) % 4294967296] : List Int)) := ⟨_, rfl⟩
    replace H : ((zo.f k aO).bind fun t129 => (some (((a0 / 9223372036854775808) == 1), t129, wrap64 ((wrap64 (Go.bits .and .u64 (a0 / 4503599627370496) 2047)) - 1075), true))) = some (r1, r2, r3, r4) := by first | (rw [aD]; with_reducible exact H) | (have aW := (Option.bind_some _ _).symm.trans H; rw [aD]; with_reducible exact aW) | (have aW := (Option.bind_some _ _).symm.trans H; with_reducible exact aW) | with_reducible exact H | (rw [aD]; exact H) | exact H
    have aS := J aD; clear aD; replace H := Option.bind_eq_some_iff.mp H; obtain ⟨t129, A90, H⟩ := H; replace H : (some (((a0 / 9223372036854775808) == 1), t129, wrap64 ((wrap64 (Go.bits .and .u64 (a0 / 4503599627370496) 2047)) - 1075), true)) = some (r1, r2, r3, r4) := H; have A9 := J A90; clear A90; simp only [Option.some.injEq, Prod.mk.injEq] at H; obtain ⟨rfl, rfl, rfl, rfl⟩ := H; go_enter Try.func93, Try.ntmps93
    go_wp2_with (first | ((with_reducible refine zf (N := 2) rfl ?_); refine zah 2 (cs := #[.bool false, .slice none 0 0, .int .i64 0]) (t := 101) ?_; intro aB hg w10 hbox hb; have aA := J (hbox); have aC := J ((by rw [hg]; exact (zh bw_) : w.heap.size ≤ aB)); replace HB := J (za bw_ hb); have aG := aC; clear hb hbox hg) | ((with_reducible refine zf (N := 30) rfl ?_); refine Kd.R_lit (Kd.int .u32) _ 134 ?hg (N := 30) ?hd (xs := ([(Go.bits .or .u64 (Go.bits .and .u64 a0 4503599627370495) 4503599627370496) % 4294967296, ((Go.bits .or .u64 (Go.bits .and .u64 a0 4503599627370495) 4503599627370496) / 4294967296) % 4294967296] : List Int)) (inner := [.int .u32 ((Go.bits .or .u64 (Go.bits .and .u64 a0 4503599627370495) 4503599627370496) % 4294967296), .int .u32 (((Go.bits .or .u64 (Go.bits .and .u64 a0 4503599627370495) 4503599627370496) / 4294967296) % 4294967296)]) (ok := fun _ => True) (okp := fun _ => True) ?hr ?hp (fun _ hk => hk) trivial (Below.refl _ _) (Nat.le_refl _) (by simp) ?_; (case hd => rfl); (case hg => rfl); (case hr => first | (go_simp; done) | (go_simp; rfl)); (case hp => exact (zbj.one (show Kd.M (Kd.int .u32) _ _ _ ((Go.bits .or .u64 (Go.bits .and .u64 a0 4503599627370495) 4503599627370496) % 4294967296) [.int .u32 ((Go.bits .or .u64 (Go.bits .and .u64 a0 4503599627370495) 4503599627370496) % 4294967296)] from rfl) (zbj.one (show Kd.M (Kd.int .u32) _ _ _ (((Go.bits .or .u64 (Go.bits .and .u64 a0 4503599627370495) 4503599627370496) / 4294967296) % 4294967296) [.int .u32 (((Go.bits .or .u64 (Go.bits .and .u64 a0 4503599627370495) 4503599627370496) / 4294967296) % 4294967296)] from rfl) (zbj.none _ _)))); intro v127 w11 aK hb bR aJ; clear bR aJ; (first | rw [← aS.o] at aK | (simp only [Int.reduceToNat] at aK; rw [← aS.o] at aK)); have aH := J (Kd.z9 aK (zh bw_)); replace aA := J (fr_ aA.o hb); replace HB := J (za bw_ hb); clear hb aK; obtain ⟨aU, aY, bN⟩ := Kd.zJ aH.o; subst bN) | ((with_reducible refine zM (f := 69) rfl ?_); refine gl_ 31 Try.func69 #[.slice aU aO.length aY] ?_; (with_reducible refine (zo.calls k (fun k_ => some k_ = (.slice aU aO.length aY : Value).ownBlock) (.slice aU aO.length aY) aO t129 w _ ?aM ?aN A9.o).mono ?_); (case aM => exact bw_); (case aN => exact Kd.R_tight rfl aH.o); rintro e w14 ⟨v130, rfl, bH, hb, hkp⟩; refine ⟨_, rfl, ?_⟩; replace aA := J (blk_kept (pe_ aA.o) hkp (fun bS => (fun e_ => (Kd.R_ne aH.o aA.o yD_) e_) bS)); have aQ := J (Kd.zB (ok' := fun k_ => True) bH (fun k_ hk_ => trivial)); replace HB := J (hb); clear aH; (try clear hb hkp bH); obtain ⟨bB, bF, bO⟩ := Kd.zJ aQ.o; subst bO; have hcz16_0 := cz_ aA.o 0 rfl; have hcz16_1 := cz_ aA.o 1 rfl; have hcz16_2 := cz_ aA.o 2 rfl; have hfz16_0 := zb aA.o 0; have hfz16_1 := zb aA.o 1; have hfz16_2 := zb aA.o 2))
    refine bodyPost_ret (zan rfl _ _ aB 101 #[.bool ((a0 / 9223372036854775808) == 1), .slice bB t129.length bF, .int .i64 (wrap64 ((wrap64 (Go.bits .and .u64 (a0 / 4503599627370496) 2047)) - 1075))] (0, 0) _ rfl (hp_ aA.o) Try.underlying101 rfl yK_) rfl ?_; exact ⟨_, er_, by (with_reducible repeat (first | apply Kd.R_alloc | apply Kd.zH | apply Kd.zI)); exact Kd.zB (Kd.zT (p := ⟨aB, 2, none⟩) (Kd.zT (p := ⟨aB, 1, none⟩) (Kd.zT (p := ⟨aB, 0, none⟩) (Kd.zV aQ.o aA.o yD_) (fun _ hk => hk.2) (.bool ((a0 / 9223372036854775808) == 1))) (fun _ hk => hk.2) (.slice bB t129.length bF)) (fun _ hk => hk.2) (.int .i64 (wrap64 ((wrap64 (Go.bits .and .u64 (a0 / 4503599627370496) 2047)) - 1075)))) (fun _ hk => trivial), bw_⟩
  ·rw [if_neg c5] at H; have bK := decide_eq_false c5; clear c5
   by_cases aX : (Go.bits .and .u64 a0 4503599627370495) = 0
   ·rw [if_pos aX] at H; have bD : ((Go.bits .and .u64 a0 4503599627370495) == 0) = true := beq_iff_eq.mpr aX; have bE : ((Go.bits .and .u64 a0 4503599627370495) != 0) = false := bne_eq_false_iff_eq.mpr aX; clear aX; simp only [Option.some.injEq, Prod.mk.injEq] at H; obtain ⟨rfl, rfl, rfl, rfl⟩ := H; go_enter Try.func93, Try.ntmps93; go_wp2_with (first | ((with_reducible refine zf (N := 2) rfl ?_); refine zah 2 (cs := #[.bool false, .slice none 0 0, .int .i64 0]) (t := 101) ?_; intro aB hg w18 hbox hb; have aA := J (hbox); have aC := J ((by rw [hg]; exact (zh bw_) : w.heap.size ≤ aB)); replace HB := J (za bw_ hb); have aG := aC; clear hb hbox hg; have hcz19_0 := cz_ aA.o 0 rfl; have hcz19_1 := cz_ aA.o 1 rfl; have hcz19_2 := cz_ aA.o 2 rfl; have hfz19_0 := zb aA.o 0; have hfz19_1 := zb aA.o 1; have hfz19_2 := zb aA.o 2)); refine bodyPost_ret (zan rfl _ _ aB 101 #[.bool false, .slice none 0 0, .int .i64 0] (0, 0) _ rfl (hp_ aA.o) Try.underlying101 rfl yK_) rfl ?_; exact ⟨_, er_, by first | exact Kd.zaI _ _ _ _ _ | exact Kd.N_nil _ _ _ _ _ | exact Kd.V_nil _ _ _ _ _ | exact Kd.Q_nil _ _ _ _ _ | exact Kd.zaP _ _ _ _ _, bw_⟩
   ·rw [if_neg aX] at H; have bD : ((Go.bits .and .u64 a0 4503599627370495) == 0) = false := beq_eq_false_iff_ne.mpr aX; have bE : ((Go.bits .and .u64 a0 4503599627370495) != 0) = true := bne_iff_ne.mpr aX; obtain ⟨aP, aE⟩ : ∃ y_ : List Int, y_ = (([(Go.bits .and .u64 a0 4503599627370495) % 4294967296, ((Go.bits .and .u64 a0 4503599627370495) / 4294967296) % 4294967296] : List Int)) := ⟨_, rfl⟩
    replace H : ((zo.f k aP).bind fun t135 => (some (((a0 / 9223372036854775808) == 1), t135, 1 - 1075, true))) = some (r1, r2, r3, r4) := by first | (rw [aE]; with_reducible exact H) | (have aW := (Option.bind_some _ _).symm.trans H; rw [aE]; with_reducible exact aW) | (have aW := (Option.bind_some _ _).symm.trans H; with_reducible exact aW) | with_reducible exact H | (rw [aE]; exact H) | exact H
    have aT := J aE; clear aE; replace H := Option.bind_eq_some_iff.mp H; obtain ⟨t135, bA, H⟩ := H; replace H : (some (((a0 / 9223372036854775808) == 1), t135, 1 - 1075, true)) = some (r1, r2, r3, r4) := H; have A20 := J bA; clear bA; simp only [Option.some.injEq, Prod.mk.injEq] at H; obtain ⟨rfl, rfl, rfl, rfl⟩ := H; go_enter Try.func93, Try.ntmps93
    go_wp2_with (first | ((with_reducible refine zf (N := 2) rfl ?_); refine zah 2 (cs := #[.bool false, .slice none 0 0, .int .i64 0]) (t := 101) ?_; intro aB hg w21 hbox hb; have aA := J (hbox); have aC := J ((by rw [hg]; exact (zh bw_) : w.heap.size ≤ aB)); replace HB := J (za bw_ hb); have aG := aC; clear hb hbox hg) | ((with_reducible refine zf (N := 30) rfl ?_); refine Kd.R_lit (Kd.int .u32) _ 134 ?hg (N := 30) ?hd (xs := ([(Go.bits .and .u64 a0 4503599627370495) % 4294967296, ((Go.bits .and .u64 a0 4503599627370495) / 4294967296) % 4294967296] : List Int)) (inner := [.int .u32 ((Go.bits .and .u64 a0 4503599627370495) % 4294967296), .int .u32 (((Go.bits .and .u64 a0 4503599627370495) / 4294967296) % 4294967296)]) (ok := fun _ => True) (okp := fun _ => True) ?hr ?hp (fun _ hk => hk) trivial (Below.refl _ _) (Nat.le_refl _) (by simp) ?_; (case hd => rfl); (case hg => rfl); (case hr => first | (go_simp; done) | (go_simp; rfl)); (case hp => exact (zbj.one (show Kd.M (Kd.int .u32) _ _ _ ((Go.bits .and .u64 a0 4503599627370495) % 4294967296) [.int .u32 ((Go.bits .and .u64 a0 4503599627370495) % 4294967296)] from rfl) (zbj.one (show Kd.M (Kd.int .u32) _ _ _ (((Go.bits .and .u64 a0 4503599627370495) / 4294967296) % 4294967296) [.int .u32 (((Go.bits .and .u64 a0 4503599627370495) / 4294967296) % 4294967296)] from rfl) (zbj.none _ _)))); intro v133 w22 aL hb bR aJ; clear bR aJ; (first | rw [← aT.o] at aL | (simp only [Int.reduceToNat] at aL; rw [← aT.o] at aL)); have aI := J (Kd.z9 aL (zh bw_)); replace aA := J (fr_ aA.o hb); replace HB := J (za bw_ hb); clear hb aL; obtain ⟨aV, aZ, bP⟩ := Kd.zJ aI.o; subst bP) | ((with_reducible refine zM (f := 69) rfl ?_); refine gl_ 31 Try.func69 #[.slice aV aP.length aZ] ?_; (with_reducible refine (zo.calls k (fun k_ => some k_ = (.slice aV aP.length aZ : Value).ownBlock) (.slice aV aP.length aZ) aP t135 w _ ?aM ?aN A20.o).mono ?_); (case aM => exact bw_); (case aN => exact Kd.R_tight rfl aI.o); rintro e w25 ⟨v136, rfl, bH, hb, hkp⟩; refine ⟨_, rfl, ?_⟩; replace aA := J (blk_kept (pe_ aA.o) hkp (fun bS => (fun e_ => (Kd.R_ne aI.o aA.o yD_) e_) bS)); have aR := J (Kd.zB (ok' := fun k_ => True) bH (fun k_ hk_ => trivial)); replace HB := J (hb); clear aI; (try clear hb hkp bH); obtain ⟨bC, bG, bQ⟩ := Kd.zJ aR.o; subst bQ; have hcz27_0 := cz_ aA.o 0 rfl; have hcz27_1 := cz_ aA.o 1 rfl; have hcz27_2 := cz_ aA.o 2 rfl; have hfz27_0 := zb aA.o 0; have hfz27_1 := zb aA.o 1; have hfz27_2 := zb aA.o 2))
    refine bodyPost_ret (zan rfl _ _ aB 101 #[.bool ((a0 / 9223372036854775808) == 1), .slice bC t135.length bG, .int .i64 (1 - 1075)] (0, 0) _ rfl (hp_ aA.o) Try.underlying101 rfl yK_) rfl ?_; exact ⟨_, er_, by (with_reducible repeat (first | apply Kd.R_alloc | apply Kd.zH | apply Kd.zI)); exact Kd.zB (Kd.zT (p := ⟨aB, 2, none⟩) (Kd.zT (p := ⟨aB, 1, none⟩) (Kd.zT (p := ⟨aB, 0, none⟩) (Kd.zV aR.o aA.o yD_) (fun _ hk => hk.2) (.bool ((a0 / 9223372036854775808) == 1))) (fun _ hk => hk.2) (.slice bC t135.length bG)) (fun _ hk => hk.2) (.int .i64 (-1074))) (fun _ hk => trivial), bw_⟩
end Go.Proofs.Ytlidbaejhmamjaa.PB
namespace Go.Proofs.Ytlidbaejhmamjaa.PB
open Go.RowKit YtlidbaejhmamjaaW.PrintWords YtlidbaejhmamjaaW.PrintLast YtlidbaejhmamjaaW.PrintMore
attribute [local go_sem] zao zaq zaB zaC zae zaf zap zar   -- for this text's walks alone
def zD.l0 : Nat → List Int → Int → List (zaU) → Int → Option ((List (zaU)) × Bool)
 | 0, _, _, _, _ => none
 | k + 1, x0, x1, x6, x7 => if x7 < x1 then (if 0 ≤ x7 then (if x7 < (x0.length : Int) then ((zaj.f k (rd x0 x7)).bind fun aA => (if aA.2.2.2 = true then (if x6.length < 3518437208883 then (zD.l0 k x0 x1 (x6 ++ [(⟨aA.1, aA.2.1, aA.2.2.1⟩ : zaU)]) (wrap64 (x7 + 1))) else (none)) else (some (([] : List (zaU)), false)))) else (none)) else (none)) else (some (x6, true))
def zD.f (k : Nat) (l0 : List Int) (a1 : Int) : Option ((List (zaU)) × Bool) := if (l0.length : Int) = a1 then (zD.l0 k l0 a1 ([] : List (zaU)) 0) else (some (([] : List (zaU)), false))
theorem zD.calls (k : Nat) (A0 : Option Addr) (c0 : Nat) (l0 : List Int) (a1 : Int) (r1 : List (zaU)) (r2 : Bool) (w : World) (hr0 : Kd.C (Kd.int .u64) w A0 l0.length l0) (hc0 : l0.length ≤ c0) (h : zD.f k l0 a1 = some (r1, r2)) :
  Calls Try.prog 94 #[.slice A0 l0.length c0, .int .i64 a1] w fun e w' => ∃ v0_ : Value, e = .returned (.tuple #[v0_, .bool r2]) ∧ Kd.S k101 101 w' w.heap.size (fun _ => True) v0_ r1 ∧ Below w.heap.size w w' := by
 have hu101 := Try.underlying101; have HR0 := J hr0; have HC0 := J hc0; clear hr0 hc0; have HB := J (Below.refl w.heap.size w); have H : (if (l0.length : Int) = a1 then (zD.l0 k l0 a1 ([] : List (zaU)) 0) else (some (([] : List (zaU)), false))) = some (r1, r2) := h; clear h
 by_cases c3 : (l0.length : Int) = a1
 ·rw [if_pos c3] at H; have aZ : ((l0.length : Int) == a1) = true := beq_iff_eq.mpr c3; have bA : ((l0.length : Int) != a1) = false := bne_eq_false_iff_eq.mpr c3; clear c3; have H' := J H; clear H; go_enter Try.func94, Try.ntmps94; go_wp2
  go_loopg [6, 7] k (fun kq v6 v7 w' => ∃ (aI : List (zaU)) (aD : Int), v7 = .int .i64 aD ∧ ze (zD.l0 kq l0 a1 aI aD = some (r1, r2)) ∧ ze (kq ≤ k) ∧ ze (Kd.S k101 101 w' w.heap.size (fun _ => True) v6 aI) ∧ ze (Below w.heap.size w w'))
  case atStart => exact ⟨(([] : List (zaU))), (0), rs_, H', ⟨Nat.le_refl _⟩, ⟨by first | exact Kd.zaP _ _ _ _ _ | exact Kd.N_nil _ _ _ _ _ | exact Kd.V_nil _ _ _ _ _ | exact Kd.Q_nil _ _ _ _ _ | exact Kd.zaI _ _ _ _ _⟩, ⟨bw_⟩⟩
  case round =>
   clear H'
   try clear p2
   try clear c3
   try clear aZ
   try clear bA
   obtain ⟨aI, aD, rfl, HA, HK1, aG, HB⟩ := hrel
   cases gk with
   | zero => exact absurd HA.o (by simp [zD.l0])
   | succ k1 =>
    have H := HA.o; clear HA; simp only [zD.l0] at H
    by_cases c4 : aD < a1
    ·rw [if_pos c4] at H; have bF := decide_eq_true c4; clear c4
     by_cases c5 : 0 ≤ aD
     ·rw [if_pos c5] at H; have c5b0 := decide_eq_true c5; clear c5
      by_cases c6 : aD < (l0.length : Int)
      ·rw [if_pos c6] at H; have c6b0 := decide_eq_true c6; clear c6; replace H := Option.bind_eq_some_iff.mp H; obtain ⟨⟨t152, t153, t156, t157⟩, A70, H⟩ := H; replace H : (if t157 = true then (if aI.length < 3518437208883 then (zD.l0 k1 l0 a1 (aI ++ [(⟨t152, t153, t156⟩ : zaU)]) (wrap64 (aD + 1))) else (none)) else (some (([] : List (zaU)), false))) = some (r1, r2) := H; have A7 := J A70; clear A70
       by_cases c8 : t157 = true
       ·subst c8; have H1 : (if aI.length < 3518437208883 then (zD.l0 k1 l0 a1 (aI ++ [(⟨t152, t153, t156⟩ : zaU)]) (wrap64 (aD + 1))) else (none)) = some (r1, r2) := by rw [if_pos rfl] at H; exact H
        clear H; have H := H1; clear H1
        by_cases c9 : aI.length < 3518437208883
        ·rw [if_pos c9] at H; have bE := J c9; clear c9; obtain ⟨bB, aM⟩ : ∃ y_ : List (zaU), y_ = (aI ++ [(⟨t152, t153, t156⟩ : zaU)]) := ⟨_, rfl⟩
         replace H : (zD.l0 k1 l0 a1 bB (wrap64 (aD + 1))) = some (r1, r2) := by first | (rw [aM]; with_reducible exact H) | (have bD := (Option.bind_some _ _).symm.trans H; rw [aM]; with_reducible exact bD) | (have bD := (Option.bind_some _ _).symm.trans H; with_reducible exact bD) | with_reducible exact H | (rw [aM]; exact H) | exact H
         have aX := J aM; clear aM; have H' := J H; clear H; have aN : 0 ≤ (aD : Int) := od_; have aQ : aD < (l0.length : Int) := od_; obtain ⟨aY, aT, aH⟩ := Kd.zQ HR0.o aD aN aQ; cases aT; replace aH := bx_ HB.o aH; replace aN := eq_true aN; replace aQ := eq_true aQ
         go_wp2_with (first | ((with_reducible refine zM (f := 93) rfl ?_); refine gl_ 24 Try.func93 #[.int .u64 (rd l0 aD)] ?_; (with_reducible refine (zaj.calls k1 (rd l0 aD) t152 t153 t156 true _ A7.o).mono ?_); rintro e w10 ⟨bI, rfl, aU, hb⟩; refine ⟨_, rfl, ?_⟩; replace aG := J (Kd.S_elder' (by (with_reducible repeat (first | apply Kd.S_alloc | apply Kd.S_drewN | apply Kd.S_drew)); exact aG.o) (Kd.R_base aU) hb); have aE := J (Kd.z9 aU (zh bw_)); replace HB := J (za bw_ hb); (try clear hb aU)) | ((with_reducible refine zf (N := 8) rfl ?_); refine zah 8 (cs := #[.bool false, .slice none 0 0, .int .i64 0]) (t := 101) ?_; intro aC hg w11 hbox hb; replace aG := J (Kd.S_below (Kd.S_elderB (by (with_reducible repeat (first | apply Kd.S_alloc | apply Kd.S_drewN | apply Kd.S_drew)); exact aG.o) aC (Nat.le_of_eq hg.symm)) hb); replace aE := J (Kd.zF (pk_ aE.o) hb); have aA := J (hbox); have aR := J ((by rw [hg]; exact (zh bw_) : w.heap.size ≤ aC)); replace HB := J (za bw_ hb); have aV := aR; clear hb hbox hg; have hcz12_0 := cz_ aA.o 0 rfl; have hcz12_1 := cz_ aA.o 1 rfl; have hcz12_2 := cz_ aA.o 2 rfl; have hfz12_0 := zb aA.o 0; have hfz12_1 := zb aA.o 1; have hfz12_2 := zb aA.o 2; obtain ⟨aJ, aK, bG⟩ := Kd.zJ aE.o; subst bG) | ((with_reducible refine zj (t := 101) (p := 8) rfl ?_); refine store_ 101 8 ((((w11.setCell ⟨aC, 0, none⟩ (.bool t152)).setCell ⟨aC, 1, none⟩ (.slice aJ t153.length aK)).setCell ⟨aC, 2, none⟩ (.int .i64 t156))) ?_; intro bC hw; replace aG : ze (Kd.S k101 101 bC w.heap.size (fun k_ => some k_ ≠ (.slice aJ t153.length aK : Value).ownBlock ∧ k_ ≠ aC) u6 aI) := ⟨(by rw [hw]; exact (by (with_reducible repeat (first | apply Kd.S_alloc | apply Kd.S_drewN | apply Kd.S_drew)); exact Kd.S_mono (Kd.S_far (p := ⟨aC, 2, none⟩) (Kd.S_far (p := ⟨aC, 1, none⟩) (Kd.S_far (p := ⟨aC, 0, none⟩) (Kd.S_mono aG.o (fun k_ hk => (⟨hk, hk.2⟩ : _ ∧ k_ ≠ aC))) (fun _ hk => hk.2) (.bool t152)) (fun _ hk => hk.2) (.slice aJ t153.length aK)) (fun _ hk => hk.2) (.int .i64 t156)) (fun _ hk => ⟨hk.1.1.2, hk.1.2⟩)))⟩; replace aE : ze (Kd.R (Kd.int .u32) 134 bC w.heap.size (fun _ => True) (.slice aJ t153.length aK) t153) := ⟨(by rw [hw]; exact (by (with_reducible repeat (first | apply Kd.R_alloc | apply Kd.zH | apply Kd.zI)); exact Kd.zB (Kd.zT (p := ⟨aC, 2, none⟩) (Kd.zT (p := ⟨aC, 1, none⟩) (Kd.zT (p := ⟨aC, 0, none⟩) (Kd.zV aE.o aA.o yD_) (fun _ hk => hk.2) (.bool t152)) (fun _ hk => hk.2) (.slice aJ t153.length aK)) (fun _ hk => hk.2) (.int .i64 t156)) (fun _ hk => trivial)))⟩; replace aA : ze (bC.heap[aC]? = some (.cells #[.bool t152, .slice aJ t153.length aK, .int .i64 t156] 101 (0, 0))) := ⟨(by rw [hw]; exact (hp_ aA.o))⟩; replace HB : ze (Below w.heap.size w bC) := ⟨(by rw [hw]; exact bw_)⟩; clear hw; have hcz15_0 := cz_ aA.o 0 rfl; have hcz15_1 := cz_ aA.o 1 rfl; have hcz15_2 := cz_ aA.o 2 rfl; have hfz15_0 := zb aA.o 0; have hfz15_1 := zb aA.o 1; have hfz15_2 := zb aA.o 2) | ((with_reducible refine gate_builtin (b := .append) (xs := #[.tmp 29, .tmp 31]) rfl ?_); at_builtin; refine Kd.S_append k101 (w0 := w) w.heap.size rfl (.tmp 29) (.tmp 31) 140 101 (.agg #[(.bool false), (.slice none 0 0), (.int .i64 0)]) 40 rfl Try.underlying140 zaz rfl yD_ yO_ u6 aI (⟨t152, t153, t156⟩ : zaU) [.bool t152, .slice aJ t153.length aK, .int .i64 t156] (fun k_ => k_ ≠ aC) (fun k_ => some k_ = (.slice aJ t153.length aK : Value).ownBlock) rfl rfl ?aP (fun k_ hk_ => ((Kd.zB (ok' := fun k_ => ((fun k_ => k_ ≠ aC)) k_ ∧ some k_ ≠ (u6 : Value).ownBlock) (Kd.zV (Kd.R_apart' (aE.o) (Kd.S_typed aG.o) yD_) aA.o yD_) (fun k_ hk => ⟨hk.2, hk.1.2⟩))).1 k_ hk_.symm) ?aF ?aO ?aB ?aS ?aL ?_; (case aP => exact k101_mkM _ _ _ (⟨t152, t153, t156⟩ : zaU) (Kd.zB (Kd.R_tight rfl (Kd.zB (ok' := fun k_ => ((fun k_ => k_ ≠ aC)) k_ ∧ some k_ ≠ (u6 : Value).ownBlock) (Kd.zV (Kd.R_apart' (aE.o) (Kd.S_typed aG.o) yD_) aA.o yD_) (fun k_ hk => ⟨hk.2, hk.1.2⟩))) (fun _ h_ => h_))); (case aB => exact bw_); (case aF => exact (fun k_ hk => Kd.freshB (g := aC) (o := .cells #[.bool t152, .slice aJ t153.length aK, .int .i64 t156] 101 (0, 0)) (pe_ aA.o) k_ hk)); (case aO => exact (by (with_reducible repeat (first | apply Kd.S_alloc | apply Kd.S_drewN | apply Kd.S_drew)); exact Kd.S_mono aG.o (fun k_ hk => ⟨hk.2, fun e_ => hk.1 e_⟩))); (case aS => exact (zh bw_)); (case aL => have := bE.o; omega); intro v160 w16 ho hb hg hat; rw [← aX.o] at ho; replace aA := J (za8 (g := aC) (o := .cells #[.bool t152, .slice aJ t153.length aK, .int .i64 t156] 101 (0, 0)) (pe_ aA.o) hg (Kd.S_away aG.o (fun _ hk => hk.2))); replace HB := J (hb); have aW := J (ho); clear aG aE; clear ho hb hg hat))
         go_roundg k1
         case measure => have := HK1.o; omega
         case rel => exact ⟨(bB), (wrap64 (aD + 1)), rs_, H', ⟨by have := HK1.o; omega⟩, ⟨by (with_reducible repeat (first | apply Kd.S_alloc | apply Kd.S_drewN | apply Kd.S_drew)); exact Kd.S_mono aW.o (fun _ hk => trivial)⟩, ⟨bw_⟩⟩
        ·rw [if_neg c9] at H; exact absurd H (by simp)
       ·replace c8 := Bool.eq_false_iff.mpr c8; subst c8; have H1 : (some (([] : List (zaU)), false)) = some (r1, r2) := by rw [if_neg (show ¬ (false = true) by decide)] at H; exact H
        clear H; have H := H1; clear H1; simp only [Option.some.injEq, Prod.mk.injEq] at H; obtain ⟨rfl, rfl⟩ := H; have aN : 0 ≤ (aD : Int) := od_; have aQ : aD < (l0.length : Int) := od_; obtain ⟨aY, aT, aH⟩ := Kd.zQ HR0.o aD aN aQ; cases aT; replace aH := bx_ HB.o aH; replace aN := eq_true aN; replace aQ := eq_true aQ
        go_wp2_with (first | ((with_reducible refine zM (f := 93) rfl ?_); refine gl_ 24 Try.func93 #[.int .u64 (rd l0 aD)] ?_; (with_reducible refine (zaj.calls k1 (rd l0 aD) t152 t153 t156 false _ A7.o).mono ?_); rintro e w17 ⟨bI, rfl, aU, hb⟩; refine ⟨_, rfl, ?_⟩; replace aG := J (Kd.S_elder' (by (with_reducible repeat (first | apply Kd.S_alloc | apply Kd.S_drewN | apply Kd.S_drew)); exact aG.o) (Kd.R_base aU) hb); have aE := J (Kd.z9 aU (zh bw_)); replace HB := J (za bw_ hb); (try clear hb aU)) | ((with_reducible refine zf (N := 8) rfl ?_); refine zah 8 (cs := #[.bool false, .slice none 0 0, .int .i64 0]) (t := 101) ?_; intro aC hg w18 hbox hb; replace aG := J (Kd.S_below (Kd.S_elderB (by (with_reducible repeat (first | apply Kd.S_alloc | apply Kd.S_drewN | apply Kd.S_drew)); exact aG.o) aC (Nat.le_of_eq hg.symm)) hb); replace aE := J (Kd.zF (pk_ aE.o) hb); have aA := J (hbox); have aR := J ((by rw [hg]; exact (zh bw_) : w.heap.size ≤ aC)); replace HB := J (za bw_ hb); have aV := aR; clear hb hbox hg; have hcz19_0 := cz_ aA.o 0 rfl; have hcz19_1 := cz_ aA.o 1 rfl; have hcz19_2 := cz_ aA.o 2 rfl; have hfz19_0 := zb aA.o 0; have hfz19_1 := zb aA.o 1; have hfz19_2 := zb aA.o 2; obtain ⟨Ao20, co20, bH⟩ := Kd.zJ aE.o; subst bH)); go_ret2; exact ⟨_, er_, by first | exact Kd.zaP _ _ _ _ _ | exact Kd.N_nil _ _ _ _ _ | exact Kd.V_nil _ _ _ _ _ | exact Kd.Q_nil _ _ _ _ _ | exact Kd.zaI _ _ _ _ _, bw_⟩
      ·rw [if_neg c6] at H; exact absurd H (by simp)
     ·rw [if_neg c5] at H; exact absurd H (by simp)
    ·rw [if_neg c4] at H; have bF := decide_eq_false c4; clear c4; simp only [Option.some.injEq, Prod.mk.injEq] at H; obtain ⟨rfl, rfl⟩ := H; go_wp2; go_ret2; exact ⟨_, er_, by (with_reducible repeat (first | apply Kd.S_alloc | apply Kd.S_drewN | apply Kd.S_drew)); exact aG.o, bw_⟩
 ·rw [if_neg c3] at H; have aZ : ((l0.length : Int) == a1) = false := beq_eq_false_iff_ne.mpr c3; have bA : ((l0.length : Int) != a1) = true := bne_iff_ne.mpr c3; simp only [Option.some.injEq, Prod.mk.injEq] at H; obtain ⟨rfl, rfl⟩ := H; go_enter Try.func94, Try.ntmps94; go_wp2; go_ret2; exact ⟨_, er_, by first | exact Kd.zaP _ _ _ _ _ | exact Kd.N_nil _ _ _ _ _ | exact Kd.V_nil _ _ _ _ _ | exact Kd.Q_nil _ _ _ _ _ | exact Kd.zaI _ _ _ _ _, bw_⟩
end Go.Proofs.Ytlidbaejhmamjaa.PB
namespace Go.Proofs.Ytlidbaejhmamjaa.PB
open Go.RowKit YtlidbaejhmamjaaW.PrintWords YtlidbaejhmamjaaW.PrintLast YtlidbaejhmamjaaW.PrintMore
attribute [local go_sem] zao zaq zaB zaC zae zaf zap zar   -- for this text's walks alone
def zP.l0 : Nat → List Int → List (zaU) → Int → Option ((List (zaU)) × Bool)
 | 0, _, _, _ => none
 | k + 1, x0, x4, x5 => if x5 < (x0.length : Int) then (if 0 ≤ x5 then ((zaj.f k (rd x0 x5)).bind fun aA => (if aA.2.2.2 = true then (if x4.length < 3518437208883 then (zP.l0 k x0 (x4 ++ [(⟨aA.1, aA.2.1, aA.2.2.1⟩ : zaU)]) (wrap64 (x5 + 1))) else (none)) else (some (([] : List (zaU)), false)))) else (none)) else (some (x4, true))
def zP.f (k : Nat) (l0 : List Int) : Option ((List (zaU)) × Bool) := zP.l0 k l0 ([] : List (zaU)) 0
theorem zP.calls (k : Nat) (A0 : Option Addr) (c0 : Nat) (l0 : List Int) (r1 : List (zaU)) (r2 : Bool) (w : World) (hr0 : Kd.C (Kd.int .u64) w A0 l0.length l0) (hc0 : l0.length ≤ c0) (h : zP.f k l0 = some (r1, r2)) :
  Calls Try.prog 76 #[.slice A0 l0.length c0] w fun e w' => ∃ v0_ : Value, e = .returned (.tuple #[v0_, .bool r2]) ∧ Kd.S k101 101 w' w.heap.size (fun _ => True) v0_ r1 ∧ Below w.heap.size w w' := by
 have hu101 := Try.underlying101; have HR0 := J hr0; have HC0 := J hc0; clear hr0 hc0; have HB := J (Below.refl w.heap.size w); have H : (zP.l0 k l0 ([] : List (zaU)) 0) = some (r1, r2) := h; clear h; have H' := J H; clear H; go_enter Try.func76, Try.ntmps76; go_wp2
 go_loopg [4, 5] k (fun kq v4 v5 w' => ∃ (aI : List (zaU)) (aD : Int), v5 = .int .i64 aD ∧ ze (zP.l0 kq l0 aI aD = some (r1, r2)) ∧ ze (kq ≤ k) ∧ ze (Kd.S k101 101 w' w.heap.size (fun _ => True) v4 aI) ∧ ze (Below w.heap.size w w'))
 case atStart => exact ⟨(([] : List (zaU))), (0), rs_, H', ⟨Nat.le_refl _⟩, ⟨by first | exact Kd.zaP _ _ _ _ _ | exact Kd.N_nil _ _ _ _ _ | exact Kd.V_nil _ _ _ _ _ | exact Kd.Q_nil _ _ _ _ _ | exact Kd.zaI _ _ _ _ _⟩, ⟨bw_⟩⟩
 case round =>
  clear H'; obtain ⟨aI, aD, rfl, HA, HK1, aG, HB⟩ := hrel
  cases gk with
  | zero => exact absurd HA.o (by simp [zP.l0])
  | succ k1 =>
   have H := HA.o; clear HA; simp only [zP.l0] at H
   by_cases c2 : aD < (l0.length : Int)
   ·rw [if_pos c2] at H; have bD := decide_eq_true c2; clear c2
    by_cases c3 : 0 ≤ aD
    ·rw [if_pos c3] at H; have c3b0 := decide_eq_true c3; clear c3; replace H := Option.bind_eq_some_iff.mp H; obtain ⟨⟨t141, t142, t145, t146⟩, A40, H⟩ := H; replace H : (if t146 = true then (if aI.length < 3518437208883 then (zP.l0 k1 l0 (aI ++ [(⟨t141, t142, t145⟩ : zaU)]) (wrap64 (aD + 1))) else (none)) else (some (([] : List (zaU)), false))) = some (r1, r2) := H; have A4 := J A40; clear A40
     by_cases c5 : t146 = true
     ·subst c5; have H1 : (if aI.length < 3518437208883 then (zP.l0 k1 l0 (aI ++ [(⟨t141, t142, t145⟩ : zaU)]) (wrap64 (aD + 1))) else (none)) = some (r1, r2) := by rw [if_pos rfl] at H; exact H
      clear H; have H := H1; clear H1
      by_cases c6 : aI.length < 3518437208883
      ·rw [if_pos c6] at H; have bC := J c6; clear c6; obtain ⟨aZ, aM⟩ : ∃ y_ : List (zaU), y_ = (aI ++ [(⟨t141, t142, t145⟩ : zaU)]) := ⟨_, rfl⟩
       replace H : (zP.l0 k1 l0 aZ (wrap64 (aD + 1))) = some (r1, r2) := by first | (rw [aM]; with_reducible exact H) | (have bB := (Option.bind_some _ _).symm.trans H; rw [aM]; with_reducible exact bB) | (have bB := (Option.bind_some _ _).symm.trans H; with_reducible exact bB) | with_reducible exact H | (rw [aM]; exact H) | exact H
       have aX := J aM; clear aM; have H' := J H; clear H; have aN : 0 ≤ (aD : Int) := od_; have aQ : aD < (l0.length : Int) := od_; obtain ⟨aY, aT, aH⟩ := Kd.zQ HR0.o aD aN aQ; cases aT; replace aH := bx_ HB.o aH; replace aN := eq_true aN; replace aQ := eq_true aQ
       go_wp2_with (first | ((with_reducible refine zM (f := 93) rfl ?_); refine gl_ 19 Try.func93 #[.int .u64 (rd l0 aD)] ?_; (with_reducible refine (zaj.calls k1 (rd l0 aD) t141 t142 t145 true _ A4.o).mono ?_); rintro e w7 ⟨bG, rfl, aU, hb⟩; refine ⟨_, rfl, ?_⟩; replace aG := J (Kd.S_elder' (by (with_reducible repeat (first | apply Kd.S_alloc | apply Kd.S_drewN | apply Kd.S_drew)); exact aG.o) (Kd.R_base aU) hb); have aE := J (Kd.z9 aU (zh bw_)); replace HB := J (za bw_ hb); (try clear hb aU)) | ((with_reducible refine zf (N := 6) rfl ?_); refine zah 6 (cs := #[.bool false, .slice none 0 0, .int .i64 0]) (t := 101) ?_; intro aC hg w8 hbox hb; replace aG := J (Kd.S_below (Kd.S_elderB (by (with_reducible repeat (first | apply Kd.S_alloc | apply Kd.S_drewN | apply Kd.S_drew)); exact aG.o) aC (Nat.le_of_eq hg.symm)) hb); replace aE := J (Kd.zF (pk_ aE.o) hb); have aA := J (hbox); have aR := J ((by rw [hg]; exact (zh bw_) : w.heap.size ≤ aC)); replace HB := J (za bw_ hb); have aV := aR; clear hb hbox hg; have hcz9_0 := cz_ aA.o 0 rfl; have hcz9_1 := cz_ aA.o 1 rfl; have hcz9_2 := cz_ aA.o 2 rfl; have hfz9_0 := zb aA.o 0; have hfz9_1 := zb aA.o 1; have hfz9_2 := zb aA.o 2; obtain ⟨aJ, aK, bE⟩ := Kd.zJ aE.o; subst bE) | ((with_reducible refine zj (t := 101) (p := 6) rfl ?_); refine store_ 101 6 ((((w8.setCell ⟨aC, 0, none⟩ (.bool t141)).setCell ⟨aC, 1, none⟩ (.slice aJ t142.length aK)).setCell ⟨aC, 2, none⟩ (.int .i64 t145))) ?_; intro bA hw; replace aG : ze (Kd.S k101 101 bA w.heap.size (fun k_ => some k_ ≠ (.slice aJ t142.length aK : Value).ownBlock ∧ k_ ≠ aC) u4 aI) := ⟨(by rw [hw]; exact (by (with_reducible repeat (first | apply Kd.S_alloc | apply Kd.S_drewN | apply Kd.S_drew)); exact Kd.S_mono (Kd.S_far (p := ⟨aC, 2, none⟩) (Kd.S_far (p := ⟨aC, 1, none⟩) (Kd.S_far (p := ⟨aC, 0, none⟩) (Kd.S_mono aG.o (fun k_ hk => (⟨hk, hk.2⟩ : _ ∧ k_ ≠ aC))) (fun _ hk => hk.2) (.bool t141)) (fun _ hk => hk.2) (.slice aJ t142.length aK)) (fun _ hk => hk.2) (.int .i64 t145)) (fun _ hk => ⟨hk.1.1.2, hk.1.2⟩)))⟩; replace aE : ze (Kd.R (Kd.int .u32) 134 bA w.heap.size (fun _ => True) (.slice aJ t142.length aK) t142) := ⟨(by rw [hw]; exact (by (with_reducible repeat (first | apply Kd.R_alloc | apply Kd.zH | apply Kd.zI)); exact Kd.zB (Kd.zT (p := ⟨aC, 2, none⟩) (Kd.zT (p := ⟨aC, 1, none⟩) (Kd.zT (p := ⟨aC, 0, none⟩) (Kd.zV aE.o aA.o yD_) (fun _ hk => hk.2) (.bool t141)) (fun _ hk => hk.2) (.slice aJ t142.length aK)) (fun _ hk => hk.2) (.int .i64 t145)) (fun _ hk => trivial)))⟩; replace aA : ze (bA.heap[aC]? = some (.cells #[.bool t141, .slice aJ t142.length aK, .int .i64 t145] 101 (0, 0))) := ⟨(by rw [hw]; exact (hp_ aA.o))⟩; replace HB : ze (Below w.heap.size w bA) := ⟨(by rw [hw]; exact bw_)⟩; clear hw; have hcz12_0 := cz_ aA.o 0 rfl; have hcz12_1 := cz_ aA.o 1 rfl; have hcz12_2 := cz_ aA.o 2 rfl; have hfz12_0 := zb aA.o 0; have hfz12_1 := zb aA.o 1; have hfz12_2 := zb aA.o 2) | ((with_reducible refine gate_builtin (b := .append) (xs := #[.tmp 24, .tmp 26]) rfl ?_); at_builtin; refine Kd.S_append k101 (w0 := w) w.heap.size rfl (.tmp 24) (.tmp 26) 140 101 (.agg #[(.bool false), (.slice none 0 0), (.int .i64 0)]) 40 rfl Try.underlying140 zaz rfl yD_ yO_ u4 aI (⟨t141, t142, t145⟩ : zaU) [.bool t141, .slice aJ t142.length aK, .int .i64 t145] (fun k_ => k_ ≠ aC) (fun k_ => some k_ = (.slice aJ t142.length aK : Value).ownBlock) rfl rfl ?aP (fun k_ hk_ => ((Kd.zB (ok' := fun k_ => ((fun k_ => k_ ≠ aC)) k_ ∧ some k_ ≠ (u4 : Value).ownBlock) (Kd.zV (Kd.R_apart' (aE.o) (Kd.S_typed aG.o) yD_) aA.o yD_) (fun k_ hk => ⟨hk.2, hk.1.2⟩))).1 k_ hk_.symm) ?aF ?aO ?aB ?aS ?aL ?_; (case aP => exact k101_mkM _ _ _ (⟨t141, t142, t145⟩ : zaU) (Kd.zB (Kd.R_tight rfl (Kd.zB (ok' := fun k_ => ((fun k_ => k_ ≠ aC)) k_ ∧ some k_ ≠ (u4 : Value).ownBlock) (Kd.zV (Kd.R_apart' (aE.o) (Kd.S_typed aG.o) yD_) aA.o yD_) (fun k_ hk => ⟨hk.2, hk.1.2⟩))) (fun _ h_ => h_))); (case aB => exact bw_); (case aF => exact (fun k_ hk => Kd.freshB (g := aC) (o := .cells #[.bool t141, .slice aJ t142.length aK, .int .i64 t145] 101 (0, 0)) (pe_ aA.o) k_ hk)); (case aO => exact (by (with_reducible repeat (first | apply Kd.S_alloc | apply Kd.S_drewN | apply Kd.S_drew)); exact Kd.S_mono aG.o (fun k_ hk => ⟨hk.2, fun e_ => hk.1 e_⟩))); (case aS => exact (zh bw_)); (case aL => have := bC.o; omega); intro v149 w13 ho hb hg hat; rw [← aX.o] at ho; replace aA := J (za8 (g := aC) (o := .cells #[.bool t141, .slice aJ t142.length aK, .int .i64 t145] 101 (0, 0)) (pe_ aA.o) hg (Kd.S_away aG.o (fun _ hk => hk.2))); replace HB := J (hb); have aW := J (ho); clear aG aE; clear ho hb hg hat))
       go_roundg k1
       case measure => have := HK1.o; omega
       case rel => exact ⟨(aZ), (wrap64 (aD + 1)), rs_, H', ⟨by have := HK1.o; omega⟩, ⟨by (with_reducible repeat (first | apply Kd.S_alloc | apply Kd.S_drewN | apply Kd.S_drew)); exact Kd.S_mono aW.o (fun _ hk => trivial)⟩, ⟨bw_⟩⟩
      ·rw [if_neg c6] at H; exact absurd H (by simp)
     ·replace c5 := Bool.eq_false_iff.mpr c5; subst c5; have H1 : (some (([] : List (zaU)), false)) = some (r1, r2) := by rw [if_neg (show ¬ (false = true) by decide)] at H; exact H
      clear H; have H := H1; clear H1; simp only [Option.some.injEq, Prod.mk.injEq] at H; obtain ⟨rfl, rfl⟩ := H; have aN : 0 ≤ (aD : Int) := od_; have aQ : aD < (l0.length : Int) := od_; obtain ⟨aY, aT, aH⟩ := Kd.zQ HR0.o aD aN aQ; cases aT; replace aH := bx_ HB.o aH; replace aN := eq_true aN; replace aQ := eq_true aQ
      go_wp2_with (first | ((with_reducible refine zM (f := 93) rfl ?_); refine gl_ 19 Try.func93 #[.int .u64 (rd l0 aD)] ?_; (with_reducible refine (zaj.calls k1 (rd l0 aD) t141 t142 t145 false _ A4.o).mono ?_); rintro e w14 ⟨bG, rfl, aU, hb⟩; refine ⟨_, rfl, ?_⟩; replace aG := J (Kd.S_elder' (by (with_reducible repeat (first | apply Kd.S_alloc | apply Kd.S_drewN | apply Kd.S_drew)); exact aG.o) (Kd.R_base aU) hb); have aE := J (Kd.z9 aU (zh bw_)); replace HB := J (za bw_ hb); (try clear hb aU)) | ((with_reducible refine zf (N := 6) rfl ?_); refine zah 6 (cs := #[.bool false, .slice none 0 0, .int .i64 0]) (t := 101) ?_; intro aC hg w15 hbox hb; replace aG := J (Kd.S_below (Kd.S_elderB (by (with_reducible repeat (first | apply Kd.S_alloc | apply Kd.S_drewN | apply Kd.S_drew)); exact aG.o) aC (Nat.le_of_eq hg.symm)) hb); replace aE := J (Kd.zF (pk_ aE.o) hb); have aA := J (hbox); have aR := J ((by rw [hg]; exact (zh bw_) : w.heap.size ≤ aC)); replace HB := J (za bw_ hb); have aV := aR; clear hb hbox hg; have hcz16_0 := cz_ aA.o 0 rfl; have hcz16_1 := cz_ aA.o 1 rfl; have hcz16_2 := cz_ aA.o 2 rfl; have hfz16_0 := zb aA.o 0; have hfz16_1 := zb aA.o 1; have hfz16_2 := zb aA.o 2; obtain ⟨Ao17, co17, bF⟩ := Kd.zJ aE.o; subst bF)); go_ret2; exact ⟨_, er_, by first | exact Kd.zaP _ _ _ _ _ | exact Kd.N_nil _ _ _ _ _ | exact Kd.V_nil _ _ _ _ _ | exact Kd.Q_nil _ _ _ _ _ | exact Kd.zaI _ _ _ _ _, bw_⟩
    ·rw [if_neg c3] at H; exact absurd H (by simp)
   ·rw [if_neg c2] at H; have bD := decide_eq_false c2; clear c2; simp only [Option.some.injEq, Prod.mk.injEq] at H; obtain ⟨rfl, rfl⟩ := H; go_wp2; go_ret2; exact ⟨_, er_, by (with_reducible repeat (first | apply Kd.S_alloc | apply Kd.S_drewN | apply Kd.S_drew)); exact aG.o, bw_⟩
end Go.Proofs.Ytlidbaejhmamjaa.PB
namespace Go.Proofs.Ytlidbaejhmamjaa.PB
open Go.RowKit YtlidbaejhmamjaaW.PrintWords YtlidbaejhmamjaaW.PrintLast YtlidbaejhmamjaaW.PrintMore
attribute [local go_sem] zao zaq zaB zaC zae zaf zap zar   -- for this text's walks alone
mutual
def zy.l0 : Nat → List Int → List Int → List Int → Int → Option (List Int)
 | 0, _, _, _, _ => none
 | k + 1, x0, x1, x5, x6 => if x6 < (x0.length : Int) then (zy.l1 k x0 x1 x5 x6 0 0) else ((zo.f k x5).bind fun t111 => (some t111))
def zy.l1 : Nat → List Int → List Int → List Int → Int → Int → Int → Option (List Int)
 | 0, _, _, _, _, _, _ => none
 | k + 1, x0, x1, x5, x6, x7, x8 => if x8 < (x1.length : Int) then (if 0 ≤ x6 then (if x6 < (x0.length : Int) then (if 0 ≤ x8 then (if 0 ≤ (wrap64 (x6 + x8)) then (if (wrap64 (x6 + x8)) < (x5.length : Int) then (zy.l1 k x0 x1 (x5.set ((wrap64 (x6 + x8)) : Int).toNat ((IntKind.u64.wrap ((IntKind.u64.wrap (x7 + (IntKind.u64.wrap ((IntKind.u64.wrap (rd x0 x6)) * (IntKind.u64.wrap (rd x1 x8)))))) + (IntKind.u64.wrap (rd x5 (wrap64 (x6 + x8)))))) % 4294967296)) x6 ((IntKind.u64.wrap ((IntKind.u64.wrap (x7 + (IntKind.u64.wrap ((IntKind.u64.wrap (rd x0 x6)) * (IntKind.u64.wrap (rd x1 x8)))))) + (IntKind.u64.wrap (rd x5 (wrap64 (x6 + x8)))))) / 4294967296) (wrap64 (x8 + 1))) else (none)) else (none)) else (none)) else (none)) else (none)) else (if 0 ≤ (wrap64 (x6 + (x1.length : Int))) then (if (wrap64 (x6 + (x1.length : Int))) < (x5.length : Int) then (zy.l0 k x0 x1 (x5.set ((wrap64 (x6 + (x1.length : Int))) : Int).toNat ((x7) % 4294967296)) (wrap64 (x6 + 1))) else (none)) else (none))
end
def zy.f (k : Nat) (l0 : List Int) (l1 : List Int) : Option (List Int) := if 0 ≤ (wrap64 ((l0.length : Int) + (l1.length : Int))) then (if (wrap64 ((l0.length : Int) + (l1.length : Int)) : Int).toNat ≤ 70368744177664 then (zy.l0 k l0 l1 (List.replicate (wrap64 ((l0.length : Int) + (l1.length : Int)) : Int).toNat 0) 0) else (none)) else (none)
theorem zy.calls (k : Nat) (A0 : Option Addr) (c0 : Nat) (l0 : List Int) (A1 : Option Addr) (c1 : Nat) (l1 : List Int) (r : List Int) (w : World) (hr0 : Kd.C (Kd.int .u32) w A0 l0.length l0) (hc0 : l0.length ≤ c0) (hr1 : Kd.C (Kd.int .u32) w A1 l1.length l1) (hc1 : l1.length ≤ c1) (h : zy.f k l0 l1 = some r) :
  Calls Try.prog 102 #[.slice A0 l0.length c0, .slice A1 l1.length c1] w fun e w' => ∃ v0_ : Value, e = .returned (v0_) ∧ Kd.R (Kd.int .u32) 134 w' w.heap.size (fun _ => True) v0_ r ∧ Below w.heap.size w w' := by
 have HR0 := J hr0; have HC0 := J hc0; clear hr0 hc0; have HR1 := J hr1; have HC1 := J hc1; clear hr1 hc1; have HB := J (Below.refl w.heap.size w); have H : (if 0 ≤ (wrap64 ((l0.length : Int) + (l1.length : Int))) then (if (wrap64 ((l0.length : Int) + (l1.length : Int)) : Int).toNat ≤ 70368744177664 then (zy.l0 k l0 l1 (List.replicate (wrap64 ((l0.length : Int) + (l1.length : Int)) : Int).toNat 0) 0) else (none)) else (none)) = some r := h; clear h; obtain ⟨bC, bM⟩ : ∃ j_ : Int, (wrap64 ((l0.length : Int) + (l1.length : Int))) = j_ := ⟨_, rfl⟩
 replace H : (if 0 ≤ (bC) then (if (bC : Int).toNat ≤ 70368744177664 then (zy.l0 k l0 l1 (List.replicate (bC : Int).toNat 0) 0) else (none)) else (none)) = some r := by first | (rw [bM] at H; exact H) | (simp only [bM] at H ⊢; exact H)
 have hji3w : (IntKind.i64.wrap ((l0.length : Int) + (l1.length : Int))) = bC := (zat _).trans bM
 by_cases c4 : 0 ≤ (bC)
 ·rw [if_pos c4] at H; have cD := eq_true c4; have cE := decide_eq_true c4; clear c4
  by_cases c5 : (bC : Int).toNat ≤ 70368744177664
  ·rw [if_pos c5] at H; have cF := eq_true c5; have cG := decide_eq_true c5; clear c5; obtain ⟨cO, aR⟩ : ∃ y_ : List Int, y_ = (List.replicate (bC : Int).toNat 0) := ⟨_, rfl⟩
   replace H : (zy.l0 k l0 l1 cO 0) = some r := by first | (rw [aR]; with_reducible exact H) | (have bD := (Option.bind_some _ _).symm.trans H; rw [aR]; with_reducible exact bD) | (have bD := (Option.bind_some _ _).symm.trans H; with_reducible exact bD) | with_reducible exact H | (rw [aR]; exact H) | exact H
   have aM := J aR; clear aR; have H' := J H; clear H; go_enter Try.func102, Try.ntmps102; go_wp2_with (first | ((with_reducible refine zf (N := 14) rfl ?_); refine Kd.R_make (Kd.int .u32) _ 134 rfl (N := 14) rfl 99 _ _ rfl bC rfl rfl Try.underlying99 (.int .u32 0) 4 info134 rfl yD_ yO_ 0 (ok := fun _ => True) (okp := fun _ => True) rfl (fun _ hk => hk) trivial (od_) (Nat.le_trans (Nat.mul_le_mul_right _ (od_ : bC.toNat ≤ 70368744177664)) yO_) (Below.refl _ _) (Nat.le_refl _) ?_; intro bO w6 aQ hb cM aP; clear cM aP; (first | rw [← aM.o] at aQ | (simp only [Int.reduceToNat] at aQ; rw [← aM.o] at aQ)); have bE := J (Kd.z9 aQ (zh bw_)); replace HB := J (za bw_ hb); clear hb aQ))
   repeat (go_quiet (first | ((with_reducible refine zf (N := 14) rfl ?_); refine Kd.R_make (Kd.int .u32) _ 134 rfl (N := 14) rfl 99 _ _ rfl bC rfl rfl Try.underlying99 (.int .u32 0) 4 info134 rfl yD_ yO_ 0 (ok := fun _ => True) (okp := fun _ => True) rfl (fun _ hk => hk) trivial (od_) (Nat.le_trans (Nat.mul_le_mul_right _ (od_ : bC.toNat ≤ 70368744177664)) yO_) (Below.refl _ _) (Nat.le_refl _) ?_; intro bO w6 aQ hb cM aP; clear cM aP; (first | rw [← aM.o] at aQ | (simp only [Int.reduceToNat] at aQ; rw [← aM.o] at aQ)); have bE := J (Kd.z9 aQ (zh bw_)); replace HB := J (za bw_ hb); clear hb aQ)); try go_wp2_with (first | ((with_reducible refine zf (N := 14) rfl ?_); refine Kd.R_make (Kd.int .u32) _ 134 rfl (N := 14) rfl 99 _ _ rfl bC rfl rfl Try.underlying99 (.int .u32 0) 4 info134 rfl yD_ yO_ 0 (ok := fun _ => True) (okp := fun _ => True) rfl (fun _ hk => hk) trivial (od_) (Nat.le_trans (Nat.mul_le_mul_right _ (od_ : bC.toNat ≤ 70368744177664)) yO_) (Below.refl _ _) (Nat.le_refl _) ?_; intro bO w6 aQ hb cM aP; clear cM aP; (first | rw [← aM.o] at aQ | (simp only [Int.reduceToNat] at aQ; rw [← aM.o] at aQ)); have bE := J (Kd.z9 aQ (zh bw_)); replace HB := J (za bw_ hb); clear hb aQ)))
   go_loopg [6] k (fun kq v6 w' => ∃ (aI : List Int) (aD : Int), v6 = .int .i64 aD ∧ ze (zy.l0 kq l0 l1 aI aD = some r) ∧ ze (kq ≤ k) ∧ ze (Kd.R (Kd.int .u32) 134 w' w.heap.size (fun _ => True) bO aI) ∧ ze (Below w.heap.size w w'))
   case atStart => exact ⟨(cO), (0), rs_, H', ⟨Nat.le_refl _⟩, ⟨pk_ bE.o⟩, ⟨bw_⟩⟩
   case round =>
    clear H'
    try clear c1
    try clear p2
    try clear c4
    try clear cD
    try clear cE
    try clear c5
    try clear cF
    try clear cG
    try clear p6
    obtain ⟨aI, aD, rfl, HA, cP, aA, HB⟩ := hrel
    cases gk with
    | zero => exact absurd HA.o (by simp [zy.l0])
    | succ k1 =>
     have H := HA.o; clear HA; simp only [zy.l0] at H
     by_cases c8 : aD < (l0.length : Int)
     ·rw [if_pos c8] at H; have cH := decide_eq_true c8; clear c8; have H' := J H; clear H; go_wp2
      repeat (go_quiet (fail); try go_wp2)
      go_loopg [7, 8] k1 (fun kq v7 v8 w' => ∃ (aC : List Int) (aG : Int) (aE : Int), v7 = .int .u64 aG ∧ v8 = .int .i64 aE ∧ ze (zy.l1 kq l0 l1 aC aD aG aE = some r) ∧ ze (kq ≤ k1) ∧ ze (Kd.R (Kd.int .u32) 134 w' w.heap.size (fun _ => True) bO aC) ∧ ze (Below w.heap.size w w'))
      case atStart => exact ⟨(aI), (0), (0), rs_, rs_, H', ⟨Nat.le_refl _⟩, ⟨pk_ aA.o⟩, ⟨bw_⟩⟩
      case round =>
       clear H'
       try clear c1
       try clear p2
       try clear c4
       try clear cD
       try clear cE
       try clear c5
       try clear cF
       try clear cG
       try clear p6
       try clear c8
       try clear cH
       try clear p2
       try clear p6
       obtain ⟨aC, aG, aE, rfl, rfl, HA, cQ, aA, HB⟩ := hrel
       cases gk with
       | zero => exact absurd HA.o (by simp [zy.l1])
       | succ k2 =>
        have H := HA.o; clear HA; simp only [zy.l1] at H
        by_cases c9 : aE < (l1.length : Int)
        ·rw [if_pos c9] at H; have cZ := decide_eq_true c9; clear c9
         by_cases cR : 0 ≤ aD
         ·rw [if_pos cR] at H; have c10b0 := decide_eq_true cR; clear cR
          by_cases cS : aD < (l0.length : Int)
          ·rw [if_pos cS] at H; have c11b0 := decide_eq_true cS; clear cS
           by_cases cT : 0 ≤ aE
           ·rw [if_pos cT] at H; have c12b0 := decide_eq_true cT; clear cT; obtain ⟨aB, aX⟩ : ∃ j_ : Int, (wrap64 (aD + aE)) = j_ := ⟨_, rfl⟩
            replace H : (if 0 ≤ (aB) then (if (aB) < (aC.length : Int) then (zy.l1 k2 l0 l1 (aC.set ((aB) : Int).toNat ((IntKind.u64.wrap ((IntKind.u64.wrap (aG + (IntKind.u64.wrap ((IntKind.u64.wrap (rd l0 aD)) * (IntKind.u64.wrap (rd l1 aE)))))) + (IntKind.u64.wrap (rd aC (aB))))) % 4294967296)) aD ((IntKind.u64.wrap ((IntKind.u64.wrap (aG + (IntKind.u64.wrap ((IntKind.u64.wrap (rd l0 aD)) * (IntKind.u64.wrap (rd l1 aE)))))) + (IntKind.u64.wrap (rd aC (aB))))) / 4294967296) (wrap64 (aE + 1))) else (none)) else (none)) = some r := by first | (rw [aX] at H; exact H) | (simp only [aX] at H ⊢; exact H)
            have hji13w : (IntKind.i64.wrap (aD + aE)) = aB := (zat _).trans aX
            by_cases cU : 0 ≤ (aB)
            ·rw [if_pos cU] at H; have c14b0 := decide_eq_true cU; clear cU
             by_cases cV : (aB) < (aC.length : Int)
             ·rw [if_pos cV] at H; have c15b0 := decide_eq_true cV; clear cV; obtain ⟨bK, aS⟩ : ∃ y_ : List Int, y_ = (aC.set ((aB) : Int).toNat ((IntKind.u64.wrap ((IntKind.u64.wrap (aG + (IntKind.u64.wrap ((IntKind.u64.wrap (rd l0 aD)) * (IntKind.u64.wrap (rd l1 aE)))))) + (IntKind.u64.wrap (rd aC (aB))))) % 4294967296)) := ⟨_, rfl⟩
              replace H : (zy.l1 k2 l0 l1 bK aD ((IntKind.u64.wrap ((IntKind.u64.wrap (aG + (IntKind.u64.wrap ((IntKind.u64.wrap (rd l0 aD)) * (IntKind.u64.wrap (rd l1 aE)))))) + (IntKind.u64.wrap (rd aC (aB))))) / 4294967296) (wrap64 (aE + 1))) = some r := by first | (rw [aS]; with_reducible exact H) | (have bD := (Option.bind_some _ _).symm.trans H; rw [aS]; with_reducible exact bD) | (have bD := (Option.bind_some _ _).symm.trans H; with_reducible exact bD) | with_reducible exact H | (rw [aS]; exact H) | exact H
              have aW := J aS; clear aS; have H' := J H; clear H; have bU : 0 ≤ (aD : Int) := od_; have bX : aD < (l0.length : Int) := od_; obtain ⟨ad114, dA, aY⟩ := Kd.zQ HR0.o aD bU bX; cases dA; replace aY := bx_ HB.o aY; replace bU := eq_true bU; replace bX := eq_true bX; have bV : 0 ≤ (aE : Int) := od_; have bY : aE < (l1.length : Int) := od_; obtain ⟨ad115, dB, aZ⟩ := Kd.zQ HR1.o aE bV bY; cases dB; replace aZ := bx_ HB.o aZ; replace bV := eq_true bV; replace bY := eq_true bY; obtain ⟨Ao17, bS, dD⟩ := Kd.zJ aA.o; subst dD; have bW : 0 ≤ ((aB) : Int) := od_; have bZ : (aB) < (aC.length : Int) := od_; obtain ⟨ad116, dC, bN⟩ := Kd.zQ (Kd.zK aA.o).2.2 (aB) bW bZ; cases dC; replace bW := eq_true bW; replace bZ := eq_true bZ; have dH : 0 ≤ ((aB) : Int) := od_; have dJ : ((aB) : Int) < ((aC.length : Int) : Int) := od_; obtain ⟨aN, co16, cI, cK, dF, cl16, cB⟩ := Kd.R_form aA.o yO_
              (first | cases cI | (injection cI with ea_ en_ ec_; (first | subst ea_ | (injection ea_ with ea_; subst ea_)); subst ec_; clear en_))
              have bQ := J cK; have GG16 := J cB; clear cK dF cB
              (first | simp only [add_plain] at bN | skip)
              obtain ⟨hx16_0, hf16_0⟩ := Kd.zaQ 0 aA.o ((aB) : Int) dH dJ; replace dH := eq_true dH; replace dJ := eq_true dJ; have aJ := Kd.zbd aA.o ((aB) : Int) ((IntKind.u64.wrap ((IntKind.u64.wrap (aG + (IntKind.u64.wrap ((IntKind.u64.wrap (rd l0 aD)) * (IntKind.u64.wrap (rd l1 aE)))))) + (IntKind.u64.wrap (rd aC (aB))))) % 4294967296); go_wp2_with (first | ((with_reducible refine zj (t := 134) (p := 54) rfl ?_); (try (rw [drewN_self wr]; generalize aL : World.drewN wr _ = wr; replace aA := J (Kd.R_at aL aA.o); replace HB := J (below_at aL HB.o); clear aL; (try (have aJ := Kd.zbd aA.o ((aB) : Int) ((IntKind.u64.wrap ((IntKind.u64.wrap (aG + (IntKind.u64.wrap ((IntKind.u64.wrap (rd l0 aD)) * (IntKind.u64.wrap (rd l1 aE)))))) + (IntKind.u64.wrap (rd aC (aB))))) % 4294967296))))); refine store_ 134 54 ((wr.setCell ⟨aN, ((aB) : Int).toNat, none⟩ (.int .u32 ((IntKind.u64.wrap ((IntKind.u64.wrap (aG + (IntKind.u64.wrap ((IntKind.u64.wrap (rd l0 aD)) * (IntKind.u64.wrap (rd l1 aE)))))) + (IntKind.u64.wrap (rd aC (aB))))) % 4294967296)))) ?_; intro bI hw; have hg : wr.grownBy bI (some aN) := (by rw [hw]; exact aJ.2); have hp_ : Kd.R (Kd.int .u32) 134 bI w.heap.size (fun _ => True) (.slice (some ⟨aN, 0, none⟩) aC.length bS) bK := (by rw [hw, aW.o]; exact aJ.1); clear aJ; replace aA := J (hp_); replace HB := J ((by rw [hw]; exact zN (HB.o) bQ.o : Below w.heap.size w bI)); clear hg hw hp_))
              repeat (go_quiet (first | ((with_reducible refine zj (t := 134) (p := 54) rfl ?_); (try (rw [drewN_self wr]; generalize aL : World.drewN wr _ = wr; replace aA := J (Kd.R_at aL aA.o); replace HB := J (below_at aL HB.o); clear aL; (try (have aJ := Kd.zbd aA.o ((aB) : Int) ((IntKind.u64.wrap ((IntKind.u64.wrap (aG + (IntKind.u64.wrap ((IntKind.u64.wrap (rd l0 aD)) * (IntKind.u64.wrap (rd l1 aE)))))) + (IntKind.u64.wrap (rd aC (aB))))) % 4294967296))))); refine store_ 134 54 ((wr.setCell ⟨aN, ((aB) : Int).toNat, none⟩ (.int .u32 ((IntKind.u64.wrap ((IntKind.u64.wrap (aG + (IntKind.u64.wrap ((IntKind.u64.wrap (rd l0 aD)) * (IntKind.u64.wrap (rd l1 aE)))))) + (IntKind.u64.wrap (rd aC (aB))))) % 4294967296)))) ?_; intro bI hw; have hg : wr.grownBy bI (some aN) := (by rw [hw]; exact aJ.2); have hp_ : Kd.R (Kd.int .u32) 134 bI w.heap.size (fun _ => True) (.slice (some ⟨aN, 0, none⟩) aC.length bS) bK := (by rw [hw, aW.o]; exact aJ.1); clear aJ; replace aA := J (hp_); replace HB := J ((by rw [hw]; exact zN (HB.o) bQ.o : Below w.heap.size w bI)); clear hg hw hp_)); try go_wp2_with (first | ((with_reducible refine zj (t := 134) (p := 54) rfl ?_); (try (rw [drewN_self wr]; generalize aL : World.drewN wr _ = wr; replace aA := J (Kd.R_at aL aA.o); replace HB := J (below_at aL HB.o); clear aL; (try (have aJ := Kd.zbd aA.o ((aB) : Int) ((IntKind.u64.wrap ((IntKind.u64.wrap (aG + (IntKind.u64.wrap ((IntKind.u64.wrap (rd l0 aD)) * (IntKind.u64.wrap (rd l1 aE)))))) + (IntKind.u64.wrap (rd aC (aB))))) % 4294967296))))); refine store_ 134 54 ((wr.setCell ⟨aN, ((aB) : Int).toNat, none⟩ (.int .u32 ((IntKind.u64.wrap ((IntKind.u64.wrap (aG + (IntKind.u64.wrap ((IntKind.u64.wrap (rd l0 aD)) * (IntKind.u64.wrap (rd l1 aE)))))) + (IntKind.u64.wrap (rd aC (aB))))) % 4294967296)))) ?_; intro bI hw; have hg : wr.grownBy bI (some aN) := (by rw [hw]; exact aJ.2); have hp_ : Kd.R (Kd.int .u32) 134 bI w.heap.size (fun _ => True) (.slice (some ⟨aN, 0, none⟩) aC.length bS) bK := (by rw [hw, aW.o]; exact aJ.1); clear aJ; replace aA := J (hp_); replace HB := J ((by rw [hw]; exact zN (HB.o) bQ.o : Below w.heap.size w bI)); clear hg hw hp_)))
              go_roundg k2
              case measure => have := cP.o; have := cQ.o; omega
              case rel => exact ⟨(bK), ((IntKind.u64.wrap ((IntKind.u64.wrap (aG + (IntKind.u64.wrap ((IntKind.u64.wrap (rd l0 aD)) * (IntKind.u64.wrap (rd l1 aE)))))) + (IntKind.u64.wrap (rd aC (aB))))) / 4294967296), (wrap64 (aE + 1)), (by first | rfl | (simp; done) | (simp only [← aX] <;> (first | rfl | simp)) | (simp [*]; done)), rs_, H', ⟨by have := cP.o; have := cQ.o; omega⟩, ⟨by rw [aW.o]; exact (Kd.zbd (Kd.zH aA.o _) ((aB) : Int) ((IntKind.u64.wrap ((IntKind.u64.wrap (aG + (IntKind.u64.wrap ((IntKind.u64.wrap (rd l0 aD)) * (IntKind.u64.wrap (rd l1 aE)))))) + (IntKind.u64.wrap (rd aC (aB))))) % 4294967296)).1⟩, ⟨(zas HB.o _).grown (Kd.zbd (Kd.zH aA.o _) ((aB) : Int) ((IntKind.u64.wrap ((IntKind.u64.wrap (aG + (IntKind.u64.wrap ((IntKind.u64.wrap (rd l0 aD)) * (IntKind.u64.wrap (rd l1 aE)))))) + (IntKind.u64.wrap (rd aC (aB))))) % 4294967296)).2 (zas HB.o 0).size (fun k hk => by cases hk; exact own_base (Kd.own_of_R aA.o) _ rfl)⟩⟩
             ·rw [if_neg cV] at H; exact absurd H (by simp)
            ·rw [if_neg cU] at H; exact absurd H (by simp)
           ·rw [if_neg cT] at H; exact absurd H (by simp)
          ·rw [if_neg cS] at H; exact absurd H (by simp)
         ·rw [if_neg cR] at H; exact absurd H (by simp)
        ·rw [if_neg c9] at H; have cZ := decide_eq_false c9; clear c9; obtain ⟨aH, bH⟩ : ∃ j_ : Int, (wrap64 (aD + (l1.length : Int))) = j_ := ⟨_, rfl⟩
         replace H : (if 0 ≤ (aH) then (if (aH) < (aC.length : Int) then (zy.l0 k2 l0 l1 (aC.set ((aH) : Int).toNat ((aG) % 4294967296)) (wrap64 (aD + 1))) else (none)) else (none)) = some r := by first | (rw [bH] at H; exact H) | (simp only [bH] at H ⊢; exact H)
         have hji20w : (IntKind.i64.wrap (aD + (l1.length : Int))) = aH := (zat _).trans bH
         by_cases cW : 0 ≤ (aH)
         ·rw [if_pos cW] at H; have c21b0 := decide_eq_true cW; clear cW
          by_cases cX : (aH) < (aC.length : Int)
          ·rw [if_pos cX] at H; have c22b0 := decide_eq_true cX; clear cX; obtain ⟨bL, aT⟩ : ∃ y_ : List Int, y_ = (aC.set ((aH) : Int).toNat ((aG) % 4294967296)) := ⟨_, rfl⟩
           replace H : (zy.l0 k2 l0 l1 bL (wrap64 (aD + 1))) = some r := by first | (rw [aT]; with_reducible exact H) | (have bD := (Option.bind_some _ _).symm.trans H; rw [aT]; with_reducible exact bD) | (have bD := (Option.bind_some _ _).symm.trans H; with_reducible exact bD) | with_reducible exact H | (rw [aT]; exact H) | exact H
           have bG := J aT; clear aT; have H' := J H; clear H; have dI : 0 ≤ ((aH) : Int) := od_; have dK : ((aH) : Int) < ((aC.length : Int) : Int) := od_; obtain ⟨aO, bT, cJ, cL, dG, cl23, cC⟩ := Kd.R_form aA.o yO_
           (first | cases cJ | (injection cJ with ea_ en_ ec_; (first | subst ea_ | (injection ea_ with ea_; subst ea_)); subst ec_; clear en_))
           have bR := J cL; have GG23 := J cC; clear cL dG cC; obtain ⟨hx23_0, hf23_0⟩ := Kd.zaQ 0 aA.o ((aH) : Int) dI dK; replace dI := eq_true dI; replace dK := eq_true dK; have aK := Kd.zbd aA.o ((aH) : Int) ((aG) % 4294967296); go_wp2_with (first | ((with_reducible refine zj (t := 134) (p := 64) rfl ?_); (try (rw [drewN_self wr]; generalize aL : World.drewN wr _ = wr; replace aA := J (Kd.R_at aL aA.o); replace HB := J (below_at aL HB.o); clear aL; (try (have aK := Kd.zbd aA.o ((aH) : Int) ((aG) % 4294967296))))); refine store_ 134 64 ((wr.setCell ⟨aO, ((aH) : Int).toNat, none⟩ (.int .u32 ((aG) % 4294967296)))) ?_; intro bJ hw; have hg : wr.grownBy bJ (some aO) := (by rw [hw]; exact aK.2); have hp_ : Kd.R (Kd.int .u32) 134 bJ w.heap.size (fun _ => True) (.slice (some ⟨aO, 0, none⟩) aC.length bT) bL := (by rw [hw, bG.o]; exact aK.1); clear aK; replace aA := J (hp_); replace HB := J ((by rw [hw]; exact zN (HB.o) bR.o : Below w.heap.size w bJ)); clear hg hw hp_))
           repeat (go_quiet (first | ((with_reducible refine zj (t := 134) (p := 64) rfl ?_); (try (rw [drewN_self wr]; generalize aL : World.drewN wr _ = wr; replace aA := J (Kd.R_at aL aA.o); replace HB := J (below_at aL HB.o); clear aL; (try (have aK := Kd.zbd aA.o ((aH) : Int) ((aG) % 4294967296))))); refine store_ 134 64 ((wr.setCell ⟨aO, ((aH) : Int).toNat, none⟩ (.int .u32 ((aG) % 4294967296)))) ?_; intro bJ hw; have hg : wr.grownBy bJ (some aO) := (by rw [hw]; exact aK.2); have hp_ : Kd.R (Kd.int .u32) 134 bJ w.heap.size (fun _ => True) (.slice (some ⟨aO, 0, none⟩) aC.length bT) bL := (by rw [hw, bG.o]; exact aK.1); clear aK; replace aA := J (hp_); replace HB := J ((by rw [hw]; exact zN (HB.o) bR.o : Below w.heap.size w bJ)); clear hg hw hp_)); try go_wp2_with (first | ((with_reducible refine zj (t := 134) (p := 64) rfl ?_); (try (rw [drewN_self wr]; generalize aL : World.drewN wr _ = wr; replace aA := J (Kd.R_at aL aA.o); replace HB := J (below_at aL HB.o); clear aL; (try (have aK := Kd.zbd aA.o ((aH) : Int) ((aG) % 4294967296))))); refine store_ 134 64 ((wr.setCell ⟨aO, ((aH) : Int).toNat, none⟩ (.int .u32 ((aG) % 4294967296)))) ?_; intro bJ hw; have hg : wr.grownBy bJ (some aO) := (by rw [hw]; exact aK.2); have hp_ : Kd.R (Kd.int .u32) 134 bJ w.heap.size (fun _ => True) (.slice (some ⟨aO, 0, none⟩) aC.length bT) bL := (by rw [hw, bG.o]; exact aK.1); clear aK; replace aA := J (hp_); replace HB := J ((by rw [hw]; exact zN (HB.o) bR.o : Below w.heap.size w bJ)); clear hg hw hp_)))
           go_roundg k2
           case measure => have := cP.o; have := cQ.o; omega
           case rel => exact ⟨(bL), (wrap64 (aD + 1)), rs_, H', ⟨by have := cP.o; have := cQ.o; omega⟩, ⟨pk_ aA.o⟩, ⟨bw_⟩⟩
          ·rw [if_neg cX] at H; exact absurd H (by simp)
         ·rw [if_neg cW] at H; exact absurd H (by simp)
     ·rw [if_neg c8] at H; have cH := decide_eq_false c8; clear c8; replace H := Option.bind_eq_some_iff.mp H; obtain ⟨t111, cA, H⟩ := H; replace H : (some t111) = some r := H; have cY := J cA; clear cA; obtain rfl := Option.some.inj H; obtain ⟨bA, bB, dE⟩ := Kd.zJ aA.o; subst dE; go_wp2_with (first | (go_at_call 69; (with_reducible refine (zo.calls k1 (fun k_ => some k_ = (.slice bA aI.length bB : Value).ownBlock) (.slice bA aI.length bB) aI t111 w _ ?aU ?aV cY.o).mono ?_); (case aU => exact bw_); (case aV => exact Kd.R_tight rfl aA.o); rintro e w28 ⟨cN, rfl, bP, hb, hkp⟩; have bF := J (Kd.zB (ok' := fun k_ => True) bP (fun k_ hk_ => trivial)); replace HB := J (hb); clear aA; (try clear hb hkp bP)))
      repeat (go_quiet (first | (go_at_call 69; (with_reducible refine (zo.calls k1 (fun k_ => some k_ = (.slice bA aI.length bB : Value).ownBlock) (.slice bA aI.length bB) aI t111 w _ ?aU ?aV cY.o).mono ?_); (case aU => exact bw_); (case aV => exact Kd.R_tight rfl aA.o); rintro e w28 ⟨cN, rfl, bP, hb, hkp⟩; have bF := J (Kd.zB (ok' := fun k_ => True) bP (fun k_ hk_ => trivial)); replace HB := J (hb); clear aA; (try clear hb hkp bP))); try go_wp2_with (first | (go_at_call 69; (with_reducible refine (zo.calls k1 (fun k_ => some k_ = (.slice bA aI.length bB : Value).ownBlock) (.slice bA aI.length bB) aI t111 w _ ?aU ?aV cY.o).mono ?_); (case aU => exact bw_); (case aV => exact Kd.R_tight rfl aA.o); rintro e w28 ⟨cN, rfl, bP, hb, hkp⟩; have bF := J (Kd.zB (ok' := fun k_ => True) bP (fun k_ hk_ => trivial)); replace HB := J (hb); clear aA; (try clear hb hkp bP))))
      go_ret; exact ⟨_, by first | rfl | (simp [zaE, zaF] <;> rfl) | (simp only [← bM]; first | rfl | (simp [zaE, zaF] <;> rfl)) | (simp [*, zaE, zaF] <;> rfl), pk_ bF.o, bw_⟩
  ·rw [if_neg c5] at H; exact absurd H (by simp)
 ·rw [if_neg c4] at H; exact absurd H (by simp)
end Go.Proofs.Ytlidbaejhmamjaa.PB
namespace Go.Proofs.Ytlidbaejhmamjaa.PB
open Go.RowKit YtlidbaejhmamjaaW.PrintWords YtlidbaejhmamjaaW.PrintLast YtlidbaejhmamjaaW.PrintMore
attribute [local go_sem] zao zaq zaB zaC zae zaf zap zar   -- for this text's walks alone
def z8.f (k : Nat) (aC : Bool) (aA : List Int) (aD : Int) (aE : Bool) (aB : List Int) (aG : Int) : Option (Bool × List Int × Int) := if (aA.length : Int) = 0 then (some (false, ([] : List Int), 0)) else (if (aB.length : Int) = 0 then (some (false, ([] : List Int), 0)) else ((zy.f k aA aB).bind fun t122 => (some ((aC != aE), t122, wrap64 (aD + aG)))))
def z8.T3 : Bool × List (List Nat × List Nat) := (true, [([], []), ([0], [0]), ([], []), ([2], [2]), ([1, 3], [1, 3]), ([], []), ([5], [5]), ([], []), ([7], [7]), ([6, 8], [6, 8]), ([], []), ([10], [10]), ([], []), ([12], [12]), ([11, 13], [11, 13]), ([4, 9, 14], [4, 9, 14]), ([15, 9, 0, 1, 2, 3, 4, 5, 6, 7, 8, 9, 10, 11, 12, 13, 14, 15], [15])])
def z8.B3 : List Nat := [0, 1, 0, 4, 15, 0, 32, 0, 128, 480, 0, 1024, 0, 4096, 15360, 32767, 65535]
theorem z8.tab3 : zbc .any (opsOf Try.f95 3) = z8.T3 := by kernel_rfl
theorem z8.bits3 : zal z8.T3.2 z8.B3 = true := by kernel_rfl
theorem z8.calls (k : Nat) (aP : Bool) (aW : Option Addr) (aY : Nat) (aN : List Int) (aQ : Int) (aR : Bool) (aX : Option Addr) (aZ : Nat) (aO : List Int) (aS : Int) (r1 : Bool) (r2 : List Int) (r3 : Int) (w : World) (bH : Kd.C (Kd.int .u32) w aW aN.length aN) (bF : aN.length ≤ aY) (bI : Kd.C (Kd.int .u32) w aX aO.length aO) (bG : aO.length ≤ aZ) (h : z8.f k aP aN aQ aR aO aS = some (r1, r2, r3)) :
  Calls Try.prog 95 #[.agg #[.bool aP, .slice aW aN.length aY, .int .i64 aQ], .agg #[.bool aR, .slice aX aO.length aZ, .int .i64 aS]] w fun e w' => ∃ v1_ : Value, e = .returned (.agg #[.bool r1, v1_, .int .i64 r3]) ∧ Kd.R (Kd.int .u32) 134 w' w.heap.size (fun _ => True) v1_ r2 ∧ Below w.heap.size w w' := by
 have hu101 := Try.underlying101; have bN := J bH; have bL := J bF; clear bH bF; have bO := J bI; have bM := J bG; clear bI bG; have HB := J (Below.refl w.heap.size w); have H : (if (aN.length : Int) = 0 then (some (false, ([] : List Int), 0)) else (if (aO.length : Int) = 0 then (some (false, ([] : List Int), 0)) else ((zy.f k aN aO).bind fun t122 => (some ((aP != aR), t122, wrap64 (aQ + aS)))))) = some (r1, r2, r3) := h; clear h
 by_cases c3 : (aN.length : Int) = 0
 ·rw [if_pos c3] at H; have cB : ((aN.length : Int) == 0) = true := beq_iff_eq.mpr c3; have cC : ((aN.length : Int) != 0) = false := bne_eq_false_iff_eq.mpr c3; clear c3; simp only [Option.some.injEq, Prod.mk.injEq] at H; obtain ⟨rfl, rfl, rfl⟩ := H; go_enter Try.func95, Try.ntmps95
  go_wp2_with (first | ((with_reducible refine zf (N := 2) rfl ?_); (try (refine zR (by rfl) ?_; dsimp only)); refine zah 2 (cs := #[.bool aP, .slice aW aN.length aY, .int .i64 aQ]) (t := 101) ?_; intro aK hg w4 hbox hb; have aA := J (hbox); have aT := J ((by rw [hg]; exact (zh bw_) : w.heap.size ≤ aK)); replace HB := J (za bw_ hb); have bA := aT; clear hb hbox hg) | ((with_reducible refine zf (N := 3) rfl ?_); (try (refine zR (by rfl) ?_; dsimp only)); refine zah 3 (cs := #[.bool aR, .slice aX aO.length aZ, .int .i64 aS]) (t := 101) ?_; intro aL hg w5 hbox hb; have aD := J (hbox); have aU := J ((by rw [hg]; exact (zh bw_) : w.heap.size ≤ aL)); replace HB := J (za bw_ hb); have bB := aU; have aH := J ((by rw [hg]; exact Nat.ne_of_lt (fl_ aA.o) : aK ≠ aL)); replace aA := J (fr_ aA.o hb); have aM := J aH.o.symm; clear hb hbox hg) | ((with_reducible refine zf (N := 4) rfl ?_); (try (refine zR (by rfl) ?_; dsimp only)); refine zah 4 (cs := #[.bool false, .slice none 0 0, .int .i64 0]) (t := 101) ?_; intro aE hg w6 hbox hb; have aG := J (hbox); have aV := J ((by rw [hg]; exact (zh bw_) : w.heap.size ≤ aE)); replace HB := J (za bw_ hb); have bC := aV; have aB := J ((by rw [hg]; exact Nat.ne_of_lt (fl_ aA.o) : aK ≠ aE)); replace aA := J (fr_ aA.o hb); have aI := J aB.o.symm; have aC := J ((by rw [hg]; exact Nat.ne_of_lt (fl_ aD.o) : aL ≠ aE)); replace aD := J (fr_ aD.o hb); have aJ := J aC.o.symm; clear hb hbox hg; have hnb7 := aH.o; have hnc7 := aM.o; have hnb8 := aB.o; have hnc8 := aI.o; have hcz9_0 := cz_ aA.o 0 rfl; have hcz9_1 := cz_ aA.o 1 rfl; have hcz9_2 := cz_ aA.o 2 rfl; have hfz9_0 := zb aA.o 0; have hfz9_1 := zb aA.o 1; have hfz9_2 := zb aA.o 2; have hnb10 := aJ.o; have hnc10 := aC.o; have hcz11_0 := cz_ aG.o 0 rfl; have hcz11_1 := cz_ aG.o 1 rfl; have hcz11_2 := cz_ aG.o 2 rfl; have hfz11_0 := zb aG.o 0; have hfz11_1 := zb aG.o 1; have hfz11_2 := zb aG.o 2))
  refine bodyPost_ret (results_cell_row rfl _ _ aE 101 #[.bool false, .slice none 0 0, .int .i64 0] (0, 0) _ rfl (hp_ aG.o) Try.underlying101 rfl yK_) rfl ?_; exact ⟨_, er_, by first | exact Kd.zaI _ _ _ _ _ | exact Kd.N_nil _ _ _ _ _ | exact Kd.V_nil _ _ _ _ _ | exact Kd.Q_nil _ _ _ _ _ | exact Kd.zaP _ _ _ _ _, bw_⟩
 ·rw [if_neg c3] at H; have cB : ((aN.length : Int) == 0) = false := beq_eq_false_iff_ne.mpr c3; have cC : ((aN.length : Int) != 0) = true := bne_iff_ne.mpr c3; have c3b2 : ¬ (aN = []) := fun h_ => c3 (by rw [h_]; rfl)
  by_cases bE : (aO.length : Int) = 0
  ·rw [if_pos bE] at H; have bP : ((aO.length : Int) == 0) = true := beq_iff_eq.mpr bE; have bQ : ((aO.length : Int) != 0) = false := bne_eq_false_iff_eq.mpr bE; clear bE; simp only [Option.some.injEq, Prod.mk.injEq] at H; obtain ⟨rfl, rfl, rfl⟩ := H; go_enter Try.func95, Try.ntmps95
   go_wp2_with (first | ((with_reducible refine zf (N := 2) rfl ?_); (try (refine zR (by rfl) ?_; dsimp only)); refine zah 2 (cs := #[.bool aP, .slice aW aN.length aY, .int .i64 aQ]) (t := 101) ?_; intro aK hg w13 hbox hb; have aA := J (hbox); have aT := J ((by rw [hg]; exact (zh bw_) : w.heap.size ≤ aK)); replace HB := J (za bw_ hb); have bA := aT; clear hb hbox hg) | ((with_reducible refine zf (N := 3) rfl ?_); (try (refine zR (by rfl) ?_; dsimp only)); refine zah 3 (cs := #[.bool aR, .slice aX aO.length aZ, .int .i64 aS]) (t := 101) ?_; intro aL hg w14 hbox hb; have aD := J (hbox); have aU := J ((by rw [hg]; exact (zh bw_) : w.heap.size ≤ aL)); replace HB := J (za bw_ hb); have bB := aU; have aH := J ((by rw [hg]; exact Nat.ne_of_lt (fl_ aA.o) : aK ≠ aL)); replace aA := J (fr_ aA.o hb); have aM := J aH.o.symm; clear hb hbox hg) | ((with_reducible refine zf (N := 4) rfl ?_); (try (refine zR (by rfl) ?_; dsimp only)); refine zah 4 (cs := #[.bool false, .slice none 0 0, .int .i64 0]) (t := 101) ?_; intro aE hg w15 hbox hb; have aG := J (hbox); have aV := J ((by rw [hg]; exact (zh bw_) : w.heap.size ≤ aE)); replace HB := J (za bw_ hb); have bC := aV; have aB := J ((by rw [hg]; exact Nat.ne_of_lt (fl_ aA.o) : aK ≠ aE)); replace aA := J (fr_ aA.o hb); have aI := J aB.o.symm; have aC := J ((by rw [hg]; exact Nat.ne_of_lt (fl_ aD.o) : aL ≠ aE)); replace aD := J (fr_ aD.o hb); have aJ := J aC.o.symm; clear hb hbox hg; have hnb16 := aH.o; have hnc16 := aM.o; have hnb17 := aB.o; have hnc17 := aI.o; have hcz18_0 := cz_ aA.o 0 rfl; have hcz18_1 := cz_ aA.o 1 rfl; have hcz18_2 := cz_ aA.o 2 rfl; have hfz18_0 := zb aA.o 0; have hfz18_1 := zb aA.o 1; have hfz18_2 := zb aA.o 2; have hnb19 := aC.o; have hnc19 := aJ.o; have hcz20_0 := cz_ aD.o 0 rfl; have hcz20_1 := cz_ aD.o 1 rfl; have hcz20_2 := cz_ aD.o 2 rfl; have hfz20_0 := zb aD.o 0; have hfz20_1 := zb aD.o 1; have hfz20_2 := zb aD.o 2; have hcz21_0 := cz_ aG.o 0 rfl; have hcz21_1 := cz_ aG.o 1 rfl; have hcz21_2 := cz_ aG.o 2 rfl; have hfz21_0 := zb aG.o 0; have hfz21_1 := zb aG.o 1; have hfz21_2 := zb aG.o 2))
   refine bodyPost_ret (results_cell_row rfl _ _ aE 101 #[.bool false, .slice none 0 0, .int .i64 0] (0, 0) _ rfl (hp_ aG.o) Try.underlying101 rfl yK_) rfl ?_; exact ⟨_, er_, by first | exact Kd.zaI _ _ _ _ _ | exact Kd.N_nil _ _ _ _ _ | exact Kd.V_nil _ _ _ _ _ | exact Kd.Q_nil _ _ _ _ _ | exact Kd.zaP _ _ _ _ _, bw_⟩
  ·rw [if_neg bE] at H; have bP : ((aO.length : Int) == 0) = false := beq_eq_false_iff_ne.mpr bE; have bQ : ((aO.length : Int) != 0) = true := bne_iff_ne.mpr bE; have c12b2 : ¬ (aO = []) := fun h_ => bE (by rw [h_]; rfl)
   replace H := Option.bind_eq_some_iff.mp H; obtain ⟨t122, bJ, H⟩ := H; replace H : (some ((aP != aR), t122, wrap64 (aQ + aS))) = some (r1, r2, r3) := H; have A22 := J bJ; clear bJ; simp only [Option.some.injEq, Prod.mk.injEq] at H; obtain ⟨rfl, rfl, rfl⟩ := H; go_enter Try.func95, Try.ntmps95
   try go_wp2_with (first | ((with_reducible refine zf (N := 2) rfl ?_); (try (refine zR (by rfl) ?_; dsimp only)); refine zah 2 (cs := #[.bool aP, .slice aW aN.length aY, .int .i64 aQ]) (t := 101) ?_; intro aK hg w23 hbox hb; have aA := J (hbox); have aT := J ((by rw [hg]; exact (zh bw_) : w.heap.size ≤ aK)); replace HB := J (za bw_ hb); have bA := aT; clear hb hbox hg) | ((with_reducible refine zf (N := 3) rfl ?_); (try (refine zR (by rfl) ?_; dsimp only)); refine zah 3 (cs := #[.bool aR, .slice aX aO.length aZ, .int .i64 aS]) (t := 101) ?_; intro aL hg w24 hbox hb; have aD := J (hbox); have aU := J ((by rw [hg]; exact (zh bw_) : w.heap.size ≤ aL)); replace HB := J (za bw_ hb); have bB := aU; have aH := J ((by rw [hg]; exact Nat.ne_of_lt (fl_ aA.o) : aK ≠ aL)); replace aA := J (fr_ aA.o hb); have aM := J aH.o.symm; clear hb hbox hg) | ((with_reducible refine zf (N := 4) rfl ?_); (try (refine zR (by rfl) ?_; dsimp only)); refine zah 4 (cs := #[.bool false, .slice none 0 0, .int .i64 0]) (t := 101) ?_; intro aE hg w25 hbox hb; have aG := J (hbox); have aV := J ((by rw [hg]; exact (zh bw_) : w.heap.size ≤ aE)); replace HB := J (za bw_ hb); have bC := aV; have aB := J ((by rw [hg]; exact Nat.ne_of_lt (fl_ aA.o) : aK ≠ aE)); replace aA := J (fr_ aA.o hb); have aI := J aB.o.symm; have aC := J ((by rw [hg]; exact Nat.ne_of_lt (fl_ aD.o) : aL ≠ aE)); replace aD := J (fr_ aD.o hb); have aJ := J aC.o.symm; clear hb hbox hg; have hnb26 := aH.o; have hnc26 := aM.o; have hnb27 := aB.o; have hnc27 := aI.o; have hcz28_0 := cz_ aA.o 0 rfl; have hcz28_1 := cz_ aA.o 1 rfl; have hcz28_2 := cz_ aA.o 2 rfl; have hfz28_0 := zb aA.o 0; have hfz28_1 := zb aA.o 1; have hfz28_2 := zb aA.o 2; have hnb29 := aC.o; have hnc29 := aJ.o; have hcz30_0 := cz_ aD.o 0 rfl; have hcz30_1 := cz_ aD.o 1 rfl; have hcz30_2 := cz_ aD.o 2 rfl; have hfz30_0 := zb aD.o 0; have hfz30_1 := zb aD.o 1; have hfz30_2 := zb aD.o 2))
   have bT := J (zA aA.o); have bU := J (zA aD.o); have bV := J (zA aG.o); have bW := J (zax HB.o); clear aA; clear aD; clear aG; clear HB; have aA := bT; have aD := bU; have aG := bV; have HB := bW; clear bT bU bV bW; refine zaw (n := 17) (S := fun w' => w'.cell? ⟨aK, 0, none⟩ = some (.bool aP) ∧ w'.cell? ⟨aK, 1, none⟩ = some (.slice aW aN.length aY) ∧ w'.cell? ⟨aK, 2, none⟩ = some (.int .i64 aQ) ∧ w'.cell? ⟨aL, 0, none⟩ = some (.bool aR) ∧ w'.cell? ⟨aL, 1, none⟩ = some (.slice aX aO.length aZ) ∧ w'.cell? ⟨aL, 2, none⟩ = some (.int .i64 aS)) (ds := []) (bl_ 17 0) yK_ rfl rfl ⟨(zg aA.o 0).trans rfl, (zg aA.o 1).trans rfl, (zg aA.o 2).trans rfl, (zg aD.o 0).trans rfl, (zg aD.o 1).trans rfl, (zg aD.o 2).trans rfl⟩ (fun hHeld => ?_); refine zS z8.tab3 z8.bits3 (fun HT_ HW_ => ?_); generalize w25.drew = w31 at aA aD aG HB hHeld ⊢; refine pu_ 0 ?_; refine pu_ 2 ?_; refine pu_ 5 ?_; refine pu_ 7 ?_; refine pu_ 10 ?_; refine pu_ 12 ?_; refine tk_ 1 ?_; refine tk_ 3 ?_; refine pu_ 4 ?_; refine tk_ 6 ?_; refine tk_ 8 ?_; refine tk_ 11 ?_; refine tk_ 13 ?_; refine pu_ 14 ?_; refine on_ HT_ 9 (some 25) (bl_ 17 32767) fun K hK => ?_
   refine goes_ Try.func102 yK_ rfl #[.slice aW aN.length aY, .slice aX aO.length aZ] (by rfl) rfl rfl (by (try simp only [List.map_toArray, List.map_cons, List.map_nil]); first | done | rfl | (simp only [List.length_drop, List.length_take]; rfl)) ?_
   with_reducible refine (zy.calls k _ _ aN _ _ aO t122 _ ?bX ?bY ?bZ ?cA A22.o).mono ?_
   (case bX => exact sc_ (Kd.zm bN.o HB.o))
   (case bY => exact bL.o)
   (case bZ => exact sc_ (Kd.zm bO.o HB.o))
   (case cA => exact bM.o)
   rintro e w32 ⟨v123, rfl, ho0, hb⟩; refine ⟨_, rfl, ?_⟩; have bT := J (Kd.z9 ho0 (zh bw_)); have bU := J (fr_ aA.o hb); have bV := J (fr_ aD.o hb); have bW := J (fr_ aG.o hb); have n4_ := J (za bw_ hb); clear aA; clear aD; clear aG; clear HB; have bD := bT; have aA := bU; have aD := bV; have aG := bW; have HB := n4_; clear bT bU bV bW n4_
   (try clear hb)
   (try clear hb2)
   (try clear hk)
   (try clear hi)
   (try clear ho0)
   obtain ⟨bK, bR, bS⟩ := Kd.zJ bD.o
   (first | subst bS | (injection bS with f1_ f2_ f3_; have f4_ := f1_.symm; have f5_ := f3_.symm; clear f1_ f2_ f3_; subst f4_; subst f5_))
   refine hK.out _ _ ⟨(zg aA.o 0).trans rfl, (zg aA.o 1).trans rfl, (zg aA.o 2).trans rfl, (zg aD.o 0).trans rfl, (zg aD.o 1).trans rfl, (zg aD.o 2).trans rfl⟩ (fun hHeld => ?_); clear hK K; refine zbl (a' := ?_) ?_ ?_; rotate_left
   ·show Act.put _ (some 25) _ = _
    simp only [Act.put, sI_, s0_, s1_, zat, zaM]; rfl
   refine pu_ 15 ?_; refine on_ HT_ 16 none (bl_ 17 131071) fun K hK => ?_
   have hs34 := cz_ aG.o 0 rfl; have hfs34 := zb aG.o 0; have hns34_0 := aB.o; have hns34_1 := aC.o; have hms34_0 := aI.o; have hms34_1 := aJ.o; have hs35 := cz_ aG.o 1 rfl; have hfs35 := zb aG.o 1; have hns35_0 := aB.o; have hns35_1 := aC.o; have hms35_0 := aI.o; have hms35_1 := aJ.o; have hs36 := cz_ aG.o 2 rfl; have hfs36 := zb aG.o 2; have hns36_0 := aB.o; have hns36_1 := aC.o; have hms36_0 := aI.o; have hms36_1 := aJ.o; refine skip_ (w1 := ?_) (by rfl) rfl ?_ ?_; rotate_left
   ·go_simp; rfl
   refine hK.out _ _ ⟨((cell_far (p := ⟨aE, _, none⟩) aB.o _).trans (((cell_far (p := ⟨aE, _, none⟩) aB.o _).trans (((cell_far (p := ⟨aE, _, none⟩) aB.o _).trans (hHeld.1)))))), ((cell_far (p := ⟨aE, _, none⟩) aB.o _).trans (((cell_far (p := ⟨aE, _, none⟩) aB.o _).trans (((cell_far (p := ⟨aE, _, none⟩) aB.o _).trans (hHeld.2.1)))))), ((cell_far (p := ⟨aE, _, none⟩) aB.o _).trans (((cell_far (p := ⟨aE, _, none⟩) aB.o _).trans (((cell_far (p := ⟨aE, _, none⟩) aB.o _).trans (hHeld.2.2.1)))))), ((cell_far (p := ⟨aE, _, none⟩) aC.o _).trans (((cell_far (p := ⟨aE, _, none⟩) aC.o _).trans (((cell_far (p := ⟨aE, _, none⟩) aC.o _).trans (hHeld.2.2.2.1)))))), ((cell_far (p := ⟨aE, _, none⟩) aC.o _).trans (((cell_far (p := ⟨aE, _, none⟩) aC.o _).trans (((cell_far (p := ⟨aE, _, none⟩) aC.o _).trans (hHeld.2.2.2.2.1)))))), ((cell_far (p := ⟨aE, _, none⟩) aC.o _).trans (((cell_far (p := ⟨aE, _, none⟩) aC.o _).trans (((cell_far (p := ⟨aE, _, none⟩) aC.o _).trans (hHeld.2.2.2.2.2))))))⟩ (fun hHeld => ?_); clear hK K; refine zaL (zad HT_.o yK_) ?_
   try go_wp2
   refine bodyPost_ret (results_cell_row rfl _ _ aE 101 #[.bool (aP != aR), .slice bK t122.length bR, .int .i64 (wrap64 (aQ + aS))] (0, 0) _ rfl (hp_ aG.o) Try.underlying101 rfl yK_) rfl ?_; exact ⟨_, er_, by (with_reducible repeat (first | apply Kd.R_alloc | apply Kd.zH | apply Kd.zI)); exact Kd.zB (Kd.zT (p := ⟨aE, 2, none⟩) (Kd.zT (p := ⟨aE, 1, none⟩) (Kd.zT (p := ⟨aE, 0, none⟩) (Kd.zV bD.o aG.o yD_) (fun _ hk => hk.2) (.bool (aP != aR))) (fun _ hk => hk.2) (.slice bK t122.length bR)) (fun _ hk => hk.2) (.int .i64 (wrap64 (aQ + aS)))) (fun _ hk => trivial), bw_⟩
end Go.Proofs.Ytlidbaejhmamjaa.PB
namespace Go.Proofs.Ytlidbaejhmamjaa.NW
open Go.RowKit YtlidbaejhmamjaaW.PrintWords YtlidbaejhmamjaaW.PrintLast YtlidbaejhmamjaaW.PrintMore PB LA AC
theorem nv_set : ∀ (l : List Int) (j : Nat) (v : Int), j < l.length → nv (l.set j v) = nv l + B j * (v - rd l (j : Int))
 | [], j, v, h => by simp at h
 | x :: l, 0, v, _ => by simp [nv, B_zero, rd]; omega
 | x :: l, j + 1, v, h => by
  have ih := nv_set l j v (by simpa using h); rw [s1_]; simp only [nv, ih, B_succ]; have e : rd (x :: l) ((j + 1 : Nat) : Int) = rd l (j : Int) := by simp [rd]
  rw [e, Int.mul_add, Int.mul_assoc]
  omega
theorem U32.set {l : List Int} (h : U32 l) (j : Nat) {v : Int} (h0 : 0 ≤ v) (h1 : v < 4294967296) : U32 (l.set j v) := fun x hx => by
 rcases List.mem_or_eq_of_mem_set hx with hx | rfl
 ·exact h x hx
 ·exact ⟨h0, h1⟩
theorem rd_set_ne (l : List Int) (i j : Nat) (v : Int) (h : i ≠ j) : rd (l.set i v) (j : Int) = rd l (j : Int) := by simp [rd, List.getD_eq_getElem?_getD, List.getElem?_set_ne h]
theorem mul_word (x y o c : Int) (x0 : 0 ≤ x) (x1 : x < 4294967296) (y0 : 0 ≤ y) (y1 : y < 4294967296) (o0 : 0 ≤ o) (o1 : o < 4294967296) (c0 : 0 ≤ c) (c1 : c < 4294967296) :
  0 ≤ x * y ∧ x * y < 18446744073709551616 ∧ 0 ≤ c + x * y ∧ c + x * y < 18446744073709551616 ∧ 0 ≤ c + x * y + o ∧ c + x * y + o < 18446744073709551616 := by
 have h0 : 0 ≤ x * y := Int.mul_nonneg x0 y0; have h1 : x * y ≤ 4294967295 * 4294967295 := Int.mul_le_mul yO_ yO_ y0 yO_; generalize x * y = z at *
 omega
theorem times_ev (a b : List Int) (ha : U32 a) (hb : U32 b) (hn : a.length ≤ 1000000) (hm : b.length ≤ 1000000) :
  ∃ t, EvS (fun k => zy.f k a b) t ∧ nv t = nv a * nv b ∧ U32 t ∧ Tr t ∧ t.length ≤ a.length + b.length := by
 have inner : ∀ (i : Nat), i < a.length → ∀ (m k : Nat) (out : List Int) (c : Int), b.length = k + m → out.length = a.length + b.length → U32 out → (∀ j : Nat, i + b.length ≤ j → rd out (j : Int) = 0) → 0 ≤ c → c < 4294967296 →
   nv out + B (i + k) * c = nv (a.take i) * nv b + B i * rd a (i : Int) * nv (b.take k) →
   ∃ aA : List Int, aA.length = a.length + b.length ∧ U32 aA ∧ (∀ j : Nat, i + 1 + b.length ≤ j → rd aA (j : Int) = 0) ∧ nv aA = nv (a.take (i + 1)) * nv b ∧
    ∀ t, EvS (fun f => zy.l0 f a b aA ((i + 1 : Nat) : Int)) t → EvS (fun f => zy.l1 f a b out (i : Int) c (k : Int)) t := by
  intro i hi m
  induction m with
  | zero =>
   intro k out c e hl hu hz c0 c1 h; have hk : k = b.length := by omega
   subst hk; have z := hz (i + b.length) (Nat.le_refl _); have st := nv_set out (i + b.length) c yO_; rw [z, Int.sub_zero] at st; refine ⟨out.set (i + b.length) c, by rw [List.length_set]; exact hl, hu.set _ c0 c1, fun j hj => ?_, ?_, fun t ht => EvS.succ (fun f => ?_) ht⟩
   ·rw [rd_set_ne _ _ _ _ yO_]; exact hz j yO_
   ·rw [st, h, List.take_length, nv_take a i hi, Int.add_mul]
   ·simp only [zy.l1]; rw [if_neg yO_, w64 _ yO_ yO_, if_pos yO_, if_pos yO_, Int.emod_eq_of_lt c0 c1, wnext i yO_, show ((i : Int) + (b.length : Int)).toNat = i + b.length by omega]
  | succ m ih =>
   intro k out c e hl hu hz c0 c1 h; have hx := u32_rd ha i hi; have hy := u32_rd hb k yO_; have ho := u32_rd hu (i + k) yO_; have tk := nv_take b k yO_; obtain ⟨p, hp⟩ : ∃ p, p = rd a (i : Int) * rd b (k : Int) := ⟨_, rfl⟩
   have mw := mul_word _ _ _ c hx.1 hx.2 hy.1 hy.2 ho.1 ho.2 c0 c1; rw [← hp] at mw; obtain ⟨v, hv⟩ : ∃ v, v = c + p + rd out ((i + k : Nat) : Int) := ⟨_, rfl⟩
   rw [← hv] at mw; have v1 : 0 ≤ v % 4294967296 ∧ v % 4294967296 < 4294967296 := by omega
   have v2 : v = v % 4294967296 + 4294967296 * (v / 4294967296) := by omega
   have v3 : 0 ≤ v / 4294967296 ∧ v / 4294967296 < 4294967296 := by omega
   have st := nv_set out (i + k) (v % 4294967296) yO_
   obtain ⟨aA, q1, q2, q3, q4, q5⟩ := ih (k + 1) (out.set (i + k) (v % 4294967296)) (v / 4294967296) yO_ (by rw [List.length_set]; exact hl) (hu.set _ v1.1 v1.2) (fun j hj => by rw [rd_set_ne _ _ _ _ yO_]; exact hz j hj) v3.1 v3.2 (by
    have e1 : B (i + (k + 1)) = 4294967296 * B (i + k) := by rw [show i + (k + 1) = (i + k) + 1 by omega, B_succ]
    have e2 : B (i + k) = B i * B k := by unfold B; rw [show 32 * (i + k) = 32 * i + 32 * k by omega, zaG]
    have e3 : B (i + k) * (v % 4294967296 - rd out ((i + k : Nat) : Int)) + 4294967296 * B (i + k) * (v / 4294967296) = B (i + k) * (c + p) := by
     rw [Int.mul_comm 4294967296, Int.mul_assoc, ← Int.mul_add]
     congr 1
     omega
    rw [st, e1, tk, Int.mul_add (B i * rd a (i : Int)), ← Int.add_assoc (nv (a.take i) * nv b), ← h, Int.add_assoc (nv out), e3, Int.mul_add (B (i + k)), hp, e2]
    rw [show B i * rd a (i : Int) * (B k * rd b (k : Int)) = B i * B k * (rd a (i : Int) * rd b (k : Int)) by
     rw [Int.mul_assoc, Int.mul_left_comm (rd a (i : Int)), ← Int.mul_assoc]]
    omega)
   refine ⟨aA, q1, q2, q3, q4, fun t ht => EvS.succ (fun f => ?_) (q5 t ht)⟩; simp only [zy.l1]; rw [if_pos yO_, if_pos yO_, if_pos yO_, if_pos yO_, show wrap64 ((i : Int) + (k : Int)) = ((i + k : Nat) : Int) by rw [w64 _ yO_ yO_]; omega, if_pos yO_, if_pos yO_]; rw [zaZ (rd a (i : Int)) hx.1 yO_, zaZ (rd b (k : Int)) hy.1 yO_, ← hp, zaZ p mw.1 mw.2.1, zaZ (c + p) mw.2.2.1 mw.2.2.2.1, zaZ (rd out ((i + k : Nat) : Int)) ho.1 yO_, ← hv, zaZ v mw.2.2.2.2.1 mw.2.2.2.2.2, Int.toNat_natCast, wnext k yO_]
 have outer : ∀ (m i : Nat) (out : List Int), a.length = i + m → out.length = a.length + b.length → U32 out → (∀ j : Nat, i + b.length ≤ j → rd out (j : Int) = 0) → nv out = nv (a.take i) * nv b →
   ∃ t, EvS (fun f => zy.l0 f a b out (i : Int)) t ∧ nv t = nv a * nv b ∧ U32 t ∧ Tr t ∧ t.length ≤ a.length + b.length := by
  intro m
  induction m with
  | zero =>
   intro i out e hl hu hz h; obtain ⟨t, ht, r0, r1, r2, r3⟩ := trim_ev out hu yO_; rw [show a.take i = a from List.take_of_length_le yO_] at h; refine ⟨t, EvS.succ (G := fun f => (zo.f f out).bind fun t111 => some t111) (fun f => ?_) (EvS.bind ht (EvS.pure _)), by rw [r0, h], r1, r2, by omega⟩; simp only [zy.l0]; rw [if_neg yO_]
  | succ m ih =>
   intro i out e hl hu hz h; obtain ⟨aA, q1, q2, q3, q4, q5⟩ := inner i yO_ b.length 0 out 0 yO_ hl hu hz yO_ yO_ (by simp [nv, h]); obtain ⟨t, ht, r⟩ := ih (i + 1) aA yO_ q1 q2 q3 q4; refine ⟨t, EvS.succ (fun f => ?_) (q5 t ht), r⟩; simp only [zy.l0]; rw [if_pos yO_]; rfl
 obtain ⟨t, ht, r⟩ := outer a.length 0 (List.replicate (a.length + b.length) 0) yO_ (by simp) (U32.zeros _) (fun j hj => by
  by_cases h : j < a.length + b.length
  ·simp [rd, h]
  ·simp [rd, List.getElem?_eq_none (show (List.replicate (a.length + b.length) (0 : Int)).length ≤ j by simp; omega)]) (by rw [nv_zeros]; simp [nv])
 refine ⟨t, EvS.of (fun f => ?_) ht, r⟩; unfold zy.f; rw [w64 _ yO_ yO_, if_pos yO_, show ((a.length : Int) + (b.length : Int)).toNat = a.length + b.length by omega, if_pos yO_]; rfl
theorem u64_wraps : ∀ n : Int, 0 ≤ n → n < 2 ^ 64 → IntKind.u64.wrap n = n := fun n h0 h1 => zaZ n h0 (by
 have : (2 : Int) ^ 64 = 18446744073709551616 := by decide
 omega)
theorem and64 (z k : Nat) (hz : z < 2 ^ 64) (hk : k ≤ 64) : bits .and .u64 (z : Int) ((2 ^ k - 1 : Nat) : Int) = ((z % 2 ^ k : Nat) : Int) := by
 have hb : 2 ^ k - 1 < 2 ^ 64 := by
  have := Nat.pow_le_pow_right (n := 2) yD_ hk; have := Nat.pow_pos (a := 2) (n := k) yD_
  omega
 rw [(bits_nat .u64 64 yD_ u64_wraps z (2 ^ k - 1) hz hb).1, Nat.and_two_pow_sub_one_eq_mod]
theorem or52 (m : Nat) (hm : m < 4503599627370496) : bits .or .u64 (m : Int) 4503599627370496 = ((m + 4503599627370496 : Nat) : Int) := by
 have e : (4503599627370496 : Nat) = 2 ^ 52 := by decide
 have h := (bits_nat .u64 64 yD_ u64_wraps m 4503599627370496 yO_ yD_).2; have h2 : bits .or .u64 (m : Int) 4503599627370496 = bits .or .u64 (m : Int) ((4503599627370496 : Nat) : Int) := rfl; rw [h2, h, Nat.or_comm]; have h3 := Nat.two_pow_add_eq_or_of_lt (i := 52) (b := m) (by rw [← e]; exact hm) 1; rw [Nat.mul_one, ← e] at h3; rw [← h3, Nat.add_comm]
/-- What Of tells of some bits. -/
theorem of_ev (u : Nat) (hu : u < 18446744073709551616) : ∃ (nb : Bool) (t : List Int) (e : Int), EvS (fun k => zaj.f k (u : Int)) (nb, t, e, fo u) ∧ U32 t ∧ Tr t ∧ t.length ≤ 2 ∧ nv t = (if fo u = true then (fm u : Int) else 0) ∧ (t.length = 0 ∨ (nb = fs u ∧ e = fe u)) ∧ -1074 ≤ e ∧ e ≤ 971 := by
 have two : ∀ v : Int, 0 ≤ v → v < 18446744073709551616 → ∃ t, EvS (fun k => zo.f k [v % 4294967296, (v / 4294967296) % 4294967296]) t ∧ nv t = v ∧ U32 t ∧ Tr t ∧ t.length ≤ 2 := by
  intro u u0 u1
  obtain ⟨t, ht, r0, r1, r2, r3⟩ := trim_ev [u % 4294967296, (u / 4294967296) % 4294967296] (fun x hx => by
   simp at hx
   rcases hx with rfl | rfl <;> omega) (by simp)
  refine ⟨t, ht, ?_, r1, r2, by simpa using r3⟩; rw [r0]; simp only [nv]; omega
 have e1 : wrap64 (bits .and .u64 ((u : Int) / 4503599627370496) 2047) = ((u / 4503599627370496 % 2048 : Nat) : Int) := by
  have h := and64 (u / 4503599627370496) 11 yO_ yO_; have h2 : bits .and .u64 ((u : Int) / 4503599627370496) 2047 = bits .and .u64 ((u / 4503599627370496 : Nat) : Int) ((2 ^ 11 - 1 : Nat) : Int) := rfl; rw [h2, h, w64 _ yO_ yO_]
 have e2 : bits .and .u64 (u : Int) 4503599627370495 = ((u % 4503599627370496 : Nat) : Int) := by
  have h := and64 u 52 yO_ yO_; have h2 : bits .and .u64 (u : Int) 4503599627370495 = bits .and .u64 (u : Int) ((2 ^ 52 - 1 : Nat) : Int) := rfl; rw [h2, h]
 have e3 : (((u : Int) / 9223372036854775808) == 1) = (u / 9223372036854775808 == 1) := by
  rw [Bool.eq_iff_iff, beq_iff_eq, beq_iff_eq]
  omega
 obtain ⟨E0, aA⟩ : ∃ E0, E0 = u / 4503599627370496 % 2048 := ⟨_, rfl⟩
 obtain ⟨m0, aB⟩ : ∃ m0, m0 = u % 4503599627370496 := ⟨_, rfl⟩
 have hEb : E0 < 2048 := by omega
 have hmb : m0 < 4503599627370496 := by omega
 rw [← aA] at e1; rw [← aB] at e2
 by_cases h1 : E0 = 2047
 ·have hf : fnum u = none := by unfold fnum; rw [← aA, if_pos h1]
  have hfo : fo u = false := by unfold fo; rw [hf]; rfl
  rw [hfo]; refine ⟨false, [], 0, EvS.of (G := fun _ => some (false, [], 0, false)) (fun k => ?_) (EvS.pure _), fun x hx => by simp at hx, fun i hi => by simp at hi, by simp, rfl, .inl rfl, by omega, by omega⟩; unfold zaj.f; rw [e1, if_pos yO_]
 ·by_cases h0 : E0 = 0
  ·have hf : fnum u = some (u / 9223372036854775808 == 1, m0, -1074) := by unfold fnum; rw [← aA, if_neg h1, if_pos h0, ← aB]
   obtain ⟨f1, f2, f3, f4⟩ := of_fnum hf; rw [f1, f2, f3, f4]
   by_cases hz : m0 = 0
   ·refine ⟨false, [], 0, EvS.of (G := fun _ => some (false, [], 0, true)) (fun k => ?_) (EvS.pure _), fun x hx => by simp at hx, fun i hi => by simp at hi, by simp, by simp [nv, hz], .inl rfl, by omega, by omega⟩; unfold zaj.f; rw [e1, e2, if_neg yO_, if_neg yO_, if_pos yO_]
   ·obtain ⟨t, ht, r0, r1, r2, r3⟩ := two (m0 : Int) yO_ yO_; refine ⟨u / 9223372036854775808 == 1, t, -1074, EvS.of (fun k => ?_) (EvS.bind (G := fun _ t => some (u / 9223372036854775808 == 1, t, -1074, true)) ht (EvS.pure _)), r1, r2, r3, by rw [r0]; rfl, .inr ⟨rfl, rfl⟩, by omega, by omega⟩; unfold zaj.f; rw [e1, e2, e3, if_neg yO_, if_neg yO_, if_neg yO_]; rfl
  ·have hf : fnum u = some (u / 9223372036854775808 == 1, m0 + 4503599627370496, ((E0 : Nat) : Int) - 1075) := by unfold fnum; rw [← aA, if_neg h1, if_neg h0, ← aB]
   obtain ⟨f1, f2, f3, f4⟩ := of_fnum hf; rw [f1, f2, f3, f4]; obtain ⟨t, ht, r0, r1, r2, r3⟩ := two ((m0 + 4503599627370496 : Nat) : Int) yO_ yO_; refine ⟨u / 9223372036854775808 == 1, t, ((E0 : Nat) : Int) - 1075, EvS.of (fun k => ?_) (EvS.bind (G := fun _ t => some (u / 9223372036854775808 == 1, t, ((E0 : Nat) : Int) - 1075, true)) ht (EvS.pure _)), r1, r2, r3, by rw [r0]; rfl, .inr ⟨rfl, rfl⟩, by omega, by omega⟩; unfold zaj.f; rw [e1, e2, or52 m0 hmb, e3, if_neg yO_, if_pos yO_, if_neg yO_, w64 _ yO_ yO_]
end Go.Proofs.Ytlidbaejhmamjaa.NW
namespace Go.Proofs.Ytlidbaejhmamjaa.NW
open Go.RowKit YtlidbaejhmamjaaW.PrintWords YtlidbaejhmamjaaW.PrintLast YtlidbaejhmamjaaW.PrintMore PB LA AC LW
/-- A number's value in parts of 2^-4000. -/
def NV (nb : Bool) (l : List Int) (e : Int) : Int := sv nb (nv l) * 2 ^ (e + 4000).toNat
def Eb (e : Int) : Prop := -3000 ≤ e ∧ e ≤ 3000
theorem NV_nil (nb : Bool) (e : Int) : NV nb [] e = 0 := by unfold NV; rw [show nv [] = 0 from rfl, zbm, Int.zero_mul]
theorem absI_sv (nb : Bool) (v : Int) (h : 0 ≤ v) : zaS (sv nb v) = v := by
 cases nb
 ·show zaS v = v; unfold zaS; rw [if_neg yO_]
 ·show zaS (-v) = v; unfold zaS; split <;> omega
theorem absI_mul (x p : Int) (hp : 0 < p) : zaS (x * p) = zaS x * p := by
 unfold zaS
 by_cases h : x < 0
 ·rw [if_pos h, if_pos (Int.mul_neg_of_neg_of_pos h hp), Int.neg_mul]
 ·rw [if_neg h, if_neg (by have := Int.mul_nonneg (show 0 ≤ x by omega) (Int.le_of_lt hp); omega)]
/-- A value that is not great has few words. -/
theorem len_of {nb : Bool} {l : List Int} {e : Int} (hu : U32 l) (ht : Tr l) (he : Eb e) (K : Nat) (h : zaS (NV nb l e) < 2 ^ (K + 1000)) : l.length ≤ K / 32 + 1 := by
 apply Classical.byContradiction
 intro hc; have h1 := tr_pos hu ht yO_; have h2 := (nv_bound l hu).1; unfold NV at h; rw [absI_mul _ _ (zY _), absI_sv _ _ h2] at h; have h3 : (2 : Int) ^ 1000 ≤ 2 ^ (e + 4000).toNat := za3 (by have := he.1; omega); have h4 : nv l * 2 ^ 1000 ≤ nv l * 2 ^ (e + 4000).toNat := Int.mul_le_mul_of_nonneg_left h3 h2; have h5 : (2 : Int) ^ K ≤ B (l.length - 1) := by unfold B; exact za3 yO_
 have h6 : (2 : Int) ^ K * 2 ^ 1000 ≤ nv l * 2 ^ 1000 := Int.mul_le_mul_of_nonneg_right (Int.le_trans h5 h1) (Int.le_of_lt (zY _)); rw [← zaG] at h6
 omega
theorem lvE_le (l1 : List Int) (e1 : Int) (l2 : List Int) (e2 : Int) : (l1.length = 0 ∨ lvE l1 e1 l2 e2 ≤ e1) ∧ (l2.length = 0 ∨ lvE l1 e1 l2 e2 ≤ e2) ∧ (lvE l1 e1 l2 e2 = e1 ∨ lvE l1 e1 l2 e2 = e2) := by
 unfold lvE
 by_cases h1 : l1.length = 0
 ·rw [if_pos h1]; exact ⟨.inl h1, .inr (Int.le_refl _), .inr rfl⟩
 ·rw [if_neg h1]
  by_cases h2 : l2.length = 0
  ·rw [if_pos h2]; exact ⟨.inr (Int.le_refl _), .inl h2, .inl rfl⟩
  ·rw [if_neg h2]
   by_cases h3 : e2 < e1
   ·rw [if_pos h3]; exact ⟨.inr yO_, .inr (Int.le_refl _), .inr rfl⟩
   ·rw [if_neg h3]; exact ⟨.inr (Int.le_refl _), .inr yO_, .inl rfl⟩
theorem to_unit (nb : Bool) (l : List Int) (e E : Int) (hE : -3000 ≤ E) (h : l.length = 0 ∨ E ≤ e) : sv nb (nv l) * 2 ^ (e - E).toNat * 2 ^ (E + 4000).toNat = NV nb l e := by
 rcases h with h | h
 ·rw [List.length_eq_zero_iff.1 h, NV_nil, show nv [] = 0 from rfl, zbm, Int.zero_mul, Int.zero_mul]
 ·unfold NV; rw [Int.mul_assoc, ← zaG, show (e - E).toNat + (E + 4000).toNat = (e + 4000).toNat by omega]
theorem plus_v (n1 n2 : Bool) (A1 : Option Addr) (c1 : Nat) (l1 : List Int) (e1 : Int) (A2 : Option Addr) (c2 : Nat) (l2 : List Int) (e2 : Int) (w : World) (r1 : Ru w A1 c1 l1 200) (r2 : Ru w A2 c2 l2 200) (h1 : Eb e1) (h2 : Eb e2) (hb : zaS (NV n1 l1 e1 + NV n2 l2 e2) < 2 ^ 6400) :
  Calls Try.prog 80 #[.agg #[.bool n1, .slice A1 l1.length c1, .int .i64 e1], .agg #[.bool n2, .slice A2 l2.length c2, .int .i64 e2]] w fun o w' => ∃ nb A c l e, o = .returned (.agg #[.bool nb, .slice A (l : List Int).length c, .int .i64 e]) ∧ Ru w' A c l 200 ∧ Eb e ∧ NV nb l e = NV n1 l1 e1 + NV n2 l2 e2 ∧ Below w.heap.size w w' := by
 refine (plus_calls n1 n2 A1 c1 l1 e1 A2 c2 l2 e2 200 w r1 r2 yD_ ⟨⟨by have := h1.1; omega, by have := h1.2; omega⟩, by have := h2.1; omega, by have := h2.2; omega⟩).mono ?_; rintro o w' ⟨nb, A, c, l, e, rfl, hr, hv, he, hbl⟩; obtain ⟨q1, q2, q3⟩ := lvE_le l1 e1 l2 e2
 have hE : -3000 ≤ lvE l1 e1 l2 e2 ∧ lvE l1 e1 l2 e2 ≤ 3000 := by
  have := h1.1; have := h1.2; have := h2.1; have := h2.2
  rcases q3 with q | q <;> omega
 have heb : Eb e := by
  rcases he with he | he
  ·rw [he.2]; exact ⟨by decide, by decide⟩
  ·rw [he]; exact hE
 have hval : NV nb l e = NV n1 l1 e1 + NV n2 l2 e2 := by
  have t1 := to_unit n1 l1 e1 _ hE.1 q1; have t2 := to_unit n2 l2 e2 _ hE.1 q2; have t3 : sv nb (nv l) * 2 ^ (lvE l1 e1 l2 e2 + 4000).toNat = NV n1 l1 e1 + NV n2 l2 e2 := by rw [hv, Int.add_mul, t1, t2]
  rcases he with he | he
  ·rw [← t3, List.length_eq_zero_iff.1 he.1, NV_nil, show nv [] = 0 from rfl, zbm, Int.zero_mul]
  ·rw [← t3, he]; rfl
 refine ⟨nb, A, c, l, e, rfl, ⟨hr.row, hr.cap, hr.u, hr.t, ?_⟩, heb, hval, hbl⟩; have := len_of hr.u hr.t heb 5400 (by rw [hval]; exact hb)
 omega
theorem cmp_v (n1 n2 : Bool) (A1 : Option Addr) (c1 : Nat) (l1 : List Int) (e1 : Int) (A2 : Option Addr) (c2 : Nat) (l2 : List Int) (e2 : Int) (w : World) (r1 : Ru w A1 c1 l1 200) (r2 : Ru w A2 c2 l2 200) (h1 : Eb e1) (h2 : Eb e2) :
  Calls Try.prog 48 #[.agg #[.bool n1, .slice A1 l1.length c1, .int .i64 e1], .agg #[.bool n2, .slice A2 l2.length c2, .int .i64 e2]] w fun o w' => o = .returned (.int .i64 (sgnI (NV n1 l1 e1 - NV n2 l2 e2))) ∧ Below w.heap.size w w' := by
 refine (rcmp_calls n1 n2 A1 c1 l1 e1 A2 c2 l2 e2 200 w r1 r2 yD_ ⟨⟨by have := h1.1; omega, by have := h1.2; omega⟩, by have := h2.1; omega, by have := h2.2; omega⟩).mono ?_; rintro o w' ⟨rfl, hbl⟩; obtain ⟨q1, q2, q3⟩ := lvE_le l1 e1 l2 e2
 have hE : -3000 ≤ lvE l1 e1 l2 e2 := by
  have := h1.1; have := h2.1
  rcases q3 with q | q <;> omega
 refine ⟨?_, hbl⟩; rw [← to_unit n1 l1 e1 _ hE q1, ← to_unit n2 l2 e2 _ hE q2, ← Int.sub_mul]
 congr 2
 generalize sv n1 (nv l1) * 2 ^ (e1 - lvE l1 e1 l2 e2).toNat - sv n2 (nv l2) * 2 ^ (e2 - lvE l1 e1 l2 e2).toNat = V; have hp := zY (lvE l1 e1 l2 e2 + 4000).toNat; generalize (2 : Int) ^ (lvE l1 e1 l2 e2 + 4000).toNat = P at *
 rcases Int.lt_trichotomy V 0 with h | h | h
 ·rw [zbh h, zbh (Int.mul_neg_of_neg_of_pos h hp)]
 ·rw [h, Int.zero_mul]
 ·rw [zbi h, zbi (Int.mul_pos h hp)]
/-- A product: its value is the product's, in the same parts. -/
theorem times_v (n1 n2 : Bool) (A1 : Option Addr) (c1 : Nat) (l1 : List Int) (e1 : Int) (A2 : Option Addr) (c2 : Nat) (l2 : List Int) (e2 : Int) (w : World) (r1 : Ru w A1 c1 l1 90) (r2 : Ru w A2 c2 l2 90) (h1 : -1400 ≤ e1 ∧ e1 ≤ 1400) (h2 : -1400 ≤ e2 ∧ e2 ≤ 1400) :
  Calls Try.prog 95 #[.agg #[.bool n1, .slice A1 l1.length c1, .int .i64 e1], .agg #[.bool n2, .slice A2 l2.length c2, .int .i64 e2]] w fun o w' => ∃ nb A c l e, o = .returned (.agg #[.bool nb, .slice A (l : List Int).length c, .int .i64 e]) ∧ Ru w' A c l 200 ∧ Eb e ∧ NV nb l e = sv n1 (nv l1) * sv n2 (nv l2) * 2 ^ (e1 + e2 + 4000).toNat ∧ Below w.heap.size w w' := by
 by_cases z1 : l1.length = 0
 ·refine (z8.calls 0 n1 A1 c1 l1 e1 n2 A2 c2 l2 e2 false [] 0 w r1.row r1.cap r2.row r2.cap (by unfold z8.f; rw [if_pos yO_])).mono ?_; rintro o w' ⟨v, rfl, hr, hb⟩; obtain ⟨A, c, rfl, aA⟩ := Ru.of_R (N := 200) hr (fun x hx => by simp at hx) (fun i hi => by simp at hi) (by simp); exact ⟨false, A, c, [], 0, rfl, aA, ⟨by decide, by decide⟩, by rw [NV_nil, List.length_eq_zero_iff.1 z1, show nv [] = 0 from rfl, zbm, Int.zero_mul, Int.zero_mul], hb⟩
 ·by_cases z2 : l2.length = 0
  ·refine (z8.calls 0 n1 A1 c1 l1 e1 n2 A2 c2 l2 e2 false [] 0 w r1.row r1.cap r2.row r2.cap (by unfold z8.f; rw [if_neg yO_, if_pos yO_])).mono ?_; rintro o w' ⟨v, rfl, hr, hb⟩; obtain ⟨A, c, rfl, aA⟩ := Ru.of_R (N := 200) hr (fun x hx => by simp at hx) (fun i hi => by simp at hi) (by simp); exact ⟨false, A, c, [], 0, rfl, aA, ⟨by decide, by decide⟩, by rw [NV_nil, List.length_eq_zero_iff.1 z2, show nv [] = 0 from rfl, zbm, Int.mul_zero, Int.zero_mul], hb⟩
  ·obtain ⟨t, ht, tv, tu, tt, tn⟩ := times_ev l1 l2 r1.u r2.u (by have := r1.n; omega) (by have := r2.n; omega); obtain ⟨k, hk⟩ := ht.get; refine (z8.calls k n1 A1 c1 l1 e1 n2 A2 c2 l2 e2 (n1 != n2) t (wrap64 (e1 + e2)) w r1.row r1.cap r2.row r2.cap (by unfold z8.f; rw [if_neg yO_, if_neg yO_, hk]; rfl)).mono ?_; rintro o w' ⟨v, rfl, hr, hb⟩; obtain ⟨A, c, rfl, aA⟩ := Ru.of_R (N := 200) hr tu tt (by have := r1.n; have := r2.n; omega); have hw : wrap64 (e1 + e2) = e1 + e2 := w64 _ yO_ yO_; refine ⟨n1 != n2, A, c, t, wrap64 (e1 + e2), rfl, aA, ?_, ?_, hb⟩
   ·rw [hw]; exact ⟨by omega, by omega⟩
   ·unfold NV; rw [hw, tv]
    congr 1
    cases n1 <;> cases n2 <;> simp [sv, Int.neg_mul, Int.mul_neg]
end Go.Proofs.Ytlidbaejhmamjaa.NW
namespace Go.Proofs.Ytlidbaejhmamjaa.TC
open Go.RowKit YtlidbaejhmamjaaW.PrintWords YtlidbaejhmamjaaW.PrintLast YtlidbaejhmamjaaW.PrintMore PB LA AC LW SL NW
/-- x is what u is. -/
def OfV (u : Nat) (x : zaU) : Prop := U32 x.f1 ∧ Tr x.f1 ∧ x.f1.length ≤ 2 ∧ nv x.f1 = (fm u : Int) ∧ (x.f1.length = 0 ∨ (x.f0 = fs u ∧ x.f2 = fe u)) ∧ -1074 ≤ x.f2 ∧ x.f2 ≤ 971
def Nums (us : List Nat) (xs : List zaU) : Prop := xs.length = us.length ∧ ∀ i, i < us.length → OfV (rdn us i) (zay xs (i : Int))
theorem ku_rd (us : List Nat) (i : Nat) : rd (ku us) (i : Int) = ((rdn us i : Nat) : Int) := by
 unfold rd ku rdn; rw [Int.toNat_natCast, List.getD_eq_getElem?_getD, List.getD_eq_getElem?_getD, List.getElem?_map]
 cases us[i]? <;> rfl
theorem rdT_app (xs : List zaU) (x : zaU) (i : Nat) (h : i < xs.length) : zay (xs ++ [x]) (i : Int) = zay xs (i : Int) := by
 unfold zay; rw [Int.toNat_natCast, List.getD_eq_getElem?_getD, List.getD_eq_getElem?_getD, List.getElem?_append_left h]
theorem rdT_last (xs : List zaU) (x : zaU) : zay (xs ++ [x]) ((xs.length : Nat) : Int) = x := by
 unfold zay; rw [Int.toNat_natCast, List.getD_eq_getElem?_getD, List.getElem?_append_right (Nat.le_refl _), Nat.sub_self]; rfl
theorem of_bad (u : Nat) (hu : u < 18446744073709551616) (h : fo u = false) : ∃ (nb : Bool) (t : List Int) (e : Int), EvS (fun k => zaj.f k (u : Int)) (nb, t, e, false) := by
 obtain ⟨nb, t, e, he, _⟩ := of_ev u hu; rw [h] at he; exact ⟨nb, t, e, he⟩
theorem of_good (u : Nat) (hu : u < 18446744073709551616) (h : fo u = true) : ∃ x : zaU, EvS (fun k => zaj.f k (u : Int)) (x.f0, x.f1, x.f2, true) ∧ OfV u x := by
 obtain ⟨nb, t, e, he, h1, h2, h3, h4, h5, h6, h7⟩ := of_ev u hu; rw [h] at he; rw [if_pos h] at h4; exact ⟨⟨nb, t, e⟩, he, h1, h2, h3, h4, h5, h6, h7⟩
theorem nums_snoc {us : List Nat} {i : Nat} {xs : List zaU} {x : zaU} (hl : xs.length = i) (h : ∀ j, j < i → OfV (rdn us j) (zay xs (j : Int))) (hx : OfV (rdn us i) x) : ∀ j, j < i + 1 → OfV (rdn us j) (zay (xs ++ [x]) (j : Int)) := by
 intro j hj
 by_cases e : j = i
 ·subst e; have := rdT_last xs x; rw [hl] at this; rw [this]; exact hx
 ·rw [rdT_app xs x j yO_]; exact h j yO_
theorem exact_ev (us : List Nat) (hw : Wf us) (hn : us.length ≤ 2000000) : ∃ xs, EvS (fun k => zP.f k (ku us)) (xs, us.all fo) ∧ (us.all fo = true → Nums us xs) := by
 have loop : ∀ (m i : Nat) (xs : List zaU), us.length = i + m → xs.length = i → (us.take i).all fo = true → (∀ j, j < i → OfV (rdn us j) (zay xs (j : Int))) →
   ∃ ys, EvS (fun k => zP.l0 k (ku us) xs (i : Int)) (ys, us.all fo) ∧ (us.all fo = true → Nums us ys) := by
  intro m
  induction m with
  | zero =>
   intro i xs e hl ha h; have aA : us.all fo = true := by rwa [List.take_of_length_le (show us.length ≤ i by omega)] at ha
   refine ⟨xs, EvS.done (fun k => ?_), fun _ => ⟨by omega, fun j hj => h j yO_⟩⟩; simp only [zP.l0]; rw [if_neg (by rw [zaA]; omega), aA]
  | succ m ih =>
   intro i xs e hl ha h; have hi : i < us.length := by omega
   cases hf : fo (rdn us i) with
   | false =>
    obtain ⟨nb, t, ex, he⟩ := of_bad _ (wf_rdn hw i) hf; have aA : us.all fo = false := all_not hi hf; refine ⟨[], EvS.succ (G := fun k => (zaj.f k ((rdn us i : Nat) : Int)).bind fun q => if q.2.2.2 = true then (if xs.length < 3518437208883 then zP.l0 k (ku us) (xs ++ [⟨q.1, q.2.1, q.2.2.1⟩]) (wrap64 ((i : Int) + 1)) else none) else some ([], false)) (fun k => ?_) ?_, fun hc => by rw [aA] at hc; cases hc⟩
    ·simp only [zP.l0]; rw [if_pos (by rw [zaA]; omega), if_pos yO_, ku_rd]
    ·rw [aA]; refine EvS.bind he ?_; exact EvS.of (G := fun _ => some ([], false)) (fun k => by simp) (EvS.pure _)
   | true =>
    obtain ⟨x, he, hx⟩ := of_good _ (wf_rdn hw i) hf; obtain ⟨ys, h1, h2⟩ := ih (i + 1) (xs ++ [x]) yO_ (by rw [List.length_append, hl]; rfl) (all_step ha hi hf) (nums_snoc hl h hx); refine ⟨ys, EvS.succ (G := fun k => (zaj.f k ((rdn us i : Nat) : Int)).bind fun q => if q.2.2.2 = true then (if xs.length < 3518437208883 then zP.l0 k (ku us) (xs ++ [⟨q.1, q.2.1, q.2.2.1⟩]) (wrap64 ((i : Int) + 1)) else none) else some ([], false)) (fun k => ?_) ?_, h2⟩
    ·simp only [zP.l0]; rw [if_pos (by rw [zaA]; omega), if_pos yO_, ku_rd]
    ·refine EvS.bind he ?_; refine EvS.of (G := fun k => zP.l0 k (ku us) (xs ++ [x]) ((i + 1 : Nat) : Int)) (fun k => ?_) h1; simp only [if_true]; rw [if_pos yO_, w64 _ yO_ yO_]; rfl
 obtain ⟨ys, h1, h2⟩ := loop us.length 0 [] yO_ rfl rfl (fun j hj => by omega); exact ⟨ys, h1, h2⟩
theorem numbers_ev (us : List Nat) (n : Int) (hw : Wf us) (hn : us.length ≤ 2000000) : ∃ xs, EvS (fun k => zD.f k (ku us) n) (xs, rowB us n) ∧ (rowB us n = true → Nums us xs) := by
 by_cases hl : (us.length : Int) = n
 ·have hrow : rowB us n = us.all fo := by unfold rowB; rw [decide_eq_true hl, Bool.and_true]
  rw [hrow]
  have loop : ∀ (m i : Nat) (xs : List zaU), us.length = i + m → xs.length = i → (us.take i).all fo = true → (∀ j, j < i → OfV (rdn us j) (zay xs (j : Int))) →
    ∃ ys, EvS (fun k => zD.l0 k (ku us) n xs (i : Int)) (ys, us.all fo) ∧ (us.all fo = true → Nums us ys) := by
   intro m
   induction m with
   | zero =>
    intro i xs e aB ha h; have aA : us.all fo = true := by rwa [List.take_of_length_le (show us.length ≤ i by omega)] at ha
    refine ⟨xs, EvS.done (fun k => ?_), fun _ => ⟨by omega, fun j hj => h j yO_⟩⟩; simp only [zD.l0]; rw [if_neg yO_, aA]
   | succ m ih =>
    intro i xs e aB ha h; have hi : i < us.length := by omega
    cases hf : fo (rdn us i) with
    | false =>
     obtain ⟨nb, t, ex, he⟩ := of_bad _ (wf_rdn hw i) hf; have aA : us.all fo = false := all_not hi hf; refine ⟨[], EvS.succ (G := fun k => (zaj.f k ((rdn us i : Nat) : Int)).bind fun q => if q.2.2.2 = true then (if xs.length < 3518437208883 then zD.l0 k (ku us) n (xs ++ [⟨q.1, q.2.1, q.2.2.1⟩]) (wrap64 ((i : Int) + 1)) else none) else some ([], false)) (fun k => ?_) ?_, fun hc => by rw [aA] at hc; cases hc⟩
     ·simp only [zD.l0]; rw [if_pos yO_, if_pos yO_, if_pos (by rw [zaA]; omega), ku_rd]
     ·rw [aA]; refine EvS.bind he ?_; exact EvS.of (G := fun _ => some ([], false)) (fun k => by simp) (EvS.pure _)
    | true =>
     obtain ⟨x, he, hx⟩ := of_good _ (wf_rdn hw i) hf; obtain ⟨ys, h1, h2⟩ := ih (i + 1) (xs ++ [x]) yO_ (by rw [List.length_append, aB]; rfl) (all_step ha hi hf) (nums_snoc aB h hx); refine ⟨ys, EvS.succ (G := fun k => (zaj.f k ((rdn us i : Nat) : Int)).bind fun q => if q.2.2.2 = true then (if xs.length < 3518437208883 then zD.l0 k (ku us) n (xs ++ [⟨q.1, q.2.1, q.2.2.1⟩]) (wrap64 ((i : Int) + 1)) else none) else some ([], false)) (fun k => ?_) ?_, h2⟩
     ·simp only [zD.l0]; rw [if_pos yO_, if_pos yO_, if_pos (by rw [zaA]; omega), ku_rd]
     ·refine EvS.bind he ?_; refine EvS.of (G := fun k => zD.l0 k (ku us) n (xs ++ [x]) ((i + 1 : Nat) : Int)) (fun k => ?_) h1; simp only [if_true]; rw [if_pos yO_, w64 _ yO_ yO_]; rfl
  obtain ⟨ys, h1, h2⟩ := loop us.length 0 [] yO_ rfl rfl (fun j hj => by omega); refine ⟨ys, EvS.of (fun k => ?_) h1, h2⟩
  show zD.f k (ku us) n = _
  unfold zD.f; rw [if_pos (by rw [zaA]; exact hl)]; rfl
 ·have hrow : rowB us n = false := by unfold rowB; rw [decide_eq_false hl, Bool.and_false]
  rw [hrow]; refine ⟨[], EvS.of (G := fun _ => some ([], false)) (fun k => ?_) (EvS.pure _), fun h => by cases h⟩; unfold zD.f; rw [if_neg (by rw [zaA]; exact hl)]
theorem exact_calls (us : List Nat) (A : Option Addr) (c : Nat) (w : World) (hr : Kd.C (Kd.int .u64) w A (ku us).length (ku us)) (hc : (ku us).length ≤ c) (hw : Wf us) (hn : us.length ≤ 2000000) :
  Calls Try.prog 76 #[.slice A (ku us).length c] w fun e w' => ∃ B d xs, e = .returned (.tuple #[.slice B (xs : List zaU).length d, .bool (us.all fo)]) ∧ Kd.S k101 101 w' w.heap.size (fun _ => True) (.slice B xs.length d) xs ∧ (us.all fo = true → Nums us xs) ∧ Below w.heap.size w w' := by
 obtain ⟨xs, he, hx⟩ := exact_ev us hw hn; obtain ⟨k, hk⟩ := he.get; refine (zP.calls k A c (ku us) xs (us.all fo) w hr hc hk).mono ?_; rintro e w' ⟨v, rfl, hs, hb⟩; obtain ⟨B, d, rfl⟩ := Kd.S_slice hs; exact ⟨B, d, xs, rfl, hs, hx, hb⟩
theorem numbers_calls (us : List Nat) (n : Int) (A : Option Addr) (c : Nat) (w : World) (hr : Kd.C (Kd.int .u64) w A (ku us).length (ku us)) (hc : (ku us).length ≤ c) (hw : Wf us) (hn : us.length ≤ 2000000) :
  Calls Try.prog 94 #[.slice A (ku us).length c, .int .i64 n] w fun e w' => ∃ B d xs, e = .returned (.tuple #[.slice B (xs : List zaU).length d, .bool (rowB us n)]) ∧ Kd.S k101 101 w' w.heap.size (fun _ => True) (.slice B xs.length d) xs ∧ (rowB us n = true → Nums us xs) ∧ Below w.heap.size w w' := by
 obtain ⟨xs, he, hx⟩ := numbers_ev us n hw hn; obtain ⟨k, hk⟩ := he.get; refine (zD.calls k A c (ku us) n xs (rowB us n) w hr hc hk).mono ?_; rintro e w' ⟨v, rfl, hs, hb⟩; obtain ⟨B, d, rfl⟩ := Kd.S_slice hs; exact ⟨B, d, xs, rfl, hs, hx, hb⟩
theorem size_n (nb : Bool) (A : Option Addr) (n c : Nat) (e : Int) (w : World) :
  Calls Try.prog 78 #[.agg #[.bool nb, .slice A n c, .int .i64 e]] w fun o w' => o = .returned (.agg #[.bool false, .slice A n c, .int .i64 e]) ∧ Below w.heap.size w w' := by
 have hu101 := Try.underlying101; have HB := J (Below.refl w.heap.size w); go_enter Try.func78, Try.ntmps78
 go_wp2_with (first
  | ((with_reducible refine zf (N := 1) rfl ?_); refine zah 1 (cs := #[.bool nb, .slice A n c, .int .i64 e]) (t := 101) ?_; intro g_x aB w1 aA aC; have L_x := J (show w.heap.size ≤ g_x by have := HB.o.size; omega); replace HB := J (za HB.o aC); have K_x := J (show B3 w1 g_x nb A n c e from aA); clear aB aA aC)
  | ((with_reducible refine zf (N := 2) rfl ?_); refine zah 2 (cs := #[.bool false, .slice none 0 0, .int .i64 0]) (t := 101) ?_; intro g_r aB w2 aA aC; have N_r_x := J (show g_x ≠ g_r by have := K_x.o.lt; omega); have L_r := J (show w.heap.size ≤ g_r by have := HB.o.size; omega); replace K_x := J (K_x.o.step aC); replace HB := J (za HB.o aC); have K_r := J (show B3 w2 g_r false none 0 0 0 from aA); clear aB aA aC; have c_x_0 := K_x.o.c0; have c_x_1 := K_x.o.c1; have c_x_2 := K_x.o.c2; have c_r_0 := K_r.o.c0; have c_r_1 := K_r.o.c1; have c_r_2 := K_r.o.c2; have f_x_0 := K_x.o.f 0; have f_x_1 := K_x.o.f 1; have f_x_2 := K_x.o.f 2)
  | ((with_reducible refine zj (t := 101) (p := 2) rfl ?_); have aE := NW.zx w2 g_x 0 (.bool false); replace K_r := J (K_r.o.put aE N_r_x.o.symm); replace HB := J (HB.o.grown aE HB.o.size (fun k_ aD => by cases aD; exact L_x.o)); replace K_x := J (show B3 (w2.setCell ⟨g_x, 0, none⟩ (.bool false)) g_x false A n c e from zav K_x.o 0 _); clear aE; generalize w2.setCell ⟨g_x, 0, none⟩ (.bool false) = w3 at HB K_x K_r ⊢; refine zi rfl 101 rfl rfl g_r #[.bool false, .slice A n c, .int .i64 e] rfl rfl 101 _ K_r.o (NW.zaz.trans rfl) rfl (zaH _ _ _ _ _) ?_; intro w4 aA aB; replace K_x := J (K_x.o.put aB N_r_x.o); replace HB := J (HB.o.grown aB HB.o.size (fun k_ aD => by cases aD; exact L_r.o)); replace K_r := J (show B3 w4 g_r false A n c e from aA); clear aA aB; have r_r_0 := K_r.o.c0; have r_r_1 := K_r.o.c1; have r_r_2 := K_r.o.c2)
  | fail)
 refine bodyPost_ret (results_cell_row rfl _ _ g_r 101 #[.bool false, .slice A n c, .int .i64 e] (0, 0) _ rfl K_r.o Try.underlying101 rfl yK_) rfl ?_; exact ⟨by first | done | rfl, HB.o⟩
theorem OfV.ru {w : World} {A : Option Addr} {c u : Nat} {x : zaU} (h : OfV u x) (hr : Kd.C (Kd.int .u32) w A x.f1.length x.f1) (hc : x.f1.length ≤ c) {N : Nat} (hN : 2 ≤ N) : Ru w A c x.f1 N := ⟨hr, hc, h.1, h.2.1, Nat.le_trans h.2.2.1 hN⟩
theorem OfV.val {u : Nat} {x : zaU} (h : OfV u x) : (fm u = 0 ∧ nv x.f1 = 0) ∨ (x.f0 = fs u ∧ x.f2 = fe u ∧ nv x.f1 = (fm u : Int)) := by
 rcases h.2.2.2.2.1 with h0 | h0
 ·have h4 := h.2.2.2.1; have e : nv x.f1 = 0 := by rw [List.length_eq_zero_iff.1 h0]; rfl
  rw [e] at h4; exact .inl ⟨by omega, e⟩
 ·exact .inr ⟨h0.1, h0.2, h.2.2.2.1⟩
/-- A product, in parts of 2^-4000. -/
theorem times_T {u v : Nat} {x y : zaU} (hx : OfV u x) (hy : OfV v y) : sv x.f0 (nv x.f1) * sv y.f0 (nv y.f1) * 2 ^ (x.f2 + y.f2 + 4000).toNat = prT u v 0 * 2 ^ 1788 := by
 rcases hx.val with ⟨h1, h2⟩ | ⟨h1, h2, h3⟩
 ·rw [h2, zbm]; unfold prT; rw [h1]; generalize (2 : Int) ^ 1788 = p_; simp
 ·rcases hy.val with ⟨k1, k2⟩ | ⟨k1, k2, k3⟩
  ·rw [k2, zbm]; unfold prT; rw [k1]; generalize (2 : Int) ^ 1788 = p_; simp
  ·rw [h1, h2, h3, k1, k2, k3]; have eu := fe_in u; have ev := fe_in v; unfold prT P22; rw [show (fe u + fe v + 4000).toNat = (fe u + fe v + 0 + 2212).toNat + 1788 by omega, zaG]; generalize (2 : Int) ^ (fe u + fe v + 0 + 2212).toNat = Q; generalize (2 : Int) ^ 1788 = R; rw [← Int.mul_assoc]
   cases fs u <;> cases fs v <;> simp [sv, Int.neg_mul, Int.mul_neg]
theorem bound64 {v : Int} {i : Nat} (h : zaS v ≤ (i : Int) * 2 ^ 4330) (hi : i ≤ 140737488355328) : zaS (v * 2 ^ 1788) < 2 ^ 6400 := by
 rw [absI_mul _ _ (zY _)]; have h1 : (i : Int) * 2 ^ 4330 ≤ 2 ^ 47 * 2 ^ 4330 := Int.mul_le_mul_of_nonneg_right yO_ (Int.le_of_lt (zY _)); rw [← Int.pow_add] at h1; have h2 : zaS v * 2 ^ 1788 ≤ 2 ^ (47 + 4330) * 2 ^ 1788 := Int.mul_le_mul_of_nonneg_right (Int.le_trans h h1) (Int.le_of_lt (zY _)); rw [← Int.pow_add] at h2; have h3 : (2 : Int) ^ (47 + 4330 + 1788) ≤ 2 ^ 6399 := za3 yD_; have h4 : (2 : Int) ^ 6400 = 2 ^ 6399 * 2 := Int.pow_succ 2 6399; have h5 := zY 6399; rw [h4]; generalize (2 : Int) ^ (47 + 4330 + 1788) = Q at *
 generalize (2 : Int) ^ 6399 = R at *
 generalize zaS v * 2 ^ 1788 = S at *
 omega
theorem at_num {w : World} {A : Option Addr} {us : List Nat} {xs : List zaU} (h : Kd.C k101 w A xs.length xs) (hn : Nums us xs) (i : Nat) (hi : i < us.length) : ∃ ad A1 c1, A = some ad ∧ w.cell? (ad.add (i * 3)) = some (.bool (zay xs (i : Int)).f0) ∧ w.cell? ⟨(ad.add (i * 3)).block, (ad.add (i * 3)).off + 1, none⟩ = some (.slice A1 (zay xs (i : Int)).f1.length c1) ∧ w.cell? ⟨(ad.add (i * 3)).block, (ad.add (i * 3)).off + 2, none⟩ = some (.int .i64 (zay xs (i : Int)).f2) ∧ OfV (rdn us i) (zay xs (i : Int)) ∧ (∀ N, 2 ≤ N → Ru w A1 c1 (zay xs (i : Int)).f1 N) := by
 obtain ⟨ad, A1, c1, e, h0, h1, h2, h3, h4⟩ := at_T101 h (i : Int) yO_ (by have := hn.1; omega); rw [Int.toNat_natCast] at h0 h1 h2; have ho := hn.2 i hi; exact ⟨ad, A1, c1, e, h0, h1, h2, ho, fun N hN => ho.ru h4 h3 hN⟩
def weighs.T5 : Bool × List (List Nat × List Nat) := (true, [([], []), ([], []), ([], []), ([1, 2], [1, 2]), ([3], [3]), ([], []), ([], []), ([5, 6], [5, 6]), ([7], [7]), ([4, 8], [4, 8]), ([0, 9, 9], [0, 9]), ([10, 10, 0, 1, 2, 3, 4, 5, 6, 7, 8, 9, 10], [10])])
def weighs.B5 : List Nat := [0, 0, 0, 6, 14, 0, 0, 96, 224, 510, 1023, 2047]
theorem weighs.tab5 : zbc .any (opsOf Try.f79 5) = weighs.T5 := by kernel_rfl
theorem weighs.bits5 : zal weighs.T5.2 weighs.B5 = true := by kernel_rfl
theorem weighs_calls (us vs : List Nat) (A : Option Addr) (c : Nat) (xs : List zaU) (B : Option Addr) (d : Nat) (ys : List zaU) (w : World) (ha : Kd.C k101 w A xs.length xs) (hb : Kd.C k101 w B ys.length ys) (hu : Nums us xs) (hv : Nums vs ys) (hl : vs.length ≤ us.length) (hn : vs.length ≤ 2000000) :
  Calls Try.prog 79 #[.slice A xs.length c, .slice B ys.length d] w fun o w' => ∃ nb C c l e, o = .returned (.agg #[.bool nb, .slice C (l : List Int).length c, .int .i64 e]) ∧ Ru w' C c l 200 ∧ Eb e ∧ NV nb l e = dotN us vs vs.length * 2 ^ 1788 ∧ Below w.heap.size w w' := by
 have hu101 := Try.underlying101; have HA := J ha; have HB_ := J hb; have HU := J hu; have HV := J hv; have HL := J (show vs.length ≤ us.length ∧ vs.length ≤ 2000000 from ⟨hl, hn⟩); have LX := J hu.1; have LY := J hv.1; clear ha hb hu hv hl hn; go_enter Try.func79, Try.ntmps79
 go_wp2_with (first
  | ((with_reducible refine zf (N := 4) rfl ?_); refine zah 4 (cs := #[.bool false, .slice none 0 0, .int .i64 0]) (t := 101) ?_; intro g4 aB w1 aC aA; have HB := J aA; have K4 := J (show B3 w1 g4 false none 0 0 0 from aC); have L4 := J (show w.heap.size ≤ g4 by omega); clear aB aC aA)
  | ((with_reducible refine zf (N := 5) rfl ?_); refine zah 5 (cs := #[.bool false, .slice none 0 0, .int .i64 0]) (t := 101) ?_; intro g5 aB w2 aC aA; have N45 := J (show g4 ≠ g5 by have := K4.o.lt; omega); have L5 := J (show w.heap.size ≤ g5 by have := HB.o.size; omega); replace HB := J (za HB.o aA); replace K4 := J (K4.o.step aA); have K5 := J (show B3 w2 g5 false none 0 0 0 from aC); clear aB aC aA)
  | ((with_reducible refine zj (t := 101) (p := 5) rfl ?_); refine zi rfl 101 rfl rfl g5 #[.bool false, .slice none 0 0, .int .i64 0] rfl rfl 101 _ K5.o (NW.zaz.trans rfl) rfl (zaH _ _ _ _ _) ?_; intro w3 aC aB; replace HB := J (HB.o.grown aB HB.o.size (fun k_ aD => by cases aD; exact L5.o)); replace K4 := J (K4.o.put aB N45.o); replace K5 := J (show B3 w3 g5 false none 0 0 0 from aC); clear aC aB)
  | fail)
 go_loopg [6] vs.length (fun m v6 wr => ∃ (i : Nat) (nb : Bool) (C : Option Addr) (cc : Nat) (l : List Int) (e : Int), v6 = .int .i64 (i : Int) ∧ ze (i + m = vs.length) ∧ ze (B3 wr g5 nb C l.length cc e) ∧ ze (B3 wr g4 false none 0 0 0) ∧ ze (Ru wr C cc l 200) ∧ ze (Eb e ∧ NV nb l e = dotN us vs i * 2 ^ 1788) ∧ ze (Below w.heap.size w wr))
 case atStart => exact ⟨0, false, none, 0, [], 0, rfl, ⟨by omega⟩, K5, K4, ⟨Ru.nil _ _⟩, ⟨⟨by decide, by decide⟩, by rw [NV_nil]; exact (Int.zero_mul _).symm⟩, HB⟩
 case round =>
  clear K5 K4 HB; obtain ⟨i, nb, C, cc, l, e, rfl, hm, K5, K4, RC, EV, HB⟩ := hrel
  by_cases hx : i < vs.length
  ·have HX := J hx; have p1 := eq_true (show i < ys.length by have := LY.o; omega); have p2 := eq_true (show (i : Int) < (ys.length : Int) by have := LY.o; omega); have p3 := eq_true (show (0 : Int) ≤ (i : Int) by omega); have p4 := decide_eq_true (show (i : Int) < (ys.length : Int) by have := LY.o; omega); have p5 := eq_true (show i < xs.length by have := LX.o; have := HL.o.1; omega); have p6 := eq_true (show (i : Int) < (xs.length : Int) by have := LX.o; have := HL.o.1; omega); obtain ⟨aa, A1, c1, eaa, ca0, ca1, ca2, oa, ra⟩ := at_num HA.o HU.o i (by have := HL.o.1; omega); cases eaa; obtain ⟨ab, A2, c2, eab, cb0, cb1, cb2, ob, rb⟩ := at_num HB_.o HV.o i hx; cases eab; have OA := J oa; have OB := J ob; have RA := J (ra 90 yD_); have RB := J (rb 90 yD_); have TT := J (times_T oa ob); have DB := J (bound64 (dotN_bound us vs (i + 1)) (by have := HL.o.2; omega)); have DS := J (show dotN us vs (i + 1) = dotN us vs i + prT (rdn us i) (rdn vs i) 0 from rfl)
   have HC := J (show ∀ w0 : World, Below w.heap.size w w0 → w0.cell? (aa.add (i * 3)) = some (.bool (zay xs (i : Int)).f0) ∧ w0.cell? ⟨(aa.add (i * 3)).block, (aa.add (i * 3)).off + 1, none⟩ = some (.slice A1 (zay xs (i : Int)).f1.length c1) ∧ w0.cell? ⟨(aa.add (i * 3)).block, (aa.add (i * 3)).off + 2, none⟩ = some (.int .i64 (zay xs (i : Int)).f2) ∧ w0.cell? (ab.add (i * 3)) = some (.bool (zay ys (i : Int)).f0) ∧ w0.cell? ⟨(ab.add (i * 3)).block, (ab.add (i * 3)).off + 1, none⟩ = some (.slice A2 (zay ys (i : Int)).f1.length c2) ∧ w0.cell? ⟨(ab.add (i * 3)).block, (ab.add (i * 3)).off + 2, none⟩ = some (.int .i64 (zay ys (i : Int)).f2) from fun W hW => ⟨zr hW ca0, zr hW ca1, zr hW ca2, zr hW cb0, zr hW cb1, zr hW cb2⟩); clear hx oa ob ra rb ca0 ca1 ca2 cb0 cb1 cb2; generalize zay xs (i : Int) = x at *
   generalize zay ys (i : Int) = y at *
   generalize prT (rdn us i) (rdn vs i) 0 = pr at *
   go_wp2_with fail; have aA : Below wr.heap.size wr wr.drew := zU (Below.refl _ _); replace HB := J (za HB.o aA); replace K5 := J (K5.o.step aA); replace K4 := J (K4.o.step aA); replace RC := J (RC.o.step aA); clear aA; refine zaw (n := 12) (S := fun w' => w'.cell? ⟨g5, 0, none⟩ = some (.bool nb) ∧ w'.cell? ⟨g5, 1, none⟩ = some (.slice C l.length cc) ∧ w'.cell? ⟨g5, 2, none⟩ = some (.int .i64 e) ∧ w'.cell? (aa.add (i * 3)) = some (.bool x.f0) ∧ w'.cell? ⟨(aa.add (i * 3)).block, (aa.add (i * 3)).off + 1, none⟩ = some (.slice A1 x.f1.length c1) ∧ w'.cell? ⟨(aa.add (i * 3)).block, (aa.add (i * 3)).off + 2, none⟩ = some (.int .i64 x.f2) ∧ w'.cell? (ab.add (i * 3)) = some (.bool y.f0) ∧ w'.cell? ⟨(ab.add (i * 3)).block, (ab.add (i * 3)).off + 1, none⟩ = some (.slice A2 y.f1.length c2) ∧ w'.cell? ⟨(ab.add (i * 3)).block, (ab.add (i * 3)).off + 2, none⟩ = some (.int .i64 y.f2)) (ds := [11]) (bl_ 12 0) yK_ rfl rfl ⟨K5.o.c0, K5.o.c1, K5.o.c2, (HC.o _ HB.o).1, (HC.o _ HB.o).2.1, (HC.o _ HB.o).2.2.1, (HC.o _ HB.o).2.2.2.1, (HC.o _ HB.o).2.2.2.2.1, (HC.o _ HB.o).2.2.2.2.2⟩ (fun hHeld => ?_); refine zS weighs.tab5 weighs.bits5 (fun HT_ HW_ => ?_); generalize wr.drew = v0 at HB K5 K4 RC hHeld ⊢; refine pu_ 1 ?_; refine pu_ 2 ?_; refine pu_ 3 ?_; refine pu_ 5 ?_; refine pu_ 6 ?_; refine pu_ 7 ?_; refine tk_ 0 ?_; refine tk_ 4 ?_; refine tk_ 8 ?_; refine on_ HT_ 9 (some 23) (bl_ 12 1023) fun K hK => ?_
   refine go1_ Try.func95 #[.agg #[.bool x.f0, .slice A1 x.f1.length c1, .int .i64 x.f2], .agg #[.bool y.f0, .slice A2 y.f1.length c2, .int .i64 y.f2]] ?_; refine (times_v x.f0 y.f0 A1 c1 x.f1 x.f2 A2 c2 y.f1 y.f2 v0 (RA.o.step HB.o) (RB.o.step HB.o) ⟨by have := OA.o.2.2.2.2.2; omega, by have := OA.o.2.2.2.2.2; omega⟩ ⟨by have := OB.o.2.2.2.2.2; omega, by have := OB.o.2.2.2.2.2; omega⟩).mono ?_; rintro o_ v1 ⟨nt, At, ct, lt, et, rfl, rt, eb, vt, aA⟩; refine ⟨_, rfl, ?_⟩; have RT := J rt; have ET := J eb; have VT := J (vt.trans TT.o); replace HB := J (za HB.o aA); replace K5 := J (K5.o.step aA); replace K4 := J (K4.o.step aA); replace RC := J (RC.o.step aA); clear rt eb vt aA; refine hK.out _ _ ⟨K5.o.c0, K5.o.c1, K5.o.c2, (HC.o _ HB.o).1, (HC.o _ HB.o).2.1, (HC.o _ HB.o).2.2.1, (HC.o _ HB.o).2.2.2.1, (HC.o _ HB.o).2.2.2.2.1, (HC.o _ HB.o).2.2.2.2.2⟩ (fun hHeld => ?_); clear hK K; refine nm_ ?_; refine on_ HT_ 10 (some 24) (bl_ 12 2047) fun K hK => ?_
   refine go1_ Try.func80 #[.agg #[.bool nb, .slice C l.length cc, .int .i64 e], .agg #[.bool nt, .slice At lt.length ct, .int .i64 et]] ?_; have SV := J (show NV nb l e + NV nt lt et = dotN us vs (i + 1) * 2 ^ 1788 by rw [EV.o.2, VT.o, DS.o, Int.add_mul]); refine (plus_v nb nt C cc l e At ct lt et v1 RC.o RT.o EV.o.1 ET.o (by rw [SV.o]; exact DB.o)).mono ?_; rintro o_ v2 ⟨n2, Ap, cp, lp, ep, rfl, rp, eb, vp, aA⟩; refine ⟨_, rfl, ?_⟩; have RP := J rp; have EP := J (And.intro eb (vp.trans SV.o)); replace HB := J (za HB.o aA); replace K5 := J (K5.o.step aA); replace K4 := J (K4.o.step aA); clear rp eb vp aA RC; refine hK.out _ _ ⟨K5.o.c0, K5.o.c1, K5.o.c2, (HC.o _ HB.o).1, (HC.o _ HB.o).2.1, (HC.o _ HB.o).2.2.1, (HC.o _ HB.o).2.2.2.1, (HC.o _ HB.o).2.2.2.2.1, (HC.o _ HB.o).2.2.2.2.2⟩ (fun hHeld => ?_); clear hK K; refine nm_ ?_; refine last_ (i := 11) (N := none) (bl_ 12 4095) rfl rfl (zaY HT_.o yK_) yD_ (fun K hK => ?_); refine zbe (by rfl) 101 rfl rfl g5 #[.bool n2, .slice Ap lp.length cp, .int .i64 ep] rfl rfl 101 _ K5.o (NW.zaz.trans rfl) rfl (zaH _ _ _ _ _) ?_; intro v3 aC aB; replace HB := J (HB.o.grown aB HB.o.size (fun k_ aD => by cases aD; exact L5.o)); replace K4 := J (K4.o.put aB N45.o); replace RP := J (RP.o.put K5.o aB); replace K5 := J (show B3 v3 g5 n2 Ap lp.length cp ep from aC); clear aC aB; refine hK.out _ _ ?_; clear hK K
   refine zaL (zad HT_.o yK_) ?_; clear hHeld; go_wp2_with fail; go_roundg (gk - 1)
   case measure => have := hm.o; have := HX.o; omega
   case rel => exact ⟨i + 1, n2, Ap, cp, lp, ep, by first | rfl | (rw [w64 _ yO_ (by have := HX.o; have := HL.o.2; omega)]; rfl), ⟨by have := hm.o; have := HX.o; omega⟩, K5, K4, RP, EP, HB⟩
  ·have p1 := eq_false (show ¬ i < ys.length by have := LY.o; omega); have p2 := eq_false (show ¬ (i : Int) < (ys.length : Int) by have := LY.o; omega); have p4 := decide_eq_false (show ¬ (i : Int) < (ys.length : Int) by have := LY.o; omega); have HE := J (show i = vs.length by have := hm.o; omega); clear hx hm; have e0 := K5.o.c0; have e1 := K5.o.c1; have e2 := K5.o.c2; go_wp2_with (first
  | ((with_reducible refine zj (t := 101) (p := 4) rfl ?_); refine zi rfl 101 rfl rfl g4 #[.bool nb, .slice C l.length cc, .int .i64 e] rfl rfl 101 _ K4.o (NW.zaz.trans rfl) rfl (zaH _ _ _ _ _) ?_; intro w9 aC aB; replace HB := J (HB.o.grown aB HB.o.size (fun k_ aD => by cases aD; exact L4.o)); replace RC := J (RC.o.put K4.o aB); replace K4 := J aC; clear aC aB)
  | fail)
   refine bodyPost_ret (results_cell_row rfl _ _ g4 101 #[.bool nb, .slice C l.length cc, .int .i64 e] (0, 0) _ rfl K4.o Try.underlying101 rfl yK_) rfl ?_; exact ⟨nb, C, cc, l, e, by first | done | rfl, RC.o, EV.o.1, by rw [← HE.o]; exact EV.o.2, HB.o⟩
end Go.Proofs.Ytlidbaejhmamjaa.TC
