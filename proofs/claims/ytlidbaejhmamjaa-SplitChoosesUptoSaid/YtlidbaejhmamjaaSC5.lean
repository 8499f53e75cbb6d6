/- Part 5 of the proof of SplitChoosesUpto: what the functions below it compute, each shown by a walk or by plain reasoning; no condition of its own. -/
import Derived.Test.YtlidbaejhmamjaaSC4
import Derived.Test.YtlidbaejhmamjaaSC1
import Derived.Test.YtlidbaejhmamjaaSC2
import Derived.Test.YtlidbaejhmamjaaSC3
set_option linter.unusedVariables false
set_option linter.unusedSimpArgs false
namespace Go.Proofs.Ytlidbaejhmamjaa.TC
open Go.RowKit YtlidbaejhmamjaaW.PrintWords YtlidbaejhmamjaaW.PrintLast YtlidbaejhmamjaaW.PrintMore PB LA AC LW SL NW
/-- The symbol of the first of the greatest values above 0. -/
def pks (p x : Int × Int) : Int × Int := if p.2 < x.2 then x else p
def pk (l : List (Int × Int)) : Int × Int := l.foldl pks (-1, 0)
theorem pk_app (l : List (Int × Int)) (x : Int × Int) : pk (l ++ [x]) = pks (pk l) x := by unfold pk; rw [List.foldl_append]; rfl
def sp (l : List Sco) : List (Int × Int) := l.map fun x => (x.s, x.n)
def zsc : Sco := ⟨0, 0, 0⟩
def rds (l : List Sco) (i : Nat) : Sco := l.getD i zsc
theorem rds_get {l : List Sco} {i : Nat} (h : i < l.length) : l[i]? = some (rds l i) := by
 unfold rds
 rw [List.getD_eq_getElem?_getD, List.getElem?_eq_getElem h]
 rfl
def Up (l : List Sco) : Prop := (∀ i j, i < j → j < l.length → (rds l i).s < (rds l j).s) ∧ ∀ x, x ∈ l → 0 ≤ x.n
def AtOk (l : List Sco) (i : Nat) (a : Int) : Prop := (i = 0 ∧ a = -1) ∨ ∃ j : Nat, j < i ∧ a = j ∧ pk (sp (l.take i)) = if 0 < (rds l j).n then ((rds l j).s, (rds l j).n) else (-1, 0)
theorem sp_take {l : List Sco} {i : Nat} (h : i < l.length) : sp (l.take (i + 1)) = sp (l.take i) ++ [((rds l i).s, (rds l i).n)] := by
 rw [take_one l i _ (rds_get h)]
 unfold sp
 rw [List.map_append]
 rfl
theorem rds_pos {l : List Sco} (h : Up l) {i : Nat} (hi : i < l.length) : 0 ≤ (rds l i).n := h.2 _ (List.mem_of_getElem? (rds_get hi))
theorem at_first {l : List Sco} (h : Up l) (hl : 0 < l.length) : AtOk l 1 ((0 : Nat) : Int) := by
 refine .inr ⟨0, by omega, rfl, ?_⟩
 rw [sp_take hl, pk_app]
 show pks (pk []) _ = _
 have := rds_pos h hl
 unfold pks pk
 rfl
theorem at_more {l : List Sco} (h : Up l) {i j : Nat} (hi : i < l.length) (hj : j < i) (hp : pk (sp (l.take i)) = if 0 < (rds l j).n then ((rds l j).s, (rds l j).n) else (-1, 0)) (hgt : (rds l j).n < (rds l i).n) : AtOk l (i + 1) (i : Int) := by
 refine .inr ⟨i, by omega, rfl, ?_⟩
 have := rds_pos h (i := j) (by omega)
 rw [sp_take hi, pk_app, hp, if_pos (show (0 : Int) < (rds l i).n by omega)]
 by_cases h0 : 0 < (rds l j).n
 ·rw [if_pos h0]
  exact if_pos hgt
 ·rw [if_neg h0]
  exact if_pos (show (0 : Int) < (rds l i).n by omega)
theorem at_same {l : List Sco} (h : Up l) {i j : Nat} (hi : i < l.length) (hj : j < i) (hp : pk (sp (l.take i)) = if 0 < (rds l j).n then ((rds l j).s, (rds l j).n) else (-1, 0)) (hgt : ¬ (rds l j).n < (rds l i).n) : AtOk l (i + 1) (j : Int) := by
 refine .inr ⟨j, by omega, rfl, ?_⟩
 rw [sp_take hi, pk_app, hp]
 by_cases h0 : 0 < (rds l j).n
 ·rw [if_pos h0]
  exact if_neg hgt
 ·rw [if_neg h0]
  exact if_neg (show ¬ (0 : Int) < (rds l i).n by omega)
theorem heldV_pos {x y : Sco} (h : y.s < x.s) : (0 < heldV x y) ↔ y.n < x.n := by
 unfold heldV
 rcases Int.lt_trichotomy (x.n - y.n) 0 with h1 | h1 | h1
 ·rw [sgnI_neg h1, if_neg (by decide)]; omega
 ·rw [sgnI_zero h1, if_pos rfl]; unfold cmpI; rw [if_pos h]; omega
 ·rw [sgnI_pos h1, if_neg (by decide)]; omega
/-- A row of scores that is read. -/
def Sr (w : World) (A : Option Addr) (l : List Sco) : Prop := l.length ≤ 9223372036854775807 ∧ (0 < l.length → ∃ ad : Addr, A = some ad ∧ ∀ i, i < l.length → w.cell? (ad.add (i * 2)) = some (.int .i64 (rds l i).s) ∧ w.cell? ⟨(ad.add (i * 2)).block, (ad.add (i * 2)).off + 1, none⟩ = some (.pointer (some ⟨(rds l i).b, 0, none⟩))) ∧ ∀ x, x ∈ l → Scb w x
theorem Sr.step {w w' : World} {A : Option Addr} {l : List Sco} (h : Sr w A l) (hb : Below w.heap.size w w') : Sr w' A l := by
 refine ⟨h.1, fun hl => ?_, fun x hx => (h.2.2 x hx).step hb⟩
 obtain ⟨ad, e, hc⟩ := h.2.1 hl
 exact ⟨ad, e, fun i hi => ⟨zu hb (hc i hi).1, zu hb (hc i hi).2⟩⟩
theorem Sr.at_ {w : World} {A : Option Addr} {l : List Sco} (h : Sr w A l) {i : Nat} (hi : i < l.length) : ∃ ad : Addr, A = some ad ∧ w.cell? (ad.add (i * 2)) = some (.int .i64 (rds l i).s) ∧ w.cell? ⟨(ad.add (i * 2)).block, (ad.add (i * 2)).off + 1, none⟩ = some (.pointer (some ⟨(rds l i).b, 0, none⟩)) ∧ Scb w (rds l i) := by
 obtain ⟨ad, e, hc⟩ := h.2.1 (by omega)
 exact ⟨ad, e, (hc i hi).1, (hc i hi).2, h.2.2 _ (List.mem_of_getElem? (rds_get hi))⟩
/-- A call through a value. -/
theorem goesv_ {P : Program} {ops : Array Oper} {Q : Exit → Act → World → Prop} {oi : Oper} {N : Option Tmp} {a : Act} {w : World} {K : Act → World → Prop} {f : FuncId} {fn : Func} {x : Operand} {xs : Array Operand} {ts : Array TypeId} (hf : P.funcs[f]? = some fn) (hname : (fn.name == "runtime.NumGoroutine") = false) (hb : fn.body.isSome = true) (args : Array Value)
  (hw : Region.wanted oi (yielded ops a.tmps) = true) (hN : oi.dst = N) (hop : oi.op = .call { callee := .value x, args := xs, argTypes := ts }) (hx : a.eval x = .func (.func f) #[] #[]) (hargs : xs.map a.eval = args)
  (h : Calls P f args w fun e w' => ∃ v, e = .returned v ∧ K (a.put N v) w') : if Region.wanted oi (yielded ops a.tmps) = true then Oper.wp P oi a w K Q else K (a.put N undef) w := by
 refine call_ f args hw hN ?_ h
 have he := enters_ hf hname hb args w
 unfold execOp
 simp [hop, resolve, Deferred.ofValue, invoke, hx, hargs, he]
def great.T5 : Bool × List (List Nat × List Nat) := (true, [([], []), ([0], [0]), ([1], [1]), ([2], [2]), ([2], [2]), ([2], [2]), ([4, 5, 2], [2, 4, 5]), ([6, 2], [2, 6]), ([2], [2]), ([2], [2]), ([8, 9, 2], [2, 8, 9]), ([10, 2], [2, 10]), ([3, 7, 11, 2, 2], [2, 3, 7, 11]), ([12, 2], [2, 12]), ([2, 13], [2, 13])])
def great.B5 : List Nat := [0, 1, 3, 7, 7, 7, 55, 119, 7, 7, 775, 1799, 4095, 8191, 16383]
theorem great.tab5 : rtab .any (opsOf Try.f72 5) = great.T5 := by kernel_rfl
theorem great.bits5 : zat great.T5.2 great.B5 = true := by kernel_rfl
set_option maxRecDepth 100000 in
set_option maxHeartbeats 4000000 in
theorem greatest_calls (A : Option Addr) (c : Nat) (l : List Sco) (w : World) (hr : Sr w A l) (hu : Up l) :
  Calls Try.prog 72 #[.slice A l.length c, .func (.func 73) #[] #[]] w fun e w' => ∃ a : Int, e = .returned (.int .i64 a) ∧ AtOk l l.length a ∧ Below w.heap.size w w' := by
 have hu111 := Try.underlying111
 have HR := am_ hr
 have HU := am_ hu
 have HN := am_ hr.1
 clear hr hu
 go_enter Try.func72, Try.ntmps72
 go_wp2_with fail
 go_loopg [5, 9] l.length (fun m v5 v9 wr => ∃ (i : Nat) (a : Int), v5 = .int .i64 a ∧ v9 = .int .i64 (i : Int) ∧ Aside0 (i + m = l.length) ∧ Aside0 (AtOk l i a) ∧ Aside0 (Below w.heap.size w wr))
 case atStart => exact ⟨0, -1, rfl, rfl, ⟨by omega⟩, ⟨.inl ⟨rfl, rfl⟩⟩, ⟨Below.refl _ _⟩⟩
 case round =>
  obtain ⟨i, a, rfl, rfl, hm, HA, HB⟩ := hrel
  by_cases hx : i < l.length
  ·have HI := am_ hx
   have p1 := eq_true hx
   have p2 := eq_true (show (i : Int) < (l.length : Int) by omega)
   have p3 := eq_true (show (0 : Int) ≤ (i : Int) by omega)
   obtain ⟨ad, ead, ci0, ci1, si⟩ := (HR.out.step HB.out).at_ hx
   cases ead
   have SI := am_ si
   clear hx si
   rcases HA.out with ⟨h0, h1⟩ | ⟨j, hj, h1, hp⟩
   ·subst h1
    have H0 := am_ (show AtOk l (i + 1) (i : Int) by rw [h0]; exact at_first HU.out (by have := HI.out; omega))
    clear h0 HA
    go_wp2_with fail
    replace HB := am_ (zb HB.out (zR (Below.refl wr.heap.size wr)))
    clear ci0 ci1 SI
    refine zay (n := 15) (S := fun w' => True) (ds := []) (bl_ 15 0) (by kernel_rfl) rfl rfl trivial (fun hHeld => ?_); refine zT great.tab5 great.bits5 (fun HT_ HW_ => ?_)
    generalize wr.drew = w9 at HB ⊢
    refine pu_ HT_ 0 12 (bl_ 15 1) ?_
    refine pu_ HT_ 1 13 (bl_ 15 3) ?_
    refine pu_ HT_ 2 14 (bl_ 15 7) ?_
    refine ps_ HT_ 3 15 (bl_ 15 15) ?_
    refine ps_ HT_ 4 16 (bl_ 15 31) ?_
    refine ps_ HT_ 5 17 (bl_ 15 63) ?_
    refine ps_ HT_ 6 18 (bl_ 15 127) ?_
    refine ps_ HT_ 7 19 (bl_ 15 255) ?_
    refine ps_ HT_ 8 20 (bl_ 15 511) ?_
    refine ps_ HT_ 9 21 (bl_ 15 1023) ?_
    refine ps_ HT_ 10 22 (bl_ 15 2047) ?_
    refine ps_ HT_ 11 23 (bl_ 15 4095) ?_
    refine ps_ HT_ 12 24 (bl_ 15 8191) ?_
    refine ps_ HT_ 13 25 (bl_ 15 16383) ?_
    refine pu_ HT_ 14 26 (bl_ 15 32767) ?_
    refine zaP (zao HT_.out (by kernel_rfl)) ?_
    go_wp2_with fail
    go_roundg (gk - 1)
    case measure => have := hm.out; have := HI.out; omega
    case rel => exact ⟨i + 1, _, rfl, by rw [w64 _ (by omega) (by have := HI.out; have := HN.out; omega)]; rfl, ⟨by have := hm.out; have := HI.out; omega⟩, ⟨H0.out⟩, HB⟩
   ·subst h1
    have HJ := am_ hj
    have HP := am_ hp
    have j1 := eq_true (show j < l.length by have := HI.out; omega)
    have j2 := eq_true (show (j : Int) < (l.length : Int) by have := HI.out; omega)
    have j3 := eq_true (show (0 : Int) ≤ (j : Int) by omega)
    have j4 := eq_false (show ¬ (j : Int) < 0 by omega)
    have j5 := decide_eq_false (show ¬ (j : Int) < 0 by omega)
    obtain ⟨ad2, ead, cj0, cj1, sj⟩ := (HR.out.step HB.out).at_ (i := j) (by have := HI.out; omega)
    cases ead
    have SJ := am_ sj
    have HV := am_ (heldV_pos (HU.out.1 j i hj HI.out))
    have HM := am_ (fun h => at_more HU.out HI.out hj hp h)
    have HS := am_ (fun h => at_same HU.out HI.out hj hp h)
    clear hj hp HA sj
    have HC := am_ (show ∀ w' : World, Below wr.heap.size wr w' → w'.cell? (ad.add (i * 2)) = some (.int .i64 (rds l i).s) ∧ w'.cell? ⟨(ad.add (i * 2)).block, (ad.add (i * 2)).off + 1, none⟩ = some (.pointer (some ⟨(rds l i).b, 0, none⟩)) ∧ w'.cell? (ad.add (j * 2)) = some (.int .i64 (rds l j).s) ∧ w'.cell? ⟨(ad.add (j * 2)).block, (ad.add (j * 2)).off + 1, none⟩ = some (.pointer (some ⟨(rds l j).b, 0, none⟩)) from fun W hW => ⟨zu hW ci0, zu hW ci1, zu hW cj0, zu hW cj1⟩)
    generalize rds l i = x at *
    generalize rds l j = y at *
    have B0 := am_ (Below.refl wr.heap.size wr)
    go_wp2_with fail
    replace B0 := am_ (zR (Below.refl wr.heap.size wr))
    clear ci0 ci1 cj0 cj1
    refine zay (n := 15) (S := fun w' => w'.cell? (ad.add (i * 2)) = some (.int .i64 x.s) ∧ w'.cell? ⟨(ad.add (i * 2)).block, (ad.add (i * 2)).off + 1, none⟩ = some (.pointer (some ⟨x.b, 0, none⟩)) ∧ w'.cell? (ad.add (j * 2)) = some (.int .i64 y.s) ∧ w'.cell? ⟨(ad.add (j * 2)).block, (ad.add (j * 2)).off + 1, none⟩ = some (.pointer (some ⟨y.b, 0, none⟩))) (ds := []) (bl_ 15 0) (by kernel_rfl) rfl rfl ⟨(HC.out _ B0.out).1, (HC.out _ B0.out).2.1, (HC.out _ B0.out).2.2.1, (HC.out _ B0.out).2.2.2⟩ (fun hHeld => ?_); refine zT great.tab5 great.bits5 (fun HT_ HW_ => ?_)
    generalize wr.drew = w9 at B0 hHeld ⊢
    refine pu_ HT_ 0 12 (bl_ 15 1) ?_
    refine pu_ HT_ 1 13 (bl_ 15 3) ?_
    refine pu_ HT_ 2 14 (bl_ 15 7) ?_
    refine pu_ HT_ 3 15 (bl_ 15 15) ?_
    refine pu_ HT_ 4 16 (bl_ 15 31) ?_
    refine pu_ HT_ 5 17 (bl_ 15 63) ?_
    refine pu_ HT_ 6 18 (bl_ 15 127) ?_
    refine pu_ HT_ 8 20 (bl_ 15 383) ?_
    refine pu_ HT_ 9 21 (bl_ 15 895) ?_
    refine pu_ HT_ 10 22 (bl_ 15 1919) ?_
    refine tk_ HT_ HW_ hHeld 7 19 (bl_ 15 2047) ?_
    refine tk_ HT_ HW_ hHeld 11 23 (bl_ 15 4095) ?_
    refine on_ HT_ 12 (some 24) (bl_ 15 8191) fun K hK => ?_
    refine goesv_ Try.func73 (by kernel_rfl) rfl #[.agg #[.int .i64 x.s, .pointer (some ⟨x.b, 0, none⟩)], .agg #[.int .i64 y.s, .pointer (some ⟨y.b, 0, none⟩)]] (by rfl) rfl rfl (by rfl) (by (try simp only [List.map_toArray, List.map_cons, List.map_nil]); first | done | rfl) ?_
    refine (held_calls x y w9 (SI.out.step B0.out) (SJ.out.step B0.out)).mono ?_
    rintro e_ w8 ⟨rfl, hb⟩
    refine ⟨_, rfl, ?_⟩
    replace B0 := am_ (zb B0.out hb)
    clear hb
    generalize heldV x y = hv at *
    refine hK.out _ _ ⟨(HC.out _ B0.out).1, (HC.out _ B0.out).2.1, (HC.out _ B0.out).2.2.1, (HC.out _ B0.out).2.2.2⟩ (fun hHeld => ?_); clear hK K
    refine nm_ ?_
    refine pu_ HT_ 13 25 (bl_ 15 16383) ?_
    refine pu_ HT_ 14 26 (bl_ 15 32767) ?_
    refine zaP (zao HT_.out (by kernel_rfl)) ?_
    clear hHeld
    replace HB := am_ (zb HB.out B0.out)
    generalize hd : decide (0 < hv) = d at *
    cases d
    ·have HG := am_ (HS.out (by have h1_ := of_decide_eq_false hd; have h2_ := HV.out; omega))
     clear hd
     go_wp2_with fail
     go_roundg (gk - 1)
     case measure => have := hm.out; have := HI.out; omega
     case rel => exact ⟨i + 1, _, rfl, by rw [w64 _ (by omega) (by have := HI.out; have := HN.out; omega)]; rfl, ⟨by have := hm.out; have := HI.out; omega⟩, ⟨HG.out⟩, HB⟩
    ·have HG := am_ (HM.out (by have h1_ := of_decide_eq_true hd; have h2_ := HV.out; omega))
     clear hd
     go_wp2_with fail
     go_roundg (gk - 1)
     case measure => have := hm.out; have := HI.out; omega
     case rel => exact ⟨i + 1, _, rfl, by rw [w64 _ (by omega) (by have := HI.out; have := HN.out; omega)]; rfl, ⟨by have := hm.out; have := HI.out; omega⟩, ⟨HG.out⟩, HB⟩
  ·have p1 := eq_false hx
   have p2 := eq_false (show ¬ (i : Int) < (l.length : Int) by omega)
   have HE := am_ (show AtOk l l.length a by have h := HA.out; rwa [show i = l.length by have := hm.out; omega] at h)
   clear hx HA hm
   go_wp2_with fail
   go_ret
   exact ⟨_, rfl, HE.out, HB.out⟩
theorem best_of {l : List Sco} {a : Int} (h : AtOk l l.length a) : (a = -1 ∧ l = [] ∧ (pk (sp l)).1 = -1) ∨ ∃ j : Nat, j < l.length ∧ a = j ∧ (pk (sp l)).1 = if 0 < (rds l j).n then (rds l j).s else -1 := by
 rcases h with ⟨h0, h1⟩ | ⟨j, hj, h1, hp⟩
 ·have := List.length_eq_zero_iff.1 h0
  subst this
  exact .inl ⟨h1, rfl, rfl⟩
 ·refine .inr ⟨j, hj, h1, ?_⟩
  rw [List.take_length] at hp
  rw [hp]
  split <;> rfl
set_option maxRecDepth 100000 in
set_option maxHeartbeats 4000000 in
theorem best_calls (A : Option Addr) (c : Nat) (l : List Sco) (w : World) (hr : Sr w A l) (hu : Up l) :
  Calls Try.prog 51 #[.slice A l.length c] w fun e w' => e = .returned (.int .i64 (pk (sp l)).1) ∧ Below w.heap.size w w' := by
 have hu111 := Try.underlying111
 have HR := am_ hr
 have HU := am_ hu
 have HN := am_ hr.1
 clear hr hu
 generalize hb : (pk (sp l)).1 = r
 have HB := am_ hb
 clear hb
 go_enter Try.func51, Try.ntmps51
 go_wp2_with fail
 refine (greatest_calls A c l w HR.out HU.out).mono ?_
 rintro e_ w1 ⟨a, rfl, ha, hb⟩
 have B1 := am_ hb
 rcases best_of ha with ⟨h1, h2, h3⟩ | ⟨j, hj, h1, h3⟩
 ·subst h1
  have H3 := am_ h3
  clear h2 h3 ha hb
  go_wp2_with fail
  go_ret
  exact ⟨by rw [← HB.out, H3.out]; first | done | rfl, B1.out⟩
 ·subst h1
  have HJ := am_ hj
  have H3 := am_ h3
  have j1 := eq_true (show j < l.length from hj)
  have j2 := eq_true (show (j : Int) < (l.length : Int) by omega)
  have j3 := eq_true (show (0 : Int) ≤ (j : Int) by omega)
  have j4 := eq_false (show ¬ (j : Int) < 0 by omega)
  have j5 := decide_eq_false (show ¬ (j : Int) < 0 by omega)
  obtain ⟨ad, ead, cj0, cj1, sj⟩ := (HR.out.step hb).at_ hj
  cases ead
  have SJ := am_ sj
  clear h3 ha hb hj sj
  generalize rds l j = y at *
  go_wp2_with fail
  have bd : -2 ^ 4800 < y.n ∧ y.n < 2 ^ 4800 := by
   have h1 : zaX y.n < 2 ^ 4772 := SJ.out.2
   have h2 : (2 : Int) ^ 4772 ≤ 2 ^ 4800 := za4 (by decide)
   generalize (2 : Int) ^ 4772 = P at *
   generalize (2 : Int) ^ 4800 = Q at *
   unfold zaX at h1
   split at h1 <;> omega
  have sc := sign_calls w1 y.b y.n bd.1 bd.2 SJ.out.1
  clear bd
  refine sc.mono ?_
  clear sc
  rintro e_ w_ ⟨rfl, rfl⟩
  by_cases hp : 0 < y.n
  ·rw [sgnI_pos hp]
   have H4 := am_ (show r = y.s by rw [← HB.out, H3.out, if_pos hp])
   clear hp
   go_wp2_with fail
   go_ret
   exact ⟨by rw [H4.out]; first | done | rfl, B1.out⟩
  ·have hq : sgnI y.n ≤ 0 := by
    by_cases h0 : y.n = 0
    ·rw [sgnI_zero h0]; decide
    ·rw [sgnI_neg (by omega)]; decide
   generalize sgnI y.n = s at *
   have q1 := eq_true hq
   have q2 := decide_eq_true hq
   have H4 := am_ (show r = -1 by rw [← HB.out, H3.out, if_neg hp])
   clear hp hq
   go_wp2_with fail
   go_ret
   exact ⟨by rw [H4.out]; first | done | rfl, B1.out⟩
theorem info111 : (Try.prog.info? 111).map (fun i => (i.zero, i.size, i.bytes)) = some (some (.agg #[.int .i64 0, .pointer none]), 2, 16) := by kernel_rfl
def scv (x : Sco) : List Value := [.int .i64 x.s, .pointer (some ⟨x.b, 0, none⟩)]
def scs (l : List Sco) : List Value := l.flatMap scv
theorem scs_app (l m : List Sco) : scs (l ++ m) = scs l ++ scs m := by unfold scs; rw [List.flatMap_append]
theorem scs_at : ∀ (l : List Sco) (i : Nat) (x : Sco), l[i]? = some x → (scs l)[i * 2]? = some (.int .i64 x.s) ∧ (scs l)[i * 2 + 1]? = some (.pointer (some ⟨x.b, 0, none⟩))
 | [], i, x, h => by simp at h
 | y :: l, 0, x, h => by
  obtain rfl : y = x := by simpa using h
  exact ⟨rfl, rfl⟩
 | y :: l, i + 1, x, h => by
  have := scs_at l i x (by simpa using h)
  have e1 : scs (y :: l) = .int .i64 y.s :: .pointer (some ⟨y.b, 0, none⟩) :: scs l := rfl
  rw [e1, show (i + 1) * 2 = i * 2 + 1 + 1 by omega]
  exact this
/-- A row of scores of its own. -/
structure So (w : World) (base : Nat) (v : Value) (l : List Sco) : Prop where
 own : w.ownsRow base 111 2 v l.length (scs l)
 sc : ∀ x, x ∈ l → Scb w x
theorem So.nil (w : World) (base : Nat) : So w base (.slice none 0 0) [] := ⟨World.ownsRow_nil w base 111 2, fun x hx => by simp at hx⟩
theorem So.step {w w' : World} {base : Nat} {v : Value} {l : List Sco} (h : So w base v l) (hb : Below w.heap.size w w') : So w' base v l := ⟨Own.below h.own hb, fun x hx => (h.sc x hx).step hb⟩
theorem Scb.lt {w : World} {x : Sco} (h : Scb w x) : x.b < w.heap.size := zaa h.1
theorem Scb.grown {w w' : World} {row : Option Nat} {x : Sco} (h : Scb w x) (hg : w.grownBy w' row) (hne : row ≠ some x.b) : Scb w' x := ⟨zx hg h.1 (fun e => hne e.symm), h.2⟩
/-- A block that is younger than all that is told. -/
def Far (b : Nat) (v : Value) (l : List Sco) : Prop := (∀ k, v.ownBlock = some k → k ≠ b) ∧ ∀ x, x ∈ l → x.b ≠ b
theorem So.far {w : World} {base : Nat} {v : Value} {l : List Sco} (h : So w base v l) {b : Nat} (hb : w.heap.size ≤ b) : Far b v l :=
 ⟨fun k hk e => by have := (World.ownsRow.lt h.own k hk).2; omega, fun x hx e => by have := (h.sc x hx).lt; omega⟩
theorem So.put {w w' : World} {base : Nat} {v : Value} {l : List Sco} (h : So w base v l) {b : Nat} (f : Far b v l) (hg : w.grownBy w' (some b)) : So w' base v l :=
 ⟨Own.kept h.own hg (fun k hk e => f.1 k hk (Option.some.inj e).symm), fun x hx => (h.sc x hx).grown hg (fun e => f.2 x hx (Option.some.inj e).symm)⟩
theorem Scb.type {w : World} {x : Sco} (h : Scb w x) {base n size : Nat} {e : TypeId} {v : Value} {xs : List Value} (ho : w.ownsRow base e size v n xs) (he : e ≠ 124) : v.ownBlock ≠ some x.b := by
 intro hk
 obtain ⟨cs, hcs⟩ := own_heap ho hk
 rw [h.1] at hcs
 have := Option.some.inj hcs
 injection this with a1 a2 a3
 exact he a2.symm
/-- An append. -/
theorem So.app {w w' : World} {base : Nat} {v v' : Value} {l : List Sco} (h : So w base v l) (x : Sco) (hx : Scb w x) (ho : w'.ownsRow base 111 2 v' (l.length + 1) (scs l ++ scv x)) (hg : w.grownBy w' v.ownBlock) : So w' base v' (l ++ [x]) := by
 refine ⟨?_, fun y hy => ?_⟩
 ·rw [List.length_append, scs_app]
  simpa [scs] using ho
 ·rcases List.mem_append.1 hy with hy | hy
  ·exact (h.sc y hy).grown hg ((h.sc y hy).type h.own (by decide))
  ·obtain rfl := List.mem_singleton.1 hy
   exact hx.grown hg (hx.type h.own (by decide))
theorem So.read {w : World} {base c : Nat} {A : Option Addr} {l : List Sco} (h : So w base (.slice A l.length c) l) : Sr w A l := by
 have hm : l.length ≤ 9223372036854775807 := by
  rcases h.own.2 with ⟨_, h1⟩ | ⟨g', cap', cur, he, _, _, h1, h2, _⟩
  ·omega
  ·simp only [maxLen] at h2
   omega
 refine ⟨hm, fun hl => ?_, h.sc⟩
 obtain ⟨g, cap, e, _, _⟩ := h.own.form hl
 injection e with e1 e2 e3
 refine ⟨⟨g, 0, none⟩, e1, fun i hi => ?_⟩
 obtain ⟨q1, q2⟩ := scs_at l i _ (rds_get hi)
 have hc := h.own.cells (g := g) (by rw [e1]; rfl)
 have z0 := hc _ _ q1
 have z1 := hc _ _ q2
 rw [add_zero_at] at z0 z1 ⊢
 exact ⟨z0, z1⟩
theorem So.slice {w : World} {base : Nat} {v : Value} {l : List Sco} (h : So w base v l) : ∃ A c, v = .slice A l.length c := own_slice h.own
/-- What Prod adds. -/
def prT (x y : Nat) (n : Int) : Int := if (fs x != fs y) = true then -((fm x : Int) * fm y * P22 (fe x + fe y + n)) else (fm x : Int) * fm y * P22 (fe x + fe y + n)
theorem prodV_T (a : Int) (x y : Nat) (n : Int) (hx : fo x = true) (hy : fo y = true) (d0 : -64 ≤ n) (d1 : n ≤ 64) : prodV (some a) x y n = normA (a + prT x y n) := by
 rw [prodV_P a x y n hx hy d0 d1]
 unfold prT
 split
 ·rw [Int.sub_eq_add_neg]
 ·rfl
/-- A bound of one product. -/
theorem prT_bound (x y : Nat) (n : Int) (d1 : n ≤ 64) : zaX (prT x y n) ≤ 2 ^ 4330 := by
 have hx := fm_hi x
 have hy := fm_hi y
 have ex := fe_in x
 have ey := fe_in y
 have h1 : (fm x : Int) * fm y ≤ 2 ^ 53 * 2 ^ 53 := Int.mul_le_mul (by omega) (by omega) (by omega) (by decide)
 have h0 : 0 ≤ (fm x : Int) * fm y := Int.mul_nonneg (by omega) (by omega)
 have h2 : P22 (fe x + fe y + n) ≤ 2 ^ 4224 := by unfold P22; exact za4 (by omega)
 have h3 : 0 ≤ P22 (fe x + fe y + n) := by unfold P22; exact Int.le_of_lt (zab _)
 have h4 : (fm x : Int) * fm y * P22 (fe x + fe y + n) ≤ 2 ^ 53 * 2 ^ 53 * 2 ^ 4224 := Int.mul_le_mul h1 h2 h3 (by decide)
 rw [← Int.pow_add, ← Int.pow_add, show 53 + 53 + 4224 = 4330 by decide] at h4
 have h5 : 0 ≤ (fm x : Int) * fm y * P22 (fe x + fe y + n) := Int.mul_nonneg h0 h3
 unfold prT zaX
 generalize (fm x : Int) * fm y * P22 (fe x + fe y + n) = q at *
 generalize (2 : Int) ^ 4330 = Q at *
 split <;> split <;> omega
/-- The sum of the products of two lists' first numbers. -/
def dotN (a b : List Nat) : Nat → Int
 | 0 => 0
 | i + 1 => dotN a b i + prT (rdn a i) (rdn b i) 0
theorem absI_add (a b : Int) : zaX (a + b) ≤ zaX a + zaX b := by unfold zaX; split <;> split <;> split <;> omega
theorem dotN_bound (a b : List Nat) : ∀ i : Nat, zaX (dotN a b i) ≤ (i : Int) * 2 ^ 4330
 | 0 => by generalize (2 : Int) ^ 4330 = p_; simp [dotN, zaX]
 | i + 1 => by
  have h1 := dotN_bound a b i
  have h2 := prT_bound (rdn a i) (rdn b i) 0 (by decide)
  have h3 := absI_add (dotN a b i) (prT (rdn a i) (rdn b i) 0)
  show zaX (dotN a b i + prT (rdn a i) (rdn b i) 0) ≤ _
  generalize (2 : Int) ^ 4330 = Q at *
  have e : ((i + 1 : Nat) : Int) * Q = (i : Int) * Q + Q := by rw [show ((i + 1 : Nat) : Int) = (i : Int) + 1 by omega, Int.add_mul, Int.one_mul]
  rw [e]
  omega
theorem small_ok {v : Int} {i : Nat} (h : zaX v ≤ (i : Int) * 2 ^ 4330) (hi : i ≤ 140737488355328) : zaX v < 2 ^ 4772 := by
 have h1 : (i : Int) * 2 ^ 4330 ≤ 2 ^ 47 * 2 ^ 4330 := Int.mul_le_mul_of_nonneg_right (by omega) (Int.le_of_lt (zab _))
 rw [← Int.pow_add] at h1
 have h2 : (2 : Int) ^ (47 + 4330) ≤ 2 ^ 4771 := za4 (by decide)
 have h3 : (2 : Int) ^ 4772 = 2 ^ 4771 * 2 := Int.pow_succ 2 4771
 have h4 := zab 4771
 rw [h3]
 generalize (2 : Int) ^ (47 + 4330) = Q at *
 generalize (2 : Int) ^ 4771 = R at *
 omega
theorem normA_eq {v : Int} (h : zaX v < 2 ^ 4772) : normA v = some v := by unfold normA; exact if_pos h
theorem dot_step (a b : List Nat) (i : Nat) (hi : i < 140737488355328) (ha : fo (rdn a i) = true) (hb : fo (rdn b i) = true) : prodV (some (dotN a b i)) (rdn a i) (rdn b i) 0 = some (dotN a b (i + 1)) := by
 rw [prodV_T _ _ _ _ ha hb (by decide) (by decide)]
 exact normA_eq (small_ok (i := i + 1) (dotN_bound a b (i + 1)) (by omega))
theorem dot_ok (a b : List Nat) (i : Nat) (hi : i ≤ 140737488355328) : accOk (some (dotN a b i)) := small_ok (dotN_bound a b i) hi
/-- The columns' scores. -/
def colsN (z : Zn) (a : List Nat) (k : Int) : Nat → List (Int × Int)
 | 0 => []
 | c + 1 => colsN z a k c ++ (if rd z.ids (c : Int) < k then [(rd z.ids (c : Int), zaX (dotN a (rdl z.G c) (rdl z.G c).length))] else [])
/-- Ids rise: they are few. -/
theorem ids_ge {z : Zn} (h : Good z) : ∀ k : Nat, k < z.ids.length → (k : Int) ≤ rd z.ids (k : Int)
 | 0, hk => (h.2.2.2.2.2.2 0 hk).1.1
 | k + 1, hk => by
  have h1 := ids_ge h k (by omega)
  have h2 := (h.2.2.2.2.2.2 (k + 1) hk).2.1 (by omega)
  rw [show k + 1 - 1 = k by omega] at h2
  omega
theorem ids_len {z : Zn} (h : Good z) : z.ids.length ≤ 1073741825 := by
 apply Classical.byContradiction
 intro hc
 have h1 := ids_ge h (z.ids.length - 1) (by omega)
 have h2 := (h.2.2.2.2.2.2 (z.ids.length - 1) (by omega)).1.2
 omega
theorem ids_lt {z : Zn} (h : Good z) : ∀ (d k : Nat), k + d + 1 < z.ids.length → rd z.ids (k : Int) < rd z.ids ((k + d + 1 : Nat) : Int)
 | 0, k, hk => by
  have h2 := (h.2.2.2.2.2.2 (k + 1) (by omega)).2.1 (by omega)
  rwa [show k + 1 - 1 = k by omega] at h2
 | d + 1, k, hk => by
  have h1 := ids_lt h d k (by omega)
  have h2 := (h.2.2.2.2.2.2 (k + (d + 1) + 1) (by omega)).2.1 (by omega)
  rw [show k + (d + 1) + 1 - 1 = k + d + 1 by omega] at h2
  omega
theorem rowB_iff {us : List Nat} {n : Int} (h : rowB us n = true) : (∀ i, i < us.length → fo (rdn us i) = true) ∧ (us.length : Int) = n := by
 unfold rowB at h
 rw [Bool.and_eq_true] at h
 refine ⟨fun i hi => List.all_eq_true.1 h.1 _ (List.mem_of_getElem? (rdn_get hi)), of_decide_eq_true h.2⟩
/-- Rising scores, one more. -/
theorem Up.nil : Up [] := ⟨fun i j _ h => by simp at h, fun x hx => by simp at hx⟩
theorem Up.app {l : List Sco} (h : Up l) (x : Sco) (hx : 0 ≤ x.n) (hl : ∀ y, y ∈ l → y.s < x.s) : Up (l ++ [x]) := by
 refine ⟨fun i j hij hj => ?_, fun y hy => ?_⟩
 ·rw [List.length_append, List.length_singleton] at hj
  have el : ∀ k, k < l.length → rds (l ++ [x]) k = rds l k := fun k hk => by
   unfold rds
   rw [List.getD_eq_getElem?_getD, List.getD_eq_getElem?_getD, List.getElem?_append_left hk]
  by_cases e : j = l.length
  ·have e2 : rds (l ++ [x]) j = x := by
    unfold rds
    rw [List.getD_eq_getElem?_getD, e, List.getElem?_append_right (Nat.le_refl _), Nat.sub_self]
    rfl
   rw [e2, el i (by omega)]
   exact hl _ (List.mem_of_getElem? (rds_get (by omega)))
  ·rw [el i (by omega), el j (by omega)]
   exact h.1 i j hij (by omega)
 ·rcases List.mem_append.1 hy with hy | hy
  ·exact h.2 y hy
  ·obtain rfl := List.mem_singleton.1 hy
   exact hx
theorem sp_app (l : List Sco) (x : Sco) : sp (l ++ [x]) = sp l ++ [(x.s, x.n)] := by unfold sp; rw [List.map_append]; rfl
noncomputable def seenV (z : Zn) (a : List Nat) (k : Int) : List (Int × Int) := if (goodB z && decide ((a.length : Int) = z.N + 1) && a.all fo) = true then colsN z a k z.ids.length else []
theorem Sr.nil (w : World) : Sr w none [] := ⟨by decide, fun h => absurd h (by decide), fun x hx => by simp at hx⟩
theorem exp_fo (u : Nat) : fo u = !(u / 4503599627370496 % 2048 == 2047) := by
 unfold fo fnum
 by_cases h : u / 4503599627370496 % 2048 = 2047
 ·rw [if_pos h, h]; rfl
 ·rw [if_neg h, beq_eq_false_iff_ne.mpr h]
  split <;> rfl
theorem exp_and (u : Nat) (hu : u < 18446744073709551616) : bits .and .u64 ((u : Int) / 4503599627370496) 2047 = ((u / 4503599627370496 % 2048 : Nat) : Int) := by
 rw [and_2047 _ (by omega) (by omega)]; omega
set_option maxRecDepth 100000 in
set_option maxHeartbeats 4000000 in
theorem seen_calls (z : Zn) (h : Zh) (A : Option Addr) (c : Nat) (a : List Nat) (k : Int) (w : World) (hr : Zr w z h) (hf : Zf z) (ha : kf.C w A a.length a) (hwa : Wf a) (hn : a.length ≤ 140737488355328) :
  Calls Try.prog 52 #[.agg (zc z h), .slice A a.length c, .int .i64 k] w fun e w' => ∃ B d l, e = .returned (.slice B (l : List Sco).length d) ∧ Sr w' B l ∧ Up l ∧ sp l = seenV z a k ∧ Below w.heap.size w w' := by
 have hu63 := Try.underlying63
 have hu111 := Try.underlying111
 have HF := am_ hf
 have HR := am_ hr
 have HA := am_ ha
 have HWA := am_ hwa
 have HN := am_ hn
 clear hf ha hwa hn
 obtain ⟨Z, hz⟩ : ∃ Z, Z = z := ⟨_, rfl⟩
 obtain ⟨H, hh⟩ : ∃ H, H = h := ⟨_, rfl⟩
 obtain ⟨z1, z2, z3, z4, z5, z6⟩ := z
 obtain ⟨a1, k1, a2, k2, a3, k3, a4, k4⟩ := h
 rw [← hz, ← hh] at hr HR
 rw [← hz] at HF
 rw [← hz, ← hh]
 have HZ := am_ hz
 have HH := am_ hh
 have hv : zc Z H = #[.int .i64 z1, .slice a1 z2.length k1, .slice a2 z3.length k2, .slice a3 z4.length k3, .slice a4 z5.length k4, .bool z6] := by rw [hz, hh]; rfl
 rw [hv]
 clear hv
 clear hz hh hr
 go_enter Try.func52, Try.ntmps52
 go_wp2_with (first
  | ((with_reducible refine zk (N := 3) rfl ?_); refine zaq 3 (cs := #[.int .i64 z1, .slice a1 z2.length k1, .slice a2 z3.length k2, .slice a3 z4.length k3, .slice a4 z5.length k4, .bool z6]) (t := 63) ?_; intro g1 hg_ w1 hw_ hb_; have B1 := am_ hb_; have K1 := am_ hw_; have L1 := am_ (show w.heap.size ≤ g1 by omega); clear hg_ hw_ hb_; have c0 : w1.cell? ⟨g1, 0, none⟩ = some (.int .i64 z1) := (za K1.out 0).trans rfl; have c1 : w1.cell? ⟨g1, 1, none⟩ = some (.slice a1 z2.length k1) := (za K1.out 1).trans rfl; have c2 : w1.cell? ⟨g1, 2, none⟩ = some (.slice a2 z3.length k2) := (za K1.out 2).trans rfl; have c3 : w1.cell? ⟨g1, 3, none⟩ = some (.slice a3 z4.length k3) := (za K1.out 3).trans rfl; have c4 : w1.cell? ⟨g1, 4, none⟩ = some (.slice a4 z5.length k4) := (za K1.out 4).trans rfl; have c5 : w1.cell? ⟨g1, 5, none⟩ = some (.bool z6) := (za K1.out 5).trans rfl)
  | fail)
 have zcc := zcheck_calls Z H w1 (HR.out.step B1.out) HF.out
 rw [show zc Z H = #[.int .i64 z1, .slice a1 z2.length k1, .slice a2 z3.length k2, .slice a3 z4.length k3, .slice a4 z5.length k4, .bool z6] by rw [HZ.out, HH.out]; rfl] at zcc
 refine zcc.mono ?_
 clear zcc
 rintro e_ w2 ⟨rfl, hb2⟩
 replace K1 := am_ (zh K1.out hb2)
 have B2 := am_ (zb B1.out hb2)
 clear hb2 c0 c1 c2 c3 c4 c5
 have c0 : w2.cell? ⟨g1, 0, none⟩ = some (.int .i64 z1) := (za K1.out 0).trans rfl
 have c1 : w2.cell? ⟨g1, 1, none⟩ = some (.slice a1 z2.length k1) := (za K1.out 1).trans rfl
 have c2 : w2.cell? ⟨g1, 2, none⟩ = some (.slice a2 z3.length k2) := (za K1.out 2).trans rfl
 have c3 : w2.cell? ⟨g1, 3, none⟩ = some (.slice a3 z4.length k3) := (za K1.out 3).trans rfl
 have c4 : w2.cell? ⟨g1, 4, none⟩ = some (.slice a4 z5.length k4) := (za K1.out 4).trans rfl
 have c5 : w2.cell? ⟨g1, 5, none⟩ = some (.bool z6) := (za K1.out 5).trans rfl
 by_cases hG : goodB Z = true
 ·have GG := am_ (goodB_iff.1 hG)
  rw [show zchk Z = 0 by unfold zchk; rw [hG]; rfl]
  obtain rfl : z6 = false := by have := GG.out.1; rw [HZ.out] at this; exact this
  have N1 := am_ (show 1 ≤ z1 ∧ z1 ≤ 256 by have := GG.out.2.1; rw [HZ.out] at this; exact this)
  have hw1 : wrap64 (z1 + 1) = z1 + 1 := w64 _ (by have := N1.out; omega) (by have := N1.out; omega)
  have HG1 := am_ hG
  clear hG
  by_cases hl : (a.length : Int) = z1 + 1
  ·have q1 : ((a.length : Int) != z1 + 1) = false := bne_eq_false_iff_eq.mpr hl
   have HL := am_ hl
   clear hl
   go_wp2_with fail
   clear hw1
   go_loopg [32] a.length (fun m v32 wr => ∃ (x : Nat), v32 = .int .i64 (x : Int) ∧ Aside0 (x + m = a.length) ∧ Aside0 ((a.take x).all fo = true) ∧ w2 = wr)
   case atStart => exact ⟨0, rfl, ⟨by omega⟩, ⟨rfl⟩, rfl⟩
   case round =>
    obtain ⟨x, rfl, hm, HT, rfl⟩ := hrel
    by_cases hx : x < a.length
    ·have HX := am_ hx
     have p1 := eq_true hx
     have p2 := eq_true (show (x : Int) < (a.length : Int) by omega)
     have p3 := eq_true (show (0 : Int) ≤ (x : Int) by omega)
     have hux := wf_rdn HWA.out x
     obtain ⟨ad, ead, hc0⟩ := at_kf (Kd.zB HA.out B2.out) x hx
     cases ead
     have HQ := am_ (fun h => all_step (f := fo) HT.out hx h)
     have HF0 := am_ (fun h => all_not (f := fo) hx h)
     clear hx
     generalize rdn a x = u at *
     have he := exp_and u hux
     have hfo := exp_fo u
     generalize u / 4503599627370496 % 2048 = e at *
     go_wp2_with fail
     refine (bits_calls u w2).mono ?_
     rintro e_ w_ ⟨rfl, rfl⟩
     by_cases h7 : e = 2047
     ·have h8 : ((e : Int) == 2047) = true := by rw [h7]; rfl
      have HE := am_ (HF0.out (by rw [hfo, h7]; rfl))
      clear h7 hfo
      go_wp2_with fail
      go_ret
      exact ⟨none, 0, [], rfl, Sr.nil _, Up.nil, by unfold seenV; rw [if_neg (by rw [HE.out, Bool.and_false]; decide)]; rfl, B2.out⟩
     ·have h8 : ((e : Int) == 2047) = false := beq_eq_false_iff_ne.mpr (by omega)
      have HE := am_ (HQ.out (by rw [hfo, beq_eq_false_iff_ne.mpr h7]; rfl))
      clear h7 hfo
      go_wp2_with fail
      go_roundg (gk - 1)
      case measure => have := hm.out; have := HX.out; omega
      case rel => exact ⟨x + 1, by rw [w64 _ (by omega) (by have := HX.out; have := HN.out; omega)]; rfl, ⟨by have := hm.out; have := HX.out; omega⟩, HE, rfl⟩
    ·have p1 := eq_false hx
     have p2 := eq_false (show ¬ (x : Int) < (a.length : Int) by omega)
     have HAF := am_ (show a.all fo = true by have h := HT.out; rwa [List.take_of_length_le (show a.length ≤ x by omega)] at h)
     clear hx hm HT
     have EI := am_ (show Z.ids = z3 by rw [HZ.out])
     have EG := am_ (show Z.G = z4 by rw [HZ.out])
     have EN := am_ (show Z.N = z1 by rw [HZ.out])
     have R2 := am_ (show Rd w2 a2 k2 z3 by have h := (HR.out.step B2.out).r2; rw [HZ.out, HH.out] at h; exact h)
     have R3 := am_ (show kff.C w2 a3 z4.length z4 by have h := (HR.out.step B2.out).r3; rw [HZ.out, HH.out] at h; exact h)
     have NI := am_ (show z3.length ≤ 1073741825 by have h := ids_len GG.out; rwa [EI.out] at h)
     have NG := am_ (show z3.length = z4.length by have h := GG.out.2.2.2.2.1; rwa [EI.out, EG.out] at h)
     go_wp2_with fail
     go_loopg [7, 45] z3.length (fun m v7 v45 wr => ∃ (n : Nat) (l : List Sco) (B : Option Addr) (d : Nat), v7 = .slice B l.length d ∧ v45 = .int .i64 (n : Int) ∧ Aside0 (n + m = z3.length) ∧ Aside0 (So wr w2.heap.size (.slice B l.length d) l) ∧ Aside0 (l.length ≤ n ∧ Up l ∧ sp l = colsN Z a k n ∧ ∀ y, y ∈ l → ∀ j : Nat, n ≤ j → j < z3.length → y.s < rd z3 (j : Int)) ∧ Aside0 (Below w2.heap.size w2 wr))
     case atStart => exact ⟨0, [], none, 0, rfl, rfl, ⟨by omega⟩, ⟨So.nil _ _⟩, ⟨Nat.le_refl 0, Up.nil, rfl, fun y hy => by simp at hy⟩, ⟨Below.refl _ _⟩⟩
     case round =>
      obtain ⟨n, l, B, d, rfl, rfl, hm, SO, HI, HB⟩ := hrel
      by_cases hx : n < z3.length
      ·have HX := am_ hx
       have p3 := eq_true hx
       have p4 := eq_true (show (n : Int) < (z3.length : Int) by omega)
       have p5 := eq_true (show (0 : Int) ≤ (n : Int) by omega)
       have p6 := eq_true (show n < z4.length by have := NG.out; omega)
       have p7 := eq_true (show (n : Int) < (z4.length : Int) by have := NG.out; omega)
       obtain ⟨ai, eai, hci⟩ := Kd.z8 (R2.out.step HB.out).row (n : Int) (by omega) (by omega)
       cases eai
       rw [Int.toNat_natCast] at hci
       have HGD := am_ (show IdOk Z n from GG.out.2.2.2.2.2.2 n (by rw [EI.out]; exact hx))
       have HUP := am_ (show ∀ j : Nat, n < j → j < z3.length → rd z3 (n : Int) < rd z3 (j : Int) from fun j h1 h2 => by have h := ids_lt GG.out (j - n - 1) n (by rw [EI.out]; omega); rwa [show n + (j - n - 1) + 1 = j by omega, EI.out] at h)
       have HSL := am_ (show ∀ y, y ∈ l → y.s < rd z3 (n : Int) from fun y hy => HI.out.2.2.2 y hy n (Nat.le_refl n) hx)
       clear hx
       have HCOL := am_ (show colsN Z a k (n + 1) = colsN Z a k n ++ (if rd z3 (n : Int) < k then [(rd z3 (n : Int), zaX (dotN a (rdl z4 n) (rdl z4 n).length))] else []) by show colsN Z a k n ++ _ = _; rw [EI.out, EG.out])
       have HROW := am_ (show (∀ i, i < (rdl z4 n).length → fo (rdn (rdl z4 n) i) = true) ∧ ((rdl z4 n).length : Int) = z1 by have h := rowB_iff HGD.out.2.2; rwa [EG.out, EN.out] at h)
       have HWF := am_ (show Wf (rdl z4 n) by have h := wf_rdl HF.out.G n; rwa [EG.out] at h)
       generalize hid : rd z3 (n : Int) = id at *
       clear hid
       by_cases hk : k ≤ id
       ·have k1_ := eq_true hk
        have k2_ := decide_eq_true hk
        have k3_ := decide_eq_true (show id ≥ k from hk)
        have HK := am_ hk
        clear hk
        clear c0 c1 c2 c3 c4 c5
        go_wp2_with fail
        go_roundg (gk - 1)
        case measure => have := hm.out; have := HX.out; omega
        case rel => exact ⟨n + 1, l, B, d, rfl, by rw [w64 _ (by omega) (by have := HX.out; have := NI.out; omega)]; rfl, ⟨by have := hm.out; have := HX.out; omega⟩, SO, ⟨by have := HI.out.1; omega, HI.out.2.1, by rw [HCOL.out, if_neg (by have := HK.out; omega), List.append_nil]; exact HI.out.2.2.1, fun y hy j h1 h2 => HI.out.2.2.2 y hy j (by omega) h2⟩, HB⟩
       ·have k1_ := eq_false hk
        have k2_ := decide_eq_false hk
        have k3_ := decide_eq_false (show ¬ id ≥ k from hk)
        have HK := am_ (show id < k by omega)
        clear hk
        clear c0 c1 c2 c3 c4 c5
        go_wp2_with fail
        refine (new_calls wr).mono ?_
        rintro e_ w3 ⟨b, rfl, hbs, hbk, hb3⟩
        have FAR := am_ (SO.out.far hbs)
        have LB := am_ (show w2.heap.size ≤ b by have := HB.out.size; omega)
        replace SO := am_ (SO.out.step hb3)
        replace HB := am_ (zb HB.out hb3)
        have KB := am_ (show w3.heap[b]? = some (.cells (zbb (some (dotN a (rdl z4 n) 0))) 124 (0, 0)) from hbk)
        clear hbs hbk hb3 hci
        obtain ⟨ag, Ak, ck, eag, hcg0, _, hrk⟩ := at_kff R3.out n (by have := NG.out; have := HX.out; omega)
        cases eag
        have hcg := zu HB.out hcg0
        have c3 : w3.cell? ⟨g1, 3, none⟩ = some (.slice (some ag) z4.length k3) := (za (zh K1.out HB.out) 3).trans rfl
        have HRK := am_ hrk
        clear hrk
        generalize hus : rdl z4 n = us at *
        clear hus
        go_wp2_with fail
        clear hcg hcg0 c3
        go_loopg [60] us.length (fun m v60 wr => ∃ (i : Nat), v60 = .int .i64 (i : Int) ∧ Aside0 (i + m = us.length) ∧ Aside0 (wr.heap[b]? = some (.cells (zbb (some (dotN a us i))) 124 (0, 0))) ∧ Aside0 (So wr w2.heap.size (.slice B l.length d) l) ∧ Aside0 (Below w2.heap.size w2 wr))
        case atStart => exact ⟨0, rfl, ⟨by omega⟩, KB, SO, HB⟩
        case round =>
         obtain ⟨i, rfl, hmi, KI, SI, BI⟩ := hrel
         by_cases hx : i < us.length
         ·have HXI := am_ hx
          have r1 := eq_true hx
          have r2 := eq_true (show (i : Int) < (us.length : Int) by omega)
          have r3 := eq_true (show (0 : Int) ≤ (i : Int) by omega)
          have HAL := am_ (show us.length < a.length by have := HROW.out.2; have := HL.out; omega)
          have r4 := eq_true (show i < a.length by have := HAL.out; omega)
          have r5 := eq_true (show (i : Int) < (a.length : Int) by have := HAL.out; omega)
          obtain ⟨au, eau, hcu⟩ := at_kf (Kd.zB HRK.out BI.out) i hx
          cases eau
          obtain ⟨aa, eaa, hca⟩ := at_kf (Kd.zB (Kd.zB HA.out B2.out) BI.out) i (by have := HAL.out; omega)
          cases eaa
          have DS := am_ (dot_step a us i (by have := HAL.out; have := HN.out; omega) (List.all_eq_true.1 HAF.out _ (List.mem_of_getElem? (rdn_get (by have := HAL.out; omega)))) (HROW.out.1 i hx))
          have DO := am_ (dot_ok a us i (by have := HAL.out; have := HN.out; omega))
          have XU := am_ (wf_rdn HWA.out i)
          have YU := am_ (wf_rdn HWF.out i)
          clear hx
          generalize rdn a i = x_ at *
          generalize rdn us i = y_ at *
          go_wp2_with fail
          refine (prod_calls wr b (some (dotN a us i)) x_ y_ 0 XU.out YU.out DO.out KI.out).mono ?_
          rintro e_ w5 ⟨rfl, h5, g5⟩
          rw [DS.out] at h5
          have K5 := am_ h5
          replace SI := am_ (SI.out.put FAR.out g5)
          replace BI := am_ (BI.out.grown g5 BI.out.size (fun k_ hk_ => by cases hk_; exact LB.out))
          clear h5 g5 hcu hca
          go_wp2_with fail
          go_roundg (gk - 1)
          case measure => have := hmi.out; have := HXI.out; omega
          case rel => exact ⟨i + 1, by rw [w64 _ (by omega) (by have := HXI.out; have := HAL.out; have := HN.out; omega)]; rfl, ⟨by have := hmi.out; have := HXI.out; omega⟩, K5, SI, BI⟩
         ·have r1 := eq_false hx
          have r2 := eq_false (show ¬ (i : Int) < (us.length : Int) by omega)
          obtain rfl : i = us.length := by have := hmi.out; omega
          clear hx hmi
          go_wp2_with fail
          have DO := am_ (dot_ok a us us.length (by have := HROW.out.2; have := N1.out; omega))
          refine (accabs_calls wr b _ DO.out KI.out).mono ?_
          rintro e_ w6 ⟨rfl, h6, g6⟩
          have XS := am_ (show Scb w6 ⟨id, b, zaX (dotN a us us.length)⟩ from ⟨h6, show zaX (zaX (dotN a us us.length)) < 2 ^ 4772 by rw [absI_pos (absI_lo _)]; exact DO.out⟩)
          replace SI := am_ (SI.out.put FAR.out g6)
          replace BI := am_ (BI.out.grown g6 BI.out.size (fun k_ hk_ => by cases hk_; exact LB.out))
          clear h6 g6
          have LL := am_ (show (l.length + 1) * 16 ≤ 140737488355328 ∧ l.length + 1 ≤ 17592186044416 by have := HI.out.1; have := HX.out; have := NI.out; omega)
          generalize habs : zaX (dotN a us us.length) = dv at *
          have HAB := am_ habs
          clear habs
          go_wp2_with (first
 | ((with_reducible refine zk (N := 80) rfl ?_); refine app_event (w := w6.alloc (.cells #[.int .i64 id, .pointer (some ⟨b, 0, none⟩)] 111)) (base := w2.heap.size) (t := 108) (e := 111) (v := .slice B l.length d) (news := [.int .i64 id, .pointer (some ⟨b, 0, none⟩)]) rfl _ _ rfl Try.underlying108 info111 rfl (by decide) rfl (SI.out.own.alloc _) rfl rfl (by decide) (World.news_of_block (cs := #[.int .i64 id, .pointer (some ⟨b, 0, none⟩)]) (heap_alloc_new _ _)) (by simp [Value.oneCell']) (Nat.le_trans LL.out.2 (by decide)) LL.out.1 (Nat.le_trans BI.out.size (by simp)) ?_; intro v7 w7 ho alt; have GA := World.grownBy.trans (World.grownBy_alloc w6 (.cells #[.int .i64 id, .pointer (some ⟨b, 0, none⟩)] 111) _) (grow_any alt); obtain ⟨B2_, d2, rfl⟩ := own_form ho; have SN := am_ (SI.out.app ⟨id, b, dv⟩ XS.out ho GA); have BN := am_ (BI.out.grown GA BI.out.size (own_base SI.out.own)); clear GA alt ho)
 | fail)
          go_roundg (z3.length - n - 1)
          case measure => have := hm.out; have := HX.out; omega
          case rel =>
           refine ⟨n + 1, l ++ [⟨id, b, dv⟩], B2_, d2, by rw [List.length_append]; rfl, by rw [w64 _ (by omega) (by have := HX.out; have := NI.out; omega)]; rfl, ⟨by have := hm.out; have := HX.out; omega⟩, ⟨by have h := SN.out; rwa [show l.length + 1 = (l ++ [(⟨id, b, dv⟩ : Sco)]).length by rw [List.length_append]; rfl] at h⟩, ⟨by rw [List.length_append]; have := HI.out.1; simp; omega, HI.out.2.1.app _ (by rw [← HAB.out]; exact absI_lo _) HSL.out, by rw [sp_app, HCOL.out, if_pos HK.out, HI.out.2.2.1], fun y hy j h1 h2 => ?_⟩, BN⟩
           rcases List.mem_append.1 hy with hy | hy
           ·exact HI.out.2.2.2 y hy j (by omega) h2
           ·obtain rfl := List.mem_singleton.1 hy
            exact HUP.out j (by omega) h2
      ·have p3 := eq_false hx
       have p4 := eq_false (show ¬ (n : Int) < (z3.length : Int) by omega)
       obtain rfl : n = z3.length := by have := hm.out; omega
       clear hx hm
       go_wp2_with fail
       go_ret
       exact ⟨B, d, l, rfl, SO.out.read, HI.out.2.1, by unfold seenV; rw [if_pos (by rw [HG1.out, HAF.out, EN.out, decide_eq_true HL.out]; rfl), EI.out]; exact HI.out.2.2.1, zb B2.out HB.out⟩
  ·have q1 : ((a.length : Int) != z1 + 1) = true := by rw [bne_iff_ne]; exact hl
   have HL := am_ hl
   clear hl
   go_wp2_with fail
   go_ret
   exact ⟨none, 0, [], rfl, Sr.nil _, Up.nil, by unfold seenV; rw [if_neg (by rw [HZ.out]; simp only; rw [decide_eq_false HL.out, Bool.and_false, Bool.false_and]; decide)]; rfl, B2.out⟩
 ·have HG1 := am_ (show goodB Z = false by simpa using hG)
  cases hL : lostB Z
  ·rw [show zchk Z = 100 by unfold zchk; rw [HG1.out, hL]; rfl]
   clear hG hL
   go_wp2_with fail
   go_ret
   exact ⟨none, 0, [], rfl, Sr.nil _, Up.nil, by unfold seenV; rw [if_neg (by rw [HG1.out, Bool.false_and, Bool.false_and]; decide)]; rfl, B2.out⟩
  ·rw [show zchk Z = 0 by unfold zchk; rw [HG1.out, hL]; rfl]
   obtain rfl : z6 = true := by
    have h : Lost Z := by apply Classical.byContradiction; intro h; rw [za1 h] at hL; cases hL
    have := h.1
    rw [HZ.out] at this
    exact this
   clear hG hL
   go_wp2_with fail
   go_ret
   exact ⟨none, 0, [], rfl, Sr.nil _, Up.nil, by unfold seenV; rw [if_neg (by rw [HG1.out, Bool.false_and, Bool.false_and]; decide)]; rfl, B2.out⟩
theorem neg_n (u : Nat) (hu : u < 18446744073709551616) : Op.negFloat .f64 u = nF u := by
 have e : Op.negFloat .f64 u = u ^^^ 9223372036854775808 := rfl
 rw [e, xor63 u hu]
 rfl
theorem nF_fields (u : Nat) (hu : u < 18446744073709551616) (h : fo u = true) : fo (nF u) = true ∧ fm (nF u) = fm u ∧ fe (nF u) = fe u ∧ fs (nF u) = !fs u := by
 have e := nF_num u hu
 unfold fo at h
 cases hf : fnum u with
 | none => rw [hf] at h; cases h
 | some r =>
  obtain ⟨s, m, x⟩ := r
  rw [hf] at e
  obtain ⟨p0, p1, p2, p3⟩ := of_fnum hf
  obtain ⟨q0, q1, q2, q3⟩ := of_fnum (e : fnum (nF u) = some (!s, m, x))
  exact ⟨q0, by rw [q2, p2], by rw [q3, p3], by rw [q1, p1]⟩
theorem nF_none (u : Nat) (hu : u < 18446744073709551616) (h : fo u = false) : fo (nF u) = false := by
 have e := nF_num u hu
 unfold fo at h ⊢
 cases hf : fnum u with
 | none => rw [hf] at e; rw [e]; rfl
 | some r => rw [hf] at h; cases h
theorem nan_none (t : Nat) : fo ((t % 2) * 2 ^ 63 + 0x7ff0000000000000 + 1 + (t / 2) % (2 ^ 52 - 1)) = false := by
 rw [exp_fo]
 have e1 : (2 : Nat) ^ 63 = 9223372036854775808 := by decide
 have e2 : (2 : Nat) ^ 52 - 1 = 4503599627370495 := by decide
 have e3 : (0x7ff0000000000000 : Nat) = 9218868437227405312 := by decide
 rw [e1, e2, e3]
 have : t / 2 % 4503599627370495 < 4503599627370495 := Nat.mod_lt _ (by decide)
 generalize t / 2 % 4503599627370495 = r at *
 have : t % 2 = 0 ∨ t % 2 = 1 := by omega
 rw [show ((t % 2) * 9223372036854775808 + 9218868437227405312 + 1 + r) / 4503599627370496 % 2048 = 2047 by omega]
 rfl
theorem nan_lt (t : Nat) : (t % 2) * 2 ^ 63 + 0x7ff0000000000000 + 1 + (t / 2) % (2 ^ 52 - 1) < 18446744073709551616 := by
 have e1 : (2 : Nat) ^ 63 = 9223372036854775808 := by decide
 have e2 : (2 : Nat) ^ 52 - 1 = 4503599627370495 := by decide
 have e3 : (0x7ff0000000000000 : Nat) = 9218868437227405312 := by decide
 rw [e1, e2, e3]
 have : t / 2 % 4503599627370495 < 4503599627370495 := Nat.mod_lt _ (by decide)
 omega
/-- u or what stands for its size. -/
def Mx (u m : Nat) : Prop := m < 18446744073709551616 ∧ fo m = fo u ∧ (fo u = true → fm m = fm u ∧ fe m = fe u ∧ (fs m = false ∨ fm u = 0))
theorem nan_cut (u v t : Nat) : (Question.nanMinMax .f64 true u v).cut t < 18446744073709551616 ∧ fo ((Question.nanMinMax .f64 true u v).cut t) = false := by
 unfold Question.cut
 exact ⟨nan_lt t, nan_none t⟩
theorem max2_lt (P : Program) (x y : Nat) (W : World) (h : FloatKind.f64.format.order x y = some .lt) : (Builtin.max2 (.float .f64 x) (.float .f64 y)).run P W = .ok (.float .f64 y) W := by simp only [Builtin.max2, h, Sem.run_pure]
theorem max2_gt (P : Program) (x y : Nat) (W : World) (h : FloatKind.f64.format.order x y = some .gt) : (Builtin.max2 (.float .f64 x) (.float .f64 y)).run P W = .ok (.float .f64 x) W := by simp only [Builtin.max2, h, Sem.run_pure]
theorem max2_eqt (P : Program) (x y : Nat) (W : World) (h : FloatKind.f64.format.order x y = some .eq) (hb : (FloatKind.f64.decode x).neg = true) : (Builtin.max2 (.float .f64 x) (.float .f64 y)).run P W = .ok (.float .f64 y) W := by simp only [Builtin.max2, h, Sem.run_pure, hb, if_true]
theorem max2_eqf (P : Program) (x y : Nat) (W : World) (h : FloatKind.f64.format.order x y = some .eq) (hb : (FloatKind.f64.decode x).neg = false) : (Builtin.max2 (.float .f64 x) (.float .f64 y)).run P W = .ok (.float .f64 x) W := by simp only [Builtin.max2, h, Sem.run_pure, hb, Bool.false_eq_true, if_false]
theorem max2_none (P : Program) (x y : Nat) (W : World) (h : FloatKind.f64.format.order x y = none) : (Builtin.max2 (.float .f64 x) (.float .f64 y)).run P W = .ok (.float .f64 ((Question.nanMinMax .f64 true x y).cut (W.tape W.drawn (.nanMinMax .f64 true x y)))) W.drew := by
 simp only [Builtin.max2, h, Sem.run_bind, run_choose_drew, Question.forced, Bool.false_eq_true, if_false, Sem.run_pure, Result.andThen_ok]
theorem mx_run (P : Program) (ts : Array TypeId) (ty : TypeId) (u : Nat) (hu : u < 18446744073709551616) (W : World) : ∃ m W1, (Builtin.max_ ts ty #[.float .f64 u, .float .f64 (nF u)]).run P W = .ok (.float .f64 m) W1 ∧ Mx u m ∧ (W1 = W ∨ W1 = W.drew) := by
 have hrun : (Builtin.max_ ts ty #[.float .f64 u, .float .f64 (nF u)]).run P W = (Builtin.max2 (.float .f64 u) (.float .f64 (nF u))).run P W := by
  show (List.foldlM Builtin.max2 (Value.float .f64 u) [.float .f64 (nF u)]).run P W = _
  simp [List.foldlM]
 rw [hrun]
 have bad : ∀ m, m < 18446744073709551616 → fo m = false → fo u = false → Mx u m := fun m h1 h2 h3 => ⟨h1, by rw [h2, h3], fun h => by rw [h3] at h; cases h⟩
 cases hfo : fo u with
 | false =>
  have hn := nF_none u hu hfo
  cases ho : FloatKind.f64.format.order u (nF u) with
  | none =>
   refine ⟨(Question.nanMinMax .f64 true u (nF u)).cut (W.tape W.drawn (.nanMinMax .f64 true u (nF u))), W.drew, ?_, bad _ (nan_cut _ _ _).1 (nan_cut _ _ _).2 hfo, .inr rfl⟩
   exact max2_none P u (nF u) W ho
  | some c =>
   cases c with
   | lt => exact ⟨nF u, W, max2_lt P u (nF u) W ho, bad _ (nF_lt u hu) hn hfo, .inl rfl⟩
   | gt => exact ⟨u, W, max2_gt P u (nF u) W ho, bad _ hu hfo hfo, .inl rfl⟩
   | eq =>
    cases hd : (FloatKind.f64.decode u).neg with
    | true => exact ⟨nF u, W, max2_eqt P u (nF u) W ho hd, bad _ (nF_lt u hu) hn hfo, .inl rfl⟩
    | false => exact ⟨u, W, max2_eqf P u (nF u) W ho hd, bad _ hu hfo hfo, .inl rfl⟩
 | true =>
  obtain ⟨q0, q1, q2, q3⟩ := nF_fields u hu hfo
  have hr : Ieee.double.read u = .number (fs u) (fm u) (fe u) := by
   rw [read_num u hu]
   unfold fo at hfo
   unfold fs fm fe
   cases hf : fnum u with
   | none => rw [hf] at hfo; cases hfo
   | some r => rfl
  have hr2 : Ieee.double.read (nF u) = .number (!fs u) (fm u) (fe u) := by
   rw [read_num (nF u) (nF_lt u hu), ← q3, ← q2, ← q1]
   unfold fo at q0
   unfold fs fm fe
   cases hf : fnum (nF u) with
   | none => rw [hf] at q0; cases q0
   | some r => rfl
  have ho : FloatKind.f64.format.order u (nF u) = some (compare (Ieee.signed (fs u) (fm u) 0) (Ieee.signed (!fs u) (fm u) 0)) := by
   show Ieee.Datum.order (Ieee.double.read u) (Ieee.double.read (nF u)) = _
   rw [hr, hr2]
   simp only [Ieee.Datum.order]
   rw [show min (fe u) (fe u) = fe u by omega, Int.sub_self]
   rfl
  have s0 : Ieee.signed false (fm u) 0 = (fm u : Int) := by unfold Ieee.signed; rw [if_neg (by decide), Nat.shiftLeft_zero]
  have s1 : Ieee.signed true (fm u) 0 = -(fm u : Int) := by unfold Ieee.signed; rw [if_pos rfl, Nat.shiftLeft_zero]
  have hd : (FloatKind.f64.decode u).neg = fs u := by
   show (Ieee.double.read u).neg = _
   rw [hr]
   rfl
  have mn : fs u = true → Mx u (nF u) := fun h => ⟨nF_lt u hu, by rw [q0, hfo], fun _ => ⟨q1, q2, .inl (by rw [q3, h]; rfl)⟩⟩
  have mu : fs u = false → Mx u u := fun h => ⟨hu, rfl, fun _ => ⟨rfl, rfl, .inl h⟩⟩
  cases hs : fs u with
  | true =>
   rw [hs, show (!true) = false from rfl, s0, s1] at ho
   rcases Nat.eq_zero_or_pos (fm u) with hz | hz
   ·rw [show compare (-(fm u : Int)) (fm u : Int) = .eq by rw [hz]; rfl] at ho
    exact ⟨nF u, W, max2_eqt P u (nF u) W ho (hd.trans hs), mn hs, .inl rfl⟩
   ·rw [show compare (-(fm u : Int)) (fm u : Int) = .lt from Int.compare_eq_lt.2 (by omega)] at ho
    exact ⟨nF u, W, max2_lt P u (nF u) W ho, mn hs, .inl rfl⟩
  | false =>
   rw [hs, show (!false) = true from rfl, s0, s1] at ho
   rcases Nat.eq_zero_or_pos (fm u) with hz | hz
   ·rw [show compare (fm u : Int) (-(fm u : Int)) = .eq by rw [hz]; rfl] at ho
    exact ⟨u, W, max2_eqf P u (nF u) W ho (hd.trans hs), mu hs, .inl rfl⟩
   ·rw [show compare (fm u : Int) (-(fm u : Int)) = .gt from Int.compare_eq_gt.2 (by omega)] at ho
    exact ⟨u, W, max2_gt P u (nF u) W ho, mu hs, .inl rfl⟩
theorem max_event {P : Program} {ops : Array Oper} {rest : List Oper} {o : Oper} {a : Act} {Q : Exit → Act → World → Prop} {W : World} (hgd : o.guard = none) (x y : Operand) {t : TypeId}
  (ho : o.op = .call { callee := .builtin .max, args := #[x, y], argTypes := #[t, t] }) {u v m : Nat} {W1 : World} (hx : a.eval x = .float .f64 u) (hy : a.eval y = .float .f64 v)
  (hr : (Builtin.max_ #[t, t] o.type #[.float .f64 u, .float .f64 v]).run P W = .ok (.float .f64 m) W1) (h : wpList P ops Q rest (a.put o.dst (.float .f64 m)) W1) : wpList P ops Q (o :: rest) a W := by
 refine wpList_plain hgd fun K hK => ?_
 unfold Oper.wp execOp
 simp only [ho, resolve, invoke, builtin, Sem.run_bind, Sem.run_pure, Result.andThen_ok, List.map_toArray, List.map_cons, List.map_nil, hx, hy, hr]
 exact hK _ _ h
/-- The size of a number, moved by a level. -/
def szT (u : Nat) (lv : Int) : Int := (fm u : Int) * P22 (fe u - lv)
def zbc (us : List Nat) (lv : Int) : Nat → Int
 | 0 => 0
 | i + 1 => zbc us lv i + szT (rdn us i) lv
theorem szT_nn (u : Nat) (lv : Int) : 0 ≤ szT u lv := Int.mul_nonneg (by omega) (by unfold P22; exact Int.le_of_lt (zab _))
theorem sizeT_nn (us : List Nat) (lv : Int) : ∀ i, 0 ≤ zbc us lv i
 | 0 => Int.le_refl 0
 | i + 1 => Int.add_nonneg (sizeT_nn us lv i) (szT_nn _ lv)
theorem szT_bound (u : Nat) (lv : Int) (h0 : 0 ≤ lv) : szT u lv ≤ 2 ^ 4330 := by
 have h1 := fm_hi u
 have h2 := fe_in u
 have h3 : (fm u : Int) * P22 (fe u - lv) ≤ 2 ^ 53 * 2 ^ 3200 := Int.mul_le_mul (by have : (2 : Int) ^ 53 = 9007199254740992 := (by decide); omega) (by unfold P22; exact za4 (by omega)) (by unfold P22; exact Int.le_of_lt (zab _)) (by decide)
 rw [← Int.pow_add] at h3
 exact Int.le_trans h3 (za4 (by decide))
theorem sizeT_bound (us : List Nat) (lv : Int) (h0 : 0 ≤ lv) : ∀ i : Nat, zaX (zbc us lv i) ≤ (i : Int) * 2 ^ 4330
 | 0 => by generalize (2 : Int) ^ 4330 = p_; simp [zbc, zaX]
 | i + 1 => by
  have h1 := sizeT_bound us lv h0 i
  have h2 := szT_bound (rdn us i) lv h0
  have h3 := szT_nn (rdn us i) lv
  have h4 := absI_add (zbc us lv i) (szT (rdn us i) lv)
  rw [absI_pos h3] at h4
  show zaX (zbc us lv i + szT (rdn us i) lv) ≤ _
  generalize (2 : Int) ^ 4330 = Q at *
  have e : ((i + 1 : Nat) : Int) * Q = (i : Int) * Q + Q := by rw [show ((i + 1 : Nat) : Int) = (i : Int) + 1 by omega, Int.add_mul, Int.one_mul]
  rw [e]
  omega
/-- What an Acc holds behind some of a column's numbers. -/
def accS (us : List Nat) (lv : Int) (i : Nat) : Option Int := if (us.take i).all fo = true then some (zbc us lv i) else none
theorem one_prT (u m : Nat) (lv : Int) (h : Mx u m) (hf : fo u = true) (h0 : 0 ≤ lv) (h8 : lv ≤ 8) : prT m oneF (-lv) = szT u lv := by
 obtain ⟨k1, k2, k3⟩ := h.2.2 hf
 obtain ⟨p0, p1, p2, p3⟩ := pow_parts 0 (by decide)
 rw [← oneF_pow] at p0 p1 p2 p3
 have e := fe_in u
 unfold prT szT P22
 rw [p1, p2, p3, k1, k2]
 have e1 : (fe u + ((0 : Nat) - 52) + -lv + 2212).toNat + 52 = (fe u - lv + 2212).toNat := by omega
 have key : (fm u : Int) * ((4503599627370496 : Nat) : Int) * 2 ^ (fe u + (((0 : Nat) : Int) - 52) + -lv + 2212).toNat = (fm u : Int) * 2 ^ (fe u - lv + 2212).toNat := by
  rw [show (fe u - lv + 2212).toNat = 52 + (fe u + (((0 : Nat) : Int) - 52) + -lv + 2212).toNat by omega, zaE, show (((4503599627370496 : Nat)) : Int) = 2 ^ 52 from by decide, Int.mul_assoc]
 rw [key]
 rcases k3 with k | k
 ·rw [k]; rfl
 ·rw [k]; simp
theorem accS_step (us : List Nat) (lv : Int) (i m : Nat) (hi : i < us.length) (hn : us.length ≤ 140737488355328) (h : Mx (rdn us i) m) (h0 : 0 ≤ lv) (h8 : lv ≤ 8) : prodV (accS us lv i) m oneF (-lv) = accS us lv (i + 1) := by
 obtain ⟨p0, p1, p2, p3⟩ := pow_parts 0 (by decide)
 rw [← oneF_pow] at p0
 have et : (us.take (i + 1)).all fo = ((us.take i).all fo && fo (rdn us i)) := by rw [take_one us i _ (rdn_get hi), List.all_append]; simp
 unfold accS
 rw [et]
 cases ha : (us.take i).all fo with
 | false => rw [Bool.false_and, if_neg (by decide)]; rfl
 | true =>
  rw [if_pos rfl]
  cases hf : fo (rdn us i) with
  | false =>
   rw [if_neg (by decide)]
   show (if (fo m && fo oneF && decide (-64 ≤ -lv) && decide (-lv ≤ 64)) = true then _ else _) = _
   rw [h.2.1, hf, Bool.false_and, Bool.false_and, Bool.false_and, if_neg (by decide)]
  | true =>
   rw [if_pos (by decide), prodV_T _ _ _ _ (by rw [h.2.1, hf]) p0 (by omega) (by omega), one_prT _ m lv h hf h0 h8]
   exact normA_eq (small_ok (i := i + 1) (sizeT_bound us lv h0 (i + 1)) (by omega))
theorem accS_ok (us : List Nat) (lv : Int) (i : Nat) (hi : i ≤ 140737488355328) (h0 : 0 ≤ lv) : accOk (accS us lv i) := by
 unfold accS
 split
 ·exact small_ok (sizeT_bound us lv h0 i) hi
 ·trivial
/-- A question; where its lists lie. -/
structure Pn where
 C : List Nat
 G : List (List Nat)
 T : Int
 L : List (List Nat)
 K : Int
 D : Int
 O : Int
structure Ph where
 a1 : Option Addr
 c1 : Nat
 a2 : Option Addr
 c2 : Nat
 a4 : Option Addr
 c4 : Nat
def pcv (p : Pn) (h : Ph) : Array Value := #[.slice h.a1 p.C.length h.c1, .slice h.a2 p.G.length h.c2, .int .i64 p.T, .slice h.a4 p.L.length h.c4, .int .i64 p.K, .int .i64 p.D, .int .i64 p.O]
structure Pr (w : World) (p : Pn) (h : Ph) : Prop where
 r1 : kf.C w h.a1 p.C.length p.C
 r2 : kff.C w h.a2 p.G.length p.G
 r4 : kff.C w h.a4 p.L.length p.L
theorem Pr.step {w w' : World} {p : Pn} {h : Ph} (r : Pr w p h) (hb : Below w.heap.size w w') : Pr w' p h := ⟨Kd.zB r.r1 hb, Kd.zB r.r2 hb, Kd.zB r.r4 hb⟩
def zbg (G : List (List Nat)) (lv : List Int) : Nat → List (Int × Int)
 | 0 => []
 | s + 1 => zbg G lv s ++ [((s : Int), zbc (rdl G s) (rd lv (s : Int)) (rdl G s).length)]
/-- What Choose tells. -/
noncomputable def chooseV (z : Zn) (a : List Nat) (G : List (List Nat)) (lv at_ : List Int) : Int :=
 if chkE lv at_ G.length = 0 then (if 0 ≤ (pk (seenV z a G.length)).1 then (pk (seenV z a G.length)).1 else if (G.all fun us => us.all fo) = true then (pk (zbg G lv G.length)).1 else -1) else -1
theorem rdl_get {uss : List (List Nat)} {x : Nat} (h : x < uss.length) : uss[x]? = some (rdl uss x) := by
 unfold rdl
 rw [List.getD_eq_getElem?_getD, List.getElem?_eq_getElem h]
 rfl
theorem alll_step {uss : List (List Nat)} {f : List Nat → Bool} {x : Nat} (h : (uss.take x).all f = true) (hx : x < uss.length) (hf : f (rdl uss x) = true) : (uss.take (x + 1)).all f = true := by
 rw [take_one uss x _ (rdl_get hx), List.all_append, h]
 simp [hf]
theorem alll_not {uss : List (List Nat)} {f : List Nat → Bool} {x : Nat} (hx : x < uss.length) (hf : f (rdl uss x) = false) : uss.all f = false := by
 rw [List.all_eq_false]
 exact ⟨rdl uss x, List.mem_of_getElem? (rdl_get hx), by simp [hf]⟩
theorem chk_all {lv at_ : List Int} {k : Int} (h : chkE lv at_ k = 0) : (lv.length : Int) = k ∧ Reg lv at_ := by
 unfold chkE at h
 split at h
 ·assumption
 ·exact absurd h (by decide)
set_option maxRecDepth 100000 in
set_option maxHeartbeats 4000000 in
theorem choose_calls (z : Zn) (h : Zh) (A : Option Addr) (c : Nat) (a : List Nat) (p : Pn) (q : Ph) (A0 : Option Addr) (c0 : Nat) (lv : List Int) (A1 : Option Addr) (c1 : Nat) (at_ : List Int) (w : World)
  (hr : Zr w z h) (hf : Zf z) (ha : kf.C w A a.length a) (hwa : Wf a) (hn : a.length ≤ 140737488355328) (hp : Pr w p q) (hg : ∀ us, us ∈ p.G → Wf us ∧ us.length ≤ 140737488355328) (r0 : Rd w A0 c0 lv) (r1 : Rd w A1 c1 at_) :
  Calls Try.prog 29 #[.agg (zc z h), .slice A a.length c, .agg (pcv p q), .agg #[.slice A0 lv.length c0, .slice A1 at_.length c1]] w fun e w' => e = .returned (.int .i64 (chooseV z a p.G lv at_)) ∧ Below w.heap.size w w' := by
 have hu63 := Try.underlying63
 have hu65 := Try.underlying65
 have hu24 := Try.underlying24
 have hu111 := Try.underlying111
 have HF := am_ hf
 have HR := am_ hr
 have HA := am_ ha
 have HWA := am_ hwa
 have HN := am_ hn
 have HP := am_ hp
 have HG := am_ hg
 have R0 := am_ r0
 have R1 := am_ r1
 clear hf hr ha hwa hn hp hg r0 r1
 obtain ⟨Z, hz⟩ : ∃ Z, Z = z := ⟨_, rfl⟩
 obtain ⟨H, hh⟩ : ∃ H, H = h := ⟨_, rfl⟩
 obtain ⟨z1, z2, z3, z4, z5, z6⟩ := z
 obtain ⟨a1, k1, a2, k2, a3, k3, a4, k4⟩ := h
 obtain ⟨y1, y2, y3, y4, y5, y6, y7⟩ := p
 obtain ⟨b1, l1, b2, l2, b4, l4⟩ := q
 rw [← hz, ← hh] at HR
 rw [← hz] at HF
 rw [← hz, ← hh]
 have HZ := am_ hz
 have HH := am_ hh
 have hv : zc Z H = #[.int .i64 z1, .slice a1 z2.length k1, .slice a2 z3.length k2, .slice a3 z4.length k3, .slice a4 z5.length k4, .bool z6] := by rw [hz, hh]; rfl
 rw [hv]
 show Calls Try.prog 29 #[.agg #[.int .i64 z1, .slice a1 z2.length k1, .slice a2 z3.length k2, .slice a3 z4.length k3, .slice a4 z5.length k4, .bool z6], .slice A a.length c, .agg #[.slice b1 y1.length l1, .slice b2 y2.length l2, .int .i64 y3, .slice b4 y4.length l4, .int .i64 y5, .int .i64 y6, .int .i64 y7], .agg #[.slice A0 lv.length c0, .slice A1 at_.length c1]] w fun e w' => e = .returned (.int .i64 (chooseV Z a y2 lv at_)) ∧ Below w.heap.size w w'
 have HV := am_ hv
 clear hv hz hh
 have RG := am_ (show kff.C w b2 y2.length y2 from HP.out.r2)
 replace HG := am_ (show ∀ us, us ∈ y2 → Wf us ∧ us.length ≤ 140737488355328 from HG.out)
 clear HP
 generalize hres : chooseV Z a y2 lv at_ = res
 have RES := am_ hres
 clear hres
 go_enter Try.func29, Try.ntmps29
 go_wp2_with (first
  | ((with_reducible refine zk (N := 4) rfl ?_); refine zaq 4 (cs := #[.int .i64 z1, .slice a1 z2.length k1, .slice a2 z3.length k2, .slice a3 z4.length k3, .slice a4 z5.length k4, .bool z6]) (t := 63) ?_; intro g4 hg_ w1 hw_ hb_; have B1 := am_ hb_; have K4 := am_ hw_; clear hg_ hw_ hb_)
  | ((with_reducible refine zk (N := 6) rfl ?_); refine zaq 6 (cs := #[.slice b1 y1.length l1, .slice b2 y2.length l2, .int .i64 y3, .slice b4 y4.length l4, .int .i64 y5, .int .i64 y6, .int .i64 y7]) (t := 65) ?_; intro g6 hg_ w2 hw_ hb_; have B2 := am_ (zb B1.out hb_); replace K4 := am_ (zh K4.out hb_); have K6 := am_ hw_; clear hg_ hw_ hb_)
  | ((with_reducible refine zk (N := 7) rfl ?_); refine zaq 7 (cs := #[.slice A0 lv.length c0, .slice A1 at_.length c1]) (t := 24) ?_; intro g7 hg_ w3 hw_ hb_; have B3 := am_ (zb B2.out hb_); replace K4 := am_ (zh K4.out hb_); replace K6 := am_ (zh K6.out hb_); have K7 := am_ hw_; clear hg_ hw_ hb_; have p1 : w3.cell? ⟨g6, 1, none⟩ = some (.slice b2 y2.length l2) := (za K6.out 1).trans rfl; have r0 : w3.cell? ⟨g7, 0, none⟩ = some (.slice A0 lv.length c0) := (za K7.out 0).trans rfl; have r1 : w3.cell? ⟨g7, 1, none⟩ = some (.slice A1 at_.length c1) := (za K7.out 1).trans rfl)
  | fail)
 clear B1 B2
 replace HR := am_ (HR.out.step B3.out)
 replace HA := am_ (Kd.zB HA.out B3.out)
 replace RG := am_ (Kd.zB RG.out B3.out)
 replace R0 := am_ (R0.out.step B3.out)
 replace R1 := am_ (R1.out.step B3.out)
 refine (check_c (y2.length : Int) w3 R0.out R1.out).mono ?_
 rintro e_ w4 ⟨rfl, hb⟩
 have HB := am_ hb
 clear hb p1 r0 r1
 generalize hcr : chkE lv at_ (y2.length : Int) = cr
 by_cases hcz : cr = 0
 ·subst hcz
  have CHK := am_ (chk_all hcr)
  have CRZ := am_ hcr
  clear hcr
  have q0 : w4.cell? ⟨g4, 0, none⟩ = some (.int .i64 z1) := (za (zh K4.out HB.out) 0).trans rfl
  have q1 : w4.cell? ⟨g4, 1, none⟩ = some (.slice a1 z2.length k1) := (za (zh K4.out HB.out) 1).trans rfl
  have q2 : w4.cell? ⟨g4, 2, none⟩ = some (.slice a2 z3.length k2) := (za (zh K4.out HB.out) 2).trans rfl
  have q3 : w4.cell? ⟨g4, 3, none⟩ = some (.slice a3 z4.length k3) := (za (zh K4.out HB.out) 3).trans rfl
  have q4 : w4.cell? ⟨g4, 4, none⟩ = some (.slice a4 z5.length k4) := (za (zh K4.out HB.out) 4).trans rfl
  have q5 : w4.cell? ⟨g4, 5, none⟩ = some (.bool z6) := (za (zh K4.out HB.out) 5).trans rfl
  go_wp2_with fail
  have sc := seen_calls Z H A c a (y2.length : Int) w4 (HR.out.step HB.out) HF.out (Kd.zB HA.out HB.out) HWA.out HN.out
  rw [HV.out] at sc
  refine sc.mono ?_
  clear sc
  rintro e_ w5 ⟨B, d, l, rfl, hsr, hup, hsp, hb⟩
  replace HB := am_ (zb HB.out hb)
  have bc := best_calls B d l w5 hsr hup
  rw [hsp] at bc
  have BC := am_ bc
  clear bc hb hsr hup hsp q0 q1 q2 q3 q4 q5
  go_wp2_with fail
  refine BC.out.mono ?_
  rintro e_ w6 ⟨rfl, hb⟩
  replace HB := am_ (zb HB.out hb)
  clear hb BC
  generalize hs : (pk (seenV Z a (y2.length : Int))).1 = s
  have HS := am_ hs
  clear hs
  by_cases h0 : 0 ≤ s
  ·have s1 := eq_true h0
   have s2 := decide_eq_true h0
   have s3 := decide_eq_true (show s ≥ 0 from h0)
   have QS := am_ (show res = s by rw [← RES.out]; unfold chooseV; rw [if_pos CRZ.out, HS.out, if_pos h0])
   clear h0
   go_wp2_with fail
   go_ret
   exact ⟨by rw [QS.out]; first | done | rfl, zb B3.out HB.out⟩
  ·have s1 := eq_false h0
   have s2 := decide_eq_false h0
   have s3 := decide_eq_false (show ¬ s ≥ 0 from h0)
   have QS := am_ (show res = if (y2.all fun us => us.all fo) = true then (pk (zbg y2 lv y2.length)).1 else -1 by rw [← RES.out]; unfold chooseV; rw [if_pos CRZ.out, HS.out, if_neg h0])
   clear h0
   have p1 : w6.cell? ⟨g6, 1, none⟩ = some (.slice b2 y2.length l2) := (za (zh K6.out HB.out) 1).trans rfl
   have LEN := am_ (show lv.length = y2.length ∧ y2.length ≤ 256 by have h1 := CHK.out.1; have h2 := CHK.out.2.1; omega)
   go_wp2_with fail
   clear p1
   go_loopg [11, 35] y2.length (fun m v11 v35 wr => ∃ (n : Nat) (l : List Sco) (B : Option Addr) (d : Nat), v11 = .slice B l.length d ∧ v35 = .int .i64 (n : Int) ∧ Aside0 (n + m = y2.length) ∧ Aside0 (So wr w3.heap.size (.slice B l.length d) l) ∧ Aside0 (l.length ≤ n ∧ Up l ∧ sp l = zbg y2 lv n ∧ (∀ y, y ∈ l → y.s < (n : Int)) ∧ ((y2.take n).all fun us => us.all fo) = true) ∧ Aside0 (Below w3.heap.size w3 wr))
   case atStart => exact ⟨0, [], none, 0, rfl, rfl, ⟨by omega⟩, ⟨So.nil _ _⟩, ⟨Nat.le_refl 0, Up.nil, rfl, (fun y hy => by simp at hy), rfl⟩, HB⟩
   case round =>
    obtain ⟨n, l, B, d, rfl, rfl, hm, SO, HI, HB⟩ := hrel
    by_cases hx : n < y2.length
    ·have HX := am_ hx
     have x1 := eq_true hx
     have x2 := eq_true (show (n : Int) < (y2.length : Int) by omega)
     have x3 := eq_true (show (0 : Int) ≤ (n : Int) by omega)
     have x4 := eq_true (show n < lv.length by have := LEN.out; omega)
     have x5 := eq_true (show (n : Int) < (lv.length : Int) by have := LEN.out; omega)
     obtain ⟨ag, Ak, ck, eag, hcg0, _, hrk⟩ := at_kff RG.out n hx
     cases eag
     have hcg := zu HB.out hcg0
     have HRK := am_ hrk
     have FIT := am_ (CHK.out.2.2.2 n (by have := LEN.out; omega))
     obtain ⟨al, eal, hcl⟩ := Kd.z8 R0.out.row (n : Int) (by omega) (by have := LEN.out; omega)
     cases eal
     rw [Int.toNat_natCast] at hcl
     have HCL := am_ hcl
     have HUS := am_ (HG.out _ (List.mem_of_getElem? (rdl_get hx)))
     have HCOL := am_ (show zbg y2 lv (n + 1) = zbg y2 lv n ++ [((n : Int), zbc (rdl y2 n) (rd lv (n : Int)) (rdl y2 n).length)] from rfl)
     have HAL := am_ (fun h => alll_step (f := fun us => us.all fo) HI.out.2.2.2.2 hx h)
     have HNO := am_ (fun h => alll_not (f := fun us => us.all fo) hx h)
     clear hx hrk hcg0 hcl
     generalize rdl y2 n = us at *
     generalize rd lv (n : Int) = lev at *
     go_wp2_with fail
     refine (new_calls wr).mono ?_
     rintro e_ w7 ⟨b, rfl, hbs, hbk, hb3⟩
     have FAR := am_ (SO.out.far hbs)
     have LB := am_ (show w3.heap.size ≤ b by have := HB.out.size; omega)
     replace SO := am_ (SO.out.step hb3)
     replace HB := am_ (zb HB.out hb3)
     have KB := am_ (show w7.heap[b]? = some (.cells (zbb (accS us lev 0)) 124 (0, 0)) from hbk)
     clear hbs hbk hb3 hcg
     go_wp2_with fail
     go_loopg [43] us.length (fun m v43 wr => ∃ (i : Nat), v43 = .int .i64 (i : Int) ∧ Aside0 (i + m = us.length) ∧ Aside0 (wr.heap[b]? = some (.cells (zbb (accS us lev i)) 124 (0, 0))) ∧ Aside0 (So wr w3.heap.size (.slice B l.length d) l) ∧ Aside0 (Below w3.heap.size w3 wr))
     case atStart => exact ⟨0, rfl, ⟨by omega⟩, KB, SO, HB⟩
     case round =>
      obtain ⟨i, rfl, hmi, KI, SI, BI⟩ := hrel
      by_cases hx : i < us.length
      ·have HXI := am_ hx
       have i1 := eq_true hx
       have i2 := eq_true (show (i : Int) < (us.length : Int) by omega)
       have i3 := eq_true (show (0 : Int) ≤ (i : Int) by omega)
       obtain ⟨au, eau, hcu⟩ := at_kf (Kd.zB HRK.out BI.out) i hx
       cases eau
       have hux := wf_rdn HUS.out.1 i
       have STEP := am_ (fun m hm => accS_step us lev i m hx HUS.out.2 hm FIT.out.1 FIT.out.2.1)
       clear hx
       generalize rdn us i = u at *
       have hneg : ∀ W : World, (Op.unary .neg (.float .f64 u)).run Try.prog W = .ok (.float .f64 (nF u)) W := fun W => by rw [← neg_n u hux]; rfl
       obtain ⟨m, W1, hrun, hmx, hW⟩ := mx_run Try.prog #[95, 95] 95 u hux wr
       have MX := am_ hmx
       have BW := am_ (show Below wr.heap.size wr W1 by rcases hW with rfl | rfl; exact Below.refl _ _; exact zR (Below.refl _ _))
       have HRUN := am_ hrun
       clear hmx hW hrun hux
       have hlw : wrap64 (-lev) = -lev := w64 _ (by have := FIT.out.1; have := FIT.out.2.1; omega) (by have := FIT.out.1; have := FIT.out.2.1; omega)
       go_wp2_with (first
 | ((with_reducible refine zk (N := 51) rfl ?_); refine max_event rfl _ _ rfl rfl rfl HRUN.out ?_; have r0 : W1.cell? ⟨g7, 0, none⟩ = some (.slice (some al) lv.length c0) := (za (zh K7.out (zb BI.out BW.out)) 0).trans rfl; have hcl := zu (zb BI.out BW.out) HCL.out)
 | fail)
       refine (prod_calls W1 b (accS us lev i) m oneF (-lev) MX.out.1 (by decide) (accS_ok us lev i (by have := HUS.out.2; have := HXI.out; omega) FIT.out.1) (zh KI.out BW.out)).mono ?_
       rintro e_ w8 ⟨rfl, h8, g8⟩
       rw [STEP.out m MX.out] at h8
       have K8 := am_ h8
       replace SI := am_ ((SI.out.step BW.out).put FAR.out g8)
       replace BI := am_ ((zb BI.out BW.out).grown g8 (zb BI.out BW.out).size (fun k_ hk_ => by cases hk_; exact LB.out))
       clear h8 g8 hcu r0 hcl hlw hneg STEP
       go_wp2_with fail
       go_roundg (gk - 1)
       case measure => have := hmi.out; have := HXI.out; omega
       case rel => exact ⟨i + 1, by rw [w64 _ (by omega) (by have := HXI.out; have := HUS.out.2; omega)]; rfl, ⟨by have := hmi.out; have := HXI.out; omega⟩, K8, SI, BI⟩
      ·have i1 := eq_false hx
       have i2 := eq_false (show ¬ (i : Int) < (us.length : Int) by omega)
       obtain rfl : i = us.length := by have := hmi.out; omega
       clear hx hmi
       go_wp2_with fail
       refine (accbad_calls wr b _ KI.out).mono ?_
       rintro e_ w_ ⟨rfl, rfl⟩
       have EA := am_ (show accS us lev us.length = if us.all fo = true then some (zbc us lev us.length) else none by unfold accS; rw [List.take_length])
       cases hall : us.all fo
       ·have E2 := am_ (show accS us lev us.length = none by rw [EA.out, hall]; rfl)
        have HNN := am_ (HNO.out hall)
        rw [E2.out]
        clear hall
        go_wp2_with fail
        go_ret
        exact ⟨by rw [QS.out, HNN.out]; first | done | rfl, zb B3.out BI.out⟩
       ·have E2 := am_ (show accS us lev us.length = some (zbc us lev us.length) by rw [EA.out, hall]; rfl)
        have HAA := am_ (HAL.out hall)
        rw [E2.out]
        have XS := am_ (show Scb wr ⟨(n : Int), b, zbc us lev us.length⟩ from ⟨by have := KI.out; rwa [E2.out] at this, by have := accS_ok us lev us.length HUS.out.2 FIT.out.1; rwa [E2.out] at this⟩)
        clear hall
        have NN := am_ (sizeT_nn us lev us.length)
        have LL := am_ (show (l.length + 1) * 16 ≤ 140737488355328 ∧ l.length + 1 ≤ 17592186044416 by have := HI.out.1; have := HX.out; have := LEN.out; omega)
        generalize zbc us lev us.length = dv at *
        go_wp2_with (first
 | ((with_reducible refine zk (N := 67) rfl ?_); refine app_event (w := wr.alloc (.cells #[.int .i64 (n : Int), .pointer (some ⟨b, 0, none⟩)] 111)) (base := w3.heap.size) (t := 108) (e := 111) (v := .slice B l.length d) (news := [.int .i64 (n : Int), .pointer (some ⟨b, 0, none⟩)]) rfl _ _ rfl Try.underlying108 info111 rfl (by decide) rfl (SI.out.own.alloc _) rfl rfl (by decide) (World.news_of_block (cs := #[.int .i64 (n : Int), .pointer (some ⟨b, 0, none⟩)]) (heap_alloc_new _ _)) (by simp [Value.oneCell']) (Nat.le_trans LL.out.2 (by decide)) LL.out.1 (Nat.le_trans BI.out.size (by simp)) ?_; intro v9 w9 ho alt; have GA := World.grownBy.trans (World.grownBy_alloc wr (.cells #[.int .i64 (n : Int), .pointer (some ⟨b, 0, none⟩)] 111) _) (grow_any alt); obtain ⟨B2_, d2, rfl⟩ := own_form ho; have SN := am_ (SI.out.app ⟨(n : Int), b, dv⟩ XS.out ho GA); have BN := am_ (BI.out.grown GA BI.out.size (own_base SI.out.own)); clear GA alt ho)
 | fail)
        go_roundg (y2.length - n - 1)
        case measure => have := hm.out; have := HX.out; omega
        case rel =>
         refine ⟨n + 1, l ++ [⟨(n : Int), b, dv⟩], B2_, d2, by rw [List.length_append]; rfl, by rw [w64 _ (by omega) (by have := HX.out; have := LEN.out; omega)]; rfl, ⟨by have := hm.out; have := HX.out; omega⟩, ⟨by have h := SN.out; rwa [show l.length + 1 = (l ++ [(⟨(n : Int), b, dv⟩ : Sco)]).length by rw [List.length_append]; rfl] at h⟩, ⟨by rw [List.length_append]; have := HI.out.1; simp; omega, HI.out.2.1.app _ NN.out (fun y hy => HI.out.2.2.2.1 y hy), by rw [sp_app, HCOL.out, HI.out.2.2.1], fun y hy => ?_, HAA.out⟩, BN⟩
         rcases List.mem_append.1 hy with hy | hy
         ·have := HI.out.2.2.2.1 y hy; omega
         ·obtain rfl := List.mem_singleton.1 hy
          simp only; omega
    ·have x1 := eq_false hx
     have x2 := eq_false (show ¬ (n : Int) < (y2.length : Int) by omega)
     obtain rfl : n = y2.length := by have := hm.out; omega
     clear hx hm
     have QA := am_ (show (y2.all fun us => us.all fo) = true by have h := HI.out.2.2.2.2; rwa [List.take_length] at h)
     go_wp2_with fail
     have bc := best_calls B d l wr SO.out.read HI.out.2.1
     rw [HI.out.2.2.1] at bc
     refine bc.mono ?_
     clear bc
     rintro e_ w8 ⟨rfl, hb⟩
     replace HB := am_ (zb HB.out hb)
     clear hb
     generalize hq : (pk (zbg y2 lv y2.length)).1 = q
     have HQ := am_ hq
     clear hq
     go_wp2_with fail
     go_ret
     exact ⟨by rw [QS.out, if_pos QA.out, HQ.out]; first | done | rfl, zb B3.out HB.out⟩
 ·have hzb : (cr != 0) = true := by rw [bne_iff_ne]; exact hcz
  have QZ := am_ (show res = -1 by rw [← RES.out]; unfold chooseV; rw [if_neg (by rw [hcr]; exact hcz)])
  clear hcz hcr
  go_wp2_with fail
  go_ret
  exact ⟨by rw [QZ.out]; first | done | rfl, zb B3.out HB.out⟩
def dU : Kd (List Int) := Kd.slice 114 (Kd.int .u64)
theorem kus_take {uss : List (List Nat)} {x : Nat} (h : x < uss.length) : (uss.take (x + 1)).map ku = (uss.take x).map ku ++ [ku (rdl uss x)] := by
 rw [take_one uss x _ (rdl_get h), List.map_append]
 rfl
set_option maxRecDepth 100000 in
set_option maxHeartbeats 4000000 in
theorem bits50_calls (A : Option Addr) (c : Nat) (uss : List (List Nat)) (w : World) (hr : kff.C w A uss.length uss) (hn : uss.length * 24 ≤ 140737488355328) (hn2 : ∀ us, us ∈ uss → us.length * 8 ≤ 140737488355328) :
  Calls Try.prog 50 #[.slice A uss.length c] w fun e w' => ∃ v, e = .returned v ∧ Kd.R dU 66 w' w.heap.size (fun _ => True) v (uss.map ku) ∧ Below w.heap.size w w' := by
 have hu61 := Try.underlying61
 have hu67 := Try.underlying67
 have HR := am_ hr
 have HN := am_ hn
 have HN2 := am_ hn2
 clear hr hn hn2
 go_enter Try.func50, Try.ntmps50
 go_wp2_with fail
 go_loopg [3, 4] uss.length (fun m v3 v4 wr => ∃ (x : Nat), v4 = .int .i64 (x : Int) ∧ Aside0 (x + m = uss.length) ∧ Aside0 (Kd.R dU 66 wr w.heap.size (fun _ => True) v3 ((uss.take x).map ku)) ∧ Aside0 (Below w.heap.size w wr))
 case atStart => exact ⟨0, rfl, ⟨by omega⟩, ⟨Kd.zaY _ _ _ _ _⟩, ⟨Below.refl _ _⟩⟩
 case round =>
  obtain ⟨x, rfl, hm, RR, HB⟩ := hrel
  obtain ⟨B, d, rfl⟩ := Kd.zY RR.out
  by_cases hx : x < uss.length
  ·have HX := am_ hx
   have p1 := eq_true hx
   have p2 := eq_true (show (x : Int) < (uss.length : Int) by omega)
   have p3 := eq_true (show (0 : Int) ≤ (x : Int) by omega)
   have p4 := decide_eq_true (show (x : Int) < (uss.length : Int) by omega)
   obtain ⟨ad, Ak, ck, ead, hc0, _, hrk⟩ := at_kff (Kd.zB HR.out HB.out) x hx
   cases ead
   have HRK := am_ hrk
   have HUL := am_ (HN2.out _ (List.mem_of_getElem? (rdl_get hx)))
   have HT := am_ (kus_take hx)
   clear hx hrk
   generalize rdl uss x = us at *
   have LX := am_ (show ((uss.take x).map ku).length = x by rw [List.length_map, List.length_take]; have := HX.out; omega)
   generalize (uss.take x).map ku = xs at *
   go_wp2_with fail
   refine (bits49_calls Ak ck us wr HRK.out HUL.out).mono ?_
   rintro e_ w2 ⟨B2, d2, rfl, hr2, hb2⟩
   have M2 := am_ (show dU.M w2 w.heap.size (fun k => True ∧ some k ≠ (Value.slice B xs.length d).ownBlock) (ku us) [.slice B2 us.length d2] from ⟨_, rfl, Kd.zag (Kd.R_new hr2 (Kd.R_own RR.out).choose_spec) HB.out.size⟩)
   replace RR := am_ (Kd.zI RR.out hb2)
   replace HB := am_ (zb HB.out hb2)
   clear hb2 hr2
   go_wp2_with (first
 | ((with_reducible refine zk (N := 18) rfl ?_); refine Kd.R_append dU (W := w2) (w0 := w) w.heap.size rfl _ _ 67 66 (.slice none 0 0) 24 rfl Try.underlying67 info66 rfl (by decide) (by decide) (.slice B xs.length d) xs (ku us) [.slice B2 us.length d2] (fun _ => True) _ rfl rfl M2.out (fun _ hk => hk) (fun _ _ => trivial) RR.out HB.out HB.out.size (by rw [LX.out]; have := HX.out; have := HN.out; omega) ?_; intro v1 w3 hr3 hb3 _ _; have R3 := am_ hr3; have B3 := am_ hb3; clear hr3 hb3)
 | fail)
   go_roundg (gk - 1)
   case measure => have := hm.out; have := HX.out; omega
   case rel => exact ⟨x + 1, by first | rfl | (rw [w64 _ (by omega) (by have := HX.out; have := HN.out; omega)]; rfl), ⟨by have := hm.out; have := HX.out; omega⟩, ⟨by rw [HT.out]; exact R3.out⟩, B3⟩
  ·have p1 := eq_false hx
   have p2 := eq_false (show ¬ (x : Int) < (uss.length : Int) by omega)
   have p4 := decide_eq_false (show ¬ (x : Int) < (uss.length : Int) by omega)
   have hr := RR.out
   have RZ := am_ (show ∃ v, v = .slice B ((uss.take x).map ku).length d ∧ Kd.R dU 66 wr w.heap.size (fun _ => True) v (uss.map ku) from ⟨_, rfl, by have h := RR.out; rw [List.take_of_length_le (show uss.length ≤ x by omega)] at h ⊢; exact h⟩)
   obtain ⟨v, ev, rv⟩ := RZ.out
   have RV := am_ rv
   have EV := am_ ev
   clear hx hm RR hr rv ev
   go_wp2_with fail
   go_ret
   exact ⟨v, by rw [EV.out]; first | done | rfl | (simp; done), RV.out, HB.out⟩
theorem info74 : (Try.prog.info? 74).map (·.size) = some 6 := by kernel_rfl
theorem info22c : (Try.prog.info? 3).map (fun i => (i.zero, i.size, i.bytes)) = some (some (.int .i64 0), 1, 8) := by kernel_rfl
theorem r_put {α : Type} {d : Kd α} {e base : Nat} {ok : Nat → Prop} {w w1 : World} {v : Value} {xs : List α} (h : d.R e w base ok v xs) {g t : Nat} {cells : Array Value} (hb : w.heap[g]? = some (.cells cells t (0, 0))) (ht : ∀ q, q ∈ e :: d.E → q ≠ t) (hg : w.grownBy w1 (some g)) : d.R e w1 base ok v xs :=
 Kd.zS (Kd.R_grown (Kd.zar h hb ht) hg (fun k hk e => hk.2 (Option.some.inj e))) (fun _ hk => hk.1)
/-- The document's zonotope: where its lists lie. -/
def uc (z : Zn) (h : Zh) : Array Value := #[.int .i64 z.N, .slice h.a1 (ku z.C).length h.c1, .slice h.a2 z.ids.length h.c2, .slice h.a3 (z.G.map ku).length h.c3, .slice h.a4 (ku z.R).length h.c4, .bool z.bad]
structure Ur (w : World) (z : Zn) (h : Zh) : Prop where
 r1 : Kd.C (Kd.int .u64) w h.a1 (ku z.C).length (ku z.C)
 k1 : (ku z.C).length ≤ h.c1
 r2 : Rd w h.a2 h.c2 z.ids
 r3 : dU.C w h.a3 (z.G.map ku).length (z.G.map ku)
 r4 : Kd.C (Kd.int .u64) w h.a4 (ku z.R).length (ku z.R)
 k4 : (ku z.R).length ≤ h.c4
theorem Ur.step {w w' : World} {z : Zn} {h : Zh} (r : Ur w z h) (hb : Below w.heap.size w w') : Ur w' z h := ⟨Kd.zB r.r1 hb, r.k1, r.r2.step hb, Kd.zB r.r3 hb, Kd.zB r.r4 hb, r.k4⟩
/-- The lists are no longer than any machine's. -/
structure Zs (z : Zn) : Prop where
 C : z.C.length * 8 ≤ 140737488355328
 I : z.ids.length * 8 ≤ 140737488355328
 G : z.G.length * 24 ≤ 140737488355328
 U : ∀ us, us ∈ z.G → us.length * 8 ≤ 140737488355328
 R : z.R.length * 8 ≤ 140737488355328
def rof.T1 : Bool × List (List Nat × List Nat) := (true, [([], []), ([0], [0]), ([], []), ([2], [2]), ([3], [3]), ([], []), ([5], [5]), ([6, 4], [6]), ([], []), ([8], [8]), ([1, 4, 7, 9], [1, 4, 7, 9]), ([], []), ([11, 10, 7, 0, 1, 2, 3, 4, 5, 6, 7, 8, 9, 10, 11], [10, 11])])
def rof.B1 : List Nat := [0, 1, 0, 4, 12, 0, 32, 124, 0, 256, 1023, 0, 4095]
theorem rof.tab1 : rtab .any (opsOf Try.f31 1) = rof.T1 := by kernel_rfl
theorem rof.bits1 : zat rof.T1.2 rof.B1 = true := by kernel_rfl
def rof.T6 : Bool × List (List Nat × List Nat) := (true, [([], []), ([0], [0]), ([], []), ([2], [2]), ([], []), ([3, 4], [3, 4]), ([5], [5]), ([6], [6]), ([7], [7]), ([1, 8, 7], [1, 8]), ([0, 1, 2, 3, 4, 5, 6, 7, 8, 9], []), ([10, 9, 9, 0, 1, 2, 3, 4, 5, 6, 7, 8, 9], [9, 10])])
def rof.B6 : List Nat := [0, 1, 0, 4, 0, 28, 60, 124, 252, 511, 1023, 2047]
theorem rof.tab6 : rtab .any (opsOf Try.f31 6) = rof.T6 := by kernel_rfl
theorem rof.bits6 : zat rof.T6.2 rof.B6 = true := by kernel_rfl
set_option maxRecDepth 100000 in
set_option maxHeartbeats 4000000 in
theorem of_calls (z : Zn) (h : Zh) (w : World) (hr : Zr w z h) (hs : Zs z) :
  Calls Try.prog 31 #[.agg (zc z h)] w fun e w' => ∃ q, e = .returned (.agg (uc z q)) ∧ Ur w' z q ∧ Below w.heap.size w w' := by
 obtain ⟨z1, z2, z3, z4, z5, z6⟩ := z
 obtain ⟨a1, k1, a2, k2, a3, k3, a4, k4⟩ := h
 have hu63 := Try.underlying63
 have hu74 := Try.underlying74
 have HR := am_ hr
 have HS := am_ hs
 clear hr hs
 have hv : zc ⟨z1, z2, z3, z4, z5, z6⟩ ⟨a1, k1, a2, k2, a3, k3, a4, k4⟩ = #[.int .i64 z1, .slice a1 z2.length k1, .slice a2 z3.length k2, .slice a3 z4.length k3, .slice a4 z5.length k4, .bool z6] := rfl
 rw [hv]
 clear hv
 have Q1 := am_ HR.out.r1
 have Q2 := am_ HR.out.r2
 have Q3 := am_ HR.out.r3
 have Q4 := am_ HR.out.r4
 replace Q1 := am_ (show kf.C w a1 z2.length z2 from Q1.out)
 replace Q2 := am_ (show Rd w a2 k2 z3 from Q2.out)
 replace Q3 := am_ (show kff.C w a3 z4.length z4 from Q3.out)
 replace Q4 := am_ (show kf.C w a4 z5.length z5 from Q4.out)
 have S1 := am_ (show z2.length * 8 ≤ 140737488355328 from HS.out.C)
 have S2 := am_ (show z3.length * 8 ≤ 140737488355328 from HS.out.I)
 have S3 := am_ (show z4.length * 24 ≤ 140737488355328 from HS.out.G)
 have S4 := am_ (show z5.length * 8 ≤ 140737488355328 from HS.out.R)
 have S5 := am_ (show ∀ us, us ∈ z4 → us.length * 8 ≤ 140737488355328 from HS.out.U)
 clear HR HS
 go_enter Try.func31, Try.ntmps31
 go_wp2_with (first
  | ((with_reducible refine zk (N := 1) rfl ?_); refine zaq 1 (cs := #[.int .i64 z1, .slice a1 z2.length k1, .slice a2 z3.length k2, .slice a3 z4.length k3, .slice a4 z5.length k4, .bool z6]) (t := 63) ?_; intro g1 hg_ w1 hw_ hb_; have HB := am_ hb_; have K1 := am_ hw_; have L1 := am_ (show w.heap.size ≤ g1 by omega); clear hg_ hw_ hb_)
  | ((with_reducible refine zk (N := 2) rfl ?_); refine zaq 2 (cs := #[.int .i64 0, .slice none 0 0, .slice none 0 0, .slice none 0 0, .slice none 0 0, .bool false]) (t := 74) ?_; intro g2 hg_ w2 hw_ hb_; have N12 := am_ (show g1 ≠ g2 by have := zaa K1.out; omega); have L2 := am_ (show w.heap.size ≤ g2 by have := HB.out.size; omega); replace HB := am_ (zb HB.out hb_); replace K1 := am_ (zh K1.out hb_); have K2 := am_ hw_; clear hg_ hw_ hb_; have c0 : w2.cell? ⟨g1, 0, none⟩ = some (.int .i64 z1) := (za K1.out 0).trans rfl; have c1 : w2.cell? ⟨g1, 1, none⟩ = some (.slice a1 z2.length k1) := (za K1.out 1).trans rfl; have c2 : w2.cell? ⟨g1, 2, none⟩ = some (.slice a2 z3.length k2) := (za K1.out 2).trans rfl; have c3 : w2.cell? ⟨g1, 3, none⟩ = some (.slice a3 z4.length k3) := (za K1.out 3).trans rfl; have c4 : w2.cell? ⟨g1, 4, none⟩ = some (.slice a4 z5.length k4) := (za K1.out 4).trans rfl; have c5 : w2.cell? ⟨g1, 5, none⟩ = some (.bool z6) := (za K1.out 5).trans rfl)
  | fail)
 have hb_ : Below w2.heap.size w2 w2.drew := zR (Below.refl _ _)
 replace HB := am_ (show Below w.heap.size w w2.drew from zb HB.out hb_)
 replace K1 := am_ (show w2.drew.heap[g1]? = some (.cells #[.int .i64 z1, .slice a1 z2.length k1, .slice a2 z3.length k2, .slice a3 z4.length k3, .slice a4 z5.length k4, .bool z6] 63 (0, 0)) from zh K1.out hb_)
 replace K2 := am_ (show w2.drew.heap[g2]? = some (.cells #[.int .i64 0, .slice none 0 0, .slice none 0 0, .slice none 0 0, .slice none 0 0, .bool false] 74 (0, 0)) from zh K2.out hb_)
 clear hb_ c0 c1 c2 c3 c4 c5
 refine zay (n := 13) (S := fun w' => w'.cell? ⟨g1, 0, none⟩ = some (.int .i64 z1) ∧ w'.cell? ⟨g1, 1, none⟩ = some (.slice a1 z2.length k1) ∧ w'.cell? ⟨g1, 2, none⟩ = some (.slice a2 z3.length k2) ∧ w'.cell? ⟨g1, 3, none⟩ = some (.slice a3 z4.length k3) ∧ w'.cell? ⟨g1, 4, none⟩ = some (.slice a4 z5.length k4) ∧ w'.cell? ⟨g1, 5, none⟩ = some (.bool z6)) (ds := [12]) (bl_ 13 0) (by kernel_rfl) rfl rfl ⟨(za K1.out 0).trans rfl, (za K1.out 1).trans rfl, (za K1.out 2).trans rfl, (za K1.out 3).trans rfl, (za K1.out 4).trans rfl, (za K1.out 5).trans rfl⟩ (fun hHeld => ?_); refine zT rof.tab1 rof.bits1 (fun HT_ HW_ => ?_)
 generalize w2.drew = v0 at HB K1 K2 hHeld ⊢
 refine pu_ HT_ 0 5 (bl_ 13 1) ?_
 refine pu_ HT_ 2 7 (bl_ 13 5) ?_
 refine pu_ HT_ 5 10 (bl_ 13 37) ?_
 refine pu_ HT_ 8 13 (bl_ 13 293) ?_
 refine tk_ HT_ HW_ hHeld 1 6 (bl_ 13 295) ?_
 refine tk_ HT_ HW_ hHeld 3 8 (bl_ 13 303) ?_
 refine tk_ HT_ HW_ hHeld 6 11 (bl_ 13 367) ?_
 refine tk_ HT_ HW_ hHeld 9 14 (bl_ 13 879) ?_
 refine join_ (σ := Option Addr × Nat × Option Addr × Nat × Nat) 1 (bl_ 13 4095) (fun s_ => [(9, .slice s_.1 z2.length s_.2.1), (12, .slice s_.2.2.1 z5.length s_.2.2.2.1), (15, .agg #[.int .i64 z1, .slice s_.1 z2.length s_.2.1, .slice none 0 0, .slice none 0 0, .slice s_.2.2.1 z5.length s_.2.2.2.1, .bool z6]), (3, .pointer (some ⟨s_.2.2.2.2, 0, none⟩))]) (fun s_ w' => (w'.cell? ⟨g1, 0, none⟩ = some (.int .i64 z1) ∧ w'.cell? ⟨g1, 1, none⟩ = some (.slice a1 z2.length k1) ∧ w'.cell? ⟨g1, 2, none⟩ = some (.slice a2 z3.length k2) ∧ w'.cell? ⟨g1, 3, none⟩ = some (.slice a3 z4.length k3) ∧ w'.cell? ⟨g1, 4, none⟩ = some (.slice a4 z5.length k4) ∧ w'.cell? ⟨g1, 5, none⟩ = some (.bool z6)) ∧ (Below w.heap.size w w') ∧ (w'.heap[g1]? = some (.cells #[.int .i64 z1, .slice a1 z2.length k1, .slice a2 z3.length k2, .slice a3 z4.length k3, .slice a4 z5.length k4, .bool z6] 63 (0, 0))) ∧ (w'.heap[g2]? = some (.cells #[.int .i64 0, .slice none 0 0, .slice none 0 0, .slice none 0 0, .slice none 0 0, .bool false] 74 (0, 0))) ∧ (w'.heap[s_.2.2.2.2]? = some (.cells #[.int .i64 0, .slice none 0 0, .slice none 0 0, .slice none 0 0, .slice none 0 0, .bool false] 74 (0, 0))) ∧ (w.heap.size ≤ s_.2.2.2.2) ∧ (g1 ≠ s_.2.2.2.2 ∧ g2 ≠ s_.2.2.2.2) ∧ (Kd.R (Kd.int .u64) 114 w' w.heap.size (fun _ => True) (.slice s_.1 z2.length s_.2.1) (ku z2)) ∧ (Kd.R (Kd.int .u64) 114 w' w.heap.size (fun _ => True) (.slice s_.2.2.1 z5.length s_.2.2.2.1) (ku z5))) ?_ ?_
 rotate_left
 ·intro hJ
  refine two_ (i := 4) (j := 11) (Ni := some 9) (Nj := some 3) (bl_ 13 895) (bl_ 13 2927) rfl rfl rfl rfl (two_of HT_.out (by kernel_rfl)) (by decide) (by decide) (fun K hK => ?_) (fun K hK => ?_)
  ·skip
   refine goes_ Try.func32 (by kernel_rfl) rfl #[.slice a1 z2.length k1] (by rfl) rfl rfl (by (try simp only [List.map_toArray, List.map_cons, List.map_nil]); first | done | rfl) ?_
   refine (za0 a1 k1 z2 v0 (Kd.zB Q1.out HB.out) S1.out).mono ?_
   rintro e_ v1 ⟨B_c, d_c, rfl, hr_, hb_⟩
   refine ⟨_, rfl, ?_⟩
   have R_c := am_ (show Kd.R (Kd.int .u64) 114 v1 w.heap.size (fun _ => True) (.slice B_c z2.length d_c) (ku z2) from Kd.zag hr_ HB.out.size)
   replace HB := am_ (show Below w.heap.size w v1 from zb HB.out hb_)
   replace K1 := am_ (show v1.heap[g1]? = some (.cells #[.int .i64 z1, .slice a1 z2.length k1, .slice a2 z3.length k2, .slice a3 z4.length k3, .slice a4 z5.length k4, .bool z6] 63 (0, 0)) from zh K1.out hb_)
   replace K2 := am_ (show v1.heap[g2]? = some (.cells #[.int .i64 0, .slice none 0 0, .slice none 0 0, .slice none 0 0, .slice none 0 0, .bool false] 74 (0, 0)) from zh K2.out hb_)
   clear hr_ hb_
   refine hK.out _ _ ⟨(za K1.out 0).trans rfl, (za K1.out 1).trans rfl, (za K1.out 2).trans rfl, (za K1.out 3).trans rfl, (za K1.out 4).trans rfl, (za K1.out 5).trans rfl⟩ (fun hHeld => ?_); clear hK K
   refine nm_ ?_
   refine two_ (i := 7) (j := 11) (Ni := some 12) (Nj := some 3) (bl_ 13 1023) (bl_ 13 2943) rfl rfl rfl rfl (two_of HT_.out (by kernel_rfl)) (by decide) (by decide) (fun K hK => ?_) (fun K hK => ?_)
   ·skip
    refine goes_ Try.func32 (by kernel_rfl) rfl #[.slice a4 z5.length k4] (by rfl) rfl rfl (by (try simp only [List.map_toArray, List.map_cons, List.map_nil]); first | done | rfl) ?_
    refine (za0 a4 k4 z5 v1 (Kd.zB Q4.out HB.out) S4.out).mono ?_
    rintro e_ v2 ⟨B_r, d_r, rfl, hr_, hb_⟩
    refine ⟨_, rfl, ?_⟩
    have R_r := am_ (show Kd.R (Kd.int .u64) 114 v2 w.heap.size (fun _ => True) (.slice B_r z5.length d_r) (ku z5) from Kd.zag hr_ HB.out.size)
    replace HB := am_ (show Below w.heap.size w v2 from zb HB.out hb_)
    replace K1 := am_ (show v2.heap[g1]? = some (.cells #[.int .i64 z1, .slice a1 z2.length k1, .slice a2 z3.length k2, .slice a3 z4.length k3, .slice a4 z5.length k4, .bool z6] 63 (0, 0)) from zh K1.out hb_)
    replace K2 := am_ (show v2.heap[g2]? = some (.cells #[.int .i64 0, .slice none 0 0, .slice none 0 0, .slice none 0 0, .slice none 0 0, .bool false] 74 (0, 0)) from zh K2.out hb_)
    replace R_c := am_ (show Kd.R (Kd.int .u64) 114 v2 w.heap.size (fun _ => True) (.slice B_c z2.length d_c) (ku z2) from Kd.zI R_c.out hb_)
    clear hr_ hb_
    refine hK.out _ _ ⟨(za K1.out 0).trans rfl, (za K1.out 1).trans rfl, (za K1.out 2).trans rfl, (za K1.out 3).trans rfl, (za K1.out 4).trans rfl, (za K1.out 5).trans rfl⟩ (fun hHeld => ?_); clear hK K
    refine nm_ ?_
    refine pu_ HT_ 10 15 (bl_ 13 2047) ?_
    refine on_ HT_ 11 (some 3) (bl_ 13 4095) fun K hK => ?_
    refine box_step ?hg (N := 3) ?hd (cs := #[.int .i64 0, .slice none 0 0, .slice none 0 0, .slice none 0 0, .slice none 0 0, .bool false]) (t := 74) ?hr ?_; (case hd => rfl); (case hg => rfl); (case hr => first | (go_simp; done) | (go_simp; rfl))
    intro g3 hg_ v3 hw_ hb_
    have L3 := am_ (show w.heap.size ≤ g3 by have := HB.out.size; omega)
    have N3 := am_ (show g1 ≠ g3 ∧ g2 ≠ g3 by have := zaa K1.out; have := zaa K2.out; omega)
    replace HB := am_ (show Below w.heap.size w v3 from zb HB.out hb_)
    replace K1 := am_ (show v3.heap[g1]? = some (.cells #[.int .i64 z1, .slice a1 z2.length k1, .slice a2 z3.length k2, .slice a3 z4.length k3, .slice a4 z5.length k4, .bool z6] 63 (0, 0)) from zh K1.out hb_)
    replace K2 := am_ (show v3.heap[g2]? = some (.cells #[.int .i64 0, .slice none 0 0, .slice none 0 0, .slice none 0 0, .slice none 0 0, .bool false] 74 (0, 0)) from zh K2.out hb_)
    replace R_c := am_ (show Kd.R (Kd.int .u64) 114 v3 w.heap.size (fun _ => True) (.slice B_c z2.length d_c) (ku z2) from Kd.zI R_c.out hb_)
    replace R_r := am_ (show Kd.R (Kd.int .u64) 114 v3 w.heap.size (fun _ => True) (.slice B_r z5.length d_r) (ku z5) from Kd.zI R_r.out hb_)
    have K3 := am_ hw_
    clear hg_ hw_ hb_
    refine hK.out _ _ ⟨(za K1.out 0).trans rfl, (za K1.out 1).trans rfl, (za K1.out 2).trans rfl, (za K1.out 3).trans rfl, (za K1.out 4).trans rfl, (za K1.out 5).trans rfl⟩ (fun hHeld => ?_); clear hK K
    refine nm_ ?_
    exact np_ (hJ (B_c, d_c, B_r, d_r, g3) _ ⟨hHeld, HB.out, K1.out, K2.out, K3.out, L3.out, N3.out, R_c.out, R_r.out⟩)
   ·skip
    refine box_step ?hg (N := 3) ?hd (cs := #[.int .i64 0, .slice none 0 0, .slice none 0 0, .slice none 0 0, .slice none 0 0, .bool false]) (t := 74) ?hr ?_; (case hd => rfl); (case hg => rfl); (case hr => first | (go_simp; done) | (go_simp; rfl))
    intro g3 hg_ v2 hw_ hb_
    have L3 := am_ (show w.heap.size ≤ g3 by have := HB.out.size; omega)
    have N3 := am_ (show g1 ≠ g3 ∧ g2 ≠ g3 by have := zaa K1.out; have := zaa K2.out; omega)
    replace HB := am_ (show Below w.heap.size w v2 from zb HB.out hb_)
    replace K1 := am_ (show v2.heap[g1]? = some (.cells #[.int .i64 z1, .slice a1 z2.length k1, .slice a2 z3.length k2, .slice a3 z4.length k3, .slice a4 z5.length k4, .bool z6] 63 (0, 0)) from zh K1.out hb_)
    replace K2 := am_ (show v2.heap[g2]? = some (.cells #[.int .i64 0, .slice none 0 0, .slice none 0 0, .slice none 0 0, .slice none 0 0, .bool false] 74 (0, 0)) from zh K2.out hb_)
    replace R_c := am_ (show Kd.R (Kd.int .u64) 114 v2 w.heap.size (fun _ => True) (.slice B_c z2.length d_c) (ku z2) from Kd.zI R_c.out hb_)
    have K3 := am_ hw_
    clear hg_ hw_ hb_
    refine hK.out _ _ ⟨(za K1.out 0).trans rfl, (za K1.out 1).trans rfl, (za K1.out 2).trans rfl, (za K1.out 3).trans rfl, (za K1.out 4).trans rfl, (za K1.out 5).trans rfl⟩ (fun hHeld => ?_); clear hK K
    refine nm_ ?_
    refine on_ HT_ 7 (some 12) (bl_ 13 3071) fun K hK => ?_
    refine goes_ Try.func32 (by kernel_rfl) rfl #[.slice a4 z5.length k4] (by rfl) rfl rfl (by (try simp only [List.map_toArray, List.map_cons, List.map_nil]); first | done | rfl) ?_
    refine (za0 a4 k4 z5 v2 (Kd.zB Q4.out HB.out) S4.out).mono ?_
    rintro e_ v3 ⟨B_r, d_r, rfl, hr_, hb_⟩
    refine ⟨_, rfl, ?_⟩
    have R_r := am_ (show Kd.R (Kd.int .u64) 114 v3 w.heap.size (fun _ => True) (.slice B_r z5.length d_r) (ku z5) from Kd.zag hr_ HB.out.size)
    replace HB := am_ (show Below w.heap.size w v3 from zb HB.out hb_)
    replace K1 := am_ (show v3.heap[g1]? = some (.cells #[.int .i64 z1, .slice a1 z2.length k1, .slice a2 z3.length k2, .slice a3 z4.length k3, .slice a4 z5.length k4, .bool z6] 63 (0, 0)) from zh K1.out hb_)
    replace K2 := am_ (show v3.heap[g2]? = some (.cells #[.int .i64 0, .slice none 0 0, .slice none 0 0, .slice none 0 0, .slice none 0 0, .bool false] 74 (0, 0)) from zh K2.out hb_)
    replace R_c := am_ (show Kd.R (Kd.int .u64) 114 v3 w.heap.size (fun _ => True) (.slice B_c z2.length d_c) (ku z2) from Kd.zI R_c.out hb_)
    replace K3 := am_ (show v3.heap[g3]? = some (.cells #[.int .i64 0, .slice none 0 0, .slice none 0 0, .slice none 0 0, .slice none 0 0, .bool false] 74 (0, 0)) from zh K3.out hb_)
    replace L3 := am_ (show w.heap.size ≤ g3 from L3.out)
    replace N3 := am_ (show g1 ≠ g3 ∧ g2 ≠ g3 from N3.out)
    clear hr_ hb_
    refine hK.out _ _ ⟨(za K1.out 0).trans rfl, (za K1.out 1).trans rfl, (za K1.out 2).trans rfl, (za K1.out 3).trans rfl, (za K1.out 4).trans rfl, (za K1.out 5).trans rfl⟩ (fun hHeld => ?_); clear hK K
    refine nm_ ?_
    refine pu_ HT_ 10 15 (bl_ 13 4095) ?_
    exact np_ (hJ (B_c, d_c, B_r, d_r, g3) _ ⟨hHeld, HB.out, K1.out, K2.out, K3.out, L3.out, N3.out, R_c.out, R_r.out⟩)
  ·skip
   refine box_step ?hg (N := 3) ?hd (cs := #[.int .i64 0, .slice none 0 0, .slice none 0 0, .slice none 0 0, .slice none 0 0, .bool false]) (t := 74) ?hr ?_; (case hd => rfl); (case hg => rfl); (case hr => first | (go_simp; done) | (go_simp; rfl))
   intro g3 hg_ v1 hw_ hb_
   have L3 := am_ (show w.heap.size ≤ g3 by have := HB.out.size; omega)
   have N3 := am_ (show g1 ≠ g3 ∧ g2 ≠ g3 by have := zaa K1.out; have := zaa K2.out; omega)
   replace HB := am_ (show Below w.heap.size w v1 from zb HB.out hb_)
   replace K1 := am_ (show v1.heap[g1]? = some (.cells #[.int .i64 z1, .slice a1 z2.length k1, .slice a2 z3.length k2, .slice a3 z4.length k3, .slice a4 z5.length k4, .bool z6] 63 (0, 0)) from zh K1.out hb_)
   replace K2 := am_ (show v1.heap[g2]? = some (.cells #[.int .i64 0, .slice none 0 0, .slice none 0 0, .slice none 0 0, .slice none 0 0, .bool false] 74 (0, 0)) from zh K2.out hb_)
   have K3 := am_ hw_
   clear hg_ hw_ hb_
   refine hK.out _ _ ⟨(za K1.out 0).trans rfl, (za K1.out 1).trans rfl, (za K1.out 2).trans rfl, (za K1.out 3).trans rfl, (za K1.out 4).trans rfl, (za K1.out 5).trans rfl⟩ (fun hHeld => ?_); clear hK K
   refine nm_ ?_
   refine on_ HT_ 4 (some 9) (bl_ 13 2943) fun K hK => ?_
   refine goes_ Try.func32 (by kernel_rfl) rfl #[.slice a1 z2.length k1] (by rfl) rfl rfl (by (try simp only [List.map_toArray, List.map_cons, List.map_nil]); first | done | rfl) ?_
   refine (za0 a1 k1 z2 v1 (Kd.zB Q1.out HB.out) S1.out).mono ?_
   rintro e_ v2 ⟨B_c, d_c, rfl, hr_, hb_⟩
   refine ⟨_, rfl, ?_⟩
   have R_c := am_ (show Kd.R (Kd.int .u64) 114 v2 w.heap.size (fun _ => True) (.slice B_c z2.length d_c) (ku z2) from Kd.zag hr_ HB.out.size)
   replace HB := am_ (show Below w.heap.size w v2 from zb HB.out hb_)
   replace K1 := am_ (show v2.heap[g1]? = some (.cells #[.int .i64 z1, .slice a1 z2.length k1, .slice a2 z3.length k2, .slice a3 z4.length k3, .slice a4 z5.length k4, .bool z6] 63 (0, 0)) from zh K1.out hb_)
   replace K2 := am_ (show v2.heap[g2]? = some (.cells #[.int .i64 0, .slice none 0 0, .slice none 0 0, .slice none 0 0, .slice none 0 0, .bool false] 74 (0, 0)) from zh K2.out hb_)
   replace K3 := am_ (show v2.heap[g3]? = some (.cells #[.int .i64 0, .slice none 0 0, .slice none 0 0, .slice none 0 0, .slice none 0 0, .bool false] 74 (0, 0)) from zh K3.out hb_)
   replace L3 := am_ (show w.heap.size ≤ g3 from L3.out)
   replace N3 := am_ (show g1 ≠ g3 ∧ g2 ≠ g3 from N3.out)
   clear hr_ hb_
   refine hK.out _ _ ⟨(za K1.out 0).trans rfl, (za K1.out 1).trans rfl, (za K1.out 2).trans rfl, (za K1.out 3).trans rfl, (za K1.out 4).trans rfl, (za K1.out 5).trans rfl⟩ (fun hHeld => ?_); clear hK K
   refine nm_ ?_
   refine on_ HT_ 7 (some 12) (bl_ 13 3071) fun K hK => ?_
   refine goes_ Try.func32 (by kernel_rfl) rfl #[.slice a4 z5.length k4] (by rfl) rfl rfl (by (try simp only [List.map_toArray, List.map_cons, List.map_nil]); first | done | rfl) ?_
   refine (za0 a4 k4 z5 v2 (Kd.zB Q4.out HB.out) S4.out).mono ?_
   rintro e_ v3 ⟨B_r, d_r, rfl, hr_, hb_⟩
   refine ⟨_, rfl, ?_⟩
   have R_r := am_ (show Kd.R (Kd.int .u64) 114 v3 w.heap.size (fun _ => True) (.slice B_r z5.length d_r) (ku z5) from Kd.zag hr_ HB.out.size)
   replace HB := am_ (show Below w.heap.size w v3 from zb HB.out hb_)
   replace K1 := am_ (show v3.heap[g1]? = some (.cells #[.int .i64 z1, .slice a1 z2.length k1, .slice a2 z3.length k2, .slice a3 z4.length k3, .slice a4 z5.length k4, .bool z6] 63 (0, 0)) from zh K1.out hb_)
   replace K2 := am_ (show v3.heap[g2]? = some (.cells #[.int .i64 0, .slice none 0 0, .slice none 0 0, .slice none 0 0, .slice none 0 0, .bool false] 74 (0, 0)) from zh K2.out hb_)
   replace K3 := am_ (show v3.heap[g3]? = some (.cells #[.int .i64 0, .slice none 0 0, .slice none 0 0, .slice none 0 0, .slice none 0 0, .bool false] 74 (0, 0)) from zh K3.out hb_)
   replace L3 := am_ (show w.heap.size ≤ g3 from L3.out)
   replace N3 := am_ (show g1 ≠ g3 ∧ g2 ≠ g3 from N3.out)
   replace R_c := am_ (show Kd.R (Kd.int .u64) 114 v3 w.heap.size (fun _ => True) (.slice B_c z2.length d_c) (ku z2) from Kd.zI R_c.out hb_)
   clear hr_ hb_
   refine hK.out _ _ ⟨(za K1.out 0).trans rfl, (za K1.out 1).trans rfl, (za K1.out 2).trans rfl, (za K1.out 3).trans rfl, (za K1.out 4).trans rfl, (za K1.out 5).trans rfl⟩ (fun hHeld => ?_); clear hK K
   refine nm_ ?_
   refine pu_ HT_ 10 15 (bl_ 13 4095) ?_
   exact np_ (hJ (B_c, d_c, B_r, d_r, g3) _ ⟨hHeld, HB.out, K1.out, K2.out, K3.out, L3.out, N3.out, R_c.out, R_r.out⟩)
 rintro ⟨B_c, d_c, B_r, d_r, g3⟩ v1 ⟨hHeld, h0_, h1_, h2_, h3_, h4_, h5_, h6_, h7_⟩
 clear HB K1 K2
 have HB := am_ (show Below w.heap.size w v1 from h0_)
 have K1 := am_ (show v1.heap[g1]? = some (.cells #[.int .i64 z1, .slice a1 z2.length k1, .slice a2 z3.length k2, .slice a3 z4.length k3, .slice a4 z5.length k4, .bool z6] 63 (0, 0)) from h1_)
 have K2 := am_ (show v1.heap[g2]? = some (.cells #[.int .i64 0, .slice none 0 0, .slice none 0 0, .slice none 0 0, .slice none 0 0, .bool false] 74 (0, 0)) from h2_)
 have K3 := am_ (show v1.heap[g3]? = some (.cells #[.int .i64 0, .slice none 0 0, .slice none 0 0, .slice none 0 0, .slice none 0 0, .bool false] 74 (0, 0)) from h3_)
 have L3 := am_ (show w.heap.size ≤ g3 from h4_)
 have N3 := am_ (show g1 ≠ g3 ∧ g2 ≠ g3 from h5_)
 have R_c := am_ (show Kd.R (Kd.int .u64) 114 v1 w.heap.size (fun _ => True) (.slice B_c z2.length d_c) (ku z2) from h6_)
 have R_r := am_ (show Kd.R (Kd.int .u64) 114 v1 w.heap.size (fun _ => True) (.slice B_r z5.length d_r) (ku z5) from h7_)
 clear h0_ h1_ h2_ h3_ h4_ h5_ h6_ h7_
 refine norm_ (a' := ?_) ?_ ?_; rotate_left; (focus (simp only [putAll, Act.put, sI_, s0_, s1_]; first | done | rfl))
 refine last_ (i := 12) (N := none) (bl_ 13 8191) rfl rfl (one_of HT_.out (by kernel_rfl)) (by decide) (fun K hK => ?_)
 refine za9 (by rfl) 74 rfl rfl g3 #[.int .i64 z1, .slice B_c z2.length d_c, .slice none 0 0, .slice none 0 0, .slice B_r z5.length d_r, .bool z6] rfl rfl 74 _ K3.out (info74.trans rfl) rfl (by simp [Value.oneCell']) ?_
 intro wS hw_ hg_
 have K3n := am_ hw_
 have RCn := am_ (r_put R_c.out K3.out (by decide) hg_)
 have RRn := am_ (r_put R_r.out K3.out (by decide) hg_)
 have HBn := am_ (HB.out.grown hg_ HB.out.size (fun k_ hk_ => by cases hk_; exact L3.out))
 have K1n := am_ (zx hg_ K1.out (fun e => N3.out.1 (Option.some.inj e)))
 have K2n := am_ (zx hg_ K2.out (fun e => N3.out.2 (Option.some.inj e)))
 clear hw_ hg_
 refine hK.out _ _ ?_; clear hK K
 refine zaP (zao HT_.out (by kernel_rfl)) ?_
 clear hHeld HB K1 K2 K3 R_c R_r
 have HB := HBn
 have K1 := K1n
 have K2 := K2n
 have K3 := K3n
 have R_c := RCn
 have R_r := RRn
 clear HBn K1n K2n K3n RCn RRn
 have c22 : wS.cell? ⟨g3, 2, none⟩ = some (.slice none 0 0) := (za K3.out 2).trans rfl
 have c12 : wS.cell? ⟨g1, 2, none⟩ = some (.slice a2 z3.length k2) := (za K1.out 2).trans rfl
 have Q2S := am_ (Q2.out.step HB.out)
 go_wp2_with (first
  | ((with_reducible refine zk (N := 20) rfl ?_); refine Kd.R_append_row (Value.int .i64) (0 : Int) (h1 := fun _ => rfl) (w0 := w) w.heap.size rfl _ _ 22 3 (.int .i64 0) 8 rfl Try.underlying22 info22c rfl (by decide) (.slice none 0 0) [] z3 a2 z3.length k2 (fun _ => True) rfl rfl (fun _ _ => trivial) (Kd.zaY _ _ _ _ _) Q2S.out.row HB.out HB.out.size (by rw [List.length_nil, Nat.zero_add]; exact S2.out) ?_; intro v4 w4 hr_ hb_ hg_ _; obtain ⟨B_i, d_i, rfl⟩ := Kd.zY (xs := z3) hr_; have R_i := am_ (show Kd.R (Kd.int .i64) 3 w4 w.heap.size (fun _ => True) (.slice B_i z3.length d_i) z3 from hr_); replace K1 := am_ (zx hg_ K1.out (fun e => by cases e)); replace K2 := am_ (zx hg_ K2.out (fun e => by cases e)); replace K3 := am_ (zx hg_ K3.out (fun e => by cases e)); replace R_c := am_ (Kd.R_grown R_c.out hg_ (fun k _ e => by cases e)); replace R_r := am_ (Kd.R_grown R_r.out hg_ (fun k _ e => by cases e)); replace HB := am_ hb_; clear hr_ hb_ hg_ c22 c12; have c22 : w4.cell? ⟨g3, 2, none⟩ = some (.slice none 0 0) := (za K3.out 2).trans rfl; have f22 := zd K3.out 2)
  | fail)
 clear c22 f22
 have hs_ := NW.zV w4 g3 2 (.slice B_i z3.length d_i)
 have K3_ := am_ (show (w4.setCell ⟨g3, 2, none⟩ (.slice B_i z3.length d_i)).heap[g3]? = some (.cells #[.int .i64 z1, .slice B_c z2.length d_c, .slice B_i z3.length d_i, .slice none 0 0, .slice B_r z5.length d_r, .bool z6] 74 (0, 0)) from zaD K3.out 2 _)
 replace R_c := am_ (r_put R_c.out K3.out (by decide) hs_)
 replace R_i := am_ (r_put R_i.out K3.out (by decide) hs_)
 replace R_r := am_ (r_put R_r.out K3.out (by decide) hs_)
 replace HB := am_ (HB.out.grown hs_ HB.out.size (fun k_ hk_ => by cases hk_; exact L3.out))
 replace K1 := am_ (zx hs_ K1.out (fun e => N3.out.1 (Option.some.inj e)))
 replace K2 := am_ (zx hs_ K2.out (fun e => N3.out.2 (Option.some.inj e)))
 replace K3 := K3_
 clear K3_ hs_
 generalize w4.setCell ⟨g3, 2, none⟩ (.slice B_i z3.length d_i) = w5 at HB K1 K2 K3 R_c R_i R_r ⊢
 have R_g := am_ (Kd.zaY dU 66 w5 w.heap.size (fun _ => True))
 go_loopg [4] z4.length (fun m v4 wr => ∃ (x : Nat) (B : Option Addr) (d : Nat), v4 = .int .i64 (x : Int) ∧ Aside0 (x + m = z4.length) ∧ Aside0 (wr.heap[g3]? = some (.cells #[.int .i64 z1, .slice B_c z2.length d_c, .slice B_i z3.length d_i, .slice B x d, .slice B_r z5.length d_r, .bool z6] 74 (0, 0))) ∧ Aside0 (Kd.R dU 66 wr w.heap.size (fun _ => True) (.slice B x d) ((z4.take x).map ku)) ∧ Aside0 (Kd.R (Kd.int .u64) 114 wr w.heap.size (fun _ => True) (.slice B_c z2.length d_c) (ku z2)) ∧ Aside0 (Kd.R (Kd.int .i64) 3 wr w.heap.size (fun _ => True) (.slice B_i z3.length d_i) z3) ∧ Aside0 (Kd.R (Kd.int .u64) 114 wr w.heap.size (fun _ => True) (.slice B_r z5.length d_r) (ku z5)) ∧ Aside0 (wr.heap[g1]? = some (.cells #[.int .i64 z1, .slice a1 z2.length k1, .slice a2 z3.length k2, .slice a3 z4.length k3, .slice a4 z5.length k4, .bool z6] 63 (0, 0))) ∧ Aside0 (wr.heap[g2]? = some (.cells #[.int .i64 0, .slice none 0 0, .slice none 0 0, .slice none 0 0, .slice none 0 0, .bool false] 74 (0, 0))) ∧ Aside0 (Below w.heap.size w wr))
 case atStart => exact ⟨0, none, 0, rfl, ⟨by omega⟩, K3, R_g, R_c, R_i, R_r, K1, K2, HB⟩
 case round =>
  clear K3 R_g R_c R_i R_r K1 K2 HB
  obtain ⟨x, B, d, rfl, hm, K3, R_g, R_c, R_i, R_r, K1, K2, HB⟩ := hrel
  by_cases hx : x < z4.length
  ·have HX := am_ hx
   have p1 := eq_true hx
   have p2 := eq_true (show (x : Int) < (z4.length : Int) by omega)
   have p3 := eq_true (show (0 : Int) ≤ (x : Int) by omega)
   have p4 := decide_eq_true (show (x : Int) < (z4.length : Int) by omega)
   obtain ⟨ag, Ak, ck, eag, hcg0, _, hrk⟩ := at_kff Q3.out x hx
   cases eag
   have HRK := am_ hrk
   have HCG := am_ hcg0
   have HUL := am_ (S5.out _ (List.mem_of_getElem? (rdl_get hx)))
   have HT := am_ (kus_take hx)
   clear hx hrk hcg0
   generalize rdl z4 x = us at *
   have LX := am_ (show ((z4.take x).map ku).length = x by rw [List.length_map, List.length_take]; have := HX.out; omega)
   generalize (z4.take x).map ku = xs at *
   have c13 : wr.cell? ⟨g1, 3, none⟩ = some (.slice (some ag) z4.length k3) := (za K1.out 3).trans rfl
   go_wp2_with fail
   clear c13
   have hb_ : Below wr.heap.size wr wr.drew := zR (Below.refl _ _)
   replace HB := am_ (show Below w.heap.size w wr.drew from zb HB.out hb_)
   replace K1 := am_ (show wr.drew.heap[g1]? = some (.cells #[.int .i64 z1, .slice a1 z2.length k1, .slice a2 z3.length k2, .slice (some ag) z4.length k3, .slice a4 z5.length k4, .bool z6] 63 (0, 0)) from zh K1.out hb_)
   replace K2 := am_ (show wr.drew.heap[g2]? = some (.cells #[.int .i64 0, .slice none 0 0, .slice none 0 0, .slice none 0 0, .slice none 0 0, .bool false] 74 (0, 0)) from zh K2.out hb_)
   replace K3 := am_ (show wr.drew.heap[g3]? = some (.cells #[.int .i64 z1, .slice B_c z2.length d_c, .slice B_i z3.length d_i, .slice B x d, .slice B_r z5.length d_r, .bool z6] 74 (0, 0)) from zh K3.out hb_)
   replace R_g := am_ (show Kd.R dU 66 wr.drew w.heap.size (fun _ => True) (.slice B x d) xs from Kd.zI R_g.out hb_)
   replace R_c := am_ (show Kd.R (Kd.int .u64) 114 wr.drew w.heap.size (fun _ => True) (.slice B_c z2.length d_c) (ku z2) from Kd.zI R_c.out hb_)
   replace R_i := am_ (show Kd.R (Kd.int .i64) 3 wr.drew w.heap.size (fun _ => True) (.slice B_i z3.length d_i) z3 from Kd.zI R_i.out hb_)
   replace R_r := am_ (show Kd.R (Kd.int .u64) 114 wr.drew w.heap.size (fun _ => True) (.slice B_r z5.length d_r) (ku z5) from Kd.zI R_r.out hb_)
   clear hb_
   skip
   refine zay (n := 12) (S := fun w' => w'.cell? ⟨g3, 3, none⟩ = some (.slice B x d) ∧ w'.cell? ⟨g1, 3, none⟩ = some (.slice (some ag) z4.length k3) ∧ w'.cell? (ag.add x) = some (.slice Ak us.length ck)) (ds := [9, 11]) (bl_ 12 0) (by kernel_rfl) rfl rfl ⟨(za K3.out 3).trans rfl, (za K1.out 3).trans rfl, zu HB.out HCG.out⟩ (fun hHeld => ?_); refine zT rof.tab6 rof.bits6 (fun HT_ HW_ => ?_)
   generalize wr.drew = v0 at HB K1 K2 K3 R_g R_c R_i R_r hHeld ⊢
   refine pu_ HT_ 0 29 (bl_ 12 1) ?_
   refine pu_ HT_ 2 31 (bl_ 12 5) ?_
   refine pu_ HT_ 4 33 (bl_ 12 21) ?_
   refine tk_ HT_ HW_ hHeld 1 30 (bl_ 12 23) ?_
   refine tk_ HT_ HW_ hHeld 3 32 (bl_ 12 31) ?_
   refine pu_ HT_ 5 34 (bl_ 12 63) ?_
   refine tk_ HT_ HW_ hHeld 6 35 (bl_ 12 127) ?_
   refine on_ HT_ 7 (some 36) (bl_ 12 255) fun K hK => ?_
   refine goes_ Try.func32 (by kernel_rfl) rfl #[.slice Ak us.length ck] (by rfl) rfl rfl (by (try simp only [List.map_toArray, List.map_cons, List.map_nil]); first | done | rfl) ?_
   refine (za0 Ak ck us v0 (Kd.zB HRK.out HB.out) HUL.out).mono ?_
   rintro e_ v1 ⟨B2, d2, rfl, hr2, hb2⟩
   refine ⟨_, rfl, ?_⟩
   have M2 := am_ (show dU.M v1 w.heap.size (fun k => True ∧ some k ≠ (Value.slice B x d).ownBlock) (ku us) [.slice B2 us.length d2] from ⟨_, rfl, Kd.zag (Kd.R_new hr2 (Kd.R_own R_g.out).choose_spec) HB.out.size⟩)
   replace HB := am_ (show Below w.heap.size w v1 from zb HB.out hb2)
   replace K1 := am_ (show v1.heap[g1]? = some (.cells #[.int .i64 z1, .slice a1 z2.length k1, .slice a2 z3.length k2, .slice (some ag) z4.length k3, .slice a4 z5.length k4, .bool z6] 63 (0, 0)) from zh K1.out hb2)
   replace K2 := am_ (show v1.heap[g2]? = some (.cells #[.int .i64 0, .slice none 0 0, .slice none 0 0, .slice none 0 0, .slice none 0 0, .bool false] 74 (0, 0)) from zh K2.out hb2)
   replace K3 := am_ (show v1.heap[g3]? = some (.cells #[.int .i64 z1, .slice B_c z2.length d_c, .slice B_i z3.length d_i, .slice B x d, .slice B_r z5.length d_r, .bool z6] 74 (0, 0)) from zh K3.out hb2)
   replace R_g := am_ (show Kd.R dU 66 v1 w.heap.size (fun _ => True) (.slice B x d) xs from Kd.zI R_g.out hb2)
   replace R_c := am_ (show Kd.R (Kd.int .u64) 114 v1 w.heap.size (fun _ => True) (.slice B_c z2.length d_c) (ku z2) from Kd.zI R_c.out hb2)
   replace R_i := am_ (show Kd.R (Kd.int .i64) 3 v1 w.heap.size (fun _ => True) (.slice B_i z3.length d_i) z3 from Kd.zI R_i.out hb2)
   replace R_r := am_ (show Kd.R (Kd.int .u64) 114 v1 w.heap.size (fun _ => True) (.slice B_r z5.length d_r) (ku z5) from Kd.zI R_r.out hb2)
   clear hb2 hr2
   refine hK.out _ _ ⟨(za K3.out 3).trans rfl, (za K1.out 3).trans rfl, zu HB.out HCG.out⟩ (fun hHeld => ?_); clear hK K
   refine nm_ ?_
   refine on_ HT_ 8 (some 37) (bl_ 12 511) fun K hK => ?_
   refine value_ (w1 := v1.alloc (.cells #[.slice B2 us.length d2] 66)) (v := .slice (some ⟨v1.heap.size, 0, none⟩) 1 1) (by rfl) rfl (by go_simp; first | done | rfl) ?_
   refine hK.out _ _ ⟨zu (zj (Below.refl v1.heap.size v1) _) ((za K3.out 3).trans rfl), zu (zj (Below.refl v1.heap.size v1) _) ((za K1.out 3).trans rfl), zu (zj (Below.refl v1.heap.size v1) _) (zu HB.out HCG.out)⟩ (fun hHeld => ?_); clear hK K
   refine nm_ ?_
   refine last_ (i := 9) (N := some 38) (bl_ 12 1023) rfl rfl (one_of HT_.out (by kernel_rfl)) (by decide) (fun K hK => ?_)
   refine Kd.R_append_step dU (W := v1) (w0 := w) w.heap.size (by rfl) _ _ 67 66 (.slice none 0 0) 24 rfl Try.underlying67 info66 rfl (by decide) (by decide) (.slice B x d) xs (ku us) [.slice B2 us.length d2] (fun _ => True) _ rfl rfl M2.out (fun _ hk => hk) (fun _ _ => trivial) R_g.out HB.out HB.out.size (by rw [LX.out]; have := HX.out; have := S3.out; omega) ?_
   intro vv1 w7 hr3 hb3 hg3 _
   have ne_ := Kd.R_ne R_g.out K3.out (by decide)
   have ne1_ := Kd.R_ne R_g.out K1.out (by decide)
   have ne2_ := Kd.R_ne R_g.out K2.out (by decide)
   have hty_ : ∀ k, (Value.slice B x d).ownBlock = some k → ∃ cells, v1.heap[k]? = some (.cells cells 66 (0, 0)) := Kd.R_typed R_g.out
   replace R_c := am_ (Kd.R_over' R_c.out hty_ (by decide) hg3)
   replace R_i := am_ (Kd.R_over' R_i.out hty_ (by decide) hg3)
   replace R_r := am_ (Kd.R_over' R_r.out hty_ (by decide) hg3)
   replace K1 := am_ (zx hg3 K1.out ne1_)
   replace K2 := am_ (zx hg3 K2.out ne2_)
   replace K3 := am_ (zx hg3 K3.out ne_)
   replace HB := am_ hb3
   have hl_ : (xs ++ [ku us]).length = x + 1 := by rw [List.length_append, LX.out]; rfl
   obtain ⟨B3, d3, rfl⟩ := Kd.zY hr3
   rw [hl_] at hr3 ⊢
   replace R_g := am_ hr3
   clear hr3 hb3 hg3 ne_ ne1_ ne2_ hty_ hl_ M2
   have c33 : w7.cell? ⟨g3, 3, none⟩ = some (.slice B x d) := (za K3.out 3).trans rfl
   have f33 := zd K3.out 3
   refine hK.out _ _ ?_; clear hK K
   refine nm_ ?_
   refine pu_ HT_ 10 39 (bl_ 12 2047) ?_
   refine last_ (i := 11) (N := none) (bl_ 12 4095) rfl rfl (one_of HT_.out (by kernel_rfl)) (by decide) (fun K hK => ?_)
   refine skip_ (w1 := ?_) (by rfl) rfl ?_ ?_; rotate_left; (focus (go_simp; first | done | rfl))
   refine hK.out _ _ ?_; clear hK K
   refine zaP (zao HT_.out (by kernel_rfl)) ?_
   clear hHeld c33 f33
   have hs_ := NW.zV w7 g3 3 (.slice B3 (x + 1) d3)
   have K3_ := am_ (show (w7.setCell ⟨g3, 3, none⟩ (.slice B3 (x + 1) d3)).heap[g3]? = some (.cells #[.int .i64 z1, .slice B_c z2.length d_c, .slice B_i z3.length d_i, .slice B3 (x + 1) d3, .slice B_r z5.length d_r, .bool z6] 74 (0, 0)) from zaD K3.out 3 _)
   replace R_g := am_ (r_put R_g.out K3.out (by decide) hs_)
   replace R_c := am_ (r_put R_c.out K3.out (by decide) hs_)
   replace R_i := am_ (r_put R_i.out K3.out (by decide) hs_)
   replace R_r := am_ (r_put R_r.out K3.out (by decide) hs_)
   replace HB := am_ (HB.out.grown hs_ HB.out.size (fun k_ hk_ => by cases hk_; exact L3.out))
   replace K1 := am_ (zx hs_ K1.out (fun e => N3.out.1 (Option.some.inj e)))
   replace K2 := am_ (zx hs_ K2.out (fun e => N3.out.2 (Option.some.inj e)))
   replace K3 := K3_
   clear K3_ hs_
   generalize w7.setCell ⟨g3, 3, none⟩ (.slice B3 (x + 1) d3) = w8 at HB K1 K2 K3 R_g R_c R_i R_r ⊢
   go_wp2_with fail
   go_roundg (gk - 1)
   case measure => have := hm.out; have := HX.out; omega
   case rel => exact ⟨x + 1, B3, d3, by first | rfl | (rw [w64 _ (by omega) (by have := HX.out; have := S3.out; omega)]; rfl), ⟨by have := hm.out; have := HX.out; omega⟩, K3, ⟨by rw [HT.out]; exact R_g.out⟩, R_c, R_i, R_r, K1, K2, HB⟩
  ·have p1 := eq_false hx
   have p2 := eq_false (show ¬ (x : Int) < (z4.length : Int) by omega)
   have p4 := decide_eq_false (show ¬ (x : Int) < (z4.length : Int) by omega)
   obtain rfl : x = z4.length := by have := hm.out; omega
   rw [List.take_length] at R_g
   have c13 : wr.cell? ⟨g1, 3, none⟩ = some (.slice a3 z4.length k3) := (za K1.out 3).trans rfl
   have e0 : wr.cell? ⟨g3, 0, none⟩ = some (.int .i64 z1) := (za K3.out 0).trans rfl
   have e1 : wr.cell? ⟨g3, 1, none⟩ = some (.slice B_c z2.length d_c) := (za K3.out 1).trans rfl
   have e2 : wr.cell? ⟨g3, 2, none⟩ = some (.slice B_i z3.length d_i) := (za K3.out 2).trans rfl
   have e3 : wr.cell? ⟨g3, 3, none⟩ = some (.slice B z4.length d) := (za K3.out 3).trans rfl
   have e4 : wr.cell? ⟨g3, 4, none⟩ = some (.slice B_r z5.length d_r) := (za K3.out 4).trans rfl
   have e5 : wr.cell? ⟨g3, 5, none⟩ = some (.bool z6) := (za K3.out 5).trans rfl
   clear hx hm
   go_wp2_with (first
    | ((with_reducible refine zr (t := 74) (p := 2) rfl ?_); refine zn rfl 74 rfl rfl g2 #[.int .i64 z1, .slice B_c z2.length d_c, .slice B_i z3.length d_i, .slice B z4.length d, .slice B_r z5.length d_r, .bool z6] rfl rfl 74 _ K2.out (info74.trans rfl) rfl (by simp [Value.oneCell']) ?_; intro w9 hw_ hg_; have R_g2 := am_ (r_put R_g.out K2.out (by decide) hg_); have R_c2 := am_ (r_put R_c.out K2.out (by decide) hg_); have R_i2 := am_ (r_put R_i.out K2.out (by decide) hg_); have R_r2 := am_ (r_put R_r.out K2.out (by decide) hg_); replace HB := am_ (HB.out.grown hg_ HB.out.size (fun k_ hk_ => by cases hk_; exact L2.out)); replace K2 := am_ hw_; clear hw_ hg_)
    | fail)
   refine bodyPost_ret (results_cell_row rfl _ _ g2 74 #[.int .i64 z1, .slice B_c z2.length d_c, .slice B_i z3.length d_i, .slice B z4.length d, .slice B_r z5.length d_r, .bool z6] (0, 0) _ rfl K2.out Try.underlying74 rfl (by kernel_rfl)) rfl ?_
   have y1 := Kd.zQ (show Kd.R (Kd.int .u64) 114 w9 w.heap.size (fun _ => True) (.slice B_c (ku z2).length d_c) (ku z2) by rw [zaB]; exact R_c2.out)
   have y2 := Kd.zQ R_i2.out
   have y3 := Kd.zQ (show Kd.R dU 66 w9 w.heap.size (fun _ => True) (.slice B (z4.map ku).length d) (z4.map ku) by rw [List.length_map]; exact R_g2.out)
   have y4 := Kd.zQ (show Kd.R (Kd.int .u64) 114 w9 w.heap.size (fun _ => True) (.slice B_r (ku z5).length d_r) (ku z5) by rw [zaB]; exact R_r2.out)
   exact ⟨⟨B_c, d_c, B_i, d_i, B, d, B_r, d_r⟩, by unfold uc; simp only [zaB, List.length_map], ⟨y1.2.2, y1.2.1, ⟨y2.2.2, y2.2.1⟩, y3.2.2, y4.2.2, y4.2.1⟩, HB.out⟩
theorem info69 : (Try.prog.info? 69).map (·.size) = some 7 := by kernel_rfl
def qcv (p : Pn) (h : Ph) : Array Value := #[.slice h.a1 (ku p.C).length h.c1, .slice h.a2 (p.G.map ku).length h.c2, .int .i64 p.T, .slice h.a4 (p.L.map ku).length h.c4, .int .i64 p.K, .int .i64 p.D, .int .i64 p.O]
structure Qr (w : World) (p : Pn) (h : Ph) : Prop where
 r1 : Kd.C (Kd.int .u64) w h.a1 (ku p.C).length (ku p.C)
 k1 : (ku p.C).length ≤ h.c1
 r2 : dU.C w h.a2 (p.G.map ku).length (p.G.map ku)
 k2 : (p.G.map ku).length ≤ h.c2
 r4 : dU.C w h.a4 (p.L.map ku).length (p.L.map ku)
 k4 : (p.L.map ku).length ≤ h.c4
theorem Qr.step {w w' : World} {p : Pn} {h : Ph} (r : Qr w p h) (hb : Below w.heap.size w w') : Qr w' p h := ⟨Kd.zB r.r1 hb, r.k1, Kd.zB r.r2 hb, r.k2, Kd.zB r.r4 hb, r.k4⟩
structure Ps (p : Pn) : Prop where
 C : p.C.length * 8 ≤ 140737488355328
 G : p.G.length * 24 ≤ 140737488355328
 U : ∀ us, us ∈ p.G → us.length * 8 ≤ 140737488355328
 L : p.L.length * 24 ≤ 140737488355328
 V : ∀ us, us ∈ p.L → us.length * 8 ≤ 140737488355328
def rprop.T1 : Bool × List (List Nat × List Nat) := (true, [([], []), ([0], [0]), ([1], [1]), ([], []), ([3], [3]), ([4, 2], [4]), ([], []), ([6], [6]), ([], []), ([8], [8]), ([9, 5], [9]), ([], []), ([11], [11]), ([], []), ([13], [13]), ([], []), ([15], [15]), ([2, 5, 7, 10, 12, 14, 16], [2, 5, 7, 10, 12, 14, 16]), ([17, 10, 0, 1, 2, 3, 4, 5, 6, 7, 8, 9, 10, 11, 12, 13, 14, 15, 16, 17], [17])])
def rprop.B1 : List Nat := [0, 1, 3, 0, 8, 31, 0, 64, 0, 256, 831, 0, 2048, 0, 8192, 0, 32768, 131071, 262143]
theorem rprop.tab1 : rtab .any (opsOf Try.f28 1) = rprop.T1 := by kernel_rfl
theorem rprop.bits1 : zat rprop.T1.2 rprop.B1 = true := by kernel_rfl
set_option maxRecDepth 100000 in
set_option maxHeartbeats 4000000 in
theorem ofprop_calls (p : Pn) (h : Ph) (w : World) (hr : Pr w p h) (hs : Ps p) :
  Calls Try.prog 28 #[.agg (pcv p h)] w fun e w' => ∃ q, e = .returned (.agg (qcv p q)) ∧ Qr w' p q ∧ Below w.heap.size w w' := by
 obtain ⟨y1, y2, y3, y4, y5, y6, y7⟩ := p
 obtain ⟨b1, l1, b2, l2, b4, l4⟩ := h
 have hu65 := Try.underlying65
 have hu69 := Try.underlying69
 have HR := am_ hr
 have HS := am_ hs
 clear hr hs
 have hv : pcv ⟨y1, y2, y3, y4, y5, y6, y7⟩ ⟨b1, l1, b2, l2, b4, l4⟩ = #[.slice b1 y1.length l1, .slice b2 y2.length l2, .int .i64 y3, .slice b4 y4.length l4, .int .i64 y5, .int .i64 y6, .int .i64 y7] := rfl
 rw [hv]
 clear hv
 have Q1 := am_ (show kf.C w b1 y1.length y1 from HR.out.r1)
 have Q2 := am_ (show kff.C w b2 y2.length y2 from HR.out.r2)
 have Q4 := am_ (show kff.C w b4 y4.length y4 from HR.out.r4)
 have S1 := am_ (show y1.length * 8 ≤ 140737488355328 from HS.out.C)
 have S2 := am_ (show y2.length * 24 ≤ 140737488355328 from HS.out.G)
 have S3 := am_ (show ∀ us, us ∈ y2 → us.length * 8 ≤ 140737488355328 from HS.out.U)
 have S4 := am_ (show y4.length * 24 ≤ 140737488355328 from HS.out.L)
 have S5 := am_ (show ∀ us, us ∈ y4 → us.length * 8 ≤ 140737488355328 from HS.out.V)
 clear HR HS
 go_enter Try.func28, Try.ntmps28
 go_wp2_with (first
  | ((with_reducible refine zk (N := 1) rfl ?_); refine zaq 1 (cs := #[.slice b1 y1.length l1, .slice b2 y2.length l2, .int .i64 y3, .slice b4 y4.length l4, .int .i64 y5, .int .i64 y6, .int .i64 y7]) (t := 65) ?_; intro g1 hg_ w1 hw_ hb_; have HB := am_ hb_; have K1 := am_ hw_; have L1 := am_ (show w.heap.size ≤ g1 by omega); clear hg_ hw_ hb_)
  | ((with_reducible refine zk (N := 2) rfl ?_); refine zaq 2 (cs := #[.slice none 0 0, .slice none 0 0, .int .i64 0, .slice none 0 0, .int .i64 0, .int .i64 0, .int .i64 0]) (t := 69) ?_; intro g2 hg_ w2 hw_ hb_; have N12 := am_ (show g1 ≠ g2 by have := zaa K1.out; omega); have L2 := am_ (show w.heap.size ≤ g2 by have := HB.out.size; omega); replace HB := am_ (zb HB.out hb_); replace K1 := am_ (zh K1.out hb_); have K2 := am_ hw_; clear hg_ hw_ hb_)
  | fail)
 have hb_ : Below w2.heap.size w2 w2.drew := zR (Below.refl _ _)
 replace HB := am_ (show Below w.heap.size w w2.drew from zb HB.out hb_)
 replace K1 := am_ (show w2.drew.heap[g1]? = some (.cells #[.slice b1 y1.length l1, .slice b2 y2.length l2, .int .i64 y3, .slice b4 y4.length l4, .int .i64 y5, .int .i64 y6, .int .i64 y7] 65 (0, 0)) from zh K1.out hb_)
 replace K2 := am_ (show w2.drew.heap[g2]? = some (.cells #[.slice none 0 0, .slice none 0 0, .int .i64 0, .slice none 0 0, .int .i64 0, .int .i64 0, .int .i64 0] 69 (0, 0)) from zh K2.out hb_)
 clear hb_
 refine zay (n := 19) (S := fun w' => w'.cell? ⟨g1, 0, none⟩ = some (.slice b1 y1.length l1) ∧ w'.cell? ⟨g1, 1, none⟩ = some (.slice b2 y2.length l2) ∧ w'.cell? ⟨g1, 2, none⟩ = some (.int .i64 y3) ∧ w'.cell? ⟨g1, 3, none⟩ = some (.slice b4 y4.length l4) ∧ w'.cell? ⟨g1, 4, none⟩ = some (.int .i64 y5) ∧ w'.cell? ⟨g1, 5, none⟩ = some (.int .i64 y6) ∧ w'.cell? ⟨g1, 6, none⟩ = some (.int .i64 y7)) (ds := [18]) (bl_ 19 0) (by kernel_rfl) rfl rfl ⟨(za K1.out 0).trans rfl, (za K1.out 1).trans rfl, (za K1.out 2).trans rfl, (za K1.out 3).trans rfl, (za K1.out 4).trans rfl, (za K1.out 5).trans rfl, (za K1.out 6).trans rfl⟩ (fun hHeld => ?_); refine zT rprop.tab1 rprop.bits1 (fun HT_ HW_ => ?_)
 generalize w2.drew = v0 at HB K1 K2 hHeld ⊢
 refine pu_ HT_ 0 3 (bl_ 19 1) ?_
 refine pu_ HT_ 3 6 (bl_ 19 9) ?_
 refine pu_ HT_ 6 9 (bl_ 19 73) ?_
 refine pu_ HT_ 8 11 (bl_ 19 329) ?_
 refine pu_ HT_ 11 14 (bl_ 19 2377) ?_
 refine pu_ HT_ 13 16 (bl_ 19 10569) ?_
 refine pu_ HT_ 15 18 (bl_ 19 43337) ?_
 refine tk_ HT_ HW_ hHeld 1 4 (bl_ 19 43339) ?_
 refine tk_ HT_ HW_ hHeld 4 7 (bl_ 19 43355) ?_
 refine tk_ HT_ HW_ hHeld 7 10 (bl_ 19 43483) ?_
 refine tk_ HT_ HW_ hHeld 9 12 (bl_ 19 43995) ?_
 refine tk_ HT_ HW_ hHeld 12 15 (bl_ 19 48091) ?_
 refine tk_ HT_ HW_ hHeld 14 17 (bl_ 19 64475) ?_
 refine tk_ HT_ HW_ hHeld 16 19 (bl_ 19 130011) ?_
 refine join_ (σ := Option Addr × Nat × Option Addr × Nat × Option Addr × Nat) 1 (bl_ 19 262143) (fun s_ => [(5, .slice s_.1 y1.length s_.2.1), (8, .slice s_.2.2.1 y2.length s_.2.2.2.1), (13, .slice s_.2.2.2.2.1 y4.length s_.2.2.2.2.2), (20, .agg #[.slice s_.1 y1.length s_.2.1, .slice s_.2.2.1 y2.length s_.2.2.2.1, .int .i64 y3, .slice s_.2.2.2.2.1 y4.length s_.2.2.2.2.2, .int .i64 y5, .int .i64 y6, .int .i64 y7])]) (fun s_ w' => (w'.cell? ⟨g1, 0, none⟩ = some (.slice b1 y1.length l1) ∧ w'.cell? ⟨g1, 1, none⟩ = some (.slice b2 y2.length l2) ∧ w'.cell? ⟨g1, 2, none⟩ = some (.int .i64 y3) ∧ w'.cell? ⟨g1, 3, none⟩ = some (.slice b4 y4.length l4) ∧ w'.cell? ⟨g1, 4, none⟩ = some (.int .i64 y5) ∧ w'.cell? ⟨g1, 5, none⟩ = some (.int .i64 y6) ∧ w'.cell? ⟨g1, 6, none⟩ = some (.int .i64 y7)) ∧ (Below w.heap.size w w') ∧ (w'.heap[g1]? = some (.cells #[.slice b1 y1.length l1, .slice b2 y2.length l2, .int .i64 y3, .slice b4 y4.length l4, .int .i64 y5, .int .i64 y6, .int .i64 y7] 65 (0, 0))) ∧ (w'.heap[g2]? = some (.cells #[.slice none 0 0, .slice none 0 0, .int .i64 0, .slice none 0 0, .int .i64 0, .int .i64 0, .int .i64 0] 69 (0, 0))) ∧ (Kd.R (Kd.int .u64) 114 w' w.heap.size (fun _ => True) (.slice s_.1 y1.length s_.2.1) (ku y1)) ∧ (Kd.R dU 66 w' w.heap.size (fun _ => True) (.slice s_.2.2.1 y2.length s_.2.2.2.1) (y2.map ku)) ∧ (Kd.R dU 66 w' w.heap.size (fun _ => True) (.slice s_.2.2.2.2.1 y4.length s_.2.2.2.2.2) (y4.map ku))) ?_ ?_
 rotate_left
 ·intro hJ
  refine on_ HT_ 2 (some 5) (bl_ 19 130015) fun K hK => ?_
  refine goes_ Try.func49 (by kernel_rfl) rfl #[.slice b1 y1.length l1] (by rfl) rfl rfl (by (try simp only [List.map_toArray, List.map_cons, List.map_nil]); first | done | rfl) ?_
  refine (bits49_calls b1 l1 y1 v0 (Kd.zB Q1.out HB.out) S1.out).mono ?_
  rintro e_ v1 ⟨B_c, d_c, rfl, hr_, hb_⟩
  refine ⟨_, rfl, ?_⟩
  have R_c := am_ (show Kd.R (Kd.int .u64) 114 v1 w.heap.size (fun _ => True) (.slice B_c y1.length d_c) (ku y1) from Kd.zag hr_ HB.out.size)
  replace HB := am_ (show Below w.heap.size w v1 from zb HB.out hb_)
  replace K1 := am_ (show v1.heap[g1]? = some (.cells #[.slice b1 y1.length l1, .slice b2 y2.length l2, .int .i64 y3, .slice b4 y4.length l4, .int .i64 y5, .int .i64 y6, .int .i64 y7] 65 (0, 0)) from zh K1.out hb_)
  replace K2 := am_ (show v1.heap[g2]? = some (.cells #[.slice none 0 0, .slice none 0 0, .int .i64 0, .slice none 0 0, .int .i64 0, .int .i64 0, .int .i64 0] 69 (0, 0)) from zh K2.out hb_)
  clear hr_ hb_
  refine hK.out _ _ ⟨(za K1.out 0).trans rfl, (za K1.out 1).trans rfl, (za K1.out 2).trans rfl, (za K1.out 3).trans rfl, (za K1.out 4).trans rfl, (za K1.out 5).trans rfl, (za K1.out 6).trans rfl⟩ (fun hHeld => ?_); clear hK K
  refine nm_ ?_
  refine on_ HT_ 5 (some 8) (bl_ 19 130047) fun K hK => ?_
  refine goes_ Try.func50 (by kernel_rfl) rfl #[.slice b2 y2.length l2] (by rfl) rfl rfl (by (try simp only [List.map_toArray, List.map_cons, List.map_nil]); first | done | rfl) ?_
  refine (bits50_calls b2 l2 y2 v1 (Kd.zB Q2.out HB.out) S2.out S3.out).mono ?_
  rintro e_ v2 ⟨v_, rfl, hr_, hb_⟩
  obtain ⟨B_g, d_g, rfl⟩ := Kd.zY hr_
  rw [List.length_map] at hr_ ⊢
  refine ⟨_, rfl, ?_⟩
  have R_g := am_ (show Kd.R dU 66 v2 w.heap.size (fun _ => True) (.slice B_g y2.length d_g) (y2.map ku) from Kd.zag hr_ HB.out.size)
  replace HB := am_ (show Below w.heap.size w v2 from zb HB.out hb_)
  replace K1 := am_ (show v2.heap[g1]? = some (.cells #[.slice b1 y1.length l1, .slice b2 y2.length l2, .int .i64 y3, .slice b4 y4.length l4, .int .i64 y5, .int .i64 y6, .int .i64 y7] 65 (0, 0)) from zh K1.out hb_)
  replace K2 := am_ (show v2.heap[g2]? = some (.cells #[.slice none 0 0, .slice none 0 0, .int .i64 0, .slice none 0 0, .int .i64 0, .int .i64 0, .int .i64 0] 69 (0, 0)) from zh K2.out hb_)
  replace R_c := am_ (show Kd.R (Kd.int .u64) 114 v2 w.heap.size (fun _ => True) (.slice B_c y1.length d_c) (ku y1) from Kd.zI R_c.out hb_)
  clear hr_ hb_
  refine hK.out _ _ ⟨(za K1.out 0).trans rfl, (za K1.out 1).trans rfl, (za K1.out 2).trans rfl, (za K1.out 3).trans rfl, (za K1.out 4).trans rfl, (za K1.out 5).trans rfl, (za K1.out 6).trans rfl⟩ (fun hHeld => ?_); clear hK K
  refine nm_ ?_
  refine on_ HT_ 10 (some 13) (bl_ 19 131071) fun K hK => ?_
  refine goes_ Try.func50 (by kernel_rfl) rfl #[.slice b4 y4.length l4] (by rfl) rfl rfl (by (try simp only [List.map_toArray, List.map_cons, List.map_nil]); first | done | rfl) ?_
  refine (bits50_calls b4 l4 y4 v2 (Kd.zB Q4.out HB.out) S4.out S5.out).mono ?_
  rintro e_ v3 ⟨v_, rfl, hr_, hb_⟩
  obtain ⟨B_l, d_l, rfl⟩ := Kd.zY hr_
  rw [List.length_map] at hr_ ⊢
  refine ⟨_, rfl, ?_⟩
  have R_l := am_ (show Kd.R dU 66 v3 w.heap.size (fun _ => True) (.slice B_l y4.length d_l) (y4.map ku) from Kd.zag hr_ HB.out.size)
  replace HB := am_ (show Below w.heap.size w v3 from zb HB.out hb_)
  replace K1 := am_ (show v3.heap[g1]? = some (.cells #[.slice b1 y1.length l1, .slice b2 y2.length l2, .int .i64 y3, .slice b4 y4.length l4, .int .i64 y5, .int .i64 y6, .int .i64 y7] 65 (0, 0)) from zh K1.out hb_)
  replace K2 := am_ (show v3.heap[g2]? = some (.cells #[.slice none 0 0, .slice none 0 0, .int .i64 0, .slice none 0 0, .int .i64 0, .int .i64 0, .int .i64 0] 69 (0, 0)) from zh K2.out hb_)
  replace R_c := am_ (show Kd.R (Kd.int .u64) 114 v3 w.heap.size (fun _ => True) (.slice B_c y1.length d_c) (ku y1) from Kd.zI R_c.out hb_)
  replace R_g := am_ (show Kd.R dU 66 v3 w.heap.size (fun _ => True) (.slice B_g y2.length d_g) (y2.map ku) from Kd.zI R_g.out hb_)
  clear hr_ hb_
  refine hK.out _ _ ⟨(za K1.out 0).trans rfl, (za K1.out 1).trans rfl, (za K1.out 2).trans rfl, (za K1.out 3).trans rfl, (za K1.out 4).trans rfl, (za K1.out 5).trans rfl, (za K1.out 6).trans rfl⟩ (fun hHeld => ?_); clear hK K
  refine nm_ ?_
  refine pu_ HT_ 17 20 (bl_ 19 262143) ?_
  exact np_ (hJ (B_c, d_c, B_g, d_g, B_l, d_l) _ ⟨hHeld, HB.out, K1.out, K2.out, R_c.out, R_g.out, R_l.out⟩)
 rintro ⟨B_c, d_c, B_g, d_g, B_l, d_l⟩ v1 ⟨hHeld, h0_, h1_, h2_, h3_, h4_, h5_⟩
 clear HB K1 K2
 have HB := am_ (show Below w.heap.size w v1 from h0_)
 have K1 := am_ (show v1.heap[g1]? = some (.cells #[.slice b1 y1.length l1, .slice b2 y2.length l2, .int .i64 y3, .slice b4 y4.length l4, .int .i64 y5, .int .i64 y6, .int .i64 y7] 65 (0, 0)) from h1_)
 have K2 := am_ (show v1.heap[g2]? = some (.cells #[.slice none 0 0, .slice none 0 0, .int .i64 0, .slice none 0 0, .int .i64 0, .int .i64 0, .int .i64 0] 69 (0, 0)) from h2_)
 have R_c := am_ (show Kd.R (Kd.int .u64) 114 v1 w.heap.size (fun _ => True) (.slice B_c y1.length d_c) (ku y1) from h3_)
 have R_g := am_ (show Kd.R dU 66 v1 w.heap.size (fun _ => True) (.slice B_g y2.length d_g) (y2.map ku) from h4_)
 have R_l := am_ (show Kd.R dU 66 v1 w.heap.size (fun _ => True) (.slice B_l y4.length d_l) (y4.map ku) from h5_)
 clear h0_ h1_ h2_ h3_ h4_ h5_
 refine norm_ (a' := ?_) ?_ ?_; rotate_left; (focus (simp only [putAll, Act.put, sI_, s0_, s1_]; first | done | rfl))
 refine last_ (i := 18) (N := none) (bl_ 19 524287) rfl rfl (one_of HT_.out (by kernel_rfl)) (by decide) (fun K hK => ?_)
 refine za9 (by rfl) 69 rfl rfl g2 #[.slice B_c y1.length d_c, .slice B_g y2.length d_g, .int .i64 y3, .slice B_l y4.length d_l, .int .i64 y5, .int .i64 y6, .int .i64 y7] rfl rfl 69 _ K2.out (info69.trans rfl) rfl (by simp [Value.oneCell']) ?_
 intro wS hw_ hg_
 have K2n := am_ hw_
 have RCn := am_ (r_put R_c.out K2.out (by decide) hg_)
 have RGn := am_ (r_put R_g.out K2.out (by decide) hg_)
 have RLn := am_ (r_put R_l.out K2.out (by decide) hg_)
 have HBn := am_ (HB.out.grown hg_ HB.out.size (fun k_ hk_ => by cases hk_; exact L2.out))
 clear hw_ hg_
 refine hK.out _ _ ?_; clear hK K
 refine zaP (zao HT_.out (by kernel_rfl)) ?_
 clear hHeld HB K1 K2 R_c R_g R_l
 have K2 := K2n
 clear K2n
 go_wp2_with fail
 refine bodyPost_ret (results_cell_row rfl _ _ g2 69 #[.slice B_c y1.length d_c, .slice B_g y2.length d_g, .int .i64 y3, .slice B_l y4.length d_l, .int .i64 y5, .int .i64 y6, .int .i64 y7] (0, 0) _ rfl K2.out Try.underlying69 rfl (by kernel_rfl)) rfl ?_
 have y1_ := Kd.zQ (show Kd.R (Kd.int .u64) 114 wS w.heap.size (fun _ => True) (.slice B_c (ku y1).length d_c) (ku y1) by rw [zaB]; exact RCn.out)
 have y2_ := Kd.zQ (show Kd.R dU 66 wS w.heap.size (fun _ => True) (.slice B_g (y2.map ku).length d_g) (y2.map ku) by rw [List.length_map]; exact RGn.out)
 have y4_ := Kd.zQ (show Kd.R dU 66 wS w.heap.size (fun _ => True) (.slice B_l (y4.map ku).length d_l) (y4.map ku) by rw [List.length_map]; exact RLn.out)
 exact ⟨⟨B_c, d_c, B_g, d_g, B_l, d_l⟩, by unfold qcv; simp only [zaB, List.length_map], ⟨y1_.2.2, y1_.2.1, y2_.2.2, y2_.2.1, y4_.2.2, y4_.2.1⟩, HBn.out⟩
end Go.Proofs.Ytlidbaejhmamjaa.TC
namespace Go.Proofs.Ytlidbaejhmamjaa.PB
open Go.RowKit YtlidbaejhmamjaaW.PrintWords YtlidbaejhmamjaaW.PrintLast YtlidbaejhmamjaaW.PrintMore
attribute [local go_sem] zak zam zaw zau zae zad zal zan   -- for this text's walks alone
def zah.f (k : Nat) (a0 : Int) : Option (Bool × List Int × Int × Bool) := if (wrap64 (Go.bits .and .u64 (a0 / 4503599627370496) 2047)) = 2047 then (some (false, ([] : List Int), 0, false)) else (if (wrap64 (Go.bits .and .u64 (a0 / 4503599627370496) 2047)) > 0 then (if (Go.bits .or .u64 (Go.bits .and .u64 a0 4503599627370495) 4503599627370496) = 0 then (some (false, ([] : List Int), 0, true)) else ((zw.f k (([(Go.bits .or .u64 (Go.bits .and .u64 a0 4503599627370495) 4503599627370496) % 4294967296, ((Go.bits .or .u64 (Go.bits .and .u64 a0 4503599627370495) 4503599627370496) / 4294967296) % 4294967296] : List Int))).bind fun t129 => (some (((a0 / 9223372036854775808) == 1), t129, wrap64 ((wrap64 (Go.bits .and .u64 (a0 / 4503599627370496) 2047)) - 1075), true)))) else (if (Go.bits .and .u64 a0 4503599627370495) = 0 then (some (false, ([] : List Int), 0, true)) else ((zw.f k (([(Go.bits .and .u64 a0 4503599627370495) % 4294967296, ((Go.bits .and .u64 a0 4503599627370495) / 4294967296) % 4294967296] : List Int))).bind fun t135 => (some (((a0 / 9223372036854775808) == 1), t135, 1 - 1075, true)))))
set_option maxHeartbeats 8000000 in
set_option maxRecDepth 100000 in
theorem zah.calls (k : Nat) (a0 : Int) (r1 : Bool) (r2 : List Int) (r3 : Int) (r4 : Bool) (w : World) (h : zah.f k a0 = some (r1, r2, r3, r4)) :
  Calls Try.prog 93 #[.int .u64 a0] w fun e w' => ∃ v1_ : Value, e = .returned (.tuple #[.agg #[.bool r1, v1_, .int .i64 r3], .bool r4]) ∧ Kd.R (Kd.int .u32) 134 w' w.heap.size (fun _ => True) v1_ r2 ∧ Below w.heap.size w w' := by
 have hu101 := Try.underlying101
 have HB := am_ (Below.refl w.heap.size w)
 have H : (if (wrap64 (Go.bits .and .u64 (a0 / 4503599627370496) 2047)) = 2047 then (some (false, ([] : List Int), 0, false)) else (if (wrap64 (Go.bits .and .u64 (a0 / 4503599627370496) 2047)) > 0 then (if (Go.bits .or .u64 (Go.bits .and .u64 a0 4503599627370495) 4503599627370496) = 0 then (some (false, ([] : List Int), 0, true)) else ((zw.f k (([(Go.bits .or .u64 (Go.bits .and .u64 a0 4503599627370495) 4503599627370496) % 4294967296, ((Go.bits .or .u64 (Go.bits .and .u64 a0 4503599627370495) 4503599627370496) / 4294967296) % 4294967296] : List Int))).bind fun t129 => (some (((a0 / 9223372036854775808) == 1), t129, wrap64 ((wrap64 (Go.bits .and .u64 (a0 / 4503599627370496) 2047)) - 1075), true)))) else (if (Go.bits .and .u64 a0 4503599627370495) = 0 then (some (false, ([] : List Int), 0, true)) else ((zw.f k (([(Go.bits .and .u64 a0 4503599627370495) % 4294967296, ((Go.bits .and .u64 a0 4503599627370495) / 4294967296) % 4294967296] : List Int))).bind fun t135 => (some (((a0 / 9223372036854775808) == 1), t135, 1 - 1075, true)))))) = some (r1, r2, r3, r4) := h
 clear h
 by_cases c2 : (wrap64 (Go.bits .and .u64 (a0 / 4503599627370496) 2047)) = 2047
 ·rw [if_pos c2] at H
  have c2b0 : ((wrap64 (Go.bits .and .u64 (a0 / 4503599627370496) 2047)) == 2047) = true := beq_iff_eq.mpr c2
  have c2b1 : ((wrap64 (Go.bits .and .u64 (a0 / 4503599627370496) 2047)) != 2047) = false := bne_eq_false_iff_eq.mpr c2
  clear c2
  simp only [Option.some.injEq, Prod.mk.injEq] at H
  obtain ⟨rfl, rfl, rfl, rfl⟩ := H
  go_enter Try.func93, Try.ntmps93
  go_wp2_with (first | ((with_reducible refine zk (N := 2) rfl ?_); refine zaq 2 (cs := #[.bool false, .slice none 0 0, .int .i64 0]) (t := 101) ?_; intro gb125 hg w3 hbox hb; have BK125 := am_ (hbox); have GW125 := am_ ((by rw [hg]; exact (zo bw_) : w.heap.size ≤ gb125)); replace HB := am_ (zb bw_ hb); have GE125 := GW125; clear hb hbox hg; have hcz4_0 : w3.cell? ⟨gb125, 0, none⟩ = some (.bool false) := (za BK125.out 0).trans rfl; have hcz4_1 : w3.cell? ⟨gb125, 1, none⟩ = some (.slice none 0 0) := (za BK125.out 1).trans rfl; have hcz4_2 : w3.cell? ⟨gb125, 2, none⟩ = some (.int .i64 0) := (za BK125.out 2).trans rfl; have hfz4_0 := zd BK125.out 0; have hfz4_1 := zd BK125.out 1; have hfz4_2 := zd BK125.out 2))
  refine bodyPost_ret (zaj rfl _ _ gb125 101 #[.bool false, .slice none 0 0, .int .i64 0] (0, 0) _ rfl (by (with_reducible repeat (first | refine zg ?_ _ | refine zi ?_ | refine zf ?_ _)); refine zO (cs := #[.bool false, .slice none 0 0, .int .i64 0]) ?_ 2 _ rfl; (with_reducible repeat (first | refine zg ?_ _ | refine zi ?_ | refine zf ?_ _)); refine zO (cs := #[.bool false, .slice none 0 0, .int .i64 0]) ?_ 1 _ rfl; (with_reducible repeat (first | refine zg ?_ _ | refine zi ?_ | refine zf ?_ _)); refine zO (cs := #[.bool false, .slice none 0 0, .int .i64 0]) ?_ 0 _ rfl; (with_reducible repeat (first | refine zg ?_ _ | refine zi ?_ | refine zf ?_ _)); exact BK125.out) Try.underlying101 rfl (by kernel_rfl)) rfl ?_
  exact ⟨_, by first | rfl | (simp [zp, zq] <;> rfl) | (simp [*, zp, zq] <;> rfl), by first | exact Kd.zaY _ _ _ _ _ | exact Kd.N_nil _ _ _ _ _ | exact Kd.V_nil _ _ _ _ _ | exact Kd.Q_nil _ _ _ _ _ | exact Kd.S_nil _ _ _ _ _, by repeat (first | (with_reducible first | exact HB.out | apply zj | apply ze | apply zl | refine zm ?_ GE125.out) | exact HB.out)⟩
 ·rw [if_neg c2] at H
  have c2b0 : ((wrap64 (Go.bits .and .u64 (a0 / 4503599627370496) 2047)) == 2047) = false := beq_eq_false_iff_ne.mpr c2
  have c2b1 : ((wrap64 (Go.bits .and .u64 (a0 / 4503599627370496) 2047)) != 2047) = true := bne_iff_ne.mpr c2
  by_cases c5 : (wrap64 (Go.bits .and .u64 (a0 / 4503599627370496) 2047)) > 0
  ·rw [if_pos c5] at H
   have c5b0 : decide (0 < (wrap64 (Go.bits .and .u64 (a0 / 4503599627370496) 2047))) = true := decide_eq_true c5
   clear c5
   by_cases c6 : (Go.bits .or .u64 (Go.bits .and .u64 a0 4503599627370495) 4503599627370496) = 0
   ·rw [if_pos c6] at H
    have c6b0 : ((Go.bits .or .u64 (Go.bits .and .u64 a0 4503599627370495) 4503599627370496) == 0) = true := beq_iff_eq.mpr c6
    have c6b1 : ((Go.bits .or .u64 (Go.bits .and .u64 a0 4503599627370495) 4503599627370496) != 0) = false := bne_eq_false_iff_eq.mpr c6
    clear c6
    simp only [Option.some.injEq, Prod.mk.injEq] at H
    obtain ⟨rfl, rfl, rfl, rfl⟩ := H
    go_enter Try.func93, Try.ntmps93
    go_wp2_with (first | ((with_reducible refine zk (N := 2) rfl ?_); refine zaq 2 (cs := #[.bool false, .slice none 0 0, .int .i64 0]) (t := 101) ?_; intro gb125 hg w7 hbox hb; have BK125 := am_ (hbox); have GW125 := am_ ((by rw [hg]; exact (zo bw_) : w.heap.size ≤ gb125)); replace HB := am_ (zb bw_ hb); have GE125 := GW125; clear hb hbox hg; have hcz8_0 : w7.cell? ⟨gb125, 0, none⟩ = some (.bool false) := (za BK125.out 0).trans rfl; have hcz8_1 : w7.cell? ⟨gb125, 1, none⟩ = some (.slice none 0 0) := (za BK125.out 1).trans rfl; have hcz8_2 : w7.cell? ⟨gb125, 2, none⟩ = some (.int .i64 0) := (za BK125.out 2).trans rfl; have hfz8_0 := zd BK125.out 0; have hfz8_1 := zd BK125.out 1; have hfz8_2 := zd BK125.out 2))
    refine bodyPost_ret (zaj rfl _ _ gb125 101 #[.bool false, .slice none 0 0, .int .i64 0] (0, 0) _ rfl (by (with_reducible repeat (first | refine zg ?_ _ | refine zi ?_ | refine zf ?_ _)); refine zO (cs := #[.bool false, .slice none 0 0, .int .i64 0]) ?_ 2 _ rfl; (with_reducible repeat (first | refine zg ?_ _ | refine zi ?_ | refine zf ?_ _)); refine zO (cs := #[.bool false, .slice none 0 0, .int .i64 0]) ?_ 1 _ rfl; (with_reducible repeat (first | refine zg ?_ _ | refine zi ?_ | refine zf ?_ _)); refine zO (cs := #[.bool false, .slice none 0 0, .int .i64 0]) ?_ 0 _ rfl; (with_reducible repeat (first | refine zg ?_ _ | refine zi ?_ | refine zf ?_ _)); exact BK125.out) Try.underlying101 rfl (by kernel_rfl)) rfl ?_
    exact ⟨_, by first | rfl | (simp [zp, zq] <;> rfl) | (simp [*, zp, zq] <;> rfl), by first | exact Kd.zaY _ _ _ _ _ | exact Kd.N_nil _ _ _ _ _ | exact Kd.V_nil _ _ _ _ _ | exact Kd.Q_nil _ _ _ _ _ | exact Kd.S_nil _ _ _ _ _, by repeat (first | (with_reducible first | exact HB.out | apply zj | apply ze | apply zl | refine zm ?_ GE125.out) | exact HB.out)⟩
   ·rw [if_neg c6] at H
    have c6b0 : ((Go.bits .or .u64 (Go.bits .and .u64 a0 4503599627370495) 4503599627370496) == 0) = false := beq_eq_false_iff_ne.mpr c6
    have c6b1 : ((Go.bits .or .u64 (Go.bits .and .u64 a0 4503599627370495) 4503599627370496) != 0) = true := bne_iff_ne.mpr c6
    obtain ⟨y126, hy126⟩ : ∃ y_ : List Int, y_ = (([(Go.bits .or .u64 (Go.bits .and .u64 a0 4503599627370495) 4503599627370496) % 4294967296, ((Go.bits .or .u64 (Go.bits .and .u64 a0 4503599627370495) 4503599627370496) / 4294967296) % 4294967296] : List Int)) := ⟨_, rfl⟩
    replace H : ((zw.f k y126).bind fun t129 => (some (((a0 / 9223372036854775808) == 1), t129, wrap64 ((wrap64 (Go.bits .and .u64 (a0 / 4503599627370496) 2047)) - 1075), true))) = some (r1, r2, r3, r4) := by first | (rw [hy126]; with_reducible exact H) | (have H2_ := (Option.bind_some _ _).symm.trans H; rw [hy126]; with_reducible exact H2_) | (have H2_ := (Option.bind_some _ _).symm.trans H; with_reducible exact H2_) | with_reducible exact H | (rw [hy126]; exact H) | exact H
    have Ny126 := am_ hy126
    clear hy126
    replace H := Option.bind_eq_some_iff.mp H
    obtain ⟨t129, A90, H⟩ := H
    replace H : (some (((a0 / 9223372036854775808) == 1), t129, wrap64 ((wrap64 (Go.bits .and .u64 (a0 / 4503599627370496) 2047)) - 1075), true)) = some (r1, r2, r3, r4) := H
    have A9 := am_ A90
    clear A90
    simp only [Option.some.injEq, Prod.mk.injEq] at H
    obtain ⟨rfl, rfl, rfl, rfl⟩ := H
    go_enter Try.func93, Try.ntmps93
    go_wp2_with (first | ((with_reducible refine zk (N := 2) rfl ?_); refine zaq 2 (cs := #[.bool false, .slice none 0 0, .int .i64 0]) (t := 101) ?_; intro gb125 hg w10 hbox hb; have BK125 := am_ (hbox); have GW125 := am_ ((by rw [hg]; exact (zo bw_) : w.heap.size ≤ gb125)); replace HB := am_ (zb bw_ hb); have GE125 := GW125; clear hb hbox hg) | ((with_reducible refine zk (N := 30) rfl ?_); refine Kd.R_lit (Kd.int .u32) _ 134 ?hg (N := 30) ?hd (xs := ([(Go.bits .or .u64 (Go.bits .and .u64 a0 4503599627370495) 4503599627370496) % 4294967296, ((Go.bits .or .u64 (Go.bits .and .u64 a0 4503599627370495) 4503599627370496) / 4294967296) % 4294967296] : List Int)) (inner := [.int .u32 ((Go.bits .or .u64 (Go.bits .and .u64 a0 4503599627370495) 4503599627370496) % 4294967296), .int .u32 (((Go.bits .or .u64 (Go.bits .and .u64 a0 4503599627370495) 4503599627370496) / 4294967296) % 4294967296)]) (ok := fun _ => True) (okp := fun _ => True) ?hr ?hp (fun _ hk => hk) trivial (Below.refl _ _) (Nat.le_refl _) (by simp) ?_; (case hd => rfl); (case hg => rfl); (case hr => first | (go_simp; done) | (go_simp; rfl)); (case hp => exact (zaK.one (show Kd.M (Kd.int .u32) _ _ _ ((Go.bits .or .u64 (Go.bits .and .u64 a0 4503599627370495) 4503599627370496) % 4294967296) [.int .u32 ((Go.bits .or .u64 (Go.bits .and .u64 a0 4503599627370495) 4503599627370496) % 4294967296)] from rfl) (zaK.one (show Kd.M (Kd.int .u32) _ _ _ (((Go.bits .or .u64 (Go.bits .and .u64 a0 4503599627370495) 4503599627370496) / 4294967296) % 4294967296) [.int .u32 (((Go.bits .or .u64 (Go.bits .and .u64 a0 4503599627370495) 4503599627370496) / 4294967296) % 4294967296)] from rfl) (zaK.none _ _)))); intro v127 w11 ho12 hb hg_ hnew_; clear hg_ hnew_; (first | rw [← Ny126.out] at ho12 | (simp only [Int.reduceToNat] at ho12; rw [← Ny126.out] at ho12)); have HO128 := am_ (Kd.zag ho12 (zo bw_)); replace BK125 := am_ (fr_ BK125.out hb); replace HB := am_ (zb bw_ hb); clear hb ho12; obtain ⟨Ao13, co13, eo13⟩ := Kd.zY HO128.out; subst eo13) | ((with_reducible refine zac (f := 69) rfl ?_); refine zaZ (some 31) rfl rfl Try.func69 (by kernel_rfl) rfl #[.slice Ao13 y126.length co13] rfl (by (try simp only [List.map_toArray, List.map_cons, List.map_nil]); first | done | rfl | (simp only [List.length_drop, List.length_take]; rfl)) ?_; (with_reducible refine (zw.calls k (fun k_ => some k_ = (.slice Ao13 y126.length co13 : Value).ownBlock) (.slice Ao13 y126.length co13) y126 t129 w _ ?side1 ?side2 A9.out).mono ?_); (case side1 => exact bw_); (case side2 => exact Kd.R_tight rfl HO128.out); rintro e w14 ⟨v130, rfl, ho0, hb, hkp⟩; refine ⟨_, rfl, ?_⟩; replace BK125 := am_ (blk_kept (pe_ BK125.out) hkp (fun hs_ => (fun e_ => (Kd.R_ne HO128.out BK125.out (by decide)) e_) hs_)); have HO131 := am_ (Kd.zS (ok' := fun k_ => True) ho0 (fun k_ hk_ => trivial)); replace HB := am_ (hb); clear HO128; (try clear hb); (try clear hkp); (try clear ho0); obtain ⟨Ao15, co15, eo15⟩ := Kd.zY HO131.out; subst eo15; have hcz16_0 : w14.cell? ⟨gb125, 0, none⟩ = some (.bool false) := (za BK125.out 0).trans rfl; have hcz16_1 : w14.cell? ⟨gb125, 1, none⟩ = some (.slice none 0 0) := (za BK125.out 1).trans rfl; have hcz16_2 : w14.cell? ⟨gb125, 2, none⟩ = some (.int .i64 0) := (za BK125.out 2).trans rfl; have hfz16_0 := zd BK125.out 0; have hfz16_1 := zd BK125.out 1; have hfz16_2 := zd BK125.out 2))
    refine bodyPost_ret (zaj rfl _ _ gb125 101 #[.bool ((a0 / 9223372036854775808) == 1), .slice Ao15 t129.length co15, .int .i64 (wrap64 ((wrap64 (Go.bits .and .u64 (a0 / 4503599627370496) 2047)) - 1075))] (0, 0) _ rfl (by (with_reducible repeat (first | refine zg ?_ _ | refine zi ?_ | refine zf ?_ _)); refine zO (cs := #[.bool ((a0 / 9223372036854775808) == 1), .slice Ao15 t129.length co15, .int .i64 0]) ?_ 2 _ rfl; (with_reducible repeat (first | refine zg ?_ _ | refine zi ?_ | refine zf ?_ _)); refine zO (cs := #[.bool ((a0 / 9223372036854775808) == 1), .slice none 0 0, .int .i64 0]) ?_ 1 _ rfl; (with_reducible repeat (first | refine zg ?_ _ | refine zi ?_ | refine zf ?_ _)); refine zO (cs := #[.bool false, .slice none 0 0, .int .i64 0]) ?_ 0 _ rfl; (with_reducible repeat (first | refine zg ?_ _ | refine zi ?_ | refine zf ?_ _)); exact BK125.out) Try.underlying101 rfl (by kernel_rfl)) rfl ?_
    exact ⟨_, by first | rfl | (simp [zp, zq] <;> rfl) | (simp [*, zp, zq] <;> rfl), by (with_reducible repeat (first | apply Kd.zL | apply Kd.zH | apply Kd.zP)); exact Kd.zS (Kd.zap (p := ⟨gb125, 2, none⟩) (Kd.zap (p := ⟨gb125, 1, none⟩) (Kd.zap (p := ⟨gb125, 0, none⟩) (Kd.zar HO131.out BK125.out (by decide)) (fun _ hk => hk.2) (.bool ((a0 / 9223372036854775808) == 1))) (fun _ hk => hk.2) (.slice Ao15 t129.length co15)) (fun _ hk => hk.2) (.int .i64 (wrap64 ((wrap64 (Go.bits .and .u64 (a0 / 4503599627370496) 2047)) - 1075)))) (fun _ hk => trivial), by repeat (first | (with_reducible first | exact HB.out | apply zj | apply ze | apply zl | refine zm ?_ GE125.out) | exact HB.out)⟩
  ·rw [if_neg c5] at H
   have c5b0 : decide (0 < (wrap64 (Go.bits .and .u64 (a0 / 4503599627370496) 2047))) = false := decide_eq_false c5
   clear c5
   by_cases c17 : (Go.bits .and .u64 a0 4503599627370495) = 0
   ·rw [if_pos c17] at H
    have c17b0 : ((Go.bits .and .u64 a0 4503599627370495) == 0) = true := beq_iff_eq.mpr c17
    have c17b1 : ((Go.bits .and .u64 a0 4503599627370495) != 0) = false := bne_eq_false_iff_eq.mpr c17
    clear c17
    simp only [Option.some.injEq, Prod.mk.injEq] at H
    obtain ⟨rfl, rfl, rfl, rfl⟩ := H
    go_enter Try.func93, Try.ntmps93
    go_wp2_with (first | ((with_reducible refine zk (N := 2) rfl ?_); refine zaq 2 (cs := #[.bool false, .slice none 0 0, .int .i64 0]) (t := 101) ?_; intro gb125 hg w18 hbox hb; have BK125 := am_ (hbox); have GW125 := am_ ((by rw [hg]; exact (zo bw_) : w.heap.size ≤ gb125)); replace HB := am_ (zb bw_ hb); have GE125 := GW125; clear hb hbox hg; have hcz19_0 : w18.cell? ⟨gb125, 0, none⟩ = some (.bool false) := (za BK125.out 0).trans rfl; have hcz19_1 : w18.cell? ⟨gb125, 1, none⟩ = some (.slice none 0 0) := (za BK125.out 1).trans rfl; have hcz19_2 : w18.cell? ⟨gb125, 2, none⟩ = some (.int .i64 0) := (za BK125.out 2).trans rfl; have hfz19_0 := zd BK125.out 0; have hfz19_1 := zd BK125.out 1; have hfz19_2 := zd BK125.out 2))
    refine bodyPost_ret (zaj rfl _ _ gb125 101 #[.bool false, .slice none 0 0, .int .i64 0] (0, 0) _ rfl (by (with_reducible repeat (first | refine zg ?_ _ | refine zi ?_ | refine zf ?_ _)); refine zO (cs := #[.bool false, .slice none 0 0, .int .i64 0]) ?_ 2 _ rfl; (with_reducible repeat (first | refine zg ?_ _ | refine zi ?_ | refine zf ?_ _)); refine zO (cs := #[.bool false, .slice none 0 0, .int .i64 0]) ?_ 1 _ rfl; (with_reducible repeat (first | refine zg ?_ _ | refine zi ?_ | refine zf ?_ _)); refine zO (cs := #[.bool false, .slice none 0 0, .int .i64 0]) ?_ 0 _ rfl; (with_reducible repeat (first | refine zg ?_ _ | refine zi ?_ | refine zf ?_ _)); exact BK125.out) Try.underlying101 rfl (by kernel_rfl)) rfl ?_
    exact ⟨_, by first | rfl | (simp [zp, zq] <;> rfl) | (simp [*, zp, zq] <;> rfl), by first | exact Kd.zaY _ _ _ _ _ | exact Kd.N_nil _ _ _ _ _ | exact Kd.V_nil _ _ _ _ _ | exact Kd.Q_nil _ _ _ _ _ | exact Kd.S_nil _ _ _ _ _, by repeat (first | (with_reducible first | exact HB.out | apply zj | apply ze | apply zl | refine zm ?_ GE125.out) | exact HB.out)⟩
   ·rw [if_neg c17] at H
    have c17b0 : ((Go.bits .and .u64 a0 4503599627370495) == 0) = false := beq_eq_false_iff_ne.mpr c17
    have c17b1 : ((Go.bits .and .u64 a0 4503599627370495) != 0) = true := bne_iff_ne.mpr c17
    obtain ⟨y132, hy132⟩ : ∃ y_ : List Int, y_ = (([(Go.bits .and .u64 a0 4503599627370495) % 4294967296, ((Go.bits .and .u64 a0 4503599627370495) / 4294967296) % 4294967296] : List Int)) := ⟨_, rfl⟩
    replace H : ((zw.f k y132).bind fun t135 => (some (((a0 / 9223372036854775808) == 1), t135, 1 - 1075, true))) = some (r1, r2, r3, r4) := by first | (rw [hy132]; with_reducible exact H) | (have H2_ := (Option.bind_some _ _).symm.trans H; rw [hy132]; with_reducible exact H2_) | (have H2_ := (Option.bind_some _ _).symm.trans H; with_reducible exact H2_) | with_reducible exact H | (rw [hy132]; exact H) | exact H
    have Ny132 := am_ hy132
    clear hy132
    replace H := Option.bind_eq_some_iff.mp H
    obtain ⟨t135, A200, H⟩ := H
    replace H : (some (((a0 / 9223372036854775808) == 1), t135, 1 - 1075, true)) = some (r1, r2, r3, r4) := H
    have A20 := am_ A200
    clear A200
    simp only [Option.some.injEq, Prod.mk.injEq] at H
    obtain ⟨rfl, rfl, rfl, rfl⟩ := H
    go_enter Try.func93, Try.ntmps93
    go_wp2_with (first | ((with_reducible refine zk (N := 2) rfl ?_); refine zaq 2 (cs := #[.bool false, .slice none 0 0, .int .i64 0]) (t := 101) ?_; intro gb125 hg w21 hbox hb; have BK125 := am_ (hbox); have GW125 := am_ ((by rw [hg]; exact (zo bw_) : w.heap.size ≤ gb125)); replace HB := am_ (zb bw_ hb); have GE125 := GW125; clear hb hbox hg) | ((with_reducible refine zk (N := 30) rfl ?_); refine Kd.R_lit (Kd.int .u32) _ 134 ?hg (N := 30) ?hd (xs := ([(Go.bits .and .u64 a0 4503599627370495) % 4294967296, ((Go.bits .and .u64 a0 4503599627370495) / 4294967296) % 4294967296] : List Int)) (inner := [.int .u32 ((Go.bits .and .u64 a0 4503599627370495) % 4294967296), .int .u32 (((Go.bits .and .u64 a0 4503599627370495) / 4294967296) % 4294967296)]) (ok := fun _ => True) (okp := fun _ => True) ?hr ?hp (fun _ hk => hk) trivial (Below.refl _ _) (Nat.le_refl _) (by simp) ?_; (case hd => rfl); (case hg => rfl); (case hr => first | (go_simp; done) | (go_simp; rfl)); (case hp => exact (zaK.one (show Kd.M (Kd.int .u32) _ _ _ ((Go.bits .and .u64 a0 4503599627370495) % 4294967296) [.int .u32 ((Go.bits .and .u64 a0 4503599627370495) % 4294967296)] from rfl) (zaK.one (show Kd.M (Kd.int .u32) _ _ _ (((Go.bits .and .u64 a0 4503599627370495) / 4294967296) % 4294967296) [.int .u32 (((Go.bits .and .u64 a0 4503599627370495) / 4294967296) % 4294967296)] from rfl) (zaK.none _ _)))); intro v133 w22 ho23 hb hg_ hnew_; clear hg_ hnew_; (first | rw [← Ny132.out] at ho23 | (simp only [Int.reduceToNat] at ho23; rw [← Ny132.out] at ho23)); have HO134 := am_ (Kd.zag ho23 (zo bw_)); replace BK125 := am_ (fr_ BK125.out hb); replace HB := am_ (zb bw_ hb); clear hb ho23; obtain ⟨Ao24, co24, eo24⟩ := Kd.zY HO134.out; subst eo24) | ((with_reducible refine zac (f := 69) rfl ?_); refine zaZ (some 31) rfl rfl Try.func69 (by kernel_rfl) rfl #[.slice Ao24 y132.length co24] rfl (by (try simp only [List.map_toArray, List.map_cons, List.map_nil]); first | done | rfl | (simp only [List.length_drop, List.length_take]; rfl)) ?_; (with_reducible refine (zw.calls k (fun k_ => some k_ = (.slice Ao24 y132.length co24 : Value).ownBlock) (.slice Ao24 y132.length co24) y132 t135 w _ ?side1 ?side2 A20.out).mono ?_); (case side1 => exact bw_); (case side2 => exact Kd.R_tight rfl HO134.out); rintro e w25 ⟨v136, rfl, ho0, hb, hkp⟩; refine ⟨_, rfl, ?_⟩; replace BK125 := am_ (blk_kept (pe_ BK125.out) hkp (fun hs_ => (fun e_ => (Kd.R_ne HO134.out BK125.out (by decide)) e_) hs_)); have HO137 := am_ (Kd.zS (ok' := fun k_ => True) ho0 (fun k_ hk_ => trivial)); replace HB := am_ (hb); clear HO134; (try clear hb); (try clear hkp); (try clear ho0); obtain ⟨Ao26, co26, eo26⟩ := Kd.zY HO137.out; subst eo26; have hcz27_0 : w25.cell? ⟨gb125, 0, none⟩ = some (.bool false) := (za BK125.out 0).trans rfl; have hcz27_1 : w25.cell? ⟨gb125, 1, none⟩ = some (.slice none 0 0) := (za BK125.out 1).trans rfl; have hcz27_2 : w25.cell? ⟨gb125, 2, none⟩ = some (.int .i64 0) := (za BK125.out 2).trans rfl; have hfz27_0 := zd BK125.out 0; have hfz27_1 := zd BK125.out 1; have hfz27_2 := zd BK125.out 2))
    refine bodyPost_ret (zaj rfl _ _ gb125 101 #[.bool ((a0 / 9223372036854775808) == 1), .slice Ao26 t135.length co26, .int .i64 (1 - 1075)] (0, 0) _ rfl (by (with_reducible repeat (first | refine zg ?_ _ | refine zi ?_ | refine zf ?_ _)); refine zO (cs := #[.bool ((a0 / 9223372036854775808) == 1), .slice Ao26 t135.length co26, .int .i64 0]) ?_ 2 _ rfl; (with_reducible repeat (first | refine zg ?_ _ | refine zi ?_ | refine zf ?_ _)); refine zO (cs := #[.bool ((a0 / 9223372036854775808) == 1), .slice none 0 0, .int .i64 0]) ?_ 1 _ rfl; (with_reducible repeat (first | refine zg ?_ _ | refine zi ?_ | refine zf ?_ _)); refine zO (cs := #[.bool false, .slice none 0 0, .int .i64 0]) ?_ 0 _ rfl; (with_reducible repeat (first | refine zg ?_ _ | refine zi ?_ | refine zf ?_ _)); exact BK125.out) Try.underlying101 rfl (by kernel_rfl)) rfl ?_
    exact ⟨_, by first | rfl | (simp [zp, zq] <;> rfl) | (simp [*, zp, zq] <;> rfl), by (with_reducible repeat (first | apply Kd.zL | apply Kd.zH | apply Kd.zP)); exact Kd.zS (Kd.zap (p := ⟨gb125, 2, none⟩) (Kd.zap (p := ⟨gb125, 1, none⟩) (Kd.zap (p := ⟨gb125, 0, none⟩) (Kd.zar HO137.out BK125.out (by decide)) (fun _ hk => hk.2) (.bool ((a0 / 9223372036854775808) == 1))) (fun _ hk => hk.2) (.slice Ao26 t135.length co26)) (fun _ hk => hk.2) (.int .i64 (-1074))) (fun _ hk => trivial), by repeat (first | (with_reducible first | exact HB.out | apply zj | apply ze | apply zl | refine zm ?_ GE125.out) | exact HB.out)⟩
end Go.Proofs.Ytlidbaejhmamjaa.PB
namespace Go.Proofs.Ytlidbaejhmamjaa.PB
open Go.RowKit YtlidbaejhmamjaaW.PrintWords YtlidbaejhmamjaaW.PrintLast YtlidbaejhmamjaaW.PrintMore
attribute [local go_sem] zak zam zaw zau zae zad zal zan   -- for this text's walks alone
def zC.l0 : Nat → List Int → Int → List (S101) → Int → Option ((List (S101)) × Bool)
 | 0, _, _, _, _ => none
 | k + 1, x0, x1, x6, x7 => if x7 < x1 then (if 0 ≤ x7 then (if x7 < (x0.length : Int) then ((zah.f k (rd x0 x7)).bind fun bt152 => (if bt152.2.2.2 = true then (if x6.length < 3518437208883 then (zC.l0 k x0 x1 (x6 ++ [(⟨bt152.1, bt152.2.1, bt152.2.2.1⟩ : S101)]) (wrap64 (x7 + 1))) else (none)) else (some (([] : List (S101)), false)))) else (none)) else (none)) else (some (x6, true))
def zC.f (k : Nat) (l0 : List Int) (a1 : Int) : Option ((List (S101)) × Bool) := if (l0.length : Int) = a1 then (zC.l0 k l0 a1 ([] : List (S101)) 0) else (some (([] : List (S101)), false))
set_option maxHeartbeats 8000000 in
set_option maxRecDepth 100000 in
theorem zC.calls (k : Nat) (A0 : Option Addr) (c0 : Nat) (l0 : List Int) (a1 : Int) (r1 : List (S101)) (r2 : Bool) (w : World) (hr0 : Kd.C (Kd.int .u64) w A0 l0.length l0) (hc0 : l0.length ≤ c0) (h : zC.f k l0 a1 = some (r1, r2)) :
  Calls Try.prog 94 #[.slice A0 l0.length c0, .int .i64 a1] w fun e w' => ∃ v0_ : Value, e = .returned (.tuple #[v0_, .bool r2]) ∧ Kd.S k101 101 w' w.heap.size (fun _ => True) v0_ r1 ∧ Below w.heap.size w w' := by
 have hu101 := Try.underlying101
 have HR0 := am_ hr0
 have HC0 := am_ hc0
 clear hr0 hc0
 have HB := am_ (Below.refl w.heap.size w)
 have H : (if (l0.length : Int) = a1 then (zC.l0 k l0 a1 ([] : List (S101)) 0) else (some (([] : List (S101)), false))) = some (r1, r2) := h
 clear h
 by_cases c3 : (l0.length : Int) = a1
 ·rw [if_pos c3] at H
  have c3b0 : ((l0.length : Int) == a1) = true := beq_iff_eq.mpr c3
  have c3b1 : ((l0.length : Int) != a1) = false := bne_eq_false_iff_eq.mpr c3
  clear c3
  have H' := am_ H
  clear H
  go_enter Try.func94, Try.ntmps94
  go_wp2
  go_loopg [6, 7] k (fun kq v6 v7 w' => ∃ (x6_1 : List (S101)) (x7_1 : Int), v7 = .int .i64 x7_1 ∧ Aside0 (zC.l0 kq l0 a1 x6_1 x7_1 = some (r1, r2)) ∧ Aside0 (kq ≤ k) ∧ Aside0 (Kd.S k101 101 w' w.heap.size (fun _ => True) v6 x6_1) ∧ Aside0 (Below w.heap.size w w'))
  case atStart => exact ⟨(([] : List (S101))), (0), (by first | rfl | (simp; done) | (simp [*]; done)), H', ⟨Nat.le_refl _⟩, ⟨by first | exact Kd.S_nil _ _ _ _ _ | exact Kd.N_nil _ _ _ _ _ | exact Kd.V_nil _ _ _ _ _ | exact Kd.Q_nil _ _ _ _ _ | exact Kd.zaY _ _ _ _ _⟩, ⟨by repeat (first | (with_reducible first | exact HB.out | apply zj | apply ze | apply zl) | exact HB.out)⟩⟩
  case round =>
   clear H'
   try clear p2
   try clear c3
   try clear c3b0
   try clear c3b1
   obtain ⟨x6_1, x7_1, rfl, HA, HK1, HO_6, HB⟩ := hrel
   cases gk with
   | zero => exact absurd HA.out (by simp [zC.l0])
   | succ k1 =>
    have H := HA.out
    clear HA
    simp only [zC.l0] at H
    by_cases c4 : x7_1 < a1
    ·rw [if_pos c4] at H
     have c4b0 : decide (x7_1 < a1) = true := decide_eq_true c4
     clear c4
     by_cases c5 : 0 ≤ x7_1
     ·rw [if_pos c5] at H
      have c5b0 : decide (0 ≤ x7_1) = true := decide_eq_true c5
      clear c5
      by_cases c6 : x7_1 < (l0.length : Int)
      ·rw [if_pos c6] at H
       have c6b0 : decide (x7_1 < (l0.length : Int)) = true := decide_eq_true c6
       clear c6
       replace H := Option.bind_eq_some_iff.mp H
       obtain ⟨⟨t152, t153, t156, t157⟩, A70, H⟩ := H
       replace H : (if t157 = true then (if x6_1.length < 3518437208883 then (zC.l0 k1 l0 a1 (x6_1 ++ [(⟨t152, t153, t156⟩ : S101)]) (wrap64 (x7_1 + 1))) else (none)) else (some (([] : List (S101)), false))) = some (r1, r2) := H
       have A7 := am_ A70
       clear A70
       by_cases c8 : t157 = true
       ·subst c8
        have H1 : (if x6_1.length < 3518437208883 then (zC.l0 k1 l0 a1 (x6_1 ++ [(⟨t152, t153, t156⟩ : S101)]) (wrap64 (x7_1 + 1))) else (none)) = some (r1, r2) := by rw [if_pos rfl] at H; exact H
        clear H
        have H := H1
        clear H1
        by_cases c9 : x6_1.length < 3518437208883
        ·rw [if_pos c9] at H
         have LMc9 := am_ c9
         clear c9
         obtain ⟨y159, hy159⟩ : ∃ y_ : List (S101), y_ = (x6_1 ++ [(⟨t152, t153, t156⟩ : S101)]) := ⟨_, rfl⟩
         replace H : (zC.l0 k1 l0 a1 y159 (wrap64 (x7_1 + 1))) = some (r1, r2) := by first | (rw [hy159]; with_reducible exact H) | (have H2_ := (Option.bind_some _ _).symm.trans H; rw [hy159]; with_reducible exact H2_) | (have H2_ := (Option.bind_some _ _).symm.trans H; with_reducible exact H2_) | with_reducible exact H | (rw [hy159]; exact H) | exact H
         have Ny159 := am_ hy159
         clear hy159
         have H' := am_ H
         clear H
         have p151 : 0 ≤ (x7_1 : Int) := of_decide_eq_true (by first | (with_reducible assumption) | assumption)
         have q151 : x7_1 < (l0.length : Int) := of_decide_eq_true (by first | (with_reducible assumption) | assumption)
         obtain ⟨ad151, e151, hx151_0⟩ := Kd.z8 HR0.out x7_1 p151 q151
         cases e151
         replace hx151_0 := (HB.out.cell (World.block_lt_of_cell? w _ hx151_0)).trans hx151_0
         replace p151 := eq_true p151
         replace q151 := eq_true q151
         go_wp2_with (first | ((with_reducible refine zac (f := 93) rfl ?_); refine zaZ (some 24) rfl rfl Try.func93 (by kernel_rfl) rfl #[.int .u64 (rd l0 x7_1)] rfl (by (try simp only [List.map_toArray, List.map_cons, List.map_nil]); first | done | rfl | (simp only [List.length_drop, List.length_take]; rfl)) ?_; (with_reducible refine (zah.calls k1 (rd l0 x7_1) t152 t153 t156 true _ A7.out).mono ?_); rintro e w10 ⟨v154, rfl, ho0, hb⟩; refine ⟨_, rfl, ?_⟩; replace HO_6 := am_ (Kd.S_elder' (by (with_reducible repeat (first | apply Kd.za8 | apply Kd.za7 | apply Kd.S_drew)); exact HO_6.out) (Kd.R_base ho0) hb); have HO155 := am_ (Kd.zag ho0 (zo bw_)); replace HB := am_ (zb bw_ hb); (try clear hb); (try clear hb2); (try clear hk); (try clear hi); (try clear ho0)) | ((with_reducible refine zk (N := 8) rfl ?_); refine zaq 8 (cs := #[.bool false, .slice none 0 0, .int .i64 0]) (t := 101) ?_; intro gb158 hg w11 hbox hb; replace HO_6 := am_ (Kd.S_below (Kd.S_elderB (by (with_reducible repeat (first | apply Kd.za8 | apply Kd.za7 | apply Kd.S_drew)); exact HO_6.out) gb158 (Nat.le_of_eq hg.symm)) hb); replace HO155 := am_ (Kd.zI (pk_ HO155.out) hb); have BK158 := am_ (hbox); have GW158 := am_ ((by rw [hg]; exact (zo bw_) : w.heap.size ≤ gb158)); replace HB := am_ (zb bw_ hb); have GE158 := GW158; clear hb hbox hg; have hcz12_0 : w11.cell? ⟨gb158, 0, none⟩ = some (.bool false) := (za BK158.out 0).trans rfl; have hcz12_1 : w11.cell? ⟨gb158, 1, none⟩ = some (.slice none 0 0) := (za BK158.out 1).trans rfl; have hcz12_2 : w11.cell? ⟨gb158, 2, none⟩ = some (.int .i64 0) := (za BK158.out 2).trans rfl; have hfz12_0 := zd BK158.out 0; have hfz12_1 := zd BK158.out 1; have hfz12_2 := zd BK158.out 2; obtain ⟨Ao13, co13, eo13⟩ := Kd.zY HO155.out; subst eo13) | ((with_reducible refine zr (t := 101) (p := 8) rfl ?_); refine store_ 101 8 ((((w11.setCell ⟨gb158, 0, none⟩ (.bool t152)).setCell ⟨gb158, 1, none⟩ (.slice Ao13 t153.length co13)).setCell ⟨gb158, 2, none⟩ (.int .i64 t156))) ?_; intro w14 hw; replace HO_6 : Aside0 (Kd.S k101 101 w14 w.heap.size (fun k_ => some k_ ≠ (.slice Ao13 t153.length co13 : Value).ownBlock ∧ k_ ≠ gb158) u6 x6_1) := ⟨(by rw [hw]; exact (by (with_reducible repeat (first | apply Kd.za8 | apply Kd.za7 | apply Kd.S_drew)); exact Kd.S_mono (Kd.S_far (p := ⟨gb158, 2, none⟩) (Kd.S_far (p := ⟨gb158, 1, none⟩) (Kd.S_far (p := ⟨gb158, 0, none⟩) (Kd.S_mono HO_6.out (fun k_ hk => (⟨hk, hk.2⟩ : _ ∧ k_ ≠ gb158))) (fun _ hk => hk.2) (.bool t152)) (fun _ hk => hk.2) (.slice Ao13 t153.length co13)) (fun _ hk => hk.2) (.int .i64 t156)) (fun _ hk => ⟨hk.1.1.2, hk.1.2⟩)))⟩; replace HO155 : Aside0 (Kd.R (Kd.int .u32) 134 w14 w.heap.size (fun _ => True) (.slice Ao13 t153.length co13) t153) := ⟨(by rw [hw]; exact (by (with_reducible repeat (first | apply Kd.zL | apply Kd.zH | apply Kd.zP)); exact Kd.zS (Kd.zap (p := ⟨gb158, 2, none⟩) (Kd.zap (p := ⟨gb158, 1, none⟩) (Kd.zap (p := ⟨gb158, 0, none⟩) (Kd.zar HO155.out BK158.out (by decide)) (fun _ hk => hk.2) (.bool t152)) (fun _ hk => hk.2) (.slice Ao13 t153.length co13)) (fun _ hk => hk.2) (.int .i64 t156)) (fun _ hk => trivial)))⟩; replace BK158 : Aside0 (w14.heap[gb158]? = some (.cells #[.bool t152, .slice Ao13 t153.length co13, .int .i64 t156] 101 (0, 0))) := ⟨(by rw [hw]; exact (by (with_reducible repeat (first | refine zg ?_ _ | refine zi ?_ | refine zf ?_ _)); refine zO (cs := #[.bool t152, .slice Ao13 t153.length co13, .int .i64 0]) ?_ 2 _ rfl; (with_reducible repeat (first | refine zg ?_ _ | refine zi ?_ | refine zf ?_ _)); refine zO (cs := #[.bool t152, .slice none 0 0, .int .i64 0]) ?_ 1 _ rfl; (with_reducible repeat (first | refine zg ?_ _ | refine zi ?_ | refine zf ?_ _)); refine zO (cs := #[.bool false, .slice none 0 0, .int .i64 0]) ?_ 0 _ rfl; (with_reducible repeat (first | refine zg ?_ _ | refine zi ?_ | refine zf ?_ _)); exact BK158.out))⟩; replace HB : Aside0 (Below w.heap.size w w14) := ⟨(by rw [hw]; exact bw_)⟩; clear hw; have hcz15_0 : w14.cell? ⟨gb158, 0, none⟩ = some (.bool t152) := (za BK158.out 0).trans rfl; have hcz15_1 : w14.cell? ⟨gb158, 1, none⟩ = some (.slice Ao13 t153.length co13) := (za BK158.out 1).trans rfl; have hcz15_2 : w14.cell? ⟨gb158, 2, none⟩ = some (.int .i64 t156) := (za BK158.out 2).trans rfl; have hfz15_0 := zd BK158.out 0; have hfz15_1 := zd BK158.out 1; have hfz15_2 := zd BK158.out 2) | ((with_reducible refine gate_builtin (b := .append) (xs := #[.tmp 29, .tmp 31]) rfl ?_); at_builtin; refine Kd.S_append k101 (w0 := w) w.heap.size rfl (.tmp 29) (.tmp 31) 140 101 (.agg #[(.bool false), (.slice none 0 0), (.int .i64 0)]) 40 rfl Try.underlying140 zav rfl (by decide) (by omega) u6 x6_1 (⟨t152, t153, t156⟩ : S101) [.bool t152, .slice Ao13 t153.length co13, .int .i64 t156] (fun k_ => k_ ≠ gb158) (fun k_ => some k_ = (.slice Ao13 t153.length co13 : Value).ownBlock) rfl rfl ?aP (fun k_ hk_ => ((Kd.zS (ok' := fun k_ => ((fun k_ => k_ ≠ gb158)) k_ ∧ some k_ ≠ (u6 : Value).ownBlock) (Kd.zar (Kd.R_apart' (HO155.out) (Kd.S_typed HO_6.out) (by decide)) BK158.out (by decide)) (fun k_ hk => ⟨hk.2, hk.1.2⟩))).1 k_ hk_.symm) ?aF ?aO ?aB ?aS ?aL ?_; (case aP => exact k101_mkM _ _ _ (⟨t152, t153, t156⟩ : S101) (Kd.zS (Kd.R_tight rfl (Kd.zS (ok' := fun k_ => ((fun k_ => k_ ≠ gb158)) k_ ∧ some k_ ≠ (u6 : Value).ownBlock) (Kd.zar (Kd.R_apart' (HO155.out) (Kd.S_typed HO_6.out) (by decide)) BK158.out (by decide)) (fun k_ hk => ⟨hk.2, hk.1.2⟩))) (fun _ h_ => h_))); (case aB => exact bw_); (case aF => exact (fun k_ hk => Kd.freshB (g := gb158) (o := .cells #[.bool t152, .slice Ao13 t153.length co13, .int .i64 t156] 101 (0, 0)) (pe_ BK158.out) k_ hk)); (case aO => exact (by (with_reducible repeat (first | apply Kd.za8 | apply Kd.za7 | apply Kd.S_drew)); exact Kd.S_mono HO_6.out (fun k_ hk => ⟨hk.2, fun e_ => hk.1 e_⟩))); (case aS => exact (zo bw_)); (case aL => have := LMc9.out; omega); intro v160 w16 ho hb hg hat; rw [← Ny159.out] at ho; replace BK158 := am_ (zaV (g := gb158) (o := .cells #[.bool t152, .slice Ao13 t153.length co13, .int .i64 t156] 101 (0, 0)) (pe_ BK158.out) hg (Kd.S_away HO_6.out (fun _ hk => hk.2))); replace HB := am_ (hb); have HO161 := am_ (ho); clear HO_6 HO155; clear ho hb hg hat))
         go_roundg k1
         case measure => have := HK1.out; omega
         case rel => exact ⟨(y159), (wrap64 (x7_1 + 1)), (by first | rfl | (simp; done) | (simp [*]; done)), H', ⟨by have := HK1.out; omega⟩, ⟨by (with_reducible repeat (first | apply Kd.za8 | apply Kd.za7 | apply Kd.S_drew)); exact Kd.S_mono HO161.out (fun _ hk => trivial)⟩, ⟨by repeat (first | (with_reducible first | exact HB.out | apply zj | apply ze | apply zl | refine zm ?_ GE158.out) | exact HB.out)⟩⟩
        ·rw [if_neg c9] at H
         exact absurd H (by simp)
       ·replace c8 := Bool.eq_false_iff.mpr c8
        subst c8
        have H1 : (some (([] : List (S101)), false)) = some (r1, r2) := by rw [if_neg (show ¬ (false = true) by decide)] at H; exact H
        clear H
        have H := H1
        clear H1
        simp only [Option.some.injEq, Prod.mk.injEq] at H
        obtain ⟨rfl, rfl⟩ := H
        have p151 : 0 ≤ (x7_1 : Int) := of_decide_eq_true (by first | (with_reducible assumption) | assumption)
        have q151 : x7_1 < (l0.length : Int) := of_decide_eq_true (by first | (with_reducible assumption) | assumption)
        obtain ⟨ad151, e151, hx151_0⟩ := Kd.z8 HR0.out x7_1 p151 q151
        cases e151
        replace hx151_0 := (HB.out.cell (World.block_lt_of_cell? w _ hx151_0)).trans hx151_0
        replace p151 := eq_true p151
        replace q151 := eq_true q151
        go_wp2_with (first | ((with_reducible refine zac (f := 93) rfl ?_); refine zaZ (some 24) rfl rfl Try.func93 (by kernel_rfl) rfl #[.int .u64 (rd l0 x7_1)] rfl (by (try simp only [List.map_toArray, List.map_cons, List.map_nil]); first | done | rfl | (simp only [List.length_drop, List.length_take]; rfl)) ?_; (with_reducible refine (zah.calls k1 (rd l0 x7_1) t152 t153 t156 false _ A7.out).mono ?_); rintro e w17 ⟨v154, rfl, ho0, hb⟩; refine ⟨_, rfl, ?_⟩; replace HO_6 := am_ (Kd.S_elder' (by (with_reducible repeat (first | apply Kd.za8 | apply Kd.za7 | apply Kd.S_drew)); exact HO_6.out) (Kd.R_base ho0) hb); have HO155 := am_ (Kd.zag ho0 (zo bw_)); replace HB := am_ (zb bw_ hb); (try clear hb); (try clear hb2); (try clear hk); (try clear hi); (try clear ho0)) | ((with_reducible refine zk (N := 8) rfl ?_); refine zaq 8 (cs := #[.bool false, .slice none 0 0, .int .i64 0]) (t := 101) ?_; intro gb158 hg w18 hbox hb; replace HO_6 := am_ (Kd.S_below (Kd.S_elderB (by (with_reducible repeat (first | apply Kd.za8 | apply Kd.za7 | apply Kd.S_drew)); exact HO_6.out) gb158 (Nat.le_of_eq hg.symm)) hb); replace HO155 := am_ (Kd.zI (pk_ HO155.out) hb); have BK158 := am_ (hbox); have GW158 := am_ ((by rw [hg]; exact (zo bw_) : w.heap.size ≤ gb158)); replace HB := am_ (zb bw_ hb); have GE158 := GW158; clear hb hbox hg; have hcz19_0 : w18.cell? ⟨gb158, 0, none⟩ = some (.bool false) := (za BK158.out 0).trans rfl; have hcz19_1 : w18.cell? ⟨gb158, 1, none⟩ = some (.slice none 0 0) := (za BK158.out 1).trans rfl; have hcz19_2 : w18.cell? ⟨gb158, 2, none⟩ = some (.int .i64 0) := (za BK158.out 2).trans rfl; have hfz19_0 := zd BK158.out 0; have hfz19_1 := zd BK158.out 1; have hfz19_2 := zd BK158.out 2; obtain ⟨Ao20, co20, eo20⟩ := Kd.zY HO155.out; subst eo20))
        go_ret2
        exact ⟨_, by first | rfl | (simp [zp, zq] <;> rfl) | (simp [*, zp, zq] <;> rfl), by first | exact Kd.S_nil _ _ _ _ _ | exact Kd.N_nil _ _ _ _ _ | exact Kd.V_nil _ _ _ _ _ | exact Kd.Q_nil _ _ _ _ _ | exact Kd.zaY _ _ _ _ _, by repeat (first | (with_reducible first | exact HB.out | apply zj | apply ze | apply zl | refine zm ?_ GE158.out) | exact HB.out)⟩
      ·rw [if_neg c6] at H
       exact absurd H (by simp)
     ·rw [if_neg c5] at H
      exact absurd H (by simp)
    ·rw [if_neg c4] at H
     have c4b0 : decide (x7_1 < a1) = false := decide_eq_false c4
     clear c4
     simp only [Option.some.injEq, Prod.mk.injEq] at H
     obtain ⟨rfl, rfl⟩ := H
     go_wp2
     go_ret2
     exact ⟨_, by first | rfl | (simp [zp, zq] <;> rfl) | (simp [*, zp, zq] <;> rfl), by (with_reducible repeat (first | apply Kd.za8 | apply Kd.za7 | apply Kd.S_drew)); exact HO_6.out, by repeat (first | (with_reducible first | exact HB.out | apply zj | apply ze | apply zl) | exact HB.out)⟩
 ·rw [if_neg c3] at H
  have c3b0 : ((l0.length : Int) == a1) = false := beq_eq_false_iff_ne.mpr c3
  have c3b1 : ((l0.length : Int) != a1) = true := bne_iff_ne.mpr c3
  simp only [Option.some.injEq, Prod.mk.injEq] at H
  obtain ⟨rfl, rfl⟩ := H
  go_enter Try.func94, Try.ntmps94
  go_wp2
  go_ret2
  exact ⟨_, by first | rfl | (simp [zp, zq] <;> rfl) | (simp [*, zp, zq] <;> rfl), by first | exact Kd.S_nil _ _ _ _ _ | exact Kd.N_nil _ _ _ _ _ | exact Kd.V_nil _ _ _ _ _ | exact Kd.Q_nil _ _ _ _ _ | exact Kd.zaY _ _ _ _ _, by repeat (first | (with_reducible first | exact HB.out | apply zj | apply ze | apply zl) | exact HB.out)⟩
end Go.Proofs.Ytlidbaejhmamjaa.PB
namespace Go.Proofs.Ytlidbaejhmamjaa.PB
open Go.RowKit YtlidbaejhmamjaaW.PrintWords YtlidbaejhmamjaaW.PrintLast YtlidbaejhmamjaaW.PrintMore
attribute [local go_sem] zak zam zaw zau zae zad zal zan   -- for this text's walks alone
def zN.l0 : Nat → List Int → List (S101) → Int → Option ((List (S101)) × Bool)
 | 0, _, _, _ => none
 | k + 1, x0, x4, x5 => if x5 < (x0.length : Int) then (if 0 ≤ x5 then ((zah.f k (rd x0 x5)).bind fun bt141 => (if bt141.2.2.2 = true then (if x4.length < 3518437208883 then (zN.l0 k x0 (x4 ++ [(⟨bt141.1, bt141.2.1, bt141.2.2.1⟩ : S101)]) (wrap64 (x5 + 1))) else (none)) else (some (([] : List (S101)), false)))) else (none)) else (some (x4, true))
def zN.f (k : Nat) (l0 : List Int) : Option ((List (S101)) × Bool) := zN.l0 k l0 ([] : List (S101)) 0
set_option maxHeartbeats 8000000 in
set_option maxRecDepth 100000 in
theorem zN.calls (k : Nat) (A0 : Option Addr) (c0 : Nat) (l0 : List Int) (r1 : List (S101)) (r2 : Bool) (w : World) (hr0 : Kd.C (Kd.int .u64) w A0 l0.length l0) (hc0 : l0.length ≤ c0) (h : zN.f k l0 = some (r1, r2)) :
  Calls Try.prog 76 #[.slice A0 l0.length c0] w fun e w' => ∃ v0_ : Value, e = .returned (.tuple #[v0_, .bool r2]) ∧ Kd.S k101 101 w' w.heap.size (fun _ => True) v0_ r1 ∧ Below w.heap.size w w' := by
 have hu101 := Try.underlying101
 have HR0 := am_ hr0
 have HC0 := am_ hc0
 clear hr0 hc0
 have HB := am_ (Below.refl w.heap.size w)
 have H : (zN.l0 k l0 ([] : List (S101)) 0) = some (r1, r2) := h
 clear h
 have H' := am_ H
 clear H
 go_enter Try.func76, Try.ntmps76
 go_wp2
 go_loopg [4, 5] k (fun kq v4 v5 w' => ∃ (x4_1 : List (S101)) (x5_1 : Int), v5 = .int .i64 x5_1 ∧ Aside0 (zN.l0 kq l0 x4_1 x5_1 = some (r1, r2)) ∧ Aside0 (kq ≤ k) ∧ Aside0 (Kd.S k101 101 w' w.heap.size (fun _ => True) v4 x4_1) ∧ Aside0 (Below w.heap.size w w'))
 case atStart => exact ⟨(([] : List (S101))), (0), (by first | rfl | (simp; done) | (simp [*]; done)), H', ⟨Nat.le_refl _⟩, ⟨by first | exact Kd.S_nil _ _ _ _ _ | exact Kd.N_nil _ _ _ _ _ | exact Kd.V_nil _ _ _ _ _ | exact Kd.Q_nil _ _ _ _ _ | exact Kd.zaY _ _ _ _ _⟩, ⟨by repeat (first | (with_reducible first | exact HB.out | apply zj | apply ze | apply zl) | exact HB.out)⟩⟩
 case round =>
  clear H'
  obtain ⟨x4_1, x5_1, rfl, HA, HK1, HO_4, HB⟩ := hrel
  cases gk with
  | zero => exact absurd HA.out (by simp [zN.l0])
  | succ k1 =>
   have H := HA.out
   clear HA
   simp only [zN.l0] at H
   by_cases c2 : x5_1 < (l0.length : Int)
   ·rw [if_pos c2] at H
    have c2b0 : decide (x5_1 < (l0.length : Int)) = true := decide_eq_true c2
    clear c2
    by_cases c3 : 0 ≤ x5_1
    ·rw [if_pos c3] at H
     have c3b0 : decide (0 ≤ x5_1) = true := decide_eq_true c3
     clear c3
     replace H := Option.bind_eq_some_iff.mp H
     obtain ⟨⟨t141, t142, t145, t146⟩, A40, H⟩ := H
     replace H : (if t146 = true then (if x4_1.length < 3518437208883 then (zN.l0 k1 l0 (x4_1 ++ [(⟨t141, t142, t145⟩ : S101)]) (wrap64 (x5_1 + 1))) else (none)) else (some (([] : List (S101)), false))) = some (r1, r2) := H
     have A4 := am_ A40
     clear A40
     by_cases c5 : t146 = true
     ·subst c5
      have H1 : (if x4_1.length < 3518437208883 then (zN.l0 k1 l0 (x4_1 ++ [(⟨t141, t142, t145⟩ : S101)]) (wrap64 (x5_1 + 1))) else (none)) = some (r1, r2) := by rw [if_pos rfl] at H; exact H
      clear H
      have H := H1
      clear H1
      by_cases c6 : x4_1.length < 3518437208883
      ·rw [if_pos c6] at H
       have LMc6 := am_ c6
       clear c6
       obtain ⟨y148, hy148⟩ : ∃ y_ : List (S101), y_ = (x4_1 ++ [(⟨t141, t142, t145⟩ : S101)]) := ⟨_, rfl⟩
       replace H : (zN.l0 k1 l0 y148 (wrap64 (x5_1 + 1))) = some (r1, r2) := by first | (rw [hy148]; with_reducible exact H) | (have H2_ := (Option.bind_some _ _).symm.trans H; rw [hy148]; with_reducible exact H2_) | (have H2_ := (Option.bind_some _ _).symm.trans H; with_reducible exact H2_) | with_reducible exact H | (rw [hy148]; exact H) | exact H
       have Ny148 := am_ hy148
       clear hy148
       have H' := am_ H
       clear H
       have p140 : 0 ≤ (x5_1 : Int) := of_decide_eq_true (by first | (with_reducible assumption) | assumption)
       have q140 : x5_1 < (l0.length : Int) := of_decide_eq_true (by first | (with_reducible assumption) | assumption)
       obtain ⟨ad140, e140, hx140_0⟩ := Kd.z8 HR0.out x5_1 p140 q140
       cases e140
       replace hx140_0 := (HB.out.cell (World.block_lt_of_cell? w _ hx140_0)).trans hx140_0
       replace p140 := eq_true p140
       replace q140 := eq_true q140
       go_wp2_with (first | ((with_reducible refine zac (f := 93) rfl ?_); refine zaZ (some 19) rfl rfl Try.func93 (by kernel_rfl) rfl #[.int .u64 (rd l0 x5_1)] rfl (by (try simp only [List.map_toArray, List.map_cons, List.map_nil]); first | done | rfl | (simp only [List.length_drop, List.length_take]; rfl)) ?_; (with_reducible refine (zah.calls k1 (rd l0 x5_1) t141 t142 t145 true _ A4.out).mono ?_); rintro e w7 ⟨v143, rfl, ho0, hb⟩; refine ⟨_, rfl, ?_⟩; replace HO_4 := am_ (Kd.S_elder' (by (with_reducible repeat (first | apply Kd.za8 | apply Kd.za7 | apply Kd.S_drew)); exact HO_4.out) (Kd.R_base ho0) hb); have HO144 := am_ (Kd.zag ho0 (zo bw_)); replace HB := am_ (zb bw_ hb); (try clear hb); (try clear hb2); (try clear hk); (try clear hi); (try clear ho0)) | ((with_reducible refine zk (N := 6) rfl ?_); refine zaq 6 (cs := #[.bool false, .slice none 0 0, .int .i64 0]) (t := 101) ?_; intro gb147 hg w8 hbox hb; replace HO_4 := am_ (Kd.S_below (Kd.S_elderB (by (with_reducible repeat (first | apply Kd.za8 | apply Kd.za7 | apply Kd.S_drew)); exact HO_4.out) gb147 (Nat.le_of_eq hg.symm)) hb); replace HO144 := am_ (Kd.zI (pk_ HO144.out) hb); have BK147 := am_ (hbox); have GW147 := am_ ((by rw [hg]; exact (zo bw_) : w.heap.size ≤ gb147)); replace HB := am_ (zb bw_ hb); have GE147 := GW147; clear hb hbox hg; have hcz9_0 : w8.cell? ⟨gb147, 0, none⟩ = some (.bool false) := (za BK147.out 0).trans rfl; have hcz9_1 : w8.cell? ⟨gb147, 1, none⟩ = some (.slice none 0 0) := (za BK147.out 1).trans rfl; have hcz9_2 : w8.cell? ⟨gb147, 2, none⟩ = some (.int .i64 0) := (za BK147.out 2).trans rfl; have hfz9_0 := zd BK147.out 0; have hfz9_1 := zd BK147.out 1; have hfz9_2 := zd BK147.out 2; obtain ⟨Ao10, co10, eo10⟩ := Kd.zY HO144.out; subst eo10) | ((with_reducible refine zr (t := 101) (p := 6) rfl ?_); refine store_ 101 6 ((((w8.setCell ⟨gb147, 0, none⟩ (.bool t141)).setCell ⟨gb147, 1, none⟩ (.slice Ao10 t142.length co10)).setCell ⟨gb147, 2, none⟩ (.int .i64 t145))) ?_; intro w11 hw; replace HO_4 : Aside0 (Kd.S k101 101 w11 w.heap.size (fun k_ => some k_ ≠ (.slice Ao10 t142.length co10 : Value).ownBlock ∧ k_ ≠ gb147) u4 x4_1) := ⟨(by rw [hw]; exact (by (with_reducible repeat (first | apply Kd.za8 | apply Kd.za7 | apply Kd.S_drew)); exact Kd.S_mono (Kd.S_far (p := ⟨gb147, 2, none⟩) (Kd.S_far (p := ⟨gb147, 1, none⟩) (Kd.S_far (p := ⟨gb147, 0, none⟩) (Kd.S_mono HO_4.out (fun k_ hk => (⟨hk, hk.2⟩ : _ ∧ k_ ≠ gb147))) (fun _ hk => hk.2) (.bool t141)) (fun _ hk => hk.2) (.slice Ao10 t142.length co10)) (fun _ hk => hk.2) (.int .i64 t145)) (fun _ hk => ⟨hk.1.1.2, hk.1.2⟩)))⟩; replace HO144 : Aside0 (Kd.R (Kd.int .u32) 134 w11 w.heap.size (fun _ => True) (.slice Ao10 t142.length co10) t142) := ⟨(by rw [hw]; exact (by (with_reducible repeat (first | apply Kd.zL | apply Kd.zH | apply Kd.zP)); exact Kd.zS (Kd.zap (p := ⟨gb147, 2, none⟩) (Kd.zap (p := ⟨gb147, 1, none⟩) (Kd.zap (p := ⟨gb147, 0, none⟩) (Kd.zar HO144.out BK147.out (by decide)) (fun _ hk => hk.2) (.bool t141)) (fun _ hk => hk.2) (.slice Ao10 t142.length co10)) (fun _ hk => hk.2) (.int .i64 t145)) (fun _ hk => trivial)))⟩; replace BK147 : Aside0 (w11.heap[gb147]? = some (.cells #[.bool t141, .slice Ao10 t142.length co10, .int .i64 t145] 101 (0, 0))) := ⟨(by rw [hw]; exact (by (with_reducible repeat (first | refine zg ?_ _ | refine zi ?_ | refine zf ?_ _)); refine zO (cs := #[.bool t141, .slice Ao10 t142.length co10, .int .i64 0]) ?_ 2 _ rfl; (with_reducible repeat (first | refine zg ?_ _ | refine zi ?_ | refine zf ?_ _)); refine zO (cs := #[.bool t141, .slice none 0 0, .int .i64 0]) ?_ 1 _ rfl; (with_reducible repeat (first | refine zg ?_ _ | refine zi ?_ | refine zf ?_ _)); refine zO (cs := #[.bool false, .slice none 0 0, .int .i64 0]) ?_ 0 _ rfl; (with_reducible repeat (first | refine zg ?_ _ | refine zi ?_ | refine zf ?_ _)); exact BK147.out))⟩; replace HB : Aside0 (Below w.heap.size w w11) := ⟨(by rw [hw]; exact bw_)⟩; clear hw; have hcz12_0 : w11.cell? ⟨gb147, 0, none⟩ = some (.bool t141) := (za BK147.out 0).trans rfl; have hcz12_1 : w11.cell? ⟨gb147, 1, none⟩ = some (.slice Ao10 t142.length co10) := (za BK147.out 1).trans rfl; have hcz12_2 : w11.cell? ⟨gb147, 2, none⟩ = some (.int .i64 t145) := (za BK147.out 2).trans rfl; have hfz12_0 := zd BK147.out 0; have hfz12_1 := zd BK147.out 1; have hfz12_2 := zd BK147.out 2) | ((with_reducible refine gate_builtin (b := .append) (xs := #[.tmp 24, .tmp 26]) rfl ?_); at_builtin; refine Kd.S_append k101 (w0 := w) w.heap.size rfl (.tmp 24) (.tmp 26) 140 101 (.agg #[(.bool false), (.slice none 0 0), (.int .i64 0)]) 40 rfl Try.underlying140 zav rfl (by decide) (by omega) u4 x4_1 (⟨t141, t142, t145⟩ : S101) [.bool t141, .slice Ao10 t142.length co10, .int .i64 t145] (fun k_ => k_ ≠ gb147) (fun k_ => some k_ = (.slice Ao10 t142.length co10 : Value).ownBlock) rfl rfl ?aP (fun k_ hk_ => ((Kd.zS (ok' := fun k_ => ((fun k_ => k_ ≠ gb147)) k_ ∧ some k_ ≠ (u4 : Value).ownBlock) (Kd.zar (Kd.R_apart' (HO144.out) (Kd.S_typed HO_4.out) (by decide)) BK147.out (by decide)) (fun k_ hk => ⟨hk.2, hk.1.2⟩))).1 k_ hk_.symm) ?aF ?aO ?aB ?aS ?aL ?_; (case aP => exact k101_mkM _ _ _ (⟨t141, t142, t145⟩ : S101) (Kd.zS (Kd.R_tight rfl (Kd.zS (ok' := fun k_ => ((fun k_ => k_ ≠ gb147)) k_ ∧ some k_ ≠ (u4 : Value).ownBlock) (Kd.zar (Kd.R_apart' (HO144.out) (Kd.S_typed HO_4.out) (by decide)) BK147.out (by decide)) (fun k_ hk => ⟨hk.2, hk.1.2⟩))) (fun _ h_ => h_))); (case aB => exact bw_); (case aF => exact (fun k_ hk => Kd.freshB (g := gb147) (o := .cells #[.bool t141, .slice Ao10 t142.length co10, .int .i64 t145] 101 (0, 0)) (pe_ BK147.out) k_ hk)); (case aO => exact (by (with_reducible repeat (first | apply Kd.za8 | apply Kd.za7 | apply Kd.S_drew)); exact Kd.S_mono HO_4.out (fun k_ hk => ⟨hk.2, fun e_ => hk.1 e_⟩))); (case aS => exact (zo bw_)); (case aL => have := LMc6.out; omega); intro v149 w13 ho hb hg hat; rw [← Ny148.out] at ho; replace BK147 := am_ (zaV (g := gb147) (o := .cells #[.bool t141, .slice Ao10 t142.length co10, .int .i64 t145] 101 (0, 0)) (pe_ BK147.out) hg (Kd.S_away HO_4.out (fun _ hk => hk.2))); replace HB := am_ (hb); have HO150 := am_ (ho); clear HO_4 HO144; clear ho hb hg hat))
       go_roundg k1
       case measure => have := HK1.out; omega
       case rel => exact ⟨(y148), (wrap64 (x5_1 + 1)), (by first | rfl | (simp; done) | (simp [*]; done)), H', ⟨by have := HK1.out; omega⟩, ⟨by (with_reducible repeat (first | apply Kd.za8 | apply Kd.za7 | apply Kd.S_drew)); exact Kd.S_mono HO150.out (fun _ hk => trivial)⟩, ⟨by repeat (first | (with_reducible first | exact HB.out | apply zj | apply ze | apply zl | refine zm ?_ GE147.out) | exact HB.out)⟩⟩
      ·rw [if_neg c6] at H
       exact absurd H (by simp)
     ·replace c5 := Bool.eq_false_iff.mpr c5
      subst c5
      have H1 : (some (([] : List (S101)), false)) = some (r1, r2) := by rw [if_neg (show ¬ (false = true) by decide)] at H; exact H
      clear H
      have H := H1
      clear H1
      simp only [Option.some.injEq, Prod.mk.injEq] at H
      obtain ⟨rfl, rfl⟩ := H
      have p140 : 0 ≤ (x5_1 : Int) := of_decide_eq_true (by first | (with_reducible assumption) | assumption)
      have q140 : x5_1 < (l0.length : Int) := of_decide_eq_true (by first | (with_reducible assumption) | assumption)
      obtain ⟨ad140, e140, hx140_0⟩ := Kd.z8 HR0.out x5_1 p140 q140
      cases e140
      replace hx140_0 := (HB.out.cell (World.block_lt_of_cell? w _ hx140_0)).trans hx140_0
      replace p140 := eq_true p140
      replace q140 := eq_true q140
      go_wp2_with (first | ((with_reducible refine zac (f := 93) rfl ?_); refine zaZ (some 19) rfl rfl Try.func93 (by kernel_rfl) rfl #[.int .u64 (rd l0 x5_1)] rfl (by (try simp only [List.map_toArray, List.map_cons, List.map_nil]); first | done | rfl | (simp only [List.length_drop, List.length_take]; rfl)) ?_; (with_reducible refine (zah.calls k1 (rd l0 x5_1) t141 t142 t145 false _ A4.out).mono ?_); rintro e w14 ⟨v143, rfl, ho0, hb⟩; refine ⟨_, rfl, ?_⟩; replace HO_4 := am_ (Kd.S_elder' (by (with_reducible repeat (first | apply Kd.za8 | apply Kd.za7 | apply Kd.S_drew)); exact HO_4.out) (Kd.R_base ho0) hb); have HO144 := am_ (Kd.zag ho0 (zo bw_)); replace HB := am_ (zb bw_ hb); (try clear hb); (try clear hb2); (try clear hk); (try clear hi); (try clear ho0)) | ((with_reducible refine zk (N := 6) rfl ?_); refine zaq 6 (cs := #[.bool false, .slice none 0 0, .int .i64 0]) (t := 101) ?_; intro gb147 hg w15 hbox hb; replace HO_4 := am_ (Kd.S_below (Kd.S_elderB (by (with_reducible repeat (first | apply Kd.za8 | apply Kd.za7 | apply Kd.S_drew)); exact HO_4.out) gb147 (Nat.le_of_eq hg.symm)) hb); replace HO144 := am_ (Kd.zI (pk_ HO144.out) hb); have BK147 := am_ (hbox); have GW147 := am_ ((by rw [hg]; exact (zo bw_) : w.heap.size ≤ gb147)); replace HB := am_ (zb bw_ hb); have GE147 := GW147; clear hb hbox hg; have hcz16_0 : w15.cell? ⟨gb147, 0, none⟩ = some (.bool false) := (za BK147.out 0).trans rfl; have hcz16_1 : w15.cell? ⟨gb147, 1, none⟩ = some (.slice none 0 0) := (za BK147.out 1).trans rfl; have hcz16_2 : w15.cell? ⟨gb147, 2, none⟩ = some (.int .i64 0) := (za BK147.out 2).trans rfl; have hfz16_0 := zd BK147.out 0; have hfz16_1 := zd BK147.out 1; have hfz16_2 := zd BK147.out 2; obtain ⟨Ao17, co17, eo17⟩ := Kd.zY HO144.out; subst eo17))
      go_ret2
      exact ⟨_, by first | rfl | (simp [zp, zq] <;> rfl) | (simp [*, zp, zq] <;> rfl), by first | exact Kd.S_nil _ _ _ _ _ | exact Kd.N_nil _ _ _ _ _ | exact Kd.V_nil _ _ _ _ _ | exact Kd.Q_nil _ _ _ _ _ | exact Kd.zaY _ _ _ _ _, by repeat (first | (with_reducible first | exact HB.out | apply zj | apply ze | apply zl | refine zm ?_ GE147.out) | exact HB.out)⟩
    ·rw [if_neg c3] at H
     exact absurd H (by simp)
   ·rw [if_neg c2] at H
    have c2b0 : decide (x5_1 < (l0.length : Int)) = false := decide_eq_false c2
    clear c2
    simp only [Option.some.injEq, Prod.mk.injEq] at H
    obtain ⟨rfl, rfl⟩ := H
    go_wp2
    go_ret2
    exact ⟨_, by first | rfl | (simp [zp, zq] <;> rfl) | (simp [*, zp, zq] <;> rfl), by (with_reducible repeat (first | apply Kd.za8 | apply Kd.za7 | apply Kd.S_drew)); exact HO_4.out, by repeat (first | (with_reducible first | exact HB.out | apply zj | apply ze | apply zl) | exact HB.out)⟩
end Go.Proofs.Ytlidbaejhmamjaa.PB
namespace Go.Proofs.Ytlidbaejhmamjaa.PB
open Go.RowKit YtlidbaejhmamjaaW.PrintWords YtlidbaejhmamjaaW.PrintLast YtlidbaejhmamjaaW.PrintMore
attribute [local go_sem] zak zam zaw zau zae zad zal zan   -- for this text's walks alone
mutual
def zA.l0 : Nat → List Int → List Int → List Int → Int → Option (List Int)
 | 0, _, _, _, _ => none
 | k + 1, x0, x1, x5, x6 => if x6 < (x0.length : Int) then (zA.l1 k x0 x1 x5 x6 0 0) else ((zw.f k x5).bind fun t111 => (some t111))
def zA.l1 : Nat → List Int → List Int → List Int → Int → Int → Int → Option (List Int)
 | 0, _, _, _, _, _, _ => none
 | k + 1, x0, x1, x5, x6, x7, x8 => if x8 < (x1.length : Int) then (if 0 ≤ x6 then (if x6 < (x0.length : Int) then (if 0 ≤ x8 then (if 0 ≤ (wrap64 (x6 + x8)) then (if (wrap64 (x6 + x8)) < (x5.length : Int) then (zA.l1 k x0 x1 (x5.set ((wrap64 (x6 + x8)) : Int).toNat ((IntKind.u64.wrap ((IntKind.u64.wrap (x7 + (IntKind.u64.wrap ((IntKind.u64.wrap (rd x0 x6)) * (IntKind.u64.wrap (rd x1 x8)))))) + (IntKind.u64.wrap (rd x5 (wrap64 (x6 + x8)))))) % 4294967296)) x6 ((IntKind.u64.wrap ((IntKind.u64.wrap (x7 + (IntKind.u64.wrap ((IntKind.u64.wrap (rd x0 x6)) * (IntKind.u64.wrap (rd x1 x8)))))) + (IntKind.u64.wrap (rd x5 (wrap64 (x6 + x8)))))) / 4294967296) (wrap64 (x8 + 1))) else (none)) else (none)) else (none)) else (none)) else (none)) else (if 0 ≤ (wrap64 (x6 + (x1.length : Int))) then (if (wrap64 (x6 + (x1.length : Int))) < (x5.length : Int) then (zA.l0 k x0 x1 (x5.set ((wrap64 (x6 + (x1.length : Int))) : Int).toNat ((x7) % 4294967296)) (wrap64 (x6 + 1))) else (none)) else (none))
end
def zA.f (k : Nat) (l0 : List Int) (l1 : List Int) : Option (List Int) := if 0 ≤ (wrap64 ((l0.length : Int) + (l1.length : Int))) then (if (wrap64 ((l0.length : Int) + (l1.length : Int)) : Int).toNat ≤ 70368744177664 then (zA.l0 k l0 l1 (List.replicate (wrap64 ((l0.length : Int) + (l1.length : Int)) : Int).toNat 0) 0) else (none)) else (none)
set_option maxHeartbeats 8000000 in
set_option maxRecDepth 100000 in
theorem zA.calls (k : Nat) (A0 : Option Addr) (c0 : Nat) (l0 : List Int) (A1 : Option Addr) (c1 : Nat) (l1 : List Int) (r : List Int) (w : World) (hr0 : Kd.C (Kd.int .u32) w A0 l0.length l0) (hc0 : l0.length ≤ c0) (hr1 : Kd.C (Kd.int .u32) w A1 l1.length l1) (hc1 : l1.length ≤ c1) (h : zA.f k l0 l1 = some r) :
  Calls Try.prog 102 #[.slice A0 l0.length c0, .slice A1 l1.length c1] w fun e w' => ∃ v0_ : Value, e = .returned (v0_) ∧ Kd.R (Kd.int .u32) 134 w' w.heap.size (fun _ => True) v0_ r ∧ Below w.heap.size w w' := by
 have HR0 := am_ hr0
 have HC0 := am_ hc0
 clear hr0 hc0
 have HR1 := am_ hr1
 have HC1 := am_ hc1
 clear hr1 hc1
 have HB := am_ (Below.refl w.heap.size w)
 have H : (if 0 ≤ (wrap64 ((l0.length : Int) + (l1.length : Int))) then (if (wrap64 ((l0.length : Int) + (l1.length : Int)) : Int).toNat ≤ 70368744177664 then (zA.l0 k l0 l1 (List.replicate (wrap64 ((l0.length : Int) + (l1.length : Int)) : Int).toNat 0) 0) else (none)) else (none)) = some r := h
 clear h
 obtain ⟨ji3, hji3⟩ : ∃ j_ : Int, (wrap64 ((l0.length : Int) + (l1.length : Int))) = j_ := ⟨_, rfl⟩
 replace H : (if 0 ≤ (ji3) then (if (ji3 : Int).toNat ≤ 70368744177664 then (zA.l0 k l0 l1 (List.replicate (ji3 : Int).toNat 0) 0) else (none)) else (none)) = some r := by first | (rw [hji3] at H; exact H) | (simp only [hji3] at H ⊢; exact H)
 have hji3w : (IntKind.i64.wrap ((l0.length : Int) + (l1.length : Int))) = ji3 := (zaA _).trans hji3
 by_cases c4 : 0 ≤ (ji3)
 ·rw [if_pos c4] at H
  have c4b0 := eq_true c4
  have c4b1 : decide (0 ≤ (ji3)) = true := decide_eq_true c4
  clear c4
  by_cases c5 : (ji3 : Int).toNat ≤ 70368744177664
  ·rw [if_pos c5] at H
   have c5b0 := eq_true c5
   have c5b1 : decide ((ji3 : Int).toNat ≤ 70368744177664) = true := decide_eq_true c5
   clear c5
   obtain ⟨y108, hy108⟩ : ∃ y_ : List Int, y_ = (List.replicate (ji3 : Int).toNat 0) := ⟨_, rfl⟩
   replace H : (zA.l0 k l0 l1 y108 0) = some r := by first | (rw [hy108]; with_reducible exact H) | (have H2_ := (Option.bind_some _ _).symm.trans H; rw [hy108]; with_reducible exact H2_) | (have H2_ := (Option.bind_some _ _).symm.trans H; with_reducible exact H2_) | with_reducible exact H | (rw [hy108]; exact H) | exact H
   have Ny108 := am_ hy108
   clear hy108
   have H' := am_ H
   clear H
   go_enter Try.func102, Try.ntmps102
   go_wp2_with (first | ((with_reducible refine zk (N := 14) rfl ?_); refine Kd.R_make (Kd.int .u32) _ 134 rfl (N := 14) rfl 99 _ _ rfl ji3 rfl rfl Try.underlying99 (.int .u32 0) 4 info134 rfl (by decide) (by omega) 0 (ok := fun _ => True) (okp := fun _ => True) rfl (fun _ hk => hk) trivial (of_decide_eq_true (by first | (with_reducible assumption) | assumption)) (Nat.le_trans (Nat.mul_le_mul_right _ (of_decide_eq_true (by first | (with_reducible assumption) | assumption) : ji3.toNat ≤ 70368744177664)) (by omega)) (Below.refl _ _) (Nat.le_refl _) ?_; intro v109 w6 ho7 hb hg_ hnew_; clear hg_ hnew_; (first | rw [← Ny108.out] at ho7 | (simp only [Int.reduceToNat] at ho7; rw [← Ny108.out] at ho7)); have HO110 := am_ (Kd.zag ho7 (zo bw_)); replace HB := am_ (zb bw_ hb); clear hb ho7))
   repeat (go_quiet (first | ((with_reducible refine zk (N := 14) rfl ?_); refine Kd.R_make (Kd.int .u32) _ 134 rfl (N := 14) rfl 99 _ _ rfl ji3 rfl rfl Try.underlying99 (.int .u32 0) 4 info134 rfl (by decide) (by omega) 0 (ok := fun _ => True) (okp := fun _ => True) rfl (fun _ hk => hk) trivial (of_decide_eq_true (by first | (with_reducible assumption) | assumption)) (Nat.le_trans (Nat.mul_le_mul_right _ (of_decide_eq_true (by first | (with_reducible assumption) | assumption) : ji3.toNat ≤ 70368744177664)) (by omega)) (Below.refl _ _) (Nat.le_refl _) ?_; intro v109 w6 ho7 hb hg_ hnew_; clear hg_ hnew_; (first | rw [← Ny108.out] at ho7 | (simp only [Int.reduceToNat] at ho7; rw [← Ny108.out] at ho7)); have HO110 := am_ (Kd.zag ho7 (zo bw_)); replace HB := am_ (zb bw_ hb); clear hb ho7)); try go_wp2_with (first | ((with_reducible refine zk (N := 14) rfl ?_); refine Kd.R_make (Kd.int .u32) _ 134 rfl (N := 14) rfl 99 _ _ rfl ji3 rfl rfl Try.underlying99 (.int .u32 0) 4 info134 rfl (by decide) (by omega) 0 (ok := fun _ => True) (okp := fun _ => True) rfl (fun _ hk => hk) trivial (of_decide_eq_true (by first | (with_reducible assumption) | assumption)) (Nat.le_trans (Nat.mul_le_mul_right _ (of_decide_eq_true (by first | (with_reducible assumption) | assumption) : ji3.toNat ≤ 70368744177664)) (by omega)) (Below.refl _ _) (Nat.le_refl _) ?_; intro v109 w6 ho7 hb hg_ hnew_; clear hg_ hnew_; (first | rw [← Ny108.out] at ho7 | (simp only [Int.reduceToNat] at ho7; rw [← Ny108.out] at ho7)); have HO110 := am_ (Kd.zag ho7 (zo bw_)); replace HB := am_ (zb bw_ hb); clear hb ho7)))
   go_loopg [6] k (fun kq v6 w' => ∃ (x5_1 : List Int) (x6_1 : Int), v6 = .int .i64 x6_1 ∧ Aside0 (zA.l0 kq l0 l1 x5_1 x6_1 = some r) ∧ Aside0 (kq ≤ k) ∧ Aside0 (Kd.R (Kd.int .u32) 134 w' w.heap.size (fun _ => True) v109 x5_1) ∧ Aside0 (Below w.heap.size w w'))
   case atStart => exact ⟨(y108), (0), (by first | rfl | (simp; done) | (simp [*]; done)), H', ⟨Nat.le_refl _⟩, ⟨by (with_reducible repeat (first | apply Kd.zL | apply Kd.zH | apply Kd.zP)); exact HO110.out⟩, ⟨by repeat (first | (with_reducible first | exact HB.out | apply zj | apply ze | apply zl) | exact HB.out)⟩⟩
   case round =>
    clear H'
    try clear c1
    try clear p2
    try clear c4
    try clear c4b0
    try clear c4b1
    try clear c5
    try clear c5b0
    try clear c5b1
    try clear p6
    obtain ⟨x5_1, x6_1, rfl, HA, HK1, HO_5, HB⟩ := hrel
    cases gk with
    | zero => exact absurd HA.out (by simp [zA.l0])
    | succ k1 =>
     have H := HA.out
     clear HA
     simp only [zA.l0] at H
     by_cases c8 : x6_1 < (l0.length : Int)
     ·rw [if_pos c8] at H
      have c8b0 : decide (x6_1 < (l0.length : Int)) = true := decide_eq_true c8
      clear c8
      have H' := am_ H
      clear H
      go_wp2
      repeat (go_quiet (fail); try go_wp2)
      go_loopg [7, 8] k1 (fun kq v7 v8 w' => ∃ (x5_2 : List Int) (x7_2 : Int) (x8_2 : Int), v7 = .int .u64 x7_2 ∧ v8 = .int .i64 x8_2 ∧ Aside0 (zA.l1 kq l0 l1 x5_2 x6_1 x7_2 x8_2 = some r) ∧ Aside0 (kq ≤ k1) ∧ Aside0 (Kd.R (Kd.int .u32) 134 w' w.heap.size (fun _ => True) v109 x5_2) ∧ Aside0 (Below w.heap.size w w'))
      case atStart => exact ⟨(x5_1), (0), (0), (by first | rfl | (simp; done) | (simp [*]; done)), (by first | rfl | (simp; done) | (simp [*]; done)), H', ⟨Nat.le_refl _⟩, ⟨by (with_reducible repeat (first | apply Kd.zL | apply Kd.zH | apply Kd.zP)); exact HO_5.out⟩, ⟨by repeat (first | (with_reducible first | exact HB.out | apply zj | apply ze | apply zl) | exact HB.out)⟩⟩
      case round =>
       clear H'
       try clear c1
       try clear p2
       try clear c4
       try clear c4b0
       try clear c4b1
       try clear c5
       try clear c5b0
       try clear c5b1
       try clear p6
       try clear c8
       try clear c8b0
       try clear p2
       try clear p6
       obtain ⟨x5_2, x7_2, x8_2, rfl, rfl, HA, HK2, HO_5, HB⟩ := hrel
       cases gk with
       | zero => exact absurd HA.out (by simp [zA.l1])
       | succ k2 =>
        have H := HA.out
        clear HA
        simp only [zA.l1] at H
        by_cases c9 : x8_2 < (l1.length : Int)
        ·rw [if_pos c9] at H
         have c9b0 : decide (x8_2 < (l1.length : Int)) = true := decide_eq_true c9
         clear c9
         by_cases c10 : 0 ≤ x6_1
         ·rw [if_pos c10] at H
          have c10b0 : decide (0 ≤ x6_1) = true := decide_eq_true c10
          clear c10
          by_cases c11 : x6_1 < (l0.length : Int)
          ·rw [if_pos c11] at H
           have c11b0 : decide (x6_1 < (l0.length : Int)) = true := decide_eq_true c11
           clear c11
           by_cases c12 : 0 ≤ x8_2
           ·rw [if_pos c12] at H
            have c12b0 : decide (0 ≤ x8_2) = true := decide_eq_true c12
            clear c12
            obtain ⟨ji13, hji13⟩ : ∃ j_ : Int, (wrap64 (x6_1 + x8_2)) = j_ := ⟨_, rfl⟩
            replace H : (if 0 ≤ (ji13) then (if (ji13) < (x5_2.length : Int) then (zA.l1 k2 l0 l1 (x5_2.set ((ji13) : Int).toNat ((IntKind.u64.wrap ((IntKind.u64.wrap (x7_2 + (IntKind.u64.wrap ((IntKind.u64.wrap (rd l0 x6_1)) * (IntKind.u64.wrap (rd l1 x8_2)))))) + (IntKind.u64.wrap (rd x5_2 (ji13))))) % 4294967296)) x6_1 ((IntKind.u64.wrap ((IntKind.u64.wrap (x7_2 + (IntKind.u64.wrap ((IntKind.u64.wrap (rd l0 x6_1)) * (IntKind.u64.wrap (rd l1 x8_2)))))) + (IntKind.u64.wrap (rd x5_2 (ji13))))) / 4294967296) (wrap64 (x8_2 + 1))) else (none)) else (none)) = some r := by first | (rw [hji13] at H; exact H) | (simp only [hji13] at H ⊢; exact H)
            have hji13w : (IntKind.i64.wrap (x6_1 + x8_2)) = ji13 := (zaA _).trans hji13
            by_cases c14 : 0 ≤ (ji13)
            ·rw [if_pos c14] at H
             have c14b0 : decide (0 ≤ (ji13)) = true := decide_eq_true c14
             clear c14
             by_cases c15 : (ji13) < (x5_2.length : Int)
             ·rw [if_pos c15] at H
              have c15b0 : decide ((ji13) < (x5_2.length : Int)) = true := decide_eq_true c15
              clear c15
              obtain ⟨y117, hy117⟩ : ∃ y_ : List Int, y_ = (x5_2.set ((ji13) : Int).toNat ((IntKind.u64.wrap ((IntKind.u64.wrap (x7_2 + (IntKind.u64.wrap ((IntKind.u64.wrap (rd l0 x6_1)) * (IntKind.u64.wrap (rd l1 x8_2)))))) + (IntKind.u64.wrap (rd x5_2 (ji13))))) % 4294967296)) := ⟨_, rfl⟩
              replace H : (zA.l1 k2 l0 l1 y117 x6_1 ((IntKind.u64.wrap ((IntKind.u64.wrap (x7_2 + (IntKind.u64.wrap ((IntKind.u64.wrap (rd l0 x6_1)) * (IntKind.u64.wrap (rd l1 x8_2)))))) + (IntKind.u64.wrap (rd x5_2 (ji13))))) / 4294967296) (wrap64 (x8_2 + 1))) = some r := by first | (rw [hy117]; with_reducible exact H) | (have H2_ := (Option.bind_some _ _).symm.trans H; rw [hy117]; with_reducible exact H2_) | (have H2_ := (Option.bind_some _ _).symm.trans H; with_reducible exact H2_) | with_reducible exact H | (rw [hy117]; exact H) | exact H
              have Ny117 := am_ hy117
              clear hy117
              have H' := am_ H
              clear H
              have p114 : 0 ≤ (x6_1 : Int) := of_decide_eq_true (by first | (with_reducible assumption) | assumption)
              have q114 : x6_1 < (l0.length : Int) := of_decide_eq_true (by first | (with_reducible assumption) | assumption)
              obtain ⟨ad114, e114, hx114_0⟩ := Kd.z8 HR0.out x6_1 p114 q114
              cases e114
              replace hx114_0 := (HB.out.cell (World.block_lt_of_cell? w _ hx114_0)).trans hx114_0
              replace p114 := eq_true p114
              replace q114 := eq_true q114
              have p115 : 0 ≤ (x8_2 : Int) := of_decide_eq_true (by first | (with_reducible assumption) | assumption)
              have q115 : x8_2 < (l1.length : Int) := of_decide_eq_true (by first | (with_reducible assumption) | assumption)
              obtain ⟨ad115, e115, hx115_0⟩ := Kd.z8 HR1.out x8_2 p115 q115
              cases e115
              replace hx115_0 := (HB.out.cell (World.block_lt_of_cell? w _ hx115_0)).trans hx115_0
              replace p115 := eq_true p115
              replace q115 := eq_true q115
              obtain ⟨Ao17, co17, eo17⟩ := Kd.zY HO_5.out
              subst eo17
              have p116 : 0 ≤ ((ji13) : Int) := of_decide_eq_true (by first | (with_reducible assumption) | assumption)
              have q116 : (ji13) < (x5_2.length : Int) := of_decide_eq_true (by first | (with_reducible assumption) | assumption)
              obtain ⟨ad116, e116, hx116_0⟩ := Kd.z8 (Kd.zQ HO_5.out).2.2 (ji13) p116 q116
              cases e116
              replace p116 := eq_true p116
              replace q116 := eq_true q116
              have p16 : 0 ≤ ((ji13) : Int) := of_decide_eq_true (by first | (with_reducible assumption) | assumption)
              have q16 : ((ji13) : Int) < ((x5_2.length : Int) : Int) := of_decide_eq_true (by first | (with_reducible assumption) | assumption)
              obtain ⟨go16, co16, eo16, gb16, gl16, cl16, HG16⟩ := Kd.R_form HO_5.out (by omega)
              (first | cases eo16 | (injection eo16 with ea_ en_ ec_; (first | subst ea_ | (injection ea_ with ea_; subst ea_)); subst ec_; clear en_))
              have GB16 := am_ gb16
              have GG16 := am_ HG16
              clear gb16 gl16 HG16
              (first | simp only [add_plain] at hx116_0 | skip)
              obtain ⟨hx16_0, hf16_0⟩ := Kd.zbe 0 HO_5.out ((ji13) : Int) p16 q16
              replace p16 := eq_true p16
              replace q16 := eq_true q16
              have HP18 := Kd.R_putg HO_5.out ((ji13) : Int) ((IntKind.u64.wrap ((IntKind.u64.wrap (x7_2 + (IntKind.u64.wrap ((IntKind.u64.wrap (rd l0 x6_1)) * (IntKind.u64.wrap (rd l1 x8_2)))))) + (IntKind.u64.wrap (rd x5_2 (ji13))))) % 4294967296)
              go_wp2_with (first | ((with_reducible refine zr (t := 134) (p := 54) rfl ?_); (try (rw [drewN_self wr]; generalize hq_ : World.drewN wr _ = wr; replace HO_5 := am_ (Kd.R_at hq_ HO_5.out); replace HB := am_ (below_at hq_ HB.out); clear hq_; (try (have HP18 := Kd.R_putg HO_5.out ((ji13) : Int) ((IntKind.u64.wrap ((IntKind.u64.wrap (x7_2 + (IntKind.u64.wrap ((IntKind.u64.wrap (rd l0 x6_1)) * (IntKind.u64.wrap (rd l1 x8_2)))))) + (IntKind.u64.wrap (rd x5_2 (ji13))))) % 4294967296))))); refine store_ 134 54 ((wr.setCell ⟨go16, ((ji13) : Int).toNat, none⟩ (.int .u32 ((IntKind.u64.wrap ((IntKind.u64.wrap (x7_2 + (IntKind.u64.wrap ((IntKind.u64.wrap (rd l0 x6_1)) * (IntKind.u64.wrap (rd l1 x8_2)))))) + (IntKind.u64.wrap (rd x5_2 (ji13))))) % 4294967296)))) ?_; intro w19 hw; have hg : wr.grownBy w19 (some go16) := (by rw [hw]; exact HP18.2); have hp_ : Kd.R (Kd.int .u32) 134 w19 w.heap.size (fun _ => True) (.slice (some ⟨go16, 0, none⟩) x5_2.length co17) y117 := (by rw [hw, Ny117.out]; exact HP18.1); clear HP18; replace HO_5 := am_ (hp_); replace HB := am_ ((by rw [hw]; exact zm (HB.out) GB16.out : Below w.heap.size w w19)); clear hg hw hp_))
              repeat (go_quiet (first | ((with_reducible refine zr (t := 134) (p := 54) rfl ?_); (try (rw [drewN_self wr]; generalize hq_ : World.drewN wr _ = wr; replace HO_5 := am_ (Kd.R_at hq_ HO_5.out); replace HB := am_ (below_at hq_ HB.out); clear hq_; (try (have HP18 := Kd.R_putg HO_5.out ((ji13) : Int) ((IntKind.u64.wrap ((IntKind.u64.wrap (x7_2 + (IntKind.u64.wrap ((IntKind.u64.wrap (rd l0 x6_1)) * (IntKind.u64.wrap (rd l1 x8_2)))))) + (IntKind.u64.wrap (rd x5_2 (ji13))))) % 4294967296))))); refine store_ 134 54 ((wr.setCell ⟨go16, ((ji13) : Int).toNat, none⟩ (.int .u32 ((IntKind.u64.wrap ((IntKind.u64.wrap (x7_2 + (IntKind.u64.wrap ((IntKind.u64.wrap (rd l0 x6_1)) * (IntKind.u64.wrap (rd l1 x8_2)))))) + (IntKind.u64.wrap (rd x5_2 (ji13))))) % 4294967296)))) ?_; intro w19 hw; have hg : wr.grownBy w19 (some go16) := (by rw [hw]; exact HP18.2); have hp_ : Kd.R (Kd.int .u32) 134 w19 w.heap.size (fun _ => True) (.slice (some ⟨go16, 0, none⟩) x5_2.length co17) y117 := (by rw [hw, Ny117.out]; exact HP18.1); clear HP18; replace HO_5 := am_ (hp_); replace HB := am_ ((by rw [hw]; exact zm (HB.out) GB16.out : Below w.heap.size w w19)); clear hg hw hp_)); try go_wp2_with (first | ((with_reducible refine zr (t := 134) (p := 54) rfl ?_); (try (rw [drewN_self wr]; generalize hq_ : World.drewN wr _ = wr; replace HO_5 := am_ (Kd.R_at hq_ HO_5.out); replace HB := am_ (below_at hq_ HB.out); clear hq_; (try (have HP18 := Kd.R_putg HO_5.out ((ji13) : Int) ((IntKind.u64.wrap ((IntKind.u64.wrap (x7_2 + (IntKind.u64.wrap ((IntKind.u64.wrap (rd l0 x6_1)) * (IntKind.u64.wrap (rd l1 x8_2)))))) + (IntKind.u64.wrap (rd x5_2 (ji13))))) % 4294967296))))); refine store_ 134 54 ((wr.setCell ⟨go16, ((ji13) : Int).toNat, none⟩ (.int .u32 ((IntKind.u64.wrap ((IntKind.u64.wrap (x7_2 + (IntKind.u64.wrap ((IntKind.u64.wrap (rd l0 x6_1)) * (IntKind.u64.wrap (rd l1 x8_2)))))) + (IntKind.u64.wrap (rd x5_2 (ji13))))) % 4294967296)))) ?_; intro w19 hw; have hg : wr.grownBy w19 (some go16) := (by rw [hw]; exact HP18.2); have hp_ : Kd.R (Kd.int .u32) 134 w19 w.heap.size (fun _ => True) (.slice (some ⟨go16, 0, none⟩) x5_2.length co17) y117 := (by rw [hw, Ny117.out]; exact HP18.1); clear HP18; replace HO_5 := am_ (hp_); replace HB := am_ ((by rw [hw]; exact zm (HB.out) GB16.out : Below w.heap.size w w19)); clear hg hw hp_)))
              go_roundg k2
              case measure => have := HK1.out; have := HK2.out; omega
              case rel => exact ⟨(y117), ((IntKind.u64.wrap ((IntKind.u64.wrap (x7_2 + (IntKind.u64.wrap ((IntKind.u64.wrap (rd l0 x6_1)) * (IntKind.u64.wrap (rd l1 x8_2)))))) + (IntKind.u64.wrap (rd x5_2 (ji13))))) / 4294967296), (wrap64 (x8_2 + 1)), (by first | rfl | (simp; done) | (simp only [← hji13] <;> (first | rfl | simp)) | (simp [*]; done)), (by first | rfl | (simp; done) | (simp [*]; done)), H', ⟨by have := HK1.out; have := HK2.out; omega⟩, ⟨by rw [Ny117.out]; exact (Kd.R_putg (Kd.zH HO_5.out _) ((ji13) : Int) ((IntKind.u64.wrap ((IntKind.u64.wrap (x7_2 + (IntKind.u64.wrap ((IntKind.u64.wrap (rd l0 x6_1)) * (IntKind.u64.wrap (rd l1 x8_2)))))) + (IntKind.u64.wrap (rd x5_2 (ji13))))) % 4294967296)).1⟩, ⟨(ze HB.out _).grown (Kd.R_putg (Kd.zH HO_5.out _) ((ji13) : Int) ((IntKind.u64.wrap ((IntKind.u64.wrap (x7_2 + (IntKind.u64.wrap ((IntKind.u64.wrap (rd l0 x6_1)) * (IntKind.u64.wrap (rd l1 x8_2)))))) + (IntKind.u64.wrap (rd x5_2 (ji13))))) % 4294967296)).2 (ze HB.out 0).size (fun k hk => by cases hk; exact own_base (Kd.own_of_R HO_5.out) _ rfl)⟩⟩
             ·rw [if_neg c15] at H
              exact absurd H (by simp)
            ·rw [if_neg c14] at H
             exact absurd H (by simp)
           ·rw [if_neg c12] at H
            exact absurd H (by simp)
          ·rw [if_neg c11] at H
           exact absurd H (by simp)
         ·rw [if_neg c10] at H
          exact absurd H (by simp)
        ·rw [if_neg c9] at H
         have c9b0 : decide (x8_2 < (l1.length : Int)) = false := decide_eq_false c9
         clear c9
         obtain ⟨ji20, hji20⟩ : ∃ j_ : Int, (wrap64 (x6_1 + (l1.length : Int))) = j_ := ⟨_, rfl⟩
         replace H : (if 0 ≤ (ji20) then (if (ji20) < (x5_2.length : Int) then (zA.l0 k2 l0 l1 (x5_2.set ((ji20) : Int).toNat ((x7_2) % 4294967296)) (wrap64 (x6_1 + 1))) else (none)) else (none)) = some r := by first | (rw [hji20] at H; exact H) | (simp only [hji20] at H ⊢; exact H)
         have hji20w : (IntKind.i64.wrap (x6_1 + (l1.length : Int))) = ji20 := (zaA _).trans hji20
         by_cases c21 : 0 ≤ (ji20)
         ·rw [if_pos c21] at H
          have c21b0 : decide (0 ≤ (ji20)) = true := decide_eq_true c21
          clear c21
          by_cases c22 : (ji20) < (x5_2.length : Int)
          ·rw [if_pos c22] at H
           have c22b0 : decide ((ji20) < (x5_2.length : Int)) = true := decide_eq_true c22
           clear c22
           obtain ⟨y118, hy118⟩ : ∃ y_ : List Int, y_ = (x5_2.set ((ji20) : Int).toNat ((x7_2) % 4294967296)) := ⟨_, rfl⟩
           replace H : (zA.l0 k2 l0 l1 y118 (wrap64 (x6_1 + 1))) = some r := by first | (rw [hy118]; with_reducible exact H) | (have H2_ := (Option.bind_some _ _).symm.trans H; rw [hy118]; with_reducible exact H2_) | (have H2_ := (Option.bind_some _ _).symm.trans H; with_reducible exact H2_) | with_reducible exact H | (rw [hy118]; exact H) | exact H
           have Ny118 := am_ hy118
           clear hy118
           have H' := am_ H
           clear H
           have p23 : 0 ≤ ((ji20) : Int) := of_decide_eq_true (by first | (with_reducible assumption) | assumption)
           have q23 : ((ji20) : Int) < ((x5_2.length : Int) : Int) := of_decide_eq_true (by first | (with_reducible assumption) | assumption)
           obtain ⟨go23, co23, eo23, gb23, gl23, cl23, HG23⟩ := Kd.R_form HO_5.out (by omega)
           (first | cases eo23 | (injection eo23 with ea_ en_ ec_; (first | subst ea_ | (injection ea_ with ea_; subst ea_)); subst ec_; clear en_))
           have GB23 := am_ gb23
           have GG23 := am_ HG23
           clear gb23 gl23 HG23
           obtain ⟨hx23_0, hf23_0⟩ := Kd.zbe 0 HO_5.out ((ji20) : Int) p23 q23
           replace p23 := eq_true p23
           replace q23 := eq_true q23
           have HP24 := Kd.R_putg HO_5.out ((ji20) : Int) ((x7_2) % 4294967296)
           go_wp2_with (first | ((with_reducible refine zr (t := 134) (p := 64) rfl ?_); (try (rw [drewN_self wr]; generalize hq_ : World.drewN wr _ = wr; replace HO_5 := am_ (Kd.R_at hq_ HO_5.out); replace HB := am_ (below_at hq_ HB.out); clear hq_; (try (have HP24 := Kd.R_putg HO_5.out ((ji20) : Int) ((x7_2) % 4294967296))))); refine store_ 134 64 ((wr.setCell ⟨go23, ((ji20) : Int).toNat, none⟩ (.int .u32 ((x7_2) % 4294967296)))) ?_; intro w25 hw; have hg : wr.grownBy w25 (some go23) := (by rw [hw]; exact HP24.2); have hp_ : Kd.R (Kd.int .u32) 134 w25 w.heap.size (fun _ => True) (.slice (some ⟨go23, 0, none⟩) x5_2.length co23) y118 := (by rw [hw, Ny118.out]; exact HP24.1); clear HP24; replace HO_5 := am_ (hp_); replace HB := am_ ((by rw [hw]; exact zm (HB.out) GB23.out : Below w.heap.size w w25)); clear hg hw hp_))
           repeat (go_quiet (first | ((with_reducible refine zr (t := 134) (p := 64) rfl ?_); (try (rw [drewN_self wr]; generalize hq_ : World.drewN wr _ = wr; replace HO_5 := am_ (Kd.R_at hq_ HO_5.out); replace HB := am_ (below_at hq_ HB.out); clear hq_; (try (have HP24 := Kd.R_putg HO_5.out ((ji20) : Int) ((x7_2) % 4294967296))))); refine store_ 134 64 ((wr.setCell ⟨go23, ((ji20) : Int).toNat, none⟩ (.int .u32 ((x7_2) % 4294967296)))) ?_; intro w25 hw; have hg : wr.grownBy w25 (some go23) := (by rw [hw]; exact HP24.2); have hp_ : Kd.R (Kd.int .u32) 134 w25 w.heap.size (fun _ => True) (.slice (some ⟨go23, 0, none⟩) x5_2.length co23) y118 := (by rw [hw, Ny118.out]; exact HP24.1); clear HP24; replace HO_5 := am_ (hp_); replace HB := am_ ((by rw [hw]; exact zm (HB.out) GB23.out : Below w.heap.size w w25)); clear hg hw hp_)); try go_wp2_with (first | ((with_reducible refine zr (t := 134) (p := 64) rfl ?_); (try (rw [drewN_self wr]; generalize hq_ : World.drewN wr _ = wr; replace HO_5 := am_ (Kd.R_at hq_ HO_5.out); replace HB := am_ (below_at hq_ HB.out); clear hq_; (try (have HP24 := Kd.R_putg HO_5.out ((ji20) : Int) ((x7_2) % 4294967296))))); refine store_ 134 64 ((wr.setCell ⟨go23, ((ji20) : Int).toNat, none⟩ (.int .u32 ((x7_2) % 4294967296)))) ?_; intro w25 hw; have hg : wr.grownBy w25 (some go23) := (by rw [hw]; exact HP24.2); have hp_ : Kd.R (Kd.int .u32) 134 w25 w.heap.size (fun _ => True) (.slice (some ⟨go23, 0, none⟩) x5_2.length co23) y118 := (by rw [hw, Ny118.out]; exact HP24.1); clear HP24; replace HO_5 := am_ (hp_); replace HB := am_ ((by rw [hw]; exact zm (HB.out) GB23.out : Below w.heap.size w w25)); clear hg hw hp_)))
           go_roundg k2
           case measure => have := HK1.out; have := HK2.out; omega
           case rel => exact ⟨(y118), (wrap64 (x6_1 + 1)), (by first | rfl | (simp; done) | (simp [*]; done)), H', ⟨by have := HK1.out; have := HK2.out; omega⟩, ⟨by (with_reducible repeat (first | apply Kd.zL | apply Kd.zH | apply Kd.zP)); exact HO_5.out⟩, ⟨by repeat (first | (with_reducible first | exact HB.out | apply zj | apply ze | apply zl) | exact HB.out)⟩⟩
          ·rw [if_neg c22] at H
           exact absurd H (by simp)
         ·rw [if_neg c21] at H
          exact absurd H (by simp)
     ·rw [if_neg c8] at H
      have c8b0 : decide (x6_1 < (l0.length : Int)) = false := decide_eq_false c8
      clear c8
      replace H := Option.bind_eq_some_iff.mp H
      obtain ⟨t111, A260, H⟩ := H
      replace H : (some t111) = some r := H
      have A26 := am_ A260
      clear A260
      obtain rfl := Option.some.inj H
      obtain ⟨Ao27, co27, eo27⟩ := Kd.zY HO_5.out
      subst eo27
      go_wp2_with (first | (go_at_call 69; (with_reducible refine (zw.calls k1 (fun k_ => some k_ = (.slice Ao27 x5_1.length co27 : Value).ownBlock) (.slice Ao27 x5_1.length co27) x5_1 t111 w _ ?side1 ?side2 A26.out).mono ?_); (case side1 => exact bw_); (case side2 => exact Kd.R_tight rfl HO_5.out); rintro e w28 ⟨v112, rfl, ho0, hb, hkp⟩; have HO113 := am_ (Kd.zS (ok' := fun k_ => True) ho0 (fun k_ hk_ => trivial)); replace HB := am_ (hb); clear HO_5; (try clear hb); (try clear hkp); (try clear ho0)))
      repeat (go_quiet (first | (go_at_call 69; (with_reducible refine (zw.calls k1 (fun k_ => some k_ = (.slice Ao27 x5_1.length co27 : Value).ownBlock) (.slice Ao27 x5_1.length co27) x5_1 t111 w _ ?side1 ?side2 A26.out).mono ?_); (case side1 => exact bw_); (case side2 => exact Kd.R_tight rfl HO_5.out); rintro e w28 ⟨v112, rfl, ho0, hb, hkp⟩; have HO113 := am_ (Kd.zS (ok' := fun k_ => True) ho0 (fun k_ hk_ => trivial)); replace HB := am_ (hb); clear HO_5; (try clear hb); (try clear hkp); (try clear ho0))); try go_wp2_with (first | (go_at_call 69; (with_reducible refine (zw.calls k1 (fun k_ => some k_ = (.slice Ao27 x5_1.length co27 : Value).ownBlock) (.slice Ao27 x5_1.length co27) x5_1 t111 w _ ?side1 ?side2 A26.out).mono ?_); (case side1 => exact bw_); (case side2 => exact Kd.R_tight rfl HO_5.out); rintro e w28 ⟨v112, rfl, ho0, hb, hkp⟩; have HO113 := am_ (Kd.zS (ok' := fun k_ => True) ho0 (fun k_ hk_ => trivial)); replace HB := am_ (hb); clear HO_5; (try clear hb); (try clear hkp); (try clear ho0))))
      go_ret
      exact ⟨_, by first | rfl | (simp [zp, zq] <;> rfl) | (simp only [← hji3]; first | rfl | (simp [zp, zq] <;> rfl)) | (simp [*, zp, zq] <;> rfl), by (with_reducible repeat (first | apply Kd.zL | apply Kd.zH | apply Kd.zP)); exact HO113.out, by repeat (first | (with_reducible first | exact HB.out | apply zj | apply ze | apply zl) | exact HB.out)⟩
  ·rw [if_neg c5] at H
   exact absurd H (by simp)
 ·rw [if_neg c4] at H
  exact absurd H (by simp)
end Go.Proofs.Ytlidbaejhmamjaa.PB
namespace Go.Proofs.Ytlidbaejhmamjaa.PB
open Go.RowKit YtlidbaejhmamjaaW.PrintWords YtlidbaejhmamjaaW.PrintLast YtlidbaejhmamjaaW.PrintMore
attribute [local go_sem] zak zam zaw zau zae zad zal zan   -- for this text's walks alone
def z7.f (k : Nat) (a0_0 : Bool) (l0_1 : List Int) (a0_2 : Int) (a1_0 : Bool) (l1_1 : List Int) (a1_2 : Int) : Option (Bool × List Int × Int) := if (l0_1.length : Int) = 0 then (some (false, ([] : List Int), 0)) else (if (l1_1.length : Int) = 0 then (some (false, ([] : List Int), 0)) else ((zA.f k l0_1 l1_1).bind fun t122 => (some ((a0_0 != a1_0), t122, wrap64 (a0_2 + a1_2)))))
def z7.T3 : Bool × List (List Nat × List Nat) := (true, [([], []), ([0], [0]), ([], []), ([2], [2]), ([1, 3], [1, 3]), ([], []), ([5], [5]), ([], []), ([7], [7]), ([6, 8], [6, 8]), ([], []), ([10], [10]), ([], []), ([12], [12]), ([11, 13], [11, 13]), ([4, 9, 14], [4, 9, 14]), ([15, 9, 0, 1, 2, 3, 4, 5, 6, 7, 8, 9, 10, 11, 12, 13, 14, 15], [15])])
def z7.B3 : List Nat := [0, 1, 0, 4, 15, 0, 32, 0, 128, 480, 0, 1024, 0, 4096, 15360, 32767, 65535]
theorem z7.tab3 : rtab .any (opsOf Try.f95 3) = z7.T3 := by kernel_rfl
theorem z7.bits3 : zat z7.T3.2 z7.B3 = true := by kernel_rfl
set_option maxHeartbeats 8000000 in
set_option maxRecDepth 100000 in
theorem z7.calls (k : Nat) (a0_0 : Bool) (A0_1 : Option Addr) (c0_1 : Nat) (l0_1 : List Int) (a0_2 : Int) (a1_0 : Bool) (A1_1 : Option Addr) (c1_1 : Nat) (l1_1 : List Int) (a1_2 : Int) (r1 : Bool) (r2 : List Int) (r3 : Int) (w : World) (hr0_1 : Kd.C (Kd.int .u32) w A0_1 l0_1.length l0_1) (hc0_1 : l0_1.length ≤ c0_1) (hr1_1 : Kd.C (Kd.int .u32) w A1_1 l1_1.length l1_1) (hc1_1 : l1_1.length ≤ c1_1) (h : z7.f k a0_0 l0_1 a0_2 a1_0 l1_1 a1_2 = some (r1, r2, r3)) :
  Calls Try.prog 95 #[.agg #[.bool a0_0, .slice A0_1 l0_1.length c0_1, .int .i64 a0_2], .agg #[.bool a1_0, .slice A1_1 l1_1.length c1_1, .int .i64 a1_2]] w fun e w' => ∃ v1_ : Value, e = .returned (.agg #[.bool r1, v1_, .int .i64 r3]) ∧ Kd.R (Kd.int .u32) 134 w' w.heap.size (fun _ => True) v1_ r2 ∧ Below w.heap.size w w' := by
 have hu101 := Try.underlying101
 have HR0_1 := am_ hr0_1
 have HC0_1 := am_ hc0_1
 clear hr0_1 hc0_1
 have HR1_1 := am_ hr1_1
 have HC1_1 := am_ hc1_1
 clear hr1_1 hc1_1
 have HB := am_ (Below.refl w.heap.size w)
 have H : (if (l0_1.length : Int) = 0 then (some (false, ([] : List Int), 0)) else (if (l1_1.length : Int) = 0 then (some (false, ([] : List Int), 0)) else ((zA.f k l0_1 l1_1).bind fun t122 => (some ((a0_0 != a1_0), t122, wrap64 (a0_2 + a1_2)))))) = some (r1, r2, r3) := h
 clear h
 by_cases c3 : (l0_1.length : Int) = 0
 ·rw [if_pos c3] at H
  have c3b0 : ((l0_1.length : Int) == 0) = true := beq_iff_eq.mpr c3
  have c3b1 : ((l0_1.length : Int) != 0) = false := bne_eq_false_iff_eq.mpr c3
  clear c3
  simp only [Option.some.injEq, Prod.mk.injEq] at H
  obtain ⟨rfl, rfl, rfl⟩ := H
  go_enter Try.func95, Try.ntmps95
  go_wp2_with (first | ((with_reducible refine zk (N := 2) rfl ?_); (try (refine zZ (by rfl) ?_; dsimp only)); refine zaq 2 (cs := #[.bool a0_0, .slice A0_1 l0_1.length c0_1, .int .i64 a0_2]) (t := 101) ?_; intro gb119 hg w4 hbox hb; have BK119 := am_ (hbox); have GW119 := am_ ((by rw [hg]; exact (zo bw_) : w.heap.size ≤ gb119)); replace HB := am_ (zb bw_ hb); have GE119 := GW119; clear hb hbox hg) | ((with_reducible refine zk (N := 3) rfl ?_); (try (refine zZ (by rfl) ?_; dsimp only)); refine zaq 3 (cs := #[.bool a1_0, .slice A1_1 l1_1.length c1_1, .int .i64 a1_2]) (t := 101) ?_; intro gb120 hg w5 hbox hb; have BK120 := am_ (hbox); have GW120 := am_ ((by rw [hg]; exact (zo bw_) : w.heap.size ≤ gb120)); replace HB := am_ (zb bw_ hb); have GE120 := GW120; have NB119_120 := am_ ((by rw [hg]; exact Nat.ne_of_lt (fl_ BK119.out) : gb119 ≠ gb120)); replace BK119 := am_ (fr_ BK119.out hb); have NB120_119 := am_ NB119_120.out.symm; clear hb hbox hg) | ((with_reducible refine zk (N := 4) rfl ?_); (try (refine zZ (by rfl) ?_; dsimp only)); refine zaq 4 (cs := #[.bool false, .slice none 0 0, .int .i64 0]) (t := 101) ?_; intro gb121 hg w6 hbox hb; have BK121 := am_ (hbox); have GW121 := am_ ((by rw [hg]; exact (zo bw_) : w.heap.size ≤ gb121)); replace HB := am_ (zb bw_ hb); have GE121 := GW121; have NB119_121 := am_ ((by rw [hg]; exact Nat.ne_of_lt (fl_ BK119.out) : gb119 ≠ gb121)); replace BK119 := am_ (fr_ BK119.out hb); have NB121_119 := am_ NB119_121.out.symm; have NB120_121 := am_ ((by rw [hg]; exact Nat.ne_of_lt (fl_ BK120.out) : gb120 ≠ gb121)); replace BK120 := am_ (fr_ BK120.out hb); have NB121_120 := am_ NB120_121.out.symm; clear hb hbox hg; have hnb7 := NB119_120.out; have hnc7 := NB120_119.out; have hnb8 := NB119_121.out; have hnc8 := NB121_119.out; have hcz9_0 : w6.cell? ⟨gb119, 0, none⟩ = some (.bool a0_0) := (za BK119.out 0).trans rfl; have hcz9_1 : w6.cell? ⟨gb119, 1, none⟩ = some (.slice A0_1 l0_1.length c0_1) := (za BK119.out 1).trans rfl; have hcz9_2 : w6.cell? ⟨gb119, 2, none⟩ = some (.int .i64 a0_2) := (za BK119.out 2).trans rfl; have hfz9_0 := zd BK119.out 0; have hfz9_1 := zd BK119.out 1; have hfz9_2 := zd BK119.out 2; have hnb10 := NB121_120.out; have hnc10 := NB120_121.out; have hcz11_0 : w6.cell? ⟨gb121, 0, none⟩ = some (.bool false) := (za BK121.out 0).trans rfl; have hcz11_1 : w6.cell? ⟨gb121, 1, none⟩ = some (.slice none 0 0) := (za BK121.out 1).trans rfl; have hcz11_2 : w6.cell? ⟨gb121, 2, none⟩ = some (.int .i64 0) := (za BK121.out 2).trans rfl; have hfz11_0 := zd BK121.out 0; have hfz11_1 := zd BK121.out 1; have hfz11_2 := zd BK121.out 2))
  refine bodyPost_ret (results_cell_row rfl _ _ gb121 101 #[.bool false, .slice none 0 0, .int .i64 0] (0, 0) _ rfl (by (with_reducible repeat (first | refine zg ?_ _ | refine zi ?_ | refine zf ?_ _)); refine zO (cs := #[.bool false, .slice none 0 0, .int .i64 0]) ?_ 2 _ rfl; (with_reducible repeat (first | refine zg ?_ _ | refine zi ?_ | refine zf ?_ _)); refine zO (cs := #[.bool false, .slice none 0 0, .int .i64 0]) ?_ 1 _ rfl; (with_reducible repeat (first | refine zg ?_ _ | refine zi ?_ | refine zf ?_ _)); refine zO (cs := #[.bool false, .slice none 0 0, .int .i64 0]) ?_ 0 _ rfl; (with_reducible repeat (first | refine zg ?_ _ | refine zi ?_ | refine zf ?_ _)); exact BK121.out) Try.underlying101 rfl (by kernel_rfl)) rfl ?_
  exact ⟨_, by first | rfl | (simp [zp, zq] <;> rfl) | (simp [*, zp, zq] <;> rfl), by first | exact Kd.zaY _ _ _ _ _ | exact Kd.N_nil _ _ _ _ _ | exact Kd.V_nil _ _ _ _ _ | exact Kd.Q_nil _ _ _ _ _ | exact Kd.S_nil _ _ _ _ _, by repeat (first | (with_reducible first | exact HB.out | apply zj | apply ze | apply zl | refine zm ?_ GE119.out | refine zm ?_ GE120.out | refine zm ?_ GE121.out) | exact HB.out)⟩
 ·rw [if_neg c3] at H
  have c3b0 : ((l0_1.length : Int) == 0) = false := beq_eq_false_iff_ne.mpr c3
  have c3b1 : ((l0_1.length : Int) != 0) = true := bne_iff_ne.mpr c3
  have c3b2 : ¬ (l0_1 = []) := fun h_ => c3 (by rw [h_]; rfl)
  by_cases c12 : (l1_1.length : Int) = 0
  ·rw [if_pos c12] at H
   have c12b0 : ((l1_1.length : Int) == 0) = true := beq_iff_eq.mpr c12
   have c12b1 : ((l1_1.length : Int) != 0) = false := bne_eq_false_iff_eq.mpr c12
   clear c12
   simp only [Option.some.injEq, Prod.mk.injEq] at H
   obtain ⟨rfl, rfl, rfl⟩ := H
   go_enter Try.func95, Try.ntmps95
   go_wp2_with (first | ((with_reducible refine zk (N := 2) rfl ?_); (try (refine zZ (by rfl) ?_; dsimp only)); refine zaq 2 (cs := #[.bool a0_0, .slice A0_1 l0_1.length c0_1, .int .i64 a0_2]) (t := 101) ?_; intro gb119 hg w13 hbox hb; have BK119 := am_ (hbox); have GW119 := am_ ((by rw [hg]; exact (zo bw_) : w.heap.size ≤ gb119)); replace HB := am_ (zb bw_ hb); have GE119 := GW119; clear hb hbox hg) | ((with_reducible refine zk (N := 3) rfl ?_); (try (refine zZ (by rfl) ?_; dsimp only)); refine zaq 3 (cs := #[.bool a1_0, .slice A1_1 l1_1.length c1_1, .int .i64 a1_2]) (t := 101) ?_; intro gb120 hg w14 hbox hb; have BK120 := am_ (hbox); have GW120 := am_ ((by rw [hg]; exact (zo bw_) : w.heap.size ≤ gb120)); replace HB := am_ (zb bw_ hb); have GE120 := GW120; have NB119_120 := am_ ((by rw [hg]; exact Nat.ne_of_lt (fl_ BK119.out) : gb119 ≠ gb120)); replace BK119 := am_ (fr_ BK119.out hb); have NB120_119 := am_ NB119_120.out.symm; clear hb hbox hg) | ((with_reducible refine zk (N := 4) rfl ?_); (try (refine zZ (by rfl) ?_; dsimp only)); refine zaq 4 (cs := #[.bool false, .slice none 0 0, .int .i64 0]) (t := 101) ?_; intro gb121 hg w15 hbox hb; have BK121 := am_ (hbox); have GW121 := am_ ((by rw [hg]; exact (zo bw_) : w.heap.size ≤ gb121)); replace HB := am_ (zb bw_ hb); have GE121 := GW121; have NB119_121 := am_ ((by rw [hg]; exact Nat.ne_of_lt (fl_ BK119.out) : gb119 ≠ gb121)); replace BK119 := am_ (fr_ BK119.out hb); have NB121_119 := am_ NB119_121.out.symm; have NB120_121 := am_ ((by rw [hg]; exact Nat.ne_of_lt (fl_ BK120.out) : gb120 ≠ gb121)); replace BK120 := am_ (fr_ BK120.out hb); have NB121_120 := am_ NB120_121.out.symm; clear hb hbox hg; have hnb16 := NB119_120.out; have hnc16 := NB120_119.out; have hnb17 := NB119_121.out; have hnc17 := NB121_119.out; have hcz18_0 : w15.cell? ⟨gb119, 0, none⟩ = some (.bool a0_0) := (za BK119.out 0).trans rfl; have hcz18_1 : w15.cell? ⟨gb119, 1, none⟩ = some (.slice A0_1 l0_1.length c0_1) := (za BK119.out 1).trans rfl; have hcz18_2 : w15.cell? ⟨gb119, 2, none⟩ = some (.int .i64 a0_2) := (za BK119.out 2).trans rfl; have hfz18_0 := zd BK119.out 0; have hfz18_1 := zd BK119.out 1; have hfz18_2 := zd BK119.out 2; have hnb19 := NB120_121.out; have hnc19 := NB121_120.out; have hcz20_0 : w15.cell? ⟨gb120, 0, none⟩ = some (.bool a1_0) := (za BK120.out 0).trans rfl; have hcz20_1 : w15.cell? ⟨gb120, 1, none⟩ = some (.slice A1_1 l1_1.length c1_1) := (za BK120.out 1).trans rfl; have hcz20_2 : w15.cell? ⟨gb120, 2, none⟩ = some (.int .i64 a1_2) := (za BK120.out 2).trans rfl; have hfz20_0 := zd BK120.out 0; have hfz20_1 := zd BK120.out 1; have hfz20_2 := zd BK120.out 2; have hcz21_0 : w15.cell? ⟨gb121, 0, none⟩ = some (.bool false) := (za BK121.out 0).trans rfl; have hcz21_1 : w15.cell? ⟨gb121, 1, none⟩ = some (.slice none 0 0) := (za BK121.out 1).trans rfl; have hcz21_2 : w15.cell? ⟨gb121, 2, none⟩ = some (.int .i64 0) := (za BK121.out 2).trans rfl; have hfz21_0 := zd BK121.out 0; have hfz21_1 := zd BK121.out 1; have hfz21_2 := zd BK121.out 2))
   refine bodyPost_ret (results_cell_row rfl _ _ gb121 101 #[.bool false, .slice none 0 0, .int .i64 0] (0, 0) _ rfl (by (with_reducible repeat (first | refine zg ?_ _ | refine zi ?_ | refine zf ?_ _)); refine zO (cs := #[.bool false, .slice none 0 0, .int .i64 0]) ?_ 2 _ rfl; (with_reducible repeat (first | refine zg ?_ _ | refine zi ?_ | refine zf ?_ _)); refine zO (cs := #[.bool false, .slice none 0 0, .int .i64 0]) ?_ 1 _ rfl; (with_reducible repeat (first | refine zg ?_ _ | refine zi ?_ | refine zf ?_ _)); refine zO (cs := #[.bool false, .slice none 0 0, .int .i64 0]) ?_ 0 _ rfl; (with_reducible repeat (first | refine zg ?_ _ | refine zi ?_ | refine zf ?_ _)); exact BK121.out) Try.underlying101 rfl (by kernel_rfl)) rfl ?_
   exact ⟨_, by first | rfl | (simp [zp, zq] <;> rfl) | (simp [*, zp, zq] <;> rfl), by first | exact Kd.zaY _ _ _ _ _ | exact Kd.N_nil _ _ _ _ _ | exact Kd.V_nil _ _ _ _ _ | exact Kd.Q_nil _ _ _ _ _ | exact Kd.S_nil _ _ _ _ _, by repeat (first | (with_reducible first | exact HB.out | apply zj | apply ze | apply zl | refine zm ?_ GE119.out | refine zm ?_ GE120.out | refine zm ?_ GE121.out) | exact HB.out)⟩
  ·rw [if_neg c12] at H
   have c12b0 : ((l1_1.length : Int) == 0) = false := beq_eq_false_iff_ne.mpr c12
   have c12b1 : ((l1_1.length : Int) != 0) = true := bne_iff_ne.mpr c12
   have c12b2 : ¬ (l1_1 = []) := fun h_ => c12 (by rw [h_]; rfl)
   replace H := Option.bind_eq_some_iff.mp H
   obtain ⟨t122, A220, H⟩ := H
   replace H : (some ((a0_0 != a1_0), t122, wrap64 (a0_2 + a1_2))) = some (r1, r2, r3) := H
   have A22 := am_ A220
   clear A220
   simp only [Option.some.injEq, Prod.mk.injEq] at H
   obtain ⟨rfl, rfl, rfl⟩ := H
   go_enter Try.func95, Try.ntmps95
   try go_wp2_with (first | ((with_reducible refine zk (N := 2) rfl ?_); (try (refine zZ (by rfl) ?_; dsimp only)); refine zaq 2 (cs := #[.bool a0_0, .slice A0_1 l0_1.length c0_1, .int .i64 a0_2]) (t := 101) ?_; intro gb119 hg w23 hbox hb; have BK119 := am_ (hbox); have GW119 := am_ ((by rw [hg]; exact (zo bw_) : w.heap.size ≤ gb119)); replace HB := am_ (zb bw_ hb); have GE119 := GW119; clear hb hbox hg) | ((with_reducible refine zk (N := 3) rfl ?_); (try (refine zZ (by rfl) ?_; dsimp only)); refine zaq 3 (cs := #[.bool a1_0, .slice A1_1 l1_1.length c1_1, .int .i64 a1_2]) (t := 101) ?_; intro gb120 hg w24 hbox hb; have BK120 := am_ (hbox); have GW120 := am_ ((by rw [hg]; exact (zo bw_) : w.heap.size ≤ gb120)); replace HB := am_ (zb bw_ hb); have GE120 := GW120; have NB119_120 := am_ ((by rw [hg]; exact Nat.ne_of_lt (fl_ BK119.out) : gb119 ≠ gb120)); replace BK119 := am_ (fr_ BK119.out hb); have NB120_119 := am_ NB119_120.out.symm; clear hb hbox hg) | ((with_reducible refine zk (N := 4) rfl ?_); (try (refine zZ (by rfl) ?_; dsimp only)); refine zaq 4 (cs := #[.bool false, .slice none 0 0, .int .i64 0]) (t := 101) ?_; intro gb121 hg w25 hbox hb; have BK121 := am_ (hbox); have GW121 := am_ ((by rw [hg]; exact (zo bw_) : w.heap.size ≤ gb121)); replace HB := am_ (zb bw_ hb); have GE121 := GW121; have NB119_121 := am_ ((by rw [hg]; exact Nat.ne_of_lt (fl_ BK119.out) : gb119 ≠ gb121)); replace BK119 := am_ (fr_ BK119.out hb); have NB121_119 := am_ NB119_121.out.symm; have NB120_121 := am_ ((by rw [hg]; exact Nat.ne_of_lt (fl_ BK120.out) : gb120 ≠ gb121)); replace BK120 := am_ (fr_ BK120.out hb); have NB121_120 := am_ NB120_121.out.symm; clear hb hbox hg; have hnb26 := NB119_120.out; have hnc26 := NB120_119.out; have hnb27 := NB119_121.out; have hnc27 := NB121_119.out; have hcz28_0 : w25.cell? ⟨gb119, 0, none⟩ = some (.bool a0_0) := (za BK119.out 0).trans rfl; have hcz28_1 : w25.cell? ⟨gb119, 1, none⟩ = some (.slice A0_1 l0_1.length c0_1) := (za BK119.out 1).trans rfl; have hcz28_2 : w25.cell? ⟨gb119, 2, none⟩ = some (.int .i64 a0_2) := (za BK119.out 2).trans rfl; have hfz28_0 := zd BK119.out 0; have hfz28_1 := zd BK119.out 1; have hfz28_2 := zd BK119.out 2; have hnb29 := NB120_121.out; have hnc29 := NB121_120.out; have hcz30_0 : w25.cell? ⟨gb120, 0, none⟩ = some (.bool a1_0) := (za BK120.out 0).trans rfl; have hcz30_1 : w25.cell? ⟨gb120, 1, none⟩ = some (.slice A1_1 l1_1.length c1_1) := (za BK120.out 1).trans rfl; have hcz30_2 : w25.cell? ⟨gb120, 2, none⟩ = some (.int .i64 a1_2) := (za BK120.out 2).trans rfl; have hfz30_0 := zd BK120.out 0; have hfz30_1 := zd BK120.out 1; have hfz30_2 := zd BK120.out 2))
   have n0_ := am_ (zi BK119.out)
   have n1_ := am_ (zi BK120.out)
   have n2_ := am_ (zi BK121.out)
   have n3_ := am_ (zl HB.out)
   clear BK119
   clear BK120
   clear BK121
   clear HB
   have BK119 := n0_
   have BK120 := n1_
   have BK121 := n2_
   have HB := n3_
   clear n0_ n1_ n2_ n3_
   refine zay (n := 17) (S := fun w' => w'.cell? ⟨gb119, 0, none⟩ = some (.bool a0_0) ∧ w'.cell? ⟨gb119, 1, none⟩ = some (.slice A0_1 l0_1.length c0_1) ∧ w'.cell? ⟨gb119, 2, none⟩ = some (.int .i64 a0_2) ∧ w'.cell? ⟨gb120, 0, none⟩ = some (.bool a1_0) ∧ w'.cell? ⟨gb120, 1, none⟩ = some (.slice A1_1 l1_1.length c1_1) ∧ w'.cell? ⟨gb120, 2, none⟩ = some (.int .i64 a1_2)) (ds := []) (bl_ 17 0) (by kernel_rfl) rfl rfl ⟨(za BK119.out 0).trans rfl, (za BK119.out 1).trans rfl, (za BK119.out 2).trans rfl, (za BK120.out 0).trans rfl, (za BK120.out 1).trans rfl, (za BK120.out 2).trans rfl⟩ (fun hHeld => ?_); refine zT z7.tab3 z7.bits3 (fun HT_ HW_ => ?_)
   generalize w25.drew = w31 at BK119 BK120 BK121 HB hHeld ⊢
   refine pu_ HT_ 0 16 (bl_ 17 1) ?_
   refine pu_ HT_ 2 18 (bl_ 17 5) ?_
   refine pu_ HT_ 5 21 (bl_ 17 37) ?_
   refine pu_ HT_ 7 23 (bl_ 17 165) ?_
   refine pu_ HT_ 10 26 (bl_ 17 1189) ?_
   refine pu_ HT_ 12 28 (bl_ 17 5285) ?_
   refine tk_ HT_ HW_ hHeld 1 17 (bl_ 17 5287) ?_
   refine tk_ HT_ HW_ hHeld 3 19 (bl_ 17 5295) ?_
   refine pu_ HT_ 4 20 (bl_ 17 5311) ?_
   refine tk_ HT_ HW_ hHeld 6 22 (bl_ 17 5375) ?_
   refine tk_ HT_ HW_ hHeld 8 24 (bl_ 17 5631) ?_
   refine tk_ HT_ HW_ hHeld 11 27 (bl_ 17 7679) ?_
   refine tk_ HT_ HW_ hHeld 13 29 (bl_ 17 15871) ?_
   refine pu_ HT_ 14 30 (bl_ 17 32255) ?_
   refine on_ HT_ 9 (some 25) (bl_ 17 32767) fun K hK => ?_
   refine goes_ Try.func102 (by kernel_rfl) rfl #[.slice A0_1 l0_1.length c0_1, .slice A1_1 l1_1.length c1_1] (by rfl) rfl rfl (by (try simp only [List.map_toArray, List.map_cons, List.map_nil]); first | done | rfl | (simp only [List.length_drop, List.length_take]; rfl)) ?_
   with_reducible refine (zA.calls k _ _ l0_1 _ _ l1_1 t122 _ ?side1 ?side2 ?side3 ?side4 A22.out).mono ?_
   (case side1 => repeat (first | exact (Kd.zB HR0_1.out HB.out) | (with_reducible refine Kd.zaG ?_ _) | (with_reducible refine Kd.zaF ?_ _) | (with_reducible refine Kd.zaQ ?_)))
   (case side2 => exact HC0_1.out)
   (case side3 => repeat (first | exact (Kd.zB HR1_1.out HB.out) | (with_reducible refine Kd.zaG ?_ _) | (with_reducible refine Kd.zaF ?_ _) | (with_reducible refine Kd.zaQ ?_)))
   (case side4 => exact HC1_1.out)
   rintro e w32 ⟨v123, rfl, ho0, hb⟩
   refine ⟨_, rfl, ?_⟩
   have n0_ := am_ (Kd.zag ho0 (zo bw_))
   have n1_ := am_ (fr_ BK119.out hb)
   have n2_ := am_ (fr_ BK120.out hb)
   have n3_ := am_ (fr_ BK121.out hb)
   have n4_ := am_ (zb bw_ hb)
   clear BK119
   clear BK120
   clear BK121
   clear HB
   have HO124 := n0_
   have BK119 := n1_
   have BK120 := n2_
   have BK121 := n3_
   have HB := n4_
   clear n0_ n1_ n2_ n3_ n4_
   (try clear hb)
   (try clear hb2)
   (try clear hk)
   (try clear hi)
   (try clear ho0)
   obtain ⟨Ao33, co33, eo33⟩ := Kd.zY HO124.out
   (first | subst eo33 | (injection eo33 with f1_ f2_ f3_; have f4_ := f1_.symm; have f5_ := f3_.symm; clear f1_ f2_ f3_; subst f4_; subst f5_))
   refine hK.out _ _ ⟨(za BK119.out 0).trans rfl, (za BK119.out 1).trans rfl, (za BK119.out 2).trans rfl, (za BK120.out 0).trans rfl, (za BK120.out 1).trans rfl, (za BK120.out 2).trans rfl⟩ (fun hHeld => ?_)
   clear hK K
   refine norm_ (a' := ?_) ?_ ?_
   rotate_left
   ·show Act.put _ (some 25) _ = _
    simp only [Act.put, sI_, s0_, s1_, zaA, zaR]
    rfl
   refine pu_ HT_ 15 31 (bl_ 17 65535) ?_
   refine on_ HT_ 16 none (bl_ 17 131071) fun K hK => ?_
   have hs34 : w32.cell? ⟨gb121, 0, none⟩ = some (.bool false) := (za BK121.out 0).trans rfl
   have hfs34 := zd BK121.out 0
   have hns34_0 := NB119_121.out
   have hns34_1 := NB120_121.out
   have hms34_0 := NB121_119.out
   have hms34_1 := NB121_120.out
   have hs35 : w32.cell? ⟨gb121, 1, none⟩ = some (.slice none 0 0) := (za BK121.out 1).trans rfl
   have hfs35 := zd BK121.out 1
   have hns35_0 := NB119_121.out
   have hns35_1 := NB120_121.out
   have hms35_0 := NB121_119.out
   have hms35_1 := NB121_120.out
   have hs36 : w32.cell? ⟨gb121, 2, none⟩ = some (.int .i64 0) := (za BK121.out 2).trans rfl
   have hfs36 := zd BK121.out 2
   have hns36_0 := NB119_121.out
   have hns36_1 := NB120_121.out
   have hms36_0 := NB121_119.out
   have hms36_1 := NB121_120.out
   refine skip_ (w1 := ?_) (by rfl) rfl ?_ ?_
   rotate_left
   ·go_simp
    rfl
   refine hK.out _ _ ⟨((cell_far (p := ⟨gb121, _, none⟩) NB119_121.out _).trans (((cell_far (p := ⟨gb121, _, none⟩) NB119_121.out _).trans (((cell_far (p := ⟨gb121, _, none⟩) NB119_121.out _).trans (hHeld.1)))))), ((cell_far (p := ⟨gb121, _, none⟩) NB119_121.out _).trans (((cell_far (p := ⟨gb121, _, none⟩) NB119_121.out _).trans (((cell_far (p := ⟨gb121, _, none⟩) NB119_121.out _).trans (hHeld.2.1)))))), ((cell_far (p := ⟨gb121, _, none⟩) NB119_121.out _).trans (((cell_far (p := ⟨gb121, _, none⟩) NB119_121.out _).trans (((cell_far (p := ⟨gb121, _, none⟩) NB119_121.out _).trans (hHeld.2.2.1)))))), ((cell_far (p := ⟨gb121, _, none⟩) NB120_121.out _).trans (((cell_far (p := ⟨gb121, _, none⟩) NB120_121.out _).trans (((cell_far (p := ⟨gb121, _, none⟩) NB120_121.out _).trans (hHeld.2.2.2.1)))))), ((cell_far (p := ⟨gb121, _, none⟩) NB120_121.out _).trans (((cell_far (p := ⟨gb121, _, none⟩) NB120_121.out _).trans (((cell_far (p := ⟨gb121, _, none⟩) NB120_121.out _).trans (hHeld.2.2.2.2.1)))))), ((cell_far (p := ⟨gb121, _, none⟩) NB120_121.out _).trans (((cell_far (p := ⟨gb121, _, none⟩) NB120_121.out _).trans (((cell_far (p := ⟨gb121, _, none⟩) NB120_121.out _).trans (hHeld.2.2.2.2.2))))))⟩ (fun hHeld => ?_)
   clear hK K
   refine zaP (zao HT_.out (by kernel_rfl)) ?_
   try go_wp2
   refine bodyPost_ret (results_cell_row rfl _ _ gb121 101 #[.bool (a0_0 != a1_0), .slice Ao33 t122.length co33, .int .i64 (wrap64 (a0_2 + a1_2))] (0, 0) _ rfl (by (with_reducible repeat (first | refine zg ?_ _ | refine zi ?_ | refine zf ?_ _)); refine zO (cs := #[.bool (a0_0 != a1_0), .slice Ao33 t122.length co33, .int .i64 0]) ?_ 2 _ rfl; (with_reducible repeat (first | refine zg ?_ _ | refine zi ?_ | refine zf ?_ _)); refine zO (cs := #[.bool (a0_0 != a1_0), .slice none 0 0, .int .i64 0]) ?_ 1 _ rfl; (with_reducible repeat (first | refine zg ?_ _ | refine zi ?_ | refine zf ?_ _)); refine zO (cs := #[.bool false, .slice none 0 0, .int .i64 0]) ?_ 0 _ rfl; (with_reducible repeat (first | refine zg ?_ _ | refine zi ?_ | refine zf ?_ _)); exact BK121.out) Try.underlying101 rfl (by kernel_rfl)) rfl ?_
   exact ⟨_, by first | rfl | (simp [zp, zq] <;> rfl) | (simp [*, zp, zq] <;> rfl), by (with_reducible repeat (first | apply Kd.zL | apply Kd.zH | apply Kd.zP)); exact Kd.zS (Kd.zap (p := ⟨gb121, 2, none⟩) (Kd.zap (p := ⟨gb121, 1, none⟩) (Kd.zap (p := ⟨gb121, 0, none⟩) (Kd.zar HO124.out BK121.out (by decide)) (fun _ hk => hk.2) (.bool (a0_0 != a1_0))) (fun _ hk => hk.2) (.slice Ao33 t122.length co33)) (fun _ hk => hk.2) (.int .i64 (wrap64 (a0_2 + a1_2)))) (fun _ hk => trivial), by repeat (first | (with_reducible first | exact HB.out | apply zj | apply ze | apply zl | refine zm ?_ GE119.out | refine zm ?_ GE120.out | refine zm ?_ GE121.out) | exact HB.out)⟩
end Go.Proofs.Ytlidbaejhmamjaa.PB
namespace Go.Proofs.Ytlidbaejhmamjaa.NW
open Go.RowKit YtlidbaejhmamjaaW.PrintWords YtlidbaejhmamjaaW.PrintLast YtlidbaejhmamjaaW.PrintMore PB LA AC
theorem nv_set : ∀ (l : List Int) (j : Nat) (v : Int), j < l.length → nv (l.set j v) = nv l + B j * (v - rd l (j : Int))
 | [], j, v, h => by simp at h
 | x :: l, 0, v, _ => by simp [nv, B_zero, rd]; omega
 | x :: l, j + 1, v, h => by
  have ih := nv_set l j v (by simpa using h)
  rw [s1_]
  simp only [nv, ih, B_succ]
  have e : rd (x :: l) ((j + 1 : Nat) : Int) = rd l (j : Int) := by simp [rd]
  rw [e, Int.mul_add, Int.mul_assoc]
  omega
theorem U32.set {l : List Int} (h : U32 l) (j : Nat) {v : Int} (h0 : 0 ≤ v) (h1 : v < 4294967296) : U32 (l.set j v) := fun x hx => by
 rcases List.mem_or_eq_of_mem_set hx with hx | rfl
 ·exact h x hx
 ·exact ⟨h0, h1⟩
theorem rd_set_ne (l : List Int) (i j : Nat) (v : Int) (h : i ≠ j) : rd (l.set i v) (j : Int) = rd l (j : Int) := by simp [rd, List.getD_eq_getElem?_getD, List.getElem?_set_ne h]
theorem mul_word (x y o c : Int) (x0 : 0 ≤ x) (x1 : x < 4294967296) (y0 : 0 ≤ y) (y1 : y < 4294967296) (o0 : 0 ≤ o) (o1 : o < 4294967296) (c0 : 0 ≤ c) (c1 : c < 4294967296) :
  0 ≤ x * y ∧ x * y < 18446744073709551616 ∧ 0 ≤ c + x * y ∧ c + x * y < 18446744073709551616 ∧ 0 ≤ c + x * y + o ∧ c + x * y + o < 18446744073709551616 := by
 have h0 : 0 ≤ x * y := Int.mul_nonneg x0 y0
 have h1 : x * y ≤ 4294967295 * 4294967295 := Int.mul_le_mul (by omega) (by omega) y0 (by omega)
 generalize x * y = z at *
 omega
theorem times_ev (a b : List Int) (ha : U32 a) (hb : U32 b) (hn : a.length ≤ 1000000) (hm : b.length ≤ 1000000) :
  ∃ t, EvS (fun k => zA.f k a b) t ∧ nv t = nv a * nv b ∧ U32 t ∧ Tr t ∧ t.length ≤ a.length + b.length := by
 have inner : ∀ (i : Nat), i < a.length → ∀ (m k : Nat) (out : List Int) (c : Int), b.length = k + m → out.length = a.length + b.length → U32 out → (∀ j : Nat, i + b.length ≤ j → rd out (j : Int) = 0) → 0 ≤ c → c < 4294967296 →
   nv out + B (i + k) * c = nv (a.take i) * nv b + B i * rd a (i : Int) * nv (b.take k) →
   ∃ out2 : List Int, out2.length = a.length + b.length ∧ U32 out2 ∧ (∀ j : Nat, i + 1 + b.length ≤ j → rd out2 (j : Int) = 0) ∧ nv out2 = nv (a.take (i + 1)) * nv b ∧
    ∀ t, EvS (fun f => zA.l0 f a b out2 ((i + 1 : Nat) : Int)) t → EvS (fun f => zA.l1 f a b out (i : Int) c (k : Int)) t := by
  intro i hi m
  induction m with
  | zero =>
   intro k out c e hl hu hz c0 c1 h
   have hk : k = b.length := by omega
   subst hk
   have z := hz (i + b.length) (Nat.le_refl _)
   have st := nv_set out (i + b.length) c (by omega)
   rw [z, Int.sub_zero] at st
   refine ⟨out.set (i + b.length) c, by rw [List.length_set]; exact hl, hu.set _ c0 c1, fun j hj => ?_, ?_, fun t ht => EvS.succ (fun f => ?_) ht⟩
   ·rw [rd_set_ne _ _ _ _ (by omega)]
    exact hz j (by omega)
   ·rw [st, h, List.take_length, nv_take a i hi, Int.add_mul]
   ·simp only [zA.l1]
    rw [if_neg (by omega), w64 _ (by omega) (by omega), if_pos (by omega), if_pos (by omega), Int.emod_eq_of_lt c0 c1, wnext i (by omega), show ((i : Int) + (b.length : Int)).toNat = i + b.length by omega]
  | succ m ih =>
   intro k out c e hl hu hz c0 c1 h
   have hx := u32_rd ha i hi
   have hy := u32_rd hb k (by omega)
   have ho := u32_rd hu (i + k) (by omega)
   have tk := nv_take b k (by omega)
   obtain ⟨p, hp⟩ : ∃ p, p = rd a (i : Int) * rd b (k : Int) := ⟨_, rfl⟩
   have mw := mul_word _ _ _ c hx.1 hx.2 hy.1 hy.2 ho.1 ho.2 c0 c1
   rw [← hp] at mw
   obtain ⟨v, hv⟩ : ∃ v, v = c + p + rd out ((i + k : Nat) : Int) := ⟨_, rfl⟩
   rw [← hv] at mw
   have v1 : 0 ≤ v % 4294967296 ∧ v % 4294967296 < 4294967296 := by omega
   have v2 : v = v % 4294967296 + 4294967296 * (v / 4294967296) := by omega
   have v3 : 0 ≤ v / 4294967296 ∧ v / 4294967296 < 4294967296 := by omega
   have st := nv_set out (i + k) (v % 4294967296) (by omega)
   obtain ⟨out2, q1, q2, q3, q4, q5⟩ := ih (k + 1) (out.set (i + k) (v % 4294967296)) (v / 4294967296) (by omega) (by rw [List.length_set]; exact hl) (hu.set _ v1.1 v1.2) (fun j hj => by rw [rd_set_ne _ _ _ _ (by omega)]; exact hz j hj) v3.1 v3.2 (by
    have e1 : B (i + (k + 1)) = 4294967296 * B (i + k) := by rw [show i + (k + 1) = (i + k) + 1 by omega, B_succ]
    have e2 : B (i + k) = B i * B k := by unfold B; rw [show 32 * (i + k) = 32 * i + 32 * k by omega, zaE]
    have e3 : B (i + k) * (v % 4294967296 - rd out ((i + k : Nat) : Int)) + 4294967296 * B (i + k) * (v / 4294967296) = B (i + k) * (c + p) := by
     rw [Int.mul_comm 4294967296, Int.mul_assoc, ← Int.mul_add]
     congr 1
     omega
    rw [st, e1, tk, Int.mul_add (B i * rd a (i : Int)), ← Int.add_assoc (nv (a.take i) * nv b), ← h, Int.add_assoc (nv out), e3, Int.mul_add (B (i + k)), hp, e2]
    rw [show B i * rd a (i : Int) * (B k * rd b (k : Int)) = B i * B k * (rd a (i : Int) * rd b (k : Int)) by
     rw [Int.mul_assoc, Int.mul_left_comm (rd a (i : Int)), ← Int.mul_assoc]]
    omega)
   refine ⟨out2, q1, q2, q3, q4, fun t ht => EvS.succ (fun f => ?_) (q5 t ht)⟩
   simp only [zA.l1]
   rw [if_pos (by omega), if_pos (by omega), if_pos (by omega), if_pos (by omega), show wrap64 ((i : Int) + (k : Int)) = ((i + k : Nat) : Int) by rw [w64 _ (by omega) (by omega)]; omega, if_pos (by omega), if_pos (by omega)]
   rw [zaW (rd a (i : Int)) hx.1 (by omega), zaW (rd b (k : Int)) hy.1 (by omega), ← hp, zaW p mw.1 mw.2.1, zaW (c + p) mw.2.2.1 mw.2.2.2.1, zaW (rd out ((i + k : Nat) : Int)) ho.1 (by omega), ← hv, zaW v mw.2.2.2.2.1 mw.2.2.2.2.2, Int.toNat_natCast, wnext k (by omega)]
 have outer : ∀ (m i : Nat) (out : List Int), a.length = i + m → out.length = a.length + b.length → U32 out → (∀ j : Nat, i + b.length ≤ j → rd out (j : Int) = 0) → nv out = nv (a.take i) * nv b →
   ∃ t, EvS (fun f => zA.l0 f a b out (i : Int)) t ∧ nv t = nv a * nv b ∧ U32 t ∧ Tr t ∧ t.length ≤ a.length + b.length := by
  intro m
  induction m with
  | zero =>
   intro i out e hl hu hz h
   obtain ⟨t, ht, r0, r1, r2, r3⟩ := trim_ev out hu (by omega)
   rw [show a.take i = a from List.take_of_length_le (by omega)] at h
   refine ⟨t, EvS.succ (G := fun f => (zw.f f out).bind fun t111 => some t111) (fun f => ?_) (EvS.bind ht (EvS.pure _)), by rw [r0, h], r1, r2, by omega⟩
   simp only [zA.l0]
   rw [if_neg (by omega)]
  | succ m ih =>
   intro i out e hl hu hz h
   obtain ⟨out2, q1, q2, q3, q4, q5⟩ := inner i (by omega) b.length 0 out 0 (by omega) hl hu hz (by omega) (by omega) (by simp [nv, h])
   obtain ⟨t, ht, r⟩ := ih (i + 1) out2 (by omega) q1 q2 q3 q4
   refine ⟨t, EvS.succ (fun f => ?_) (q5 t ht), r⟩
   simp only [zA.l0]
   rw [if_pos (by omega)]
   rfl
 obtain ⟨t, ht, r⟩ := outer a.length 0 (List.replicate (a.length + b.length) 0) (by omega) (by simp) (U32.zeros _) (fun j hj => by
  by_cases h : j < a.length + b.length
  ·simp [rd, h]
  ·simp [rd, List.getElem?_eq_none (show (List.replicate (a.length + b.length) (0 : Int)).length ≤ j by simp; omega)]) (by rw [nv_zeros]; simp [nv])
 refine ⟨t, EvS.of (fun f => ?_) ht, r⟩
 unfold zA.f
 rw [w64 _ (by omega) (by omega), if_pos (by omega), show ((a.length : Int) + (b.length : Int)).toNat = a.length + b.length by omega, if_pos (by omega)]
 rfl
theorem u64_wraps : ∀ n : Int, 0 ≤ n → n < 2 ^ 64 → IntKind.u64.wrap n = n := fun n h0 h1 => zaW n h0 (by
 have : (2 : Int) ^ 64 = 18446744073709551616 := by decide
 omega)
theorem and64 (z k : Nat) (hz : z < 2 ^ 64) (hk : k ≤ 64) : bits .and .u64 (z : Int) ((2 ^ k - 1 : Nat) : Int) = ((z % 2 ^ k : Nat) : Int) := by
 have hb : 2 ^ k - 1 < 2 ^ 64 := by
  have := Nat.pow_le_pow_right (n := 2) (by decide) hk
  have := Nat.pow_pos (a := 2) (n := k) (by decide)
  omega
 rw [(bits_nat .u64 64 (by decide) u64_wraps z (2 ^ k - 1) hz hb).1, Nat.and_two_pow_sub_one_eq_mod]
theorem or52 (m : Nat) (hm : m < 4503599627370496) : bits .or .u64 (m : Int) 4503599627370496 = ((m + 4503599627370496 : Nat) : Int) := by
 have e : (4503599627370496 : Nat) = 2 ^ 52 := by decide
 have h := (bits_nat .u64 64 (by decide) u64_wraps m 4503599627370496 (by omega) (by decide)).2
 have h2 : bits .or .u64 (m : Int) 4503599627370496 = bits .or .u64 (m : Int) ((4503599627370496 : Nat) : Int) := rfl
 rw [h2, h, Nat.or_comm]
 have h3 := Nat.two_pow_add_eq_or_of_lt (i := 52) (b := m) (by rw [← e]; exact hm) 1
 rw [Nat.mul_one, ← e] at h3
 rw [← h3, Nat.add_comm]
/-- What Of tells of some bits. -/
theorem of_ev (u : Nat) (hu : u < 18446744073709551616) : ∃ (nb : Bool) (t : List Int) (e : Int), EvS (fun k => zah.f k (u : Int)) (nb, t, e, fo u) ∧ U32 t ∧ Tr t ∧ t.length ≤ 2 ∧ nv t = (if fo u = true then (fm u : Int) else 0) ∧ (t.length = 0 ∨ (nb = fs u ∧ e = fe u)) ∧ -1074 ≤ e ∧ e ≤ 971 := by
 have two : ∀ v : Int, 0 ≤ v → v < 18446744073709551616 → ∃ t, EvS (fun k => zw.f k [v % 4294967296, (v / 4294967296) % 4294967296]) t ∧ nv t = v ∧ U32 t ∧ Tr t ∧ t.length ≤ 2 := by
  intro u u0 u1
  obtain ⟨t, ht, r0, r1, r2, r3⟩ := trim_ev [u % 4294967296, (u / 4294967296) % 4294967296] (fun x hx => by
   simp at hx
   rcases hx with rfl | rfl <;> omega) (by simp)
  refine ⟨t, ht, ?_, r1, r2, by simpa using r3⟩
  rw [r0]; simp only [nv]; omega
 have e1 : wrap64 (bits .and .u64 ((u : Int) / 4503599627370496) 2047) = ((u / 4503599627370496 % 2048 : Nat) : Int) := by
  have h := and64 (u / 4503599627370496) 11 (by omega) (by omega)
  have h2 : bits .and .u64 ((u : Int) / 4503599627370496) 2047 = bits .and .u64 ((u / 4503599627370496 : Nat) : Int) ((2 ^ 11 - 1 : Nat) : Int) := rfl
  rw [h2, h, w64 _ (by omega) (by omega)]
 have e2 : bits .and .u64 (u : Int) 4503599627370495 = ((u % 4503599627370496 : Nat) : Int) := by
  have h := and64 u 52 (by omega) (by omega)
  have h2 : bits .and .u64 (u : Int) 4503599627370495 = bits .and .u64 (u : Int) ((2 ^ 52 - 1 : Nat) : Int) := rfl
  rw [h2, h]
 have e3 : (((u : Int) / 9223372036854775808) == 1) = (u / 9223372036854775808 == 1) := by
  rw [Bool.eq_iff_iff, beq_iff_eq, beq_iff_eq]
  omega
 obtain ⟨E0, hE0⟩ : ∃ E0, E0 = u / 4503599627370496 % 2048 := ⟨_, rfl⟩
 obtain ⟨m0, hm0⟩ : ∃ m0, m0 = u % 4503599627370496 := ⟨_, rfl⟩
 have hEb : E0 < 2048 := by omega
 have hmb : m0 < 4503599627370496 := by omega
 rw [← hE0] at e1
 rw [← hm0] at e2
 by_cases h1 : E0 = 2047
 ·have hf : fnum u = none := by unfold fnum; rw [← hE0, if_pos h1]
  have hfo : fo u = false := by unfold fo; rw [hf]; rfl
  rw [hfo]
  refine ⟨false, [], 0, EvS.of (G := fun _ => some (false, [], 0, false)) (fun k => ?_) (EvS.pure _), fun x hx => by simp at hx, fun i hi => by simp at hi, by simp, rfl, .inl rfl, by omega, by omega⟩
  unfold zah.f
  rw [e1, if_pos (by omega)]
 ·by_cases h0 : E0 = 0
  ·have hf : fnum u = some (u / 9223372036854775808 == 1, m0, -1074) := by unfold fnum; rw [← hE0, if_neg h1, if_pos h0, ← hm0]
   obtain ⟨f1, f2, f3, f4⟩ := of_fnum hf
   rw [f1, f2, f3, f4]
   by_cases hz : m0 = 0
   ·refine ⟨false, [], 0, EvS.of (G := fun _ => some (false, [], 0, true)) (fun k => ?_) (EvS.pure _), fun x hx => by simp at hx, fun i hi => by simp at hi, by simp, by simp [nv, hz], .inl rfl, by omega, by omega⟩
    unfold zah.f
    rw [e1, e2, if_neg (by omega), if_neg (by omega), if_pos (by omega)]
   ·obtain ⟨t, ht, r0, r1, r2, r3⟩ := two (m0 : Int) (by omega) (by omega)
    refine ⟨u / 9223372036854775808 == 1, t, -1074, EvS.of (fun k => ?_) (EvS.bind (G := fun _ t => some (u / 9223372036854775808 == 1, t, -1074, true)) ht (EvS.pure _)), r1, r2, r3, by rw [r0]; rfl, .inr ⟨rfl, rfl⟩, by omega, by omega⟩
    unfold zah.f
    rw [e1, e2, e3, if_neg (by omega), if_neg (by omega), if_neg (by omega)]
    rfl
  ·have hf : fnum u = some (u / 9223372036854775808 == 1, m0 + 4503599627370496, ((E0 : Nat) : Int) - 1075) := by unfold fnum; rw [← hE0, if_neg h1, if_neg h0, ← hm0]
   obtain ⟨f1, f2, f3, f4⟩ := of_fnum hf
   rw [f1, f2, f3, f4]
   obtain ⟨t, ht, r0, r1, r2, r3⟩ := two ((m0 + 4503599627370496 : Nat) : Int) (by omega) (by omega)
   refine ⟨u / 9223372036854775808 == 1, t, ((E0 : Nat) : Int) - 1075, EvS.of (fun k => ?_) (EvS.bind (G := fun _ t => some (u / 9223372036854775808 == 1, t, ((E0 : Nat) : Int) - 1075, true)) ht (EvS.pure _)), r1, r2, r3, by rw [r0]; rfl, .inr ⟨rfl, rfl⟩, by omega, by omega⟩
   unfold zah.f
   rw [e1, e2, or52 m0 hmb, e3, if_neg (by omega), if_pos (by omega), if_neg (by omega), w64 _ (by omega) (by omega)]
end Go.Proofs.Ytlidbaejhmamjaa.NW
namespace Go.Proofs.Ytlidbaejhmamjaa.NW
open Go.RowKit YtlidbaejhmamjaaW.PrintWords YtlidbaejhmamjaaW.PrintLast YtlidbaejhmamjaaW.PrintMore PB LA AC LW
/-- A number's value in parts of 2^-4000. -/
def NV (nb : Bool) (l : List Int) (e : Int) : Int := sv nb (nv l) * 2 ^ (e + 4000).toNat
def Eb (e : Int) : Prop := -3000 ≤ e ∧ e ≤ 3000
theorem NV_nil (nb : Bool) (e : Int) : NV nb [] e = 0 := by unfold NV; rw [show nv [] = 0 from rfl, zbd, Int.zero_mul]
theorem absI_sv (nb : Bool) (v : Int) (h : 0 ≤ v) : zaX (sv nb v) = v := by
 cases nb
 ·show zaX v = v; unfold zaX; rw [if_neg (by omega)]
 ·show zaX (-v) = v; unfold zaX; split <;> omega
theorem absI_mul (x p : Int) (hp : 0 < p) : zaX (x * p) = zaX x * p := by
 unfold zaX
 by_cases h : x < 0
 ·rw [if_pos h, if_pos (Int.mul_neg_of_neg_of_pos h hp), Int.neg_mul]
 ·rw [if_neg h, if_neg (by have := Int.mul_nonneg (show 0 ≤ x by omega) (Int.le_of_lt hp); omega)]
/-- A value that is not great has few words. -/
theorem len_of {nb : Bool} {l : List Int} {e : Int} (hu : U32 l) (ht : Tr l) (he : Eb e) (K : Nat) (h : zaX (NV nb l e) < 2 ^ (K + 1000)) : l.length ≤ K / 32 + 1 := by
 apply Classical.byContradiction
 intro hc
 have h1 := tr_pos hu ht (by omega)
 have h2 := (nv_bound l hu).1
 unfold NV at h
 rw [absI_mul _ _ (zab _), absI_sv _ _ h2] at h
 have h3 : (2 : Int) ^ 1000 ≤ 2 ^ (e + 4000).toNat := za4 (by have := he.1; omega)
 have h4 : nv l * 2 ^ 1000 ≤ nv l * 2 ^ (e + 4000).toNat := Int.mul_le_mul_of_nonneg_left h3 h2
 have h5 : (2 : Int) ^ K ≤ B (l.length - 1) := by unfold B; exact za4 (by omega)
 have h6 : (2 : Int) ^ K * 2 ^ 1000 ≤ nv l * 2 ^ 1000 := Int.mul_le_mul_of_nonneg_right (Int.le_trans h5 h1) (Int.le_of_lt (zab _))
 rw [← zaE] at h6
 omega
theorem lvE_le (l1 : List Int) (e1 : Int) (l2 : List Int) (e2 : Int) : (l1.length = 0 ∨ lvE l1 e1 l2 e2 ≤ e1) ∧ (l2.length = 0 ∨ lvE l1 e1 l2 e2 ≤ e2) ∧ (lvE l1 e1 l2 e2 = e1 ∨ lvE l1 e1 l2 e2 = e2) := by
 unfold lvE
 by_cases h1 : l1.length = 0
 ·rw [if_pos h1]; exact ⟨.inl h1, .inr (Int.le_refl _), .inr rfl⟩
 ·rw [if_neg h1]
  by_cases h2 : l2.length = 0
  ·rw [if_pos h2]; exact ⟨.inr (Int.le_refl _), .inl h2, .inl rfl⟩
  ·rw [if_neg h2]
   by_cases h3 : e2 < e1
   ·rw [if_pos h3]; exact ⟨.inr (by omega), .inr (Int.le_refl _), .inr rfl⟩
   ·rw [if_neg h3]; exact ⟨.inr (Int.le_refl _), .inr (by omega), .inl rfl⟩
theorem to_unit (nb : Bool) (l : List Int) (e E : Int) (hE : -3000 ≤ E) (h : l.length = 0 ∨ E ≤ e) : sv nb (nv l) * 2 ^ (e - E).toNat * 2 ^ (E + 4000).toNat = NV nb l e := by
 rcases h with h | h
 ·rw [List.length_eq_zero_iff.1 h, NV_nil, show nv [] = 0 from rfl, zbd, Int.zero_mul, Int.zero_mul]
 ·unfold NV
  rw [Int.mul_assoc, ← zaE, show (e - E).toNat + (E + 4000).toNat = (e + 4000).toNat by omega]
theorem plus_v (n1 n2 : Bool) (A1 : Option Addr) (c1 : Nat) (l1 : List Int) (e1 : Int) (A2 : Option Addr) (c2 : Nat) (l2 : List Int) (e2 : Int) (w : World) (r1 : Ru w A1 c1 l1 200) (r2 : Ru w A2 c2 l2 200) (h1 : Eb e1) (h2 : Eb e2) (hb : zaX (NV n1 l1 e1 + NV n2 l2 e2) < 2 ^ 6400) :
  Calls Try.prog 80 #[.agg #[.bool n1, .slice A1 l1.length c1, .int .i64 e1], .agg #[.bool n2, .slice A2 l2.length c2, .int .i64 e2]] w fun o w' => ∃ nb A c l e, o = .returned (.agg #[.bool nb, .slice A (l : List Int).length c, .int .i64 e]) ∧ Ru w' A c l 200 ∧ Eb e ∧ NV nb l e = NV n1 l1 e1 + NV n2 l2 e2 ∧ Below w.heap.size w w' := by
 refine (plus_calls n1 n2 A1 c1 l1 e1 A2 c2 l2 e2 200 w r1 r2 (by decide) ⟨⟨by have := h1.1; omega, by have := h1.2; omega⟩, by have := h2.1; omega, by have := h2.2; omega⟩).mono ?_
 rintro o w' ⟨nb, A, c, l, e, rfl, hr, hv, he, hbl⟩
 obtain ⟨q1, q2, q3⟩ := lvE_le l1 e1 l2 e2
 have hE : -3000 ≤ lvE l1 e1 l2 e2 ∧ lvE l1 e1 l2 e2 ≤ 3000 := by
  have := h1.1; have := h1.2; have := h2.1; have := h2.2
  rcases q3 with q | q <;> omega
 have heb : Eb e := by
  rcases he with he | he
  ·rw [he.2]; exact ⟨by decide, by decide⟩
  ·rw [he]; exact hE
 have hval : NV nb l e = NV n1 l1 e1 + NV n2 l2 e2 := by
  have t1 := to_unit n1 l1 e1 _ hE.1 q1
  have t2 := to_unit n2 l2 e2 _ hE.1 q2
  have t3 : sv nb (nv l) * 2 ^ (lvE l1 e1 l2 e2 + 4000).toNat = NV n1 l1 e1 + NV n2 l2 e2 := by rw [hv, Int.add_mul, t1, t2]
  rcases he with he | he
  ·rw [← t3, List.length_eq_zero_iff.1 he.1, NV_nil, show nv [] = 0 from rfl, zbd, Int.zero_mul]
  ·rw [← t3, he]; rfl
 refine ⟨nb, A, c, l, e, rfl, ⟨hr.row, hr.cap, hr.u, hr.t, ?_⟩, heb, hval, hbl⟩
 have := len_of hr.u hr.t heb 5400 (by rw [hval]; exact hb)
 omega
theorem cmp_v (n1 n2 : Bool) (A1 : Option Addr) (c1 : Nat) (l1 : List Int) (e1 : Int) (A2 : Option Addr) (c2 : Nat) (l2 : List Int) (e2 : Int) (w : World) (r1 : Ru w A1 c1 l1 200) (r2 : Ru w A2 c2 l2 200) (h1 : Eb e1) (h2 : Eb e2) :
  Calls Try.prog 48 #[.agg #[.bool n1, .slice A1 l1.length c1, .int .i64 e1], .agg #[.bool n2, .slice A2 l2.length c2, .int .i64 e2]] w fun o w' => o = .returned (.int .i64 (sgnI (NV n1 l1 e1 - NV n2 l2 e2))) ∧ Below w.heap.size w w' := by
 refine (rcmp_calls n1 n2 A1 c1 l1 e1 A2 c2 l2 e2 200 w r1 r2 (by decide) ⟨⟨by have := h1.1; omega, by have := h1.2; omega⟩, by have := h2.1; omega, by have := h2.2; omega⟩).mono ?_
 rintro o w' ⟨rfl, hbl⟩
 obtain ⟨q1, q2, q3⟩ := lvE_le l1 e1 l2 e2
 have hE : -3000 ≤ lvE l1 e1 l2 e2 := by
  have := h1.1; have := h2.1
  rcases q3 with q | q <;> omega
 refine ⟨?_, hbl⟩
 rw [← to_unit n1 l1 e1 _ hE q1, ← to_unit n2 l2 e2 _ hE q2, ← Int.sub_mul]
 congr 2
 generalize sv n1 (nv l1) * 2 ^ (e1 - lvE l1 e1 l2 e2).toNat - sv n2 (nv l2) * 2 ^ (e2 - lvE l1 e1 l2 e2).toNat = V
 have hp := zab (lvE l1 e1 l2 e2 + 4000).toNat
 generalize (2 : Int) ^ (lvE l1 e1 l2 e2 + 4000).toNat = P at *
 rcases Int.lt_trichotomy V 0 with h | h | h
 ·rw [sgnI_neg h, sgnI_neg (Int.mul_neg_of_neg_of_pos h hp)]
 ·rw [h, Int.zero_mul]
 ·rw [sgnI_pos h, sgnI_pos (Int.mul_pos h hp)]
/-- A product: its value is the product's, in the same parts. -/
theorem times_v (n1 n2 : Bool) (A1 : Option Addr) (c1 : Nat) (l1 : List Int) (e1 : Int) (A2 : Option Addr) (c2 : Nat) (l2 : List Int) (e2 : Int) (w : World) (r1 : Ru w A1 c1 l1 90) (r2 : Ru w A2 c2 l2 90) (h1 : -1400 ≤ e1 ∧ e1 ≤ 1400) (h2 : -1400 ≤ e2 ∧ e2 ≤ 1400) :
  Calls Try.prog 95 #[.agg #[.bool n1, .slice A1 l1.length c1, .int .i64 e1], .agg #[.bool n2, .slice A2 l2.length c2, .int .i64 e2]] w fun o w' => ∃ nb A c l e, o = .returned (.agg #[.bool nb, .slice A (l : List Int).length c, .int .i64 e]) ∧ Ru w' A c l 200 ∧ Eb e ∧ NV nb l e = sv n1 (nv l1) * sv n2 (nv l2) * 2 ^ (e1 + e2 + 4000).toNat ∧ Below w.heap.size w w' := by
 by_cases z1 : l1.length = 0
 ·refine (z7.calls 0 n1 A1 c1 l1 e1 n2 A2 c2 l2 e2 false [] 0 w r1.row r1.cap r2.row r2.cap (by unfold z7.f; rw [if_pos (by omega)])).mono ?_
  rintro o w' ⟨v, rfl, hr, hb⟩
  obtain ⟨A, c, rfl, hr2⟩ := Ru.of_R (N := 200) hr (fun x hx => by simp at hx) (fun i hi => by simp at hi) (by simp)
  exact ⟨false, A, c, [], 0, rfl, hr2, ⟨by decide, by decide⟩, by rw [NV_nil, List.length_eq_zero_iff.1 z1, show nv [] = 0 from rfl, zbd, Int.zero_mul, Int.zero_mul], hb⟩
 ·by_cases z2 : l2.length = 0
  ·refine (z7.calls 0 n1 A1 c1 l1 e1 n2 A2 c2 l2 e2 false [] 0 w r1.row r1.cap r2.row r2.cap (by unfold z7.f; rw [if_neg (by omega), if_pos (by omega)])).mono ?_
   rintro o w' ⟨v, rfl, hr, hb⟩
   obtain ⟨A, c, rfl, hr2⟩ := Ru.of_R (N := 200) hr (fun x hx => by simp at hx) (fun i hi => by simp at hi) (by simp)
   exact ⟨false, A, c, [], 0, rfl, hr2, ⟨by decide, by decide⟩, by rw [NV_nil, List.length_eq_zero_iff.1 z2, show nv [] = 0 from rfl, zbd, Int.mul_zero, Int.zero_mul], hb⟩
  ·obtain ⟨t, ht, tv, tu, tt, tn⟩ := times_ev l1 l2 r1.u r2.u (by have := r1.n; omega) (by have := r2.n; omega)
   obtain ⟨k, hk⟩ := ht.get
   refine (z7.calls k n1 A1 c1 l1 e1 n2 A2 c2 l2 e2 (n1 != n2) t (wrap64 (e1 + e2)) w r1.row r1.cap r2.row r2.cap (by unfold z7.f; rw [if_neg (by omega), if_neg (by omega), hk]; rfl)).mono ?_
   rintro o w' ⟨v, rfl, hr, hb⟩
   obtain ⟨A, c, rfl, hr2⟩ := Ru.of_R (N := 200) hr tu tt (by have := r1.n; have := r2.n; omega)
   have hw : wrap64 (e1 + e2) = e1 + e2 := w64 _ (by omega) (by omega)
   refine ⟨n1 != n2, A, c, t, wrap64 (e1 + e2), rfl, hr2, ?_, ?_, hb⟩
   ·rw [hw]; exact ⟨by omega, by omega⟩
   ·unfold NV
    rw [hw, tv]
    congr 1
    cases n1 <;> cases n2 <;> simp [sv, Int.neg_mul, Int.mul_neg]
end Go.Proofs.Ytlidbaejhmamjaa.NW
namespace Go.Proofs.Ytlidbaejhmamjaa.TC
open Go.RowKit YtlidbaejhmamjaaW.PrintWords YtlidbaejhmamjaaW.PrintLast YtlidbaejhmamjaaW.PrintMore PB LA AC LW SL NW
/-- x is what u is. -/
def OfV (u : Nat) (x : S101) : Prop := U32 x.f1 ∧ Tr x.f1 ∧ x.f1.length ≤ 2 ∧ nv x.f1 = (fm u : Int) ∧ (x.f1.length = 0 ∨ (x.f0 = fs u ∧ x.f2 = fe u)) ∧ -1074 ≤ x.f2 ∧ x.f2 ≤ 971
def Nums (us : List Nat) (xs : List S101) : Prop := xs.length = us.length ∧ ∀ i, i < us.length → OfV (rdn us i) (zas xs (i : Int))
theorem ku_rd (us : List Nat) (i : Nat) : rd (ku us) (i : Int) = ((rdn us i : Nat) : Int) := by
 unfold rd ku rdn
 rw [Int.toNat_natCast, List.getD_eq_getElem?_getD, List.getD_eq_getElem?_getD, List.getElem?_map]
 cases us[i]? <;> rfl
theorem rdT_app (xs : List S101) (x : S101) (i : Nat) (h : i < xs.length) : zas (xs ++ [x]) (i : Int) = zas xs (i : Int) := by
 unfold zas
 rw [Int.toNat_natCast, List.getD_eq_getElem?_getD, List.getD_eq_getElem?_getD, List.getElem?_append_left h]
theorem rdT_last (xs : List S101) (x : S101) : zas (xs ++ [x]) ((xs.length : Nat) : Int) = x := by
 unfold zas
 rw [Int.toNat_natCast, List.getD_eq_getElem?_getD, List.getElem?_append_right (Nat.le_refl _), Nat.sub_self]
 rfl
theorem of_bad (u : Nat) (hu : u < 18446744073709551616) (h : fo u = false) : ∃ (nb : Bool) (t : List Int) (e : Int), EvS (fun k => zah.f k (u : Int)) (nb, t, e, false) := by
 obtain ⟨nb, t, e, he, _⟩ := of_ev u hu
 rw [h] at he
 exact ⟨nb, t, e, he⟩
theorem of_good (u : Nat) (hu : u < 18446744073709551616) (h : fo u = true) : ∃ x : S101, EvS (fun k => zah.f k (u : Int)) (x.f0, x.f1, x.f2, true) ∧ OfV u x := by
 obtain ⟨nb, t, e, he, h1, h2, h3, h4, h5, h6, h7⟩ := of_ev u hu
 rw [h] at he
 rw [if_pos h] at h4
 exact ⟨⟨nb, t, e⟩, he, h1, h2, h3, h4, h5, h6, h7⟩
theorem nums_snoc {us : List Nat} {i : Nat} {xs : List S101} {x : S101} (hl : xs.length = i) (h : ∀ j, j < i → OfV (rdn us j) (zas xs (j : Int))) (hx : OfV (rdn us i) x) : ∀ j, j < i + 1 → OfV (rdn us j) (zas (xs ++ [x]) (j : Int)) := by
 intro j hj
 by_cases e : j = i
 ·subst e
  have := rdT_last xs x
  rw [hl] at this
  rw [this]
  exact hx
 ·rw [rdT_app xs x j (by omega)]
  exact h j (by omega)
theorem exact_ev (us : List Nat) (hw : Wf us) (hn : us.length ≤ 2000000) : ∃ xs, EvS (fun k => zN.f k (ku us)) (xs, us.all fo) ∧ (us.all fo = true → Nums us xs) := by
 have loop : ∀ (m i : Nat) (xs : List S101), us.length = i + m → xs.length = i → (us.take i).all fo = true → (∀ j, j < i → OfV (rdn us j) (zas xs (j : Int))) →
   ∃ ys, EvS (fun k => zN.l0 k (ku us) xs (i : Int)) (ys, us.all fo) ∧ (us.all fo = true → Nums us ys) := by
  intro m
  induction m with
  | zero =>
   intro i xs e hl ha h
   have ha2 : us.all fo = true := by rwa [List.take_of_length_le (show us.length ≤ i by omega)] at ha
   refine ⟨xs, EvS.done (fun k => ?_), fun _ => ⟨by omega, fun j hj => h j (by omega)⟩⟩
   simp only [zN.l0]
   rw [if_neg (by rw [zaB]; omega), ha2]
  | succ m ih =>
   intro i xs e hl ha h
   have hi : i < us.length := by omega
   cases hf : fo (rdn us i) with
   | false =>
    obtain ⟨nb, t, ex, he⟩ := of_bad _ (wf_rdn hw i) hf
    have ha2 : us.all fo = false := all_not hi hf
    refine ⟨[], EvS.succ (G := fun k => (zah.f k ((rdn us i : Nat) : Int)).bind fun q => if q.2.2.2 = true then (if xs.length < 3518437208883 then zN.l0 k (ku us) (xs ++ [⟨q.1, q.2.1, q.2.2.1⟩]) (wrap64 ((i : Int) + 1)) else none) else some ([], false)) (fun k => ?_) ?_, fun hc => by rw [ha2] at hc; cases hc⟩
    ·simp only [zN.l0]
     rw [if_pos (by rw [zaB]; omega), if_pos (by omega), ku_rd]
    ·rw [ha2]
     refine EvS.bind he ?_
     exact EvS.of (G := fun _ => some ([], false)) (fun k => by simp) (EvS.pure _)
   | true =>
    obtain ⟨x, he, hx⟩ := of_good _ (wf_rdn hw i) hf
    obtain ⟨ys, h1, h2⟩ := ih (i + 1) (xs ++ [x]) (by omega) (by rw [List.length_append, hl]; rfl) (all_step ha hi hf) (nums_snoc hl h hx)
    refine ⟨ys, EvS.succ (G := fun k => (zah.f k ((rdn us i : Nat) : Int)).bind fun q => if q.2.2.2 = true then (if xs.length < 3518437208883 then zN.l0 k (ku us) (xs ++ [⟨q.1, q.2.1, q.2.2.1⟩]) (wrap64 ((i : Int) + 1)) else none) else some ([], false)) (fun k => ?_) ?_, h2⟩
    ·simp only [zN.l0]
     rw [if_pos (by rw [zaB]; omega), if_pos (by omega), ku_rd]
    ·refine EvS.bind he ?_
     refine EvS.of (G := fun k => zN.l0 k (ku us) (xs ++ [x]) ((i + 1 : Nat) : Int)) (fun k => ?_) h1
     simp only [if_true]
     rw [if_pos (by omega), w64 _ (by omega) (by omega)]
     rfl
 obtain ⟨ys, h1, h2⟩ := loop us.length 0 [] (by omega) rfl rfl (fun j hj => by omega)
 exact ⟨ys, h1, h2⟩
theorem numbers_ev (us : List Nat) (n : Int) (hw : Wf us) (hn : us.length ≤ 2000000) : ∃ xs, EvS (fun k => zC.f k (ku us) n) (xs, rowB us n) ∧ (rowB us n = true → Nums us xs) := by
 by_cases hl : (us.length : Int) = n
 ·have hrow : rowB us n = us.all fo := by unfold rowB; rw [decide_eq_true hl, Bool.and_true]
  rw [hrow]
  have loop : ∀ (m i : Nat) (xs : List S101), us.length = i + m → xs.length = i → (us.take i).all fo = true → (∀ j, j < i → OfV (rdn us j) (zas xs (j : Int))) →
    ∃ ys, EvS (fun k => zC.l0 k (ku us) n xs (i : Int)) (ys, us.all fo) ∧ (us.all fo = true → Nums us ys) := by
   intro m
   induction m with
   | zero =>
    intro i xs e hl2 ha h
    have ha2 : us.all fo = true := by rwa [List.take_of_length_le (show us.length ≤ i by omega)] at ha
    refine ⟨xs, EvS.done (fun k => ?_), fun _ => ⟨by omega, fun j hj => h j (by omega)⟩⟩
    simp only [zC.l0]
    rw [if_neg (by omega), ha2]
   | succ m ih =>
    intro i xs e hl2 ha h
    have hi : i < us.length := by omega
    cases hf : fo (rdn us i) with
    | false =>
     obtain ⟨nb, t, ex, he⟩ := of_bad _ (wf_rdn hw i) hf
     have ha2 : us.all fo = false := all_not hi hf
     refine ⟨[], EvS.succ (G := fun k => (zah.f k ((rdn us i : Nat) : Int)).bind fun q => if q.2.2.2 = true then (if xs.length < 3518437208883 then zC.l0 k (ku us) n (xs ++ [⟨q.1, q.2.1, q.2.2.1⟩]) (wrap64 ((i : Int) + 1)) else none) else some ([], false)) (fun k => ?_) ?_, fun hc => by rw [ha2] at hc; cases hc⟩
     ·simp only [zC.l0]
      rw [if_pos (by omega), if_pos (by omega), if_pos (by rw [zaB]; omega), ku_rd]
     ·rw [ha2]
      refine EvS.bind he ?_
      exact EvS.of (G := fun _ => some ([], false)) (fun k => by simp) (EvS.pure _)
    | true =>
     obtain ⟨x, he, hx⟩ := of_good _ (wf_rdn hw i) hf
     obtain ⟨ys, h1, h2⟩ := ih (i + 1) (xs ++ [x]) (by omega) (by rw [List.length_append, hl2]; rfl) (all_step ha hi hf) (nums_snoc hl2 h hx)
     refine ⟨ys, EvS.succ (G := fun k => (zah.f k ((rdn us i : Nat) : Int)).bind fun q => if q.2.2.2 = true then (if xs.length < 3518437208883 then zC.l0 k (ku us) n (xs ++ [⟨q.1, q.2.1, q.2.2.1⟩]) (wrap64 ((i : Int) + 1)) else none) else some ([], false)) (fun k => ?_) ?_, h2⟩
     ·simp only [zC.l0]
      rw [if_pos (by omega), if_pos (by omega), if_pos (by rw [zaB]; omega), ku_rd]
     ·refine EvS.bind he ?_
      refine EvS.of (G := fun k => zC.l0 k (ku us) n (xs ++ [x]) ((i + 1 : Nat) : Int)) (fun k => ?_) h1
      simp only [if_true]
      rw [if_pos (by omega), w64 _ (by omega) (by omega)]
      rfl
  obtain ⟨ys, h1, h2⟩ := loop us.length 0 [] (by omega) rfl rfl (fun j hj => by omega)
  refine ⟨ys, EvS.of (fun k => ?_) h1, h2⟩
  show zC.f k (ku us) n = _
  unfold zC.f
  rw [if_pos (by rw [zaB]; exact hl)]
  rfl
 ·have hrow : rowB us n = false := by unfold rowB; rw [decide_eq_false hl, Bool.and_false]
  rw [hrow]
  refine ⟨[], EvS.of (G := fun _ => some ([], false)) (fun k => ?_) (EvS.pure _), fun h => by cases h⟩
  unfold zC.f
  rw [if_neg (by rw [zaB]; exact hl)]
theorem exact_calls (us : List Nat) (A : Option Addr) (c : Nat) (w : World) (hr : Kd.C (Kd.int .u64) w A (ku us).length (ku us)) (hc : (ku us).length ≤ c) (hw : Wf us) (hn : us.length ≤ 2000000) :
  Calls Try.prog 76 #[.slice A (ku us).length c] w fun e w' => ∃ B d xs, e = .returned (.tuple #[.slice B (xs : List S101).length d, .bool (us.all fo)]) ∧ Kd.S k101 101 w' w.heap.size (fun _ => True) (.slice B xs.length d) xs ∧ (us.all fo = true → Nums us xs) ∧ Below w.heap.size w w' := by
 obtain ⟨xs, he, hx⟩ := exact_ev us hw hn
 obtain ⟨k, hk⟩ := he.get
 refine (zN.calls k A c (ku us) xs (us.all fo) w hr hc hk).mono ?_
 rintro e w' ⟨v, rfl, hs, hb⟩
 obtain ⟨B, d, rfl⟩ := Kd.S_slice hs
 exact ⟨B, d, xs, rfl, hs, hx, hb⟩
theorem numbers_calls (us : List Nat) (n : Int) (A : Option Addr) (c : Nat) (w : World) (hr : Kd.C (Kd.int .u64) w A (ku us).length (ku us)) (hc : (ku us).length ≤ c) (hw : Wf us) (hn : us.length ≤ 2000000) :
  Calls Try.prog 94 #[.slice A (ku us).length c, .int .i64 n] w fun e w' => ∃ B d xs, e = .returned (.tuple #[.slice B (xs : List S101).length d, .bool (rowB us n)]) ∧ Kd.S k101 101 w' w.heap.size (fun _ => True) (.slice B xs.length d) xs ∧ (rowB us n = true → Nums us xs) ∧ Below w.heap.size w w' := by
 obtain ⟨xs, he, hx⟩ := numbers_ev us n hw hn
 obtain ⟨k, hk⟩ := he.get
 refine (zC.calls k A c (ku us) n xs (rowB us n) w hr hc hk).mono ?_
 rintro e w' ⟨v, rfl, hs, hb⟩
 obtain ⟨B, d, rfl⟩ := Kd.S_slice hs
 exact ⟨B, d, xs, rfl, hs, hx, hb⟩
end Go.Proofs.Ytlidbaejhmamjaa.TC
