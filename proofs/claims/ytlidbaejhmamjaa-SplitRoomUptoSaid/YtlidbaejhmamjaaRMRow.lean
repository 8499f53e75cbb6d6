/- The statement SplitRoomUpto of package ambitlaw18 holds at every argument that its domain allows; no further condition. -/
import Derived.Test.YtlidbaejhmamjaaRows
import Derived.Test.YtlidbaejhmamjaaRM6
import Derived.WalkKit
import Derived.ProofKit
import Derived.OpenShut
import Derived.ShutString
import Derived.ChangeOld
import Derived.Below
import Derived.JoinedCond
namespace Go.Proofs.Ytlidbaejhmamjaa.splitRoom
open Go.ChangeShapes Go.WideShapes Go.ChangeAt Go.RowKit
open Go.ChangeMaps (open_string shut_string)
set_option linter.unusedVariables false
theorem own : ownKnob Try.prog.godebug = none := by kernel_rfl
theorem laidOut : laidOutB Try.prog = true := by kernel_rfl
set_option maxRecDepth 100000 in
set_option maxHeartbeats 4000000 in
theorem lifted (os : Os) (started : os.Started) (H : Type) (enc : TypeId × Value → H) (F : Stop.Interp) :
    ReturnsInHanded {} Try.checked os 10 .any ((Rows.OpenSpec.upto Rows.splitRoomSpec).pre6 enc Try.prog Try.f10 Rows.splitRoomUptoRow.domain false) (((Rows.OpenSpec.upto Rows.splitRoomSpec).at F).post enc Try.prog Try.f10 false true false false) := by
  refine returnsInHanded_of_cond (C := Try.checked) (s := Rows.OpenSpec.upto Rows.splitRoomSpec) (k := Rows.uptoSmall) rfl own started (by kernel_rfl) Try.func10
    (OpenSpec.witness (enc := enc) (C := Try.checked) (s := Rows.OpenSpec.upto Rows.splitRoomSpec) (k := Rows.uptoSmall) rfl false ⟨#[], #[.agg #[.int .i64 0, .slice none 0 0, .slice none 0 0, .slice none 0 0, .slice none 0 0, .bool false], .slice none 0 0, .agg #[.slice none 0 0, .slice none 0 0, .int .i64 0, .slice none 0 0, .int .i64 0, .int .i64 0, .int .i64 0], .agg #[.slice none 0 0, .slice none 0 0], .int .i64 0, .int .i64 0, .slice none 0 0, .slice none 0 0, .int .i64 0], []⟩ 8 (by kernel_rfl) (by kernel_rfl) (by kernel_rfl) (x := ([.agg [.lit (.int .i64 0), .nil, .nil, .nil, .nil, .lit (.bool false)], .nil, .agg [.nil, .nil, .lit (.int .i64 0), .nil, .lit (.int .i64 0), .lit (.int .i64 0), .lit (.int .i64 0)], .agg [.nil, .nil], .lit (.int .i64 0), .lit (.int .i64 0), .nil, .nil, .lit (.int .i64 0)], [], [])) (by kernel_rfl) rfl (by kernel_rfl)) ?_
  intro W base args ds gs before hval0 hW _ hk _
  have hval : ∀ (j : Nat) t v, Try.f10.params[j]? = some t → args[j]? = some v → Value.okWide Try.prog W .any base t v := hval0
  have hW' := hW
  obtain ⟨p, q, hA0, hV, rfl, hfz, hnd⟩ := hW
  have hA : DataW.TrodAll enc Try.prog W 0 (fun _ => true) true Try.f10.params.toList args.toList ds p := hA0
  rw [Try.params10] at hA hval
  obtain ⟨v0, vs0, d0, ds0, p0, q0, hargs, rfl, rfl, h0, r0⟩ := trodAll_cons hA
  obtain ⟨v1, vs1, d1, ds1, p1, q1, rfl, rfl, rfl, h1, r1⟩ := trodAll_cons r0
  obtain ⟨v2, vs2, d2, ds2, p2, q2, rfl, rfl, rfl, h2, r2⟩ := trodAll_cons r1
  obtain ⟨v3, vs3, d3, ds3, p3, q3, rfl, rfl, rfl, h3, r3⟩ := trodAll_cons r2
  obtain ⟨v4, vs4, d4, ds4, p4, q4, rfl, rfl, rfl, h4, r4⟩ := trodAll_cons r3
  obtain ⟨v5, vs5, d5, ds5, p5, q5, rfl, rfl, rfl, h5, r5⟩ := trodAll_cons r4
  obtain ⟨v6, vs6, d6, ds6, p6, q6, rfl, rfl, rfl, h6, r6⟩ := trodAll_cons r5
  obtain ⟨v7, vs7, d7, ds7, p7, q7, rfl, rfl, rfl, h7, r7⟩ := trodAll_cons r6
  obtain ⟨v8, vs8, d8, ds8, p8, q8, rfl, rfl, rfl, h8, r8⟩ := trodAll_cons r7
  obtain ⟨rfl, rfl, rfl⟩ := trodAll_nil r8
  obtain rfl : args = #[v0, v1, v2, v3, v4, v5, v6, v7, v8] := by cases args; simp_all
  obtain ⟨rfl, rfl⟩ := trodVars_none hV
  have k0 := h0
  have lt0 : ∀ x ∈ p0, x.block < W.heap.size := by obtain ⟨m, hm⟩ := k0; exact DataW.trod_lt m _ _ _ hm
  obtain ⟨u0_0, u0_1, u0_2, u0_3, u0_4, u0_5, y0_0, y0_1, y0_2, y0_3, y0_4, y0_5, n0, rfl, rfl, t0_0, t0_1, t0_2, t0_3, t0_4, t0_5⟩ := TC.open_agg6 Try.underlying63 (by kernel_rfl) (by kernel_rfl) (hval 0 63 v0 rfl rfl) h0
  obtain ⟨a0_0, rfl⟩ := TC.int_of_trod t0_0
  obtain ⟨A0_1, c0_1, l0_1, rfl, r0_1, wf0_1, cc0_1, n0_1⟩ := TC.floats_of_trod t0_1
  obtain ⟨A0_2, c0_2, l0_2, rfl, r0_2, i0_2, n0_2⟩ := TC.ints_of_trod2 t0_2
  obtain ⟨A0_3, c0_3, l0_3, rfl, r0_3, wf0_3, cc0_3, n0_3⟩ := TC.frows_of_trod t0_3
  obtain ⟨A0_4, c0_4, l0_4, rfl, r0_4, wf0_4, cc0_4, n0_4⟩ := TC.floats_of_trod t0_4
  obtain ⟨a0_5, rfl⟩ := TC.bool_of_trod t0_5
  have k1 := h1
  have lt1 : ∀ x ∈ p1, x.block < W.heap.size := by obtain ⟨m, hm⟩ := k1; exact DataW.trod_lt m _ _ _ hm
  obtain ⟨b1, len1, cap1, rfl⟩ := okWide_slice Try.underlying60 (hval 1 60 v1 rfl rfl)
  obtain ⟨f1, t1⟩ := h1
  obtain ⟨A1, c1, l1, e1, r1_, wf1, cc1, n1⟩ := TC.floats_of_trod (show DataW.trod enc Try.prog W 0 (fun _ => true) true f1 60 [.slice b1 len1 cap1] = some (d1, p1) from by simpa [Value.cells] using t1)
  cases e1
  replace n1 : l1.length ≤ Rows.uptoBulk d1 := n1
  have k2 := h2
  have lt2 : ∀ x ∈ p2, x.block < W.heap.size := by obtain ⟨m, hm⟩ := k2; exact DataW.trod_lt m _ _ _ hm
  obtain ⟨u2_0, u2_1, u2_2, u2_3, u2_4, u2_5, u2_6, y2_0, y2_1, y2_2, y2_3, y2_4, y2_5, y2_6, n2, rfl, rfl, t2_0, t2_1, t2_2, t2_3, t2_4, t2_5, t2_6⟩ := TC.open_agg7 Try.underlying65 (by kernel_rfl) (by kernel_rfl) (hval 2 65 v2 rfl rfl) h2
  obtain ⟨A2_0, c2_0, l2_0, rfl, r2_0, wf2_0, cc2_0, n2_0⟩ := TC.floats_of_trod t2_0
  obtain ⟨A2_1, c2_1, l2_1, rfl, r2_1, wf2_1, cc2_1, n2_1⟩ := TC.frows_of_trod t2_1
  obtain ⟨a2_2, rfl⟩ := TC.int_of_trod t2_2
  obtain ⟨A2_3, c2_3, l2_3, rfl, r2_3, wf2_3, cc2_3, n2_3⟩ := TC.frows_of_trod t2_3
  obtain ⟨a2_4, rfl⟩ := TC.int_of_trod t2_4
  obtain ⟨a2_5, rfl⟩ := TC.int_of_trod t2_5
  obtain ⟨a2_6, rfl⟩ := TC.int_of_trod t2_6
  have k3 := h3
  have lt3 : ∀ x ∈ p3, x.block < W.heap.size := by obtain ⟨m, hm⟩ := k3; exact DataW.trod_lt m _ _ _ hm
  obtain ⟨u3, x3, y3, z3, f3, rfl, rfl, rfl, t3, s3⟩ := Go.Joins.open_agg2 Try.underlying24 (by kernel_rfl) (by kernel_rfl) (hval 3 24 v3 rfl rfl) h3
  obtain ⟨A3_0, c3_0, l3_0, rfl, r3_0, i3_0, n3_0⟩ := TC.ints_of_trod2 t3
  obtain ⟨A3_1, c3_1, l3_1, rfl, r3_1, i3_1, n3_1⟩ := TC.ints_of_trod2 s3
  obtain ⟨a4, rfl, rfl, rfl, w4⟩ := open_int Try.underlying3 (hval 4 3 v4 rfl rfl) h4
  obtain ⟨a5, rfl, rfl, rfl, w5⟩ := open_int Try.underlying3 (hval 5 3 v5 rfl rfl) h5
  have k6 := h6
  have lt6 : ∀ x ∈ p6, x.block < W.heap.size := by obtain ⟨m, hm⟩ := k6; exact DataW.trod_lt m _ _ _ hm
  obtain ⟨b6, len6, cap6, rfl⟩ := okWide_slice Try.underlying22 (hval 6 22 v6 rfl rfl)
  obtain ⟨f6, t6⟩ := h6
  obtain ⟨A6, c6, l6, e6, r6_, i6, n6⟩ := TC.ints_of_trod2 (show DataW.trod enc Try.prog W 0 (fun _ => true) true f6 22 [.slice b6 len6 cap6] = some (d6, p6) from by simpa [Value.cells] using t6)
  cases e6
  replace n6 : l6.length ≤ Rows.uptoBulk d6 := n6
  have k7 := h7
  have lt7 : ∀ x ∈ p7, x.block < W.heap.size := by obtain ⟨m, hm⟩ := k7; exact DataW.trod_lt m _ _ _ hm
  obtain ⟨b7, len7, cap7, rfl⟩ := okWide_slice Try.underlying22 (hval 7 22 v7 rfl rfl)
  obtain ⟨f7, t7⟩ := h7
  obtain ⟨A7, c7, l7, e7, r7_, i7, n7⟩ := TC.ints_of_trod2 (show DataW.trod enc Try.prog W 0 (fun _ => true) true f7 22 [.slice b7 len7 cap7] = some (d7, p7) from by simpa [Value.cells] using t7)
  cases e7
  replace n7 : l7.length ≤ Rows.uptoBulk d7 := n7
  obtain ⟨a8, rfl, rfl, rfl, w8⟩ := open_int Try.underlying3 (hval 8 3 v8 rfl rfl) h8
  have hbk := of_decide_eq_true (show decide (Rows.uptoBulkAll _ ≤ 1048576) = true from hk)
  simp only [List.append_nil, Rows.uptoBulkAll, Rows.uptoBulk] at hbk
  clear hA0 hval0 hk
  refine (RM.room_calls ⟨a0_0, l0_1, l0_2, l0_3, l0_4, a0_5⟩ ⟨A0_1, c0_1, A0_2, c0_2, A0_3, c0_3, A0_4, c0_4⟩ _ _ l1 ⟨l2_0, l2_1, a2_2, l2_3, a2_4, a2_5, a2_6⟩ ⟨A2_0, c2_0, A2_1, c2_1, A2_3, c2_3⟩ a4 a5 a8 W ⟨r0_1, r0_2, r0_3, r0_4⟩ ⟨wf0_1, fun us hu => (wf0_3 us hu).1, wf0_4⟩ ⟨fun n hn => by rcases hn with rfl | rfl | rfl | rfl <;> simp only <;> omega, (fun us hu => by have := (wf0_3 us hu).2; omega)⟩ ⟨by simp only; omega, by simp only; omega, by simp only; omega, (fun us hu => by have := (wf0_3 us hu).2; omega), by simp only; omega⟩ r1_ wf1 (by omega) ⟨r2_0, r2_1, r2_3⟩ cc2_0 ⟨fun us hu => (wf2_1 us hu).1⟩ r3_0 r3_1 r6_ r7_ i7 ⟨by omega, by omega, by omega, by omega⟩).mono fun e W' ⟨he, bel⟩ => ?_
  subst he
  exact ⟨_, rfl, _, _, _, [], _, [], hW', trodAll_mk1 (shut_bool Try.underlying4 _), (trodAll_cons_mk (Below.trod laidOut (by kernel_rfl) (of_decide_eq_true (by kernel_rfl)) k0 bel lt0) (trodAll_cons_mk (Below.trod laidOut (by kernel_rfl) (of_decide_eq_true (by kernel_rfl)) k1 bel lt1) (trodAll_cons_mk (Below.trod laidOut (by kernel_rfl) (of_decide_eq_true (by kernel_rfl)) k2 bel lt2) (trodAll_cons_mk (Below.trod laidOut (by kernel_rfl) (of_decide_eq_true (by kernel_rfl)) k3 bel lt3) (trodAll_cons_mk (shut_int Try.underlying3 w4) (trodAll_cons_mk (shut_int Try.underlying3 w5) (trodAll_cons_mk (Below.trod laidOut (by kernel_rfl) (of_decide_eq_true (by kernel_rfl)) k6 bel lt6) (trodAll_cons_mk (Below.trod laidOut (by kernel_rfl) (of_decide_eq_true (by kernel_rfl)) k7 bel lt7) (trodAll_cons_mk (shut_int Try.underlying3 w8) trodAll_mk0))))))))), rfl, bel.frame _, fun h => by cases h⟩
theorem over : Rows.splitRoomUptoRow.holds Try.pinned (Rows.OpenSpec.upto Rows.splitRoomSpec) :=
  OpenClaim.holds_of_cond 10 Try.f10 rfl rfl rfl rfl rfl rfl rfl ⟨rfl, rfl, rfl, rfl, rfl⟩ rfl rfl rfl rfl rfl (by kernel_rfl) Try.func10 (by kernel_rfl)
    (of_decide_eq_true (by kernel_rfl)) (by unfold Func.isWrapper; first | (rw [if_pos (by decide +kernel)]; kernel_rfl) | (rw [if_neg (by decide +kernel)]; exact ⟨rfl, rfl⟩))
    (fun os started H enc _ F => lifted os started H enc F)
theorem proved : Rows.SplitRoomUptoSaid := over
#print axioms proved
end Go.Proofs.Ytlidbaejhmamjaa.splitRoom
namespace Go.Proofs.Ytlidbaejhmamjaa
/-- The row, under a short name, for the claim. -/
theorem splitRoomUpto_holds : Rows.SplitRoomUptoSaid := splitRoom.proved
end Go.Proofs.Ytlidbaejhmamjaa
