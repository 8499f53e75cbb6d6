/- Part 2 of the proof of SplitRoomUpto: what the functions below it compute, each shown by a walk or by plain reasoning; no condition of its own. -/
import Derived.Test.YtlidbaejhmamjaaRM1
import Derived.Outline
import Derived.Deep.MidRow
import Derived.ChangeKeysEq
import Derived.WalkLawsBesides
set_option linter.unusedVariables false
set_option linter.unusedSimpArgs false
set_option maxHeartbeats 16000000
set_option maxRecDepth 100000
namespace Go.Proofs.Ytlidbaejhmamjaa.AC
/-- n without its lowest i words. -/
def qd (n : Int) (i : Nat) : Int := n / 2 ^ (64 * i)
/-- Word i of n, in two's complement. -/
def wd (n : Int) (i : Nat) : Int := qd n i % 18446744073709551616
def wds (n : Int) : List Int := (List.range 76).map (wd n)
theorem wd_lo (n : Int) (i : Nat) : 0 ≤ wd n i := Int.emod_nonneg _ yD_
theorem wd_hi (n : Int) (i : Nat) : wd n i < 18446744073709551616 := Int.emod_lt_of_pos _ yD_
theorem zak (n : Int) : (wds n).length = 76 := by simp [wds]
theorem wds_get (n : Int) (i : Nat) (h : i < 76) : (wds n)[i]? = some (wd n i) := by
 simp [wds, h]
theorem zY (k : Nat) : (0 : Int) < 2 ^ k := Int.pow_pos yD_
theorem qd_zero (n : Int) : qd n 0 = n := by simp [qd]
theorem qd_succ (n : Int) (i : Nat) : qd n (i + 1) = qd n i / 18446744073709551616 := by
 unfold qd; rw [Int.ediv_ediv_of_nonneg (Int.le_of_lt (zY _)), Nat.mul_add, Nat.mul_one, Int.pow_add]; rfl
theorem qd_nat (i : Nat) : qd 0 i = 0 := by simp [qd]
theorem wd_zero (i : Nat) : wd 0 i = 0 := by simp [wd, qd_nat]
/-- The carry into word i of X + Y; the borrow into word i of X - Y. -/
def cya (X Y : Int) (i : Nat) : Int := qd (X + Y) i - qd X i - qd Y i
def cys (X Y : Int) (i : Nat) : Int := qd X i - qd Y i - qd (X - Y) i
theorem cya_zero (X Y : Int) : cya X Y 0 = 0 := by simp only [cya, qd_zero]; omega
theorem cys_zero (X Y : Int) : cys X Y 0 = 0 := by simp only [cys, qd_zero]; omega
theorem cya_step (X Y : Int) (i : Nat) (h : cya X Y i = 0 ∨ cya X Y i = 1) :
  (cya X Y (i + 1) = (wd X i + wd Y i + cya X Y i) / 18446744073709551616) ∧ wd (X + Y) i = (wd X i + wd Y i + cya X Y i) % 18446744073709551616 ∧ (cya X Y (i + 1) = 0 ∨ cya X Y (i + 1) = 1) := by
 unfold cya wd at *
 simp only [qd_succ]
 omega
theorem cys_step (X Y : Int) (i : Nat) (h : cys X Y i = 0 ∨ cys X Y i = 1) :
  (cys X Y (i + 1) = if wd X i < wd Y i + cys X Y i then 1 else 0) ∧ wd (X - Y) i = (wd X i + 18446744073709551616 - wd Y i - cys X Y i) % 18446744073709551616 ∧ (cys X Y (i + 1) = 0 ∨ cys X Y (i + 1) = 1) := by
 unfold cys wd at *
 simp only [qd_succ]; refine ⟨?_, by omega, by omega⟩
 split <;> omega
theorem cya_01 (X Y : Int) : ∀ i, cya X Y i = 0 ∨ cya X Y i = 1
 | 0 => .inl (cya_zero X Y)
 | i + 1 => (cya_step X Y i (cya_01 X Y i)).2.2
theorem cys_01 (X Y : Int) : ∀ i, cys X Y i = 0 ∨ cys X Y i = 1
 | 0 => .inl (cys_zero X Y)
 | i + 1 => (cys_step X Y i (cys_01 X Y i)).2.2
/-- A number of words i0, i0 + 1, .. alone leaves the words below as they are, and brings no carry. -/
theorem qd_mul (D : Int) (i j : Nat) (h : j ≤ i) : qd (D * 2 ^ (64 * i)) j = D * 2 ^ (64 * (i - j)) := by
 unfold qd; have e : 64 * i = 64 * (i - j) + 64 * j := by omega
 rw [e, Int.pow_add, ← Int.mul_assoc, Int.mul_ediv_cancel _ (by have := zY (64 * j); omega)]
theorem qd_add_mul (X D : Int) (i j : Nat) (h : j ≤ i) : qd (X + D * 2 ^ (64 * i)) j = qd X j + D * 2 ^ (64 * (i - j)) := by
 unfold qd; have e : 64 * i = 64 * (i - j) + 64 * j := by omega
 rw [e, Int.pow_add, ← Int.mul_assoc, Int.add_mul_ediv_right _ _ (by have := zY (64 * j); omega)]
theorem pow_word (k : Nat) (h : 0 < k) : (2 : Int) ^ (64 * k) = 18446744073709551616 * 2 ^ (64 * (k - 1)) := by
 have e : 64 * k = 64 + 64 * (k - 1) := by omega
 rw [e, Int.pow_add]; rfl
theorem wd_add_below (X D : Int) (i j : Nat) (h : j < i) : wd (X + D * 2 ^ (64 * i)) j = wd X j := by
 unfold wd; rw [qd_add_mul _ _ _ _ yO_, pow_word (i - j) yO_, ← Int.mul_assoc, Int.mul_comm D, Int.mul_assoc, Int.add_mul_emod_self_left]
theorem wd_sub_below (X D : Int) (i j : Nat) (h : j < i) : wd (X - D * 2 ^ (64 * i)) j = wd X j := by
 rw [Int.sub_eq_add_neg, ← Int.neg_mul]; exact wd_add_below X (-D) i j h
theorem cya_at (X D : Int) (i : Nat) : cya X (D * 2 ^ (64 * i)) i = 0 := by
 unfold cya; rw [qd_add_mul _ _ _ _ (Nat.le_refl _), qd_mul _ _ _ (Nat.le_refl _)]; omega
theorem cys_at (X D : Int) (i : Nat) : cys X (D * 2 ^ (64 * i)) i = 0 := by
 unfold cys; rw [show X - D * 2 ^ (64 * i) = X + -D * 2 ^ (64 * i) from by rw [Int.neg_mul]; rfl, qd_add_mul _ _ _ _ (Nat.le_refl _), qd_mul _ _ _ (Nat.le_refl _), Int.neg_mul]; omega
/-- Word i + k of D's words laid from word i on. -/
theorem qd_from (D : Int) (i k : Nat) : qd (D * 2 ^ (64 * i)) (i + k) = qd D k := by
 unfold qd; rw [Nat.mul_add, Int.pow_add, Int.mul_comm (2 ^ (64 * i)), Int.mul_ediv_mul_of_pos_left _ _ (zY _)]
theorem wd_from (D : Int) (i k : Nat) : wd (D * 2 ^ (64 * i)) (i + k) = wd D k := by
 unfold wd; rw [qd_from]
theorem qd_small (D : Int) (k : Nat) (h0 : 0 ≤ D) (h1 : D < 2 ^ (64 * k)) : qd D k = 0 := Int.ediv_eq_zero_of_lt h0 h1
theorem qd_small_after (D : Int) (k j : Nat) (h0 : 0 ≤ D) (h1 : D < 2 ^ (64 * k)) (hj : k ≤ j) : qd D j = 0 := by
 refine qd_small D j h0 (Int.lt_of_lt_of_le h1 ?_); have h2 := Nat.pow_le_pow_right (n := 2) yD_ (show 64 * k ≤ 64 * j by omega)
 exact_mod_cast h2
/-- Three words. -/
theorem words3 (v0 v1 v2 : Int) (a0 : 0 ≤ v0) (b0 : v0 < 18446744073709551616) (a1 : 0 ≤ v1) (b1 : v1 < 18446744073709551616) (a2 : 0 ≤ v2) (b2 : v2 < 18446744073709551616) :
  let D := v0 + v1 * 18446744073709551616 + v2 * 340282366920938463463374607431768211456
  wd D 0 = v0 ∧ wd D 1 = v1 ∧ wd D 2 = v2 ∧ 0 ≤ D ∧ D < 2 ^ (64 * 3) := by
 intro D; have q0 : qd D 0 = D := qd_zero D; have q1 : qd D 1 = D / 18446744073709551616 := by rw [qd_succ, q0]
 have q2 : qd D 2 = D / 18446744073709551616 / 18446744073709551616 := by rw [qd_succ, q1]
 have hp : (2 : Int) ^ (64 * 3) = 6277101735386680763835789423207666416102355444464034512896 := by decide
 unfold wd; rw [q0, q1, q2, hp]; simp only [D]
 omega
/-- Once no carry is left and nothing more is added, the words stay. -/
theorem qd_add_done (X Y : Int) (i j : Nat) (hY : qd Y i = 0) (hc : cya X Y i = 0) (hj : i ≤ j) : qd (X + Y) j = qd X j := by
 obtain ⟨d, rfl⟩ : ∃ d, j = i + d := ⟨j - i, by omega⟩
 clear hj
 induction d with
 | zero => unfold cya at hc; simp only [Nat.add_zero]; omega
 | succ d ih => rw [show i + (d + 1) = (i + d) + 1 from rfl, qd_succ, ih, qd_succ]
theorem qd_sub_done (X Y : Int) (i j : Nat) (hY : qd Y i = 0) (hc : cys X Y i = 0) (hj : i ≤ j) : qd (X - Y) j = qd X j := by
 obtain ⟨d, rfl⟩ : ∃ d, j = i + d := ⟨j - i, by omega⟩
 clear hj
 induction d with
 | zero => unfold cys at hc; simp only [Nat.add_zero]; omega
 | succ d ih => rw [show i + (d + 1) = (i + d) + 1 from rfl, qd_succ, ih, qd_succ]
/-- The sign of what lies well within 76 words. -/
theorem wd_top (n : Int) (h0 : -2 ^ 4800 ≤ n) (h1 : n < 2 ^ 4800) : wd n 75 = if n < 0 then 18446744073709551615 else 0 := by
 have e : qd n 75 = if n < 0 then -1 else 0 := by
  unfold qd; have hp : (2 : Int) ^ (64 * 75) = 2 ^ 4800 := rfl; rw [hp]; generalize (2 : Int) ^ 4800 = P at *
  split
  ·rename_i hn
   have hP : 0 < P := by omega
   have : n / P = -1 := by
    rw [Int.ediv_eq_iff_of_pos hP]
    omega
   exact this
  ·exact Int.ediv_eq_zero_of_lt yO_ h1
 unfold wd; rw [e]
 split <;> rfl
end Go.Proofs.Ytlidbaejhmamjaa.AC
namespace Go.Proofs.Ytlidbaejhmamjaa.AC
open Go.RowKit YtlidbaejhmamjaaW.PrintWords YtlidbaejhmamjaaW.PrintLast YtlidbaejhmamjaaW.PrintMore
/-- The 77 cells of an Acc. -/
def zaR (ws : List Int) (bad : Bool) : Array Value := (ws.map (Value.int .u64) ++ [Value.bool bad]).toArray
def zbf : Option Int → Array Value
 | none => zaR (List.replicate 76 0) true
 | some n => zaR (wds n) false
theorem new_calls (w : World) : Calls Try.prog 42 #[] w fun e w' => ∃ b, e = .returned (.pointer (some ⟨b, 0, none⟩)) ∧ w.heap.size ≤ b ∧ w'.heap[b]? = some (.cells (zbf (some 0)) 124 (0, 0)) ∧ Below w.heap.size w w' := by
 go_enter Try.func42, Try.ntmps42; go_wp2_with fail; go_ret; refine ⟨w.heap.size, rfl, Nat.le_refl _, ?_, z7 (Below.refl _ _) _⟩; refine (heap_alloc_new w _).trans ?_
 kernel_rfl
theorem neg_calls (w : World) (b : Nat) (cs : Array Value) (x : Int) (hb : w.heap[b]? = some (.cells cs 124 (0, 0))) (hx : cs[75]? = some (.int .u64 x)) :
  Calls Try.prog 86 #[.pointer (some ⟨b, 0, none⟩)] w fun e w' => e = .returned (.bool (x / 9223372036854775808 == 1)) ∧ w = w' := by
 have hc : w.cell? ⟨b, 75, none⟩ = some (.int .u64 x) := (zg hb 75).trans hx; clear hb hx; go_enter Try.func86, Try.ntmps86; go_wp2; go_ret; exact ⟨rfl, rfl⟩
/-- The words of the real without its sign. -/
theorem cellsW_size (ws : List Int) (bad : Bool) : (zaR ws bad).size = ws.length + 1 := by simp [zaR]
theorem cellsW_get (ws : List Int) (bad : Bool) (i : Nat) (x : Int) (h : ws[i]? = some x) : (zaR ws bad)[i]? = some (.int .u64 x) := by
 have hl : i < ws.length := (List.getElem?_eq_some_iff.1 h).1; rw [List.getElem?_eq_getElem hl] at h; simp [zaR, List.getElem?_append_left, hl, Option.some.inj h]
theorem cellsW_bad (ws : List Int) (bad : Bool) (h : ws.length = 76) : (zaR ws bad)[76]? = some (.bool bad) := by
 simp [zaR, List.getElem?_append_right, h]
theorem cellsW_range (w : World) (b : Nat) (ws : List Int) (bad : Bool) (h : w.heap[b]? = some (.cells (zaR ws bad) 124 (0, 0))) : w.rangeAt b 0 (ws.map (Value.int .u64)) := by
 intro j v hv; rw [Nat.zero_add]; refine (zg h j).trans ?_; rw [List.getElem?_map] at hv
 cases hw : ws[j]? with
 | none => rw [hw] at hv; cases hv
 | some x => rw [hw] at hv; cases hv; exact cellsW_get ws bad j x hw
theorem info122 : (Try.prog.info? 122).map (·.size) = some 76 := by kernel_rfl
section
variable {P : Program} {ops : Array Oper} {rest : List Oper} {o : Oper} {a : Act} {Q : Exit → Act → World → Prop} {W : World}
theorem grownBy_setRow (W : World) (g : Nat) (cs : Array Value) : W.grownBy (W.setRow g cs) (some g) :=
 ⟨rfl, rfl, rfl, by simp, fun k _ hk => setRow_other W g k cs (fun e => hk (congrArg some e))⟩
theorem zi (hgd : o.guard = none) (ty : TypeId) {p v : Operand} (ho : o.op = .store ty p v) (hN : o.dst = none)
  (g : Nat) (cells : Array Value) (hx : a.eval p = .pointer (some ⟨g, 0, none⟩)) (hy : a.eval v = .agg cells)
  (t : TypeId) (old : Array Value) (hg : W.heap[g]? = some (.cells old t (0, 0))) (hi : (P.info? ty).map (·.size) = some cells.size)
  (hold : old.size = cells.size) (h1 : cells.all (·.oneCell') = true)
  (h : ∀ w', w'.heap[g]? = some (.cells cells t (0, 0)) → W.grownBy w' (some g) → wpList P ops Q rest a w') : wpList P ops Q (o :: rest) a W := by
 refine wpList_store_row hgd ty p v ho g cells hx hy t old hg hi hold h1 ?_; rw [hN]; exact h _ (setRow_heap W g old cells t (0, 0) hg) (grownBy_setRow W g cells)
theorem val_event (hgd : o.guard = none) {v : Value} {w1 : World} (hrun : (execOp a.eval o).run P W = .ok (.value v) w1)
  (h : wpList P ops Q rest (a.put o.dst v) w1) : wpList P ops Q (o :: rest) a W := by
 refine wpList_plain hgd fun K hK => ?_
 unfold Oper.wp; rw [hrun]; exact hK _ _ h
end
theorem zu {w w' : World} {row : Option Nat} {g : Nat} {o : Obj} (hg : w.grownBy w' row) (h : w.heap[g]? = some o) (hne : some g ≠ row) : w'.heap[g]? = some o := (hg.block g (zac h) hne).trans h
def subEntry : Array Value → Sem Value := fun args => do
 let (x, y, b) ← Extern.MathBitsCarry.three "Sub64" args
 pure (Extern.MathBitsCarry.pair ((x + Extern.MathBitsCarry.m64 - y - b) % Extern.MathBitsCarry.m64) (if x < y + b then 1 else 0))
theorem run_sub64 (x y b : Nat) (hb : b ≤ 1) (w : World) :
  (subEntry #[.int .u64 x, .int .u64 y, .int .u64 b]).run Try.prog w =
   .ok (.tuple #[.int .u64 (((x + 18446744073709551616 - y - b) % 18446744073709551616 : Nat) : Int), .int .u64 ((if x < y + b then 1 else 0 : Nat) : Int)]) w := by
 have : b = 0 ∨ b = 1 := by omega
 rcases this with rfl | rfl <;> rfl
theorem sub64 (x y b : Int) (hx : 0 ≤ x) (hy : 0 ≤ y) (hy' : y < 18446744073709551616) (hb : b = 0 ∨ b = 1) (w : World) :
  (callFunc 67 #[.int .u64 x, .int .u64 y, .int .u64 b]).run Try.prog w = .ok (.value (.tuple #[.int .u64 ((x + 18446744073709551616 - y - b) % 18446744073709551616), .int .u64 (if x < y + b then 1 else 0)])) w := by
 obtain ⟨x, rfl⟩ := Int.eq_ofNat_of_zero_le hx; obtain ⟨y, rfl⟩ := Int.eq_ofNat_of_zero_le hy; obtain ⟨b, rfl⟩ := Int.eq_ofNat_of_zero_le (show 0 ≤ b by omega); rw [run_callFunc_extern (fn := Try.f67) Try.func67 yK_ yK_ yK_ (e := subEntry) yK_, run_sub64 x y b yO_]; simp only [Result.andThen]; have e1 : (((x + 18446744073709551616 - y - b) % 18446744073709551616 : Nat) : Int) = ((x : Int) + 18446744073709551616 - y - b) % 18446744073709551616 := by omega
 have e2 : ((if x < y + b then 1 else 0 : Nat) : Int) = if (x : Int) < y + b then 1 else 0 := by split <;> split <;> omega
 rw [e1, e2]
theorem add64 (x y c : Int) (hx : 0 ≤ x) (hy : 0 ≤ y) (hc : c = 0 ∨ c = 1) (w : World) :
  (callFunc 84 #[.int .u64 x, .int .u64 y, .int .u64 c]).run Try.prog w = .ok (.value (.tuple #[.int .u64 ((x + y + c) % 18446744073709551616), .int .u64 ((x + y + c) / 18446744073709551616)])) w := by
 rw [run_callFunc_extern (fn := Try.f84) Try.func84 yK_ yK_ yK_ (e := add64Entry) yK_, run_add64 x y c hx hy yO_ yO_]; rfl
/-- One word of a difference; of a sum. -/
theorem sub_word (X Y : Int) (i : Nat) (w : World) : (callFunc 67 #[.int .u64 (wd X i), .int .u64 (wd Y i), .int .u64 (cys X Y i)]).run Try.prog w = .ok (.value (.tuple #[.int .u64 (wd (X - Y) i), .int .u64 (cys X Y (i + 1))])) w := by
 obtain ⟨h1, h2, _⟩ := cys_step X Y i (cys_01 X Y i); rw [h1, h2]; exact sub64 _ _ _ (wd_lo _ _) (wd_lo _ _) (wd_hi _ _) (cys_01 X Y i) w
theorem add_word (X Y : Int) (i : Nat) (w : World) : (callFunc 84 #[.int .u64 (wd X i), .int .u64 (wd Y i), .int .u64 (cya X Y i)]).run Try.prog w = .ok (.value (.tuple #[.int .u64 (wd (X + Y) i), .int .u64 (cya X Y (i + 1))])) w := by
 obtain ⟨h1, h2, _⟩ := cya_step X Y i (cya_01 X Y i); rw [h1, h2]; exact add64 _ _ _ (wd_lo _ _) (wd_lo _ _) (cya_01 X Y i) w
/-- The words of Z below k, of X from k on. -/
def mixw (Z X : Int) (k : Nat) : List Int := (List.range 76).map fun j => if j < k then wd Z j else wd X j
theorem zbk (Z X : Int) (k : Nat) : (mixw Z X k).length = 76 := by simp [mixw]
theorem mixw_zero (Z X : Int) : mixw Z X 0 = wds X := by simp [mixw, wds]
theorem mixw_all (Z X : Int) : mixw Z X 76 = wds Z := by
 unfold mixw wds; refine List.map_congr_left fun j hj => ?_
 rw [if_pos (List.mem_range.1 hj)]
theorem mixw_get (Z X : Int) (k : Nat) (h : k < 76) : (mixw Z X k)[k]? = some (wd X k) := by simp [mixw, h]
theorem mixw_set (Z X : Int) (k : Nat) (h : k < 76) : (mixw Z X k).set k (wd Z k) = mixw Z X (k + 1) := by
 refine List.ext_getElem? fun j => ?_
 rw [List.getElem?_set]
 by_cases hj : j < 76
 ·by_cases e : k = j
  ·subst e; simp [mixw, h]
  ·rw [if_neg e]; have : (j < k) = (j < k + 1) := by rw [eq_iff_iff]; omega
   simp [mixw, hj, this]
 ·have : ¬ k = j := by omega
  rw [if_neg this]; simp [mixw, hj]
theorem words_set (ws : List Int) (k : Nat) (x : Int) : ((ws.map (Value.int .u64)).toArray).setIfInBounds k (.int .u64 x) = ((ws.set k x).map (Value.int .u64)).toArray := by
 simp [List.map_set]
theorem words_get (ws : List Int) (k : Nat) (x : Int) (h : ws[k]? = some x) : ((ws.map (Value.int .u64)).toArray)[k]? = some (.int .u64 x) := by simp [h]
theorem words_one (ws : List Int) : ((ws.map (Value.int .u64)).toArray).all (·.oneCell') = true := by
 simp [Array.all_eq_true_iff_forall_mem, Value.oneCell']
theorem info122l (ws : List Int) (h : ws.length = 76) : (Try.prog.info? 122).map (·.size) = some (ws.map (Value.int .u64)).length := by rw [info122]; simp [h]
theorem info122a (ws : List Int) (h : ws.length = 76) : (Try.prog.info? 122).map (·.size) = some ((ws.map (Value.int .u64)).toArray).size := by rw [info122]; simp [h]
theorem neg_any (w : World) (b : Nat) (cs : Array Value) (n : Int) (h0 : -2 ^ 4800 ≤ n) (h1 : n < 2 ^ 4800) (hb : w.heap[b]? = some (.cells cs 124 (0, 0))) (hx : cs[75]? = some (.int .u64 (wd n 75))) :
  Calls Try.prog 86 #[.pointer (some ⟨b, 0, none⟩)] w fun e w' => e = .returned (.bool (decide (n < 0))) ∧ w = w' := by
 refine (neg_calls w b cs _ hb hx).mono ?_; rintro e w' ⟨rfl, hw⟩; refine ⟨?_, hw⟩; rw [wd_top n h0 h1]
 by_cases hn : n < 0
 ·simp [hn]
 ·simp [hn]
def zaS (n : Int) : Int := if n < 0 then -n else n
theorem absI_neg {n : Int} (h : n < 0) : zaS n = -n := by unfold zaS; rw [if_pos h]
theorem absI_pos {n : Int} (h : 0 ≤ n) : zaS n = n := by unfold zaS; rw [if_neg yO_]
theorem size_calls (w : World) (b : Nat) (n : Int) (bad : Bool) (h0 : -2 ^ 4800 ≤ n) (h1 : n < 2 ^ 4800) (hb : w.heap[b]? = some (.cells (zaR (wds n) bad) 124 (0, 0))) :
  Calls Try.prog 92 #[.pointer (some ⟨b, 0, none⟩)] w fun e w' => e = .returned (.agg ((wds (zaS n)).map (Value.int .u64)).toArray) ∧ Below w.heap.size w w' := by
 have HB := J hb; have H0 := J h0; have H1 := J h1; clear hb h0 h1; go_enter Try.func92, Try.ntmps92
 go_wp2_with (first
  | ((with_reducible refine zf (N := 2) rfl ?_); refine box_event rfl (N := 2) rfl (cs := (List.replicate 76 (Value.int .u64 0)).toArray) (t := 122) ?hr ?_; (case hr => kernel_rfl); intro g2 hg2 w2 hw2 hb2; have B2 := J hb2; have K2 := J hw2; have N2 := J (show b ≠ g2 by have := zac HB.o; omega); have L2 := J (show w.heap.size ≤ g2 by omega); clear hg2 hw2 hb2)
  | ((with_reducible refine zf (N := 9) rfl ?_); refine wpList_load_mid rfl 122 _ rfl b 0 rfl ((wds n).map (Value.int .u64)) _ ?hr Try.underlying122 rfl (info122l _ (zak n)) ?_; (case hr => exact cellsW_range w2 b _ bad ((B2.o.block b (zac HB.o)).trans HB.o)); have T9 : True := trivial)
  | ((with_reducible refine zf (N := 3) rfl ?_); refine box_event rfl (N := 3) rfl (cs := (List.replicate 76 (Value.int .u64 0)).toArray) (t := 122) ?hr ?_; (case hr => kernel_rfl); intro g3 hg3 w3 hw3 aC; have B3 := J (za B2.o aC); have J3 := J ((aC.block g2 (zac K2.o)).trans K2.o); have K3 := J hw3; have N3 := J (show b ≠ g3 ∧ g2 ≠ g3 by have := zac K2.o; have := zac HB.o; have := B2.o.size; omega); have L3 := J (show w.heap.size ≤ g3 by have := B2.o.size; omega); clear hg3 hw3 aC)
  | ((with_reducible refine zj (t := 122) (p := 3) rfl ?_); refine zi rfl 122 rfl rfl g3 ((wds n).map (Value.int .u64)).toArray rfl rfl 122 _ K3.o (info122a _ (zak n)) (by simp [zak]) (words_one _) ?_; intro w4 hw4 aD; have B4 := J (B3.o.grown aD B3.o.size (fun k hk => by cases hk; exact L3.o)); have K4 := J hw4; have J4 := J (zu aD J3.o (fun e => N3.o.2 (Option.some.inj e))); clear hw4 aD)
  | fail)
 refine (neg_any w4 b _ n H0.o H1.o ((B4.o.block b (zac HB.o)).trans HB.o) (cellsW_get _ _ 75 _ (wds_get n 75 yD_))).mono ?_; rintro e w5 ⟨rfl, rfl⟩
 by_cases hn : n < 0
 ·have hd : decide (n < 0) = true := decide_eq_true hn; have Hn := J hn; clear hn; go_wp2_with fail
  go_loopg [4, 12] 76 (fun m v4 v12 wr => ∃ k : Nat, v12 = .int .i64 k ∧ v4 = .int .u64 (cys 0 n k) ∧ ze (m + k = 76) ∧ ze (wr.heap[g3]? = some (.cells ((mixw (-n) n k).map (Value.int .u64)).toArray 122 (0, 0))) ∧ ze (wr.heap[g2]? = some (.cells (List.replicate 76 (Value.int .u64 0)).toArray 122 (0, 0))) ∧ ze (Below w.heap.size w wr))
  case atStart => exact ⟨0, rfl, by rw [cys_zero], ⟨rfl⟩, ⟨by rw [mixw_zero]; exact K4.o⟩, J4, B4⟩
  case round =>
   obtain ⟨k, rfl, rfl, hm, K5, J5, B5⟩ := hrel
   by_cases hk : k < 76
   ·have hdk : decide ((k : Int) < 76) = true := by simp; omega
    have hk0 : decide ((0 : Int) ≤ k) = true := by simp
    have hc : wr.cell? ⟨g3, k, none⟩ = some (.int .u64 (wd n k)) := (zg K5.o k).trans (words_get _ _ _ (mixw_get _ _ _ hk)); have hf : wr.frozen? ⟨g3, k, none⟩ = false := zb K5.o k; have hs := sub_word 0 n k; rw [wd_zero, Int.zero_sub] at hs; have HK := J hk; go_wp2_with fail; go_roundg (gk - 1)
    case measure => have := hm.o; have := HK.o; omega
    case rel =>
     refine ⟨k + 1, by go_num, rfl, ⟨by have := hm.o; have := HK.o; omega⟩, ⟨?_⟩, ⟨?_⟩, ⟨zN B5.o L3.o⟩⟩
     ·rw [← mixw_set _ _ _ HK.o, ← words_set]; exact zav K5.o k _
     ·exact za1 J5.o N3.o.2 _
   ·have hdk : decide ((k : Int) < 76) = false := by simp; omega
    obtain rfl : k = 76 := by have := hm.o; omega
    clear hk
    go_wp2_with (first
     | ((with_reducible refine zf (N := 26) rfl ?_); refine wpList_load_row rfl 122 _ rfl g3 rfl 122 _ (0, 0) _ K5.o Try.underlying122 rfl (info122a _ (zbk _ _ _)) ?_; have T26 : True := trivial)
     | ((with_reducible refine zj (t := 122) (p := 2) rfl ?_); refine zi rfl 122 rfl rfl g2 ((mixw (-n) n 76).map (Value.int .u64)).toArray rfl rfl 122 _ J5.o (info122a _ (zbk _ _ _)) (by simp [zbk]) (words_one _) ?_; intro w6 aB aA; have B6 := J (B5.o.grown aA B5.o.size (fun k hk => by cases hk; exact L2.o)); have K6 := J aB; clear aB aA)
     | fail)
    refine bodyPost_ret (results_cell_row rfl _ _ g2 122 _ (0, 0) _ rfl K6.o Try.underlying122 rfl (info122a _ (zbk _ _ _))) rfl ?_; exact ⟨by rw [absI_neg Hn.o, mixw_all], B6.o⟩
 ·have hd : decide (n < 0) = false := decide_eq_false hn; have Hn := J (show 0 ≤ n by omega); clear hn
  go_wp2_with (first
   | ((with_reducible refine zf (N := 26) rfl ?_); refine wpList_load_row rfl 122 _ rfl g3 rfl 122 _ (0, 0) _ K4.o Try.underlying122 rfl (info122a _ (zak n)) ?_; have T26 : True := trivial)
   | ((with_reducible refine zj (t := 122) (p := 2) rfl ?_); refine zi rfl 122 rfl rfl g2 ((wds n).map (Value.int .u64)).toArray rfl rfl 122 _ J4.o (info122a _ (zak n)) (by simp [zak]) (words_one _) ?_; intro w6 aB aA; have B6 := J (B4.o.grown aA B4.o.size (fun k hk => by cases hk; exact L2.o)); have K6 := J aB; clear aB aA)
   | fail)
  refine bodyPost_ret (results_cell_row rfl _ _ g2 122 _ (0, 0) _ rfl K6.o Try.underlying122 rfl (info122a _ (zak n))) rfl ?_; exact ⟨by rw [absI_pos Hn.o], B6.o⟩
end Go.Proofs.Ytlidbaejhmamjaa.AC
namespace Go.Proofs.Ytlidbaejhmamjaa.AC
open Go.RowKit YtlidbaejhmamjaaW.PrintWords YtlidbaejhmamjaaW.PrintLast YtlidbaejhmamjaaW.PrintMore
/-- What fit leaves of a real. -/
def normA (n : Int) : Option Int := if zaS n < 2 ^ 4772 then some n else none
theorem absI_lo (n : Int) : 0 ≤ zaS n := by unfold zaS; split <;> omega
theorem absI_hi {n P : Int} (h0 : -P < n) (h1 : n < P) : zaS n < P := by unfold zaS; split <;> omega
theorem wd_75 (a : Int) (h0 : 0 ≤ a) (h1 : a < 2 ^ 4800) : wd a 75 = 0 := by
 unfold wd; rw [show qd a 75 = 0 from Int.ediv_eq_zero_of_lt h0 h1]; rfl
theorem wd_74 (a : Int) (h0 : 0 ≤ a) (h1 : a < 2 ^ 4800) : (wd a 74 / 68719476736 = 0) = (a < 2 ^ 4772) := by
 have q : qd a 74 / 18446744073709551616 = 0 := by rw [← qd_succ]; exact Int.ediv_eq_zero_of_lt h0 h1
 have e : wd a 74 = qd a 74 := by unfold wd; omega
 have d : qd a 74 / 68719476736 = a / 2 ^ 4772 := by
  unfold qd; rw [Int.ediv_ediv_of_nonneg (Int.le_of_lt (zY _)), show (2 : Int) ^ 4772 = 2 ^ (64 * 74) * 2 ^ 36 from by rw [← Int.pow_add]]; rfl
 rw [e, d, eq_iff_iff]; have hp := zY 4772
 constructor
 ·intro h; generalize (2 : Int) ^ 4772 = P at *
  have := Int.mul_ediv_add_emod a P; have := Int.emod_lt_of_pos a hp; rw [h] at *
  omega
 ·exact fun h => Int.ediv_eq_zero_of_lt h0 h
theorem info124 : (Try.prog.info? 124).map (·.size) = some 77 := by kernel_rfl
theorem info124a (ws : List Int) (bad : Bool) (h : ws.length = 76) : (Try.prog.info? 124).map (·.size) = some (zaR ws bad).size := by rw [info124, cellsW_size, h]
theorem cellsW_one (ws : List Int) (bad : Bool) : (zaR ws bad).all (·.oneCell') = true := by
 simp [zaR, Value.oneCell']
theorem below_grown {w w1 w2 : World} {row : Option Nat} (h : Below w.heap.size w w1) (hg : w1.grownBy w2 row) : w.grownBy w2 row :=
 ⟨hg.os.trans h.os, hg.tape.trans h.tape, hg.output.trans h.output, Nat.le_trans h.size hg.size, fun k hk hne => (hg.block k (Nat.lt_of_lt_of_le hk h.size) hne).trans (h.block k hk)⟩
theorem grown_grown {w w1 w2 : World} {row : Option Nat} (h : w.grownBy w1 row) (hg : w1.grownBy w2 row) : w.grownBy w2 row :=
 ⟨hg.os.trans h.os, hg.tape.trans h.tape, hg.output.trans h.output, Nat.le_trans h.size hg.size, fun k hk hne => (hg.block k (Nat.lt_of_lt_of_le hk h.size) hne).trans (h.block k hk hne)⟩
theorem fit_calls (w : World) (b : Nat) (n : Int) (h0 : -2 ^ 4800 < n) (h1 : n < 2 ^ 4800) (hb : w.heap[b]? = some (.cells (zaR (wds n) false) 124 (0, 0))) :
  Calls Try.prog 85 #[.pointer (some ⟨b, 0, none⟩)] w fun e w' => e = .returned (.tuple #[]) ∧ w'.heap[b]? = some (.cells (zbf (normA n)) 124 (0, 0)) ∧ w.grownBy w' (some b) := by
 have HB := J hb; have HA := J (absI_hi h0 h1); have A0 := J (absI_lo n); have H0 := J (show -2 ^ 4800 ≤ n by omega); have H1 := J h1; clear hb h0 h1; go_enter Try.func85, Try.ntmps85; go_wp2_with fail; refine (size_calls w b n false H0.o H1.o HB.o).mono ?_; rintro e w1 ⟨rfl, hb1⟩; have B1 := J hb1; clear hb1; generalize hq : zaS n = q at *
 have HQ := J hq; clear hq
 go_wp2_with (first
  | ((with_reducible refine zf (N := 2) rfl ?_); refine box_event rfl (N := 2) rfl (cs := (List.replicate 76 (Value.int .u64 0)).toArray) (t := 122) ?hr ?_; (case hr => kernel_rfl); intro g2 hg2 w2 hw2 hb2; have B2 := J (za B1.o hb2); have K2 := J hw2; have N2 := J (show b ≠ g2 by have := zac HB.o; have := B1.o.size; omega); have L2 := J (show w.heap.size ≤ g2 by have := B1.o.size; omega); clear hg2 hw2 hb2)
  | ((with_reducible refine zj (t := 122) (p := 2) rfl ?_); refine zi rfl 122 rfl rfl g2 ((wds q).map (Value.int .u64)).toArray rfl rfl 122 _ K2.o (info122a _ (zak q)) (by simp [zak]) (words_one _) ?_; intro w3 hw3 hg3; have B3 := J (B2.o.grown hg3 B2.o.size (fun k hk => by cases hk; exact L2.o)); have K3 := J hw3; clear hw3 hg3)
  | fail)
 go_loopg [3] 2 (fun m v3 wr => ∃ k : Nat, v3 = .int .i64 k ∧ ze (m + k = 76 ∧ 74 ≤ k) ∧ ze (k = 74 ∨ q < 2 ^ 4772) ∧ w3 = wr)
 case atStart => exact ⟨74, rfl, ⟨rfl, by omega⟩, ⟨.inl rfl⟩, rfl⟩
 case round =>
  obtain ⟨k, rfl, hm, hq, rfl⟩ := hrel; have hk3 : k = 74 ∨ k = 75 ∨ k = 76 := by have := hm.o; omega
  rcases hk3 with rfl | rfl | rfl
  ·have hc : w3.cell? ⟨g2, 74, none⟩ = some (.int .u64 (wd q 74)) := (zg K3.o 74).trans (words_get _ _ _ (wds_get q 74 yD_))
   by_cases hlt : q < 2 ^ 4772
   ·have hz : (wd q 74 / 68719476736 != 0) = false := by rw [bne_eq_false_iff_eq, wd_74 q A0.o HA.o]; exact hlt
    have HL := J hlt; clear hlt; go_wp2_with fail; go_roundg 1
    case measure => have := hm.o; omega
    case rel => exact ⟨75, rfl, ⟨rfl, by omega⟩, ⟨.inr HL.o⟩, rfl⟩
   ·have hz : (wd q 74 / 68719476736 != 0) = true := by rw [bne_iff_ne]; intro e; rw [wd_74 q A0.o HA.o] at e; exact hlt e
    have HL := J hlt; clear hlt
    go_wp2_with (first
     | ((with_reducible refine zf (N := 21) rfl ?_); refine val_event rfl (v := .agg (zbf none)) (w1 := w3) ?hr ?_; (case hr => kernel_rfl); have T21 : True := trivial)
     | ((with_reducible refine zj (t := 124) (p := 22) rfl ?_); refine zi rfl 124 rfl rfl b (zbf none) rfl rfl 124 _ ((B3.o.block b (zac HB.o)).trans HB.o) (info124a _ _ (by simp)) (by simp [zbf, cellsW_size, zak]) (cellsW_one _ _) ?_; intro w4 hw4 hg4; have K4 := J hw4; have G4 := J hg4; clear hw4 hg4)
     | fail)
    (try simp only [Exit.inBlock, Exit.then])
    refine bodyPost_ret (results_none rfl _ _ _) rfl ⟨rfl, ?_, below_grown B3.o G4.o⟩; rw [show normA n = none from by unfold normA; rw [HQ.o, if_neg (by have := HL.o; omega)]]; exact K4.o
  ·have hc : w3.cell? ⟨g2, 75, none⟩ = some (.int .u64 0) := (zg K3.o 75).trans ((words_get _ _ _ (wds_get q 75 yD_)).trans (by rw [wd_75 q A0.o HA.o])); go_wp2_with fail; go_roundg 0
   case measure => have := hm.o; omega
   case rel => exact ⟨76, rfl, ⟨rfl, by omega⟩, ⟨by have := hq.o; omega⟩, rfl⟩
  ·go_wp2_with fail; go_end0; refine ⟨rfl, ?_, ⟨B3.o.os, B3.o.tape, B3.o.output, B3.o.size, fun k hk _ => B3.o.block k hk⟩⟩; have hlt : q < 2 ^ 4772 := by have := hq.o; omega
   rw [show normA n = some n from by unfold normA; rw [HQ.o, if_pos hlt]]; exact (B3.o.block b (zac HB.o)).trans HB.o
/-- A number's sign, its significand, the power of 2 of that one's lowest bit. -/
def fnum (u : Nat) : Option (Bool × Nat × Int) :=
 if u / 4503599627370496 % 2048 = 2047 then none
 else if u / 4503599627370496 % 2048 = 0 then some (u / 9223372036854775808 == 1, u % 4503599627370496, -1074)
 else some (u / 9223372036854775808 == 1, u % 4503599627370496 + 4503599627370496, (u / 4503599627370496 % 2048 : Nat) - 1075)
def splitRes : Option (Bool × Nat × Int) → Value
 | none => .tuple #[.bool false, .int .u64 0, .int .i64 0, .bool false]
 | some (s, m, e) => .tuple #[.bool s, .int .u64 m, .int .i64 e, .bool true]
theorem f64bits (u : Nat) (w : World) : (callFunc 81 #[.float .f64 u]).run Try.prog w = .ok (.value (.int .u64 u)) w := by
 rw [run_callFunc_extern (fn := Try.f81) Try.func81 yK_ yK_ yK_ (e := Extern.MathFloatBits.float64bits) yK_]; rfl
theorem bits_calls (u : Nat) (w : World) : Calls Try.prog 56 #[.float .f64 u] w fun e w' => e = .returned (.int .u64 u) ∧ w = w' := by
 have hf := f64bits u; go_enter Try.func56, Try.ntmps56; go_wp2_with fail; go_ret; exact ⟨rfl, rfl⟩
theorem wraps_u64 (n : Int) (h0 : 0 ≤ n) (h1 : n < 2 ^ 64) : IntKind.u64.wrap n = n := by
 rw [IntKind.wrap_u64]; have : (2 : Int) ^ 64 = 18446744073709551616 := by decide
 omega
theorem and_2047 (x : Int) (h0 : 0 ≤ x) (h1 : x < 2 ^ 64) : bits .and .u64 x 2047 = x % 2048 := bits_mask .u64 64 yD_ wraps_u64 11 yD_ x h0 h1
theorem and_52 (x : Int) (h0 : 0 ≤ x) (h1 : x < 2 ^ 64) : bits .and .u64 x 4503599627370495 = x % 4503599627370496 := bits_mask .u64 64 yD_ wraps_u64 52 yD_ x h0 h1
theorem or_52 (y : Int) (h0 : 0 ≤ y) (h1 : y < 4503599627370496) : bits .or .u64 y 4503599627370496 = y + 4503599627370496 := by
 have hc : bits .or .u64 y 4503599627370496 = bits .or .u64 4503599627370496 y := by simp only [bits, BitVec.or_comm]
 have hp : (2 : Int) ^ 64 = 18446744073709551616 := by decide
 have hp' : (2 : Int) ^ 52 = 4503599627370496 := by decide
 rw [hc, bits_join .u64 64 yD_ wraps_u64 52 _ _ yD_ yD_ yD_ h0 yO_ yO_]
 omega
theorem split_calls (u : Nat) (hu : u < 2 ^ 64) (w : World) : Calls Try.prog 64 #[.float .f64 u] w fun e w' => e = .returned (splitRes (fnum u)) ∧ w = w' := by
 have hu' : u < 18446744073709551616 := hu; have hp : (2 : Int) ^ 64 = 18446744073709551616 := by decide
 have h1 : bits .and .u64 ((u : Int) / 4503599627370496) 2047 = ((u / 4503599627370496 % 2048 : Nat) : Int) := by rw [and_2047 _ yO_ yO_]; omega
 have h2 : bits .and .u64 (u : Int) 4503599627370495 = ((u % 4503599627370496 : Nat) : Int) := by rw [and_52 _ yO_ yO_]; omega
 have h3 : bits .or .u64 ((u % 4503599627370496 : Nat) : Int) 4503599627370496 = ((u % 4503599627370496 + 4503599627370496 : Nat) : Int) := by rw [or_52 _ yO_ yO_]; omega
 have he : u / 4503599627370496 % 2048 < 2048 := by omega
 have hs : ((u : Int) / 9223372036854775808 == 1) = (u / 9223372036854775808 == 1) := by rw [Bool.eq_iff_iff]; simp only [beq_iff_eq]; omega
 have F : ze (fnum u = (if u / 4503599627370496 % 2048 = 2047 then none else if u / 4503599627370496 % 2048 = 0 then some (u / 9223372036854775808 == 1, u % 4503599627370496, -1074) else some (u / 9223372036854775808 == 1, u % 4503599627370496 + 4503599627370496, (u / 4503599627370496 % 2048 : Nat) - 1075) : Option (Bool × Nat × Int))) := ⟨rfl⟩
 clear hp hu hu'; generalize u / 4503599627370496 % 2048 = e at *
 generalize u % 4503599627370496 = m at *
 generalize (u / 9223372036854775808 == 1) = s at *
 generalize m + 4503599627370496 = m2 at *
 have W : wrap64 (e : Int) = e := by unfold wrap64; omega
 have R : ze (fnum u = fnum u) := ⟨rfl⟩
 generalize fnum u = r at F ⊢; have hout : ze (splitRes r = splitRes r) := ⟨rfl⟩
 generalize hv : splitRes r = v at hout ⊢; have HV := J hv; clear hv hout R
 by_cases c1 : e = 2047
 ·have c1b : ((e : Int) == 2047) = true := by simp [c1]
  have hr : r = none := by rw [F.o, if_pos c1]
  have HE := J hr; clear hr F c1; go_enter Try.func64, Try.ntmps64; go_wp2_with fail; refine (bits_calls u _).mono ?_; rintro e w' ⟨rfl, rfl⟩; go_wp2_with fail; refine bodyPost_ret (v := v) (by rw [← HV.o, HE.o]; simp [results, Try.results64, go_sem, splitRes]) rfl ⟨rfl, rfl⟩
 ·have c1b : ((e : Int) == 2047) = false := by simp; omega
  by_cases c2 : e = 0
  ·have c2b : ((e : Int) == 0) = true := by simp [c2]
   have hr : r = some (s, m, -1074) := by rw [F.o, if_neg c1, if_pos c2]
   have HE := J hr; clear hr F c1 c2; go_enter Try.func64, Try.ntmps64; go_wp2_with fail; refine (bits_calls u _).mono ?_; rintro e w' ⟨rfl, rfl⟩; go_wp2_with fail; refine bodyPost_ret (v := v) (by rw [← HV.o, HE.o]; simp [results, Try.results64, go_sem, splitRes]) rfl ⟨rfl, rfl⟩
  ·have c2b : ((e : Int) == 0) = false := by simp; omega
   have hr : r = some (s, m2, (e : Int) - 1075) := by rw [F.o, if_neg c1, if_neg c2]
   have HE := J hr; clear hr F c1 c2; go_enter Try.func64, Try.ntmps64; go_wp2_with fail; refine (bits_calls u _).mono ?_; rintro e w' ⟨rfl, rfl⟩; go_wp2_with fail; refine bodyPost_ret (v := v) (by rw [← HV.o, HE.o]; simp [results, Try.results64, go_sem, splitRes]) rfl ⟨rfl, rfl⟩
theorem mixw_below (Z X : Int) (i : Nat) (h : ∀ j, j < i → wd Z j = wd X j) : mixw Z X i = wds X := by
 unfold mixw wds; refine List.map_congr_left fun j _ => ?_
 by_cases hj : j < i
 ·rw [if_pos hj, h j hj]
 ·rw [if_neg hj]
theorem mixw_above (Z X : Int) (i : Nat) (h : ∀ j, i ≤ j → wd Z j = wd X j) : mixw Z X i = wds Z := by
 unfold mixw wds; refine List.map_congr_left fun j _ => ?_
 by_cases hj : j < i
 ·rw [if_pos hj]
 ·rw [if_neg hj, h j yO_]
theorem cellsW_set (ws : List Int) (bad : Bool) (k : Nat) (x : Int) (h : k < ws.length) : (zaR ws bad).setIfInBounds k (.int .u64 x) = zaR (ws.set k x) bad := by
 simp [zaR, List.map_set, List.set_append_left, h]
theorem grown_set {w W : World} {b : Nat} (h : w.grownBy W (some b)) (j : Nat) (u : Value) : w.grownBy (W.setCell ⟨b, j, none⟩ u) (some b) :=
 ⟨h.os, h.tape, h.output, by have := h.size; simp only [World.setCell, Array.size_modify]; exact this, fun k hk hne => (Below.heap_setCell W ⟨b, j, none⟩ u k (fun e => hne (congrArg some e))).trans (h.block k hk hne)⟩
theorem za3 {a b : Nat} (h : a ≤ b) : (2 : Int) ^ a ≤ 2 ^ b := by
 have := Nat.pow_le_pow_right (n := 2) yD_ h
 exact_mod_cast this
theorem put_bounds (n D Y : Int) (i : Nat) (hn : zaS n < 2 ^ 4772) (D0 : 0 ≤ D) (D3 : D < 2 ^ (64 * 3)) (hi : i ≤ 66) (hY : Y = D * 2 ^ (64 * i)) :
  -2 ^ 4772 < n ∧ n < 2 ^ 4772 ∧ 0 ≤ Y ∧ Y < 2 ^ 4772 ∧ (2 : Int) ^ 4800 = 2 ^ 28 * 2 ^ 4772 ∧ (0 : Int) < 2 ^ 4772 := by
 have hp := zY 4772
 have h1 : Y < 2 ^ 4772 := by
  have e : D * 2 ^ (64 * i) < 2 ^ (64 * 3) * 2 ^ (64 * i) := Int.mul_lt_mul_of_pos_right D3 (zY _); rw [← Int.pow_add] at e; have : (2 : Int) ^ (64 * 3 + 64 * i) ≤ 2 ^ 4772 := za3 yO_; rw [hY]; omega
 refine ⟨?_, ?_, by rw [hY]; exact Int.mul_nonneg D0 (Int.le_of_lt (zY _)), h1, Int.pow_add 2 28 4772, hp⟩
 ·unfold zaS at hn; split at hn <;> omega
 ·unfold zaS at hn; split at hn <;> omega
def putA.T12 : Bool × List (List Nat × List Nat) := (true, [([], []), ([], []), ([], []), ([1, 2], [1, 2]), ([], []), ([], []), ([], []), ([5, 6], [5, 6]), ([4], [4]), ([8], [8]), ([9, 7], [7, 9]), ([10], [10]), ([], []), ([], []), ([11, 12, 13], [11, 12, 13]), ([14], [14]), ([15], [15]), ([15], [15]), ([0], [0]), ([18], [18]), ([19, 3, 0, 1, 2, 3, 4, 5, 6, 7, 8, 9, 10, 11, 12, 13, 14, 15, 16], [3, 19]), ([20, 16, 14, 0, 1, 2, 3, 4, 5, 6, 7, 8, 9, 10, 11, 12, 13, 14, 15, 16], [16, 20]), ([17, 21, 0, 1, 2, 3, 4, 5, 6, 7, 8, 9, 10, 11, 12, 13, 14, 15, 16, 17, 18, 19, 20, 21], [13, 17])])
def putA.B12 : List Nat := [0, 0, 0, 6, 0, 0, 0, 96, 16, 272, 1008, 2032, 0, 0, 16368, 32752, 65520, 65520, 1, 262145, 917503, 1966079, 4194303]
theorem putA.tab12 : zbc .any (opsOf Try.f66 12) = putA.T12 := by kernel_rfl
theorem putA.bits12 : zal putA.T12.2 putA.B12 = true := by kernel_rfl
theorem putA_calls (w : World) (b : Nat) (n v0 v1 v2 at_ : Int) (i : Nat) (hn : zaS n < 2 ^ 4772) (a0 : 0 ≤ v0) (b0 : v0 < 18446744073709551616) (a1 : 0 ≤ v1) (b1 : v1 < 18446744073709551616) (a2 : 0 ≤ v2) (b2 : v2 < 18446744073709551616)
  (hat : at_ / 64 = i) (hat0 : 0 ≤ at_) (hat1 : at_ ≤ 4300) (hi : i ≤ 66) (hb : w.heap[b]? = some (.cells (zaR (wds n) false) 124 (0, 0))) :
  Calls Try.prog 66 #[.pointer (some ⟨b, 0, none⟩), .agg #[.int .u64 v0, .int .u64 v1, .int .u64 v2], .int .i64 at_, .bool false] w fun e w' =>
   e = .returned (.tuple #[]) ∧ w'.heap[b]? = some (.cells (zbf (normA (n + (v0 + v1 * 18446744073709551616 + v2 * 340282366920938463463374607431768211456) * 2 ^ (64 * i)))) 124 (0, 0)) ∧ w.grownBy w' (some b) := by
 obtain ⟨d0, d1, d2, D0, D3⟩ := words3 v0 v1 v2 a0 b0 a1 b1 a2 b2; generalize hD : v0 + v1 * 18446744073709551616 + v2 * 340282366920938463463374607431768211456 = D at *
 clear hD; obtain ⟨Y, hY⟩ : ∃ Y, Y = D * 2 ^ (64 * i) := ⟨_, rfl⟩
 obtain ⟨Z, hZ⟩ : ∃ Z, Z = n + Y := ⟨_, rfl⟩
 rw [← hY, ← hZ]; have y0 : wd Y i = v0 := by rw [hY]; exact (wd_from D i 0).trans d0
 have y1 : wd Y (i + 1) = v1 := by rw [hY]; exact (wd_from D i 1).trans d1
 have y2 : wd Y (i + 2) = v2 := by rw [hY]; exact (wd_from D i 2).trans d2
 have y3 : ∀ k, 3 ≤ k → qd Y (i + k) = 0 := fun k hk => by rw [hY, qd_from]; exact qd_small_after D 3 k D0 D3 hk
 have bel : ∀ j, j < i → wd Z j = wd n j := fun j hj => by rw [hZ, hY]; exact wd_add_below n D i j hj
 have c0 : cya n Y i = 0 := by rw [hY]; exact cya_at n D i
 have ZZ := put_bounds n D Y i hn D0 D3 hi hY; have ZB : -2 ^ 4800 < Z ∧ Z < 2 ^ 4800 := by rw [hZ]; exact ⟨by omega, by omega⟩
 have P := J (And.intro y0 (And.intro y1 (And.intro y2 (And.intro y3 (And.intro bel (And.intro c0 (And.intro ZB hZ))))))); have HB := J hb; have HI := J hi; have HV := J (And.intro b0 (And.intro b1 b2)); clear y0 y1 y2 y3 bel c0 ZZ ZB hZ hY D0 D3 d0 d1 d2 hb hn D b0 b1 b2; have hq : at_ / 64 = (i : Int) := hat; clear hat; go_enter Try.func66, Try.ntmps66
 go_wp2_with (first
  | ((with_reducible refine zf (N := 5) rfl ?_); refine zah 5 (cs := #[.int .u64 v0, .int .u64 v1, .int .u64 v2]) (t := 129) ?_; intro g5 hg5 w5 hw5 hb5; have B5 := J hb5; have K5 := J hw5; have N5 := J (show b ≠ g5 by have := zac HB.o; omega); clear hg5 hw5 hb5)
  | fail)
 go_loopg [9, 10] (76 - i) (fun m v9 v10 wr => ∃ k : Nat, v10 = .int .i64 k ∧ v9 = .int .u64 (cya n Y (i + k)) ∧ ze (m + (i + k) = 76) ∧ ze (wr.heap[b]? = some (.cells (zaR (mixw Z n (i + k)) false) 124 (0, 0))) ∧ ze (wr.heap[g5]? = some (.cells #[.int .u64 v0, .int .u64 v1, .int .u64 v2] 129 (0, 0))) ∧ ze (w.grownBy wr (some b)))
 case atStart =>
  obtain ⟨y0, y1, y2, y3, bel, c0, ZB, hZ⟩ := P.o; refine ⟨0, rfl, by rw [Nat.add_zero, c0], ⟨by have := HI.o; omega⟩, ⟨?_⟩, K5, ⟨grown_of_below B5.o _⟩⟩; rw [Nat.add_zero, mixw_below Z n i bel]; exact (B5.o.block b (zac HB.o)).trans HB.o
 case round =>
  obtain ⟨k, rfl, rfl, hm, K6, J6, G6⟩ := hrel
  by_cases hk : i + k < 76
  ·have hlt : decide ((i : Int) + (k : Int) < 76) = true := by simp; omega
   have hk0 : (0 : Int) ≤ (i : Int) + k := by omega
   have hk7 : (i : Int) + k ≤ 75 := by omega
   have HK := J hk; clear hk; go_upto_if 21 with (fail)
   go_cut [11] (fun v11 wc => v11 = .int .u64 (wd Y (i + k)) ∧ wr = wc)
   case first =>
    by_cases k3 : k < 3
    ·have aB : decide ((k : Int) < 3) = true := by simp; omega
     have hl3 : (k : Int) < 3 := by omega
     have hc : wr.cell? ⟨g5, k, none⟩ = some (.int .u64 (wd Y (i + k))) := by
      obtain ⟨y0, y1, y2, _⟩ := P.o; refine (zg J6.o k).trans ?_; have hk : k = 0 ∨ k = 1 ∨ k = 2 := by omega
      rcases hk with rfl | rfl | rfl
      ·rw [Nat.add_zero, y0]; rfl
      ·rw [y1]; rfl
      ·rw [y2]; rfl
     clear k3; rw [aB]; go_wp2_with fail; go_meet
     case rel => exact ⟨rfl, rfl⟩
    ·have aB : decide ((k : Int) < 3) = false := by simp; omega
     have K3 := J (show 3 ≤ k by omega); clear k3; rw [aB]
     by_cases hc : cya n Y (i + k) = 0
     ·have hcb : (cya n Y (i + k) == 0) = true := by rw [hc]; rfl
      have C0 := J hc; clear hc; go_wp2_with fail
      have hm6 : mixw Z n (i + k) = wds Z := by
       obtain ⟨y0, y1, y2, y3, bel, c0, ZB, hZ⟩ := P.o; refine mixw_above Z n (i + k) fun j hj => ?_
       unfold wd; rw [hZ, qd_add_done n Y (i + k) j (y3 k (by have := K3.o; omega)) C0.o hj]
      refine (fit_calls wr b Z (P.o.2.2.2.2.2.2.1.1) (P.o.2.2.2.2.2.2.1.2) (by rw [← hm6]; exact K6.o)).mono ?_; rintro e w7 ⟨rfl, h7, g7⟩; go_wp2_with fail; go_end0; exact ⟨rfl, h7, grown_grown G6.o g7⟩
     ·have hcb : (cya n Y (i + k) == 0) = false := beq_eq_false_iff_ne.mpr hc; clear hc; go_wp2_with fail; go_meet
      case rel =>
       refine ⟨?_, rfl⟩; obtain ⟨y0, y1, y2, y3, bel, c0, ZB, hZ⟩ := P.o; unfold wd; rw [y3 k (by have := K3.o; omega)]; rfl
   case rest =>
    obtain ⟨rfl, rfl⟩ := hcut
    have hw : ∀ w, (callFunc 84 #[.int .u64 (wd n (i + k)), .int .u64 (wd Y (i + k)), .int .u64 (cya n Y (i + k))]).run Try.prog w = .ok (.value (.tuple #[.int .u64 (wd Z (i + k)), .int .u64 (cya n Y (i + k + 1))])) w := by
     obtain ⟨y0, y1, y2, y3, bel, c0, ZB, hZ⟩ := P.o; rw [hZ]; exact add_word n Y (i + k)
    have hlt7 : (i : Int) + k < 76 := by omega
    have K7 := J (zA K6.o); have J7 := J (zA J6.o); have G7 := J (show w.grownBy wr.drew (some b) from ⟨G6.o.os, G6.o.tape, G6.o.output, G6.o.size, G6.o.block⟩); clear K6 J6 G6; go_wp2_with fail; have hcell : wr.drew.cell? ⟨b, i + k, none⟩ = some (.int .u64 (wd n (i + k))) := (zg K7.o (i + k)).trans (cellsW_get _ _ _ _ (mixw_get _ _ _ HK.o)); have hfro : wr.drew.frozen? ⟨b, i + k, none⟩ = false := zb K7.o (i + k); have hwr : IntKind.i64.wrap ((i : Int) + k) = (i : Int) + k := by rw [zat]; unfold wrap64; omega
    have htn : ((i : Int) + (k : Int)).toNat = i + k := by omega
    refine zaw (n := 23) (S := fun w' => w'.cell? ⟨b, i + k, none⟩ = some (.int .u64 (wd n (i + k)))) (ds := [21]) (bl_ 23 0) yK_ rfl rfl hcell (fun hHeld => ?_); refine zS putA.tab12 putA.bits12 (fun HT_ HW_ => ?_); generalize wr.drew = w9 at K7 J7 G7 hcell hfro hHeld ⊢; refine pu_ 0 ?_; refine pu_ 1 ?_; refine pu_ 2 ?_; refine pu_ 3 ?_; refine pu_ 4 ?_; refine pu_ 5 ?_; refine pu_ 6 ?_; refine pu_ 7 ?_; refine pu_ 8 ?_; refine pu_ 9 ?_; refine pu_ 10 ?_; refine pu_ 12 ?_; refine pu_ 13 ?_; refine pu_ 18 ?_; refine pu_ 19 ?_; refine tk_ 11 ?_; refine pu_ 14 ?_; refine pu_ 15 ?_; refine pu_ 16 ?_; refine pu_ 17 ?_; refine pu_ 20 ?_; refine last_ (i := 21) (N := none) (bl_ 23 4194303) rfl rfl (zaY HT_.o yK_) yD_ (fun K hK => ?_); refine skip_ (w1 := ?_) (by rfl) rfl ?_ ?_; rotate_left; (focus (go_simp; first | done | rfl)); refine hK.out _ _ ?_; clear hK K; refine pu_ 22 ?_; refine zaL (zad HT_.o yK_) ?_; clear hwr htn; go_wp2_with fail; go_roundg (gk - 1)
    case measure => have := hm.o; have := HK.o; omega
    case rel =>
     refine ⟨k + 1, by go_num, rfl, ⟨by have := hm.o; have := HK.o; omega⟩, ⟨?_⟩, ⟨?_⟩, ⟨?_⟩⟩
     ·have hs := zav K7.o (i + k) (.int .u64 (wd Z (i + k))); rw [cellsW_set _ _ _ _ (by rw [zbk]; exact HK.o), mixw_set _ _ _ HK.o] at hs; exact hs
     ·exact za1 J7.o (fun e => N5.o e.symm) _
     ·exact grown_set G7.o _ _
  ·have hlt : decide ((i : Int) + (k : Int) < 76) = false := by simp; omega
   have HK := J (show i + k = 76 by have := hm.o; omega); have hk7 : (i : Int) + k ≤ 76 := by have := HK.o; omega
   have hk8 : 76 ≤ (i : Int) + k := by omega
   clear hk; have aA := K6.o; rw [HK.o, mixw_all] at aA; have H76 := J aA; clear aA; go_wp2_with fail; refine (fit_calls wr b Z (P.o.2.2.2.2.2.2.1.1) (P.o.2.2.2.2.2.2.1.2) H76.o).mono ?_; rintro e w7 ⟨rfl, h7, g7⟩; go_wp2_with fail; go_end0; exact ⟨rfl, h7, grown_grown G6.o g7⟩
def putS.T11 : Bool × List (List Nat × List Nat) := (true, [([], []), ([], []), ([], []), ([1, 2], [1, 2]), ([], []), ([], []), ([], []), ([5, 6], [5, 6]), ([4], [4]), ([8], [8]), ([9, 7], [7, 9]), ([10], [10]), ([], []), ([], []), ([11, 12, 13], [11, 12, 13]), ([14], [14]), ([15], [15]), ([15], [15]), ([0], [0]), ([18], [18]), ([19, 3, 0, 1, 2, 3, 4, 5, 6, 7, 8, 9, 10, 11, 12, 13, 14, 15, 16], [3, 19]), ([20, 16, 14, 0, 1, 2, 3, 4, 5, 6, 7, 8, 9, 10, 11, 12, 13, 14, 15, 16], [16, 20]), ([17, 21, 0, 1, 2, 3, 4, 5, 6, 7, 8, 9, 10, 11, 12, 13, 14, 15, 16, 17, 18, 19, 20, 21], [13, 17])])
def putS.B11 : List Nat := [0, 0, 0, 6, 0, 0, 0, 96, 16, 272, 1008, 2032, 0, 0, 16368, 32752, 65520, 65520, 1, 262145, 917503, 1966079, 4194303]
theorem putS.tab11 : zbc .any (opsOf Try.f66 11) = putS.T11 := by kernel_rfl
theorem putS.bits11 : zal putS.T11.2 putS.B11 = true := by kernel_rfl
theorem putS_calls (w : World) (b : Nat) (n v0 v1 v2 at_ : Int) (i : Nat) (hn : zaS n < 2 ^ 4772) (a0 : 0 ≤ v0) (b0 : v0 < 18446744073709551616) (a1 : 0 ≤ v1) (b1 : v1 < 18446744073709551616) (a2 : 0 ≤ v2) (b2 : v2 < 18446744073709551616)
  (hat : at_ / 64 = i) (hat0 : 0 ≤ at_) (hat1 : at_ ≤ 4300) (hi : i ≤ 66) (hb : w.heap[b]? = some (.cells (zaR (wds n) false) 124 (0, 0))) :
  Calls Try.prog 66 #[.pointer (some ⟨b, 0, none⟩), .agg #[.int .u64 v0, .int .u64 v1, .int .u64 v2], .int .i64 at_, .bool true] w fun e w' =>
   e = .returned (.tuple #[]) ∧ w'.heap[b]? = some (.cells (zbf (normA (n - (v0 + v1 * 18446744073709551616 + v2 * 340282366920938463463374607431768211456) * 2 ^ (64 * i)))) 124 (0, 0)) ∧ w.grownBy w' (some b) := by
 obtain ⟨d0, d1, d2, D0, D3⟩ := words3 v0 v1 v2 a0 b0 a1 b1 a2 b2; generalize hD : v0 + v1 * 18446744073709551616 + v2 * 340282366920938463463374607431768211456 = D at *
 clear hD; obtain ⟨Y, hY⟩ : ∃ Y, Y = D * 2 ^ (64 * i) := ⟨_, rfl⟩
 obtain ⟨Z, hZ⟩ : ∃ Z, Z = n - Y := ⟨_, rfl⟩
 rw [← hY, ← hZ]; have y0 : wd Y i = v0 := by rw [hY]; exact (wd_from D i 0).trans d0
 have y1 : wd Y (i + 1) = v1 := by rw [hY]; exact (wd_from D i 1).trans d1
 have y2 : wd Y (i + 2) = v2 := by rw [hY]; exact (wd_from D i 2).trans d2
 have y3 : ∀ k, 3 ≤ k → qd Y (i + k) = 0 := fun k hk => by rw [hY, qd_from]; exact qd_small_after D 3 k D0 D3 hk
 have bel : ∀ j, j < i → wd Z j = wd n j := fun j hj => by rw [hZ, hY]; exact wd_sub_below n D i j hj
 have c0 : cys n Y i = 0 := by rw [hY]; exact cys_at n D i
 have ZZ := put_bounds n D Y i hn D0 D3 hi hY; have ZB : -2 ^ 4800 < Z ∧ Z < 2 ^ 4800 := by rw [hZ]; exact ⟨by omega, by omega⟩
 have P := J (And.intro y0 (And.intro y1 (And.intro y2 (And.intro y3 (And.intro bel (And.intro c0 (And.intro ZB hZ))))))); have HB := J hb; have HI := J hi; have HV := J (And.intro b0 (And.intro b1 b2)); clear y0 y1 y2 y3 bel c0 ZZ ZB hZ hY D0 D3 d0 d1 d2 hb hn D b0 b1 b2; have hq : at_ / 64 = (i : Int) := hat; clear hat; go_enter Try.func66, Try.ntmps66
 go_wp2_with (first
  | ((with_reducible refine zf (N := 5) rfl ?_); refine zah 5 (cs := #[.int .u64 v0, .int .u64 v1, .int .u64 v2]) (t := 129) ?_; intro g5 hg5 w5 hw5 hb5; have B5 := J hb5; have K5 := J hw5; have N5 := J (show b ≠ g5 by have := zac HB.o; omega); clear hg5 hw5 hb5)
  | fail)
 go_loopg [9, 10] (76 - i) (fun m v9 v10 wr => ∃ k : Nat, v10 = .int .i64 k ∧ v9 = .int .u64 (cys n Y (i + k)) ∧ ze (m + (i + k) = 76) ∧ ze (wr.heap[b]? = some (.cells (zaR (mixw Z n (i + k)) false) 124 (0, 0))) ∧ ze (wr.heap[g5]? = some (.cells #[.int .u64 v0, .int .u64 v1, .int .u64 v2] 129 (0, 0))) ∧ ze (w.grownBy wr (some b)))
 case atStart =>
  obtain ⟨y0, y1, y2, y3, bel, c0, ZB, hZ⟩ := P.o; refine ⟨0, rfl, by rw [Nat.add_zero, c0], ⟨by have := HI.o; omega⟩, ⟨?_⟩, K5, ⟨grown_of_below B5.o _⟩⟩; rw [Nat.add_zero, mixw_below Z n i bel]; exact (B5.o.block b (zac HB.o)).trans HB.o
 case round =>
  obtain ⟨k, rfl, rfl, hm, K6, J6, G6⟩ := hrel
  by_cases hk : i + k < 76
  ·have hlt : decide ((i : Int) + (k : Int) < 76) = true := by simp; omega
   have hk0 : (0 : Int) ≤ (i : Int) + k := by omega
   have hk7 : (i : Int) + k ≤ 75 := by omega
   have HK := J hk; clear hk; go_upto_if 21 with (fail)
   go_cut [11] (fun v11 wc => v11 = .int .u64 (wd Y (i + k)) ∧ wr = wc)
   case first =>
    by_cases k3 : k < 3
    ·have aB : decide ((k : Int) < 3) = true := by simp; omega
     have hl3 : (k : Int) < 3 := by omega
     have hc : wr.cell? ⟨g5, k, none⟩ = some (.int .u64 (wd Y (i + k))) := by
      obtain ⟨y0, y1, y2, _⟩ := P.o; refine (zg J6.o k).trans ?_; have hk : k = 0 ∨ k = 1 ∨ k = 2 := by omega
      rcases hk with rfl | rfl | rfl
      ·rw [Nat.add_zero, y0]; rfl
      ·rw [y1]; rfl
      ·rw [y2]; rfl
     clear k3; rw [aB]; go_wp2_with fail; go_meet
     case rel => exact ⟨rfl, rfl⟩
    ·have aB : decide ((k : Int) < 3) = false := by simp; omega
     have K3 := J (show 3 ≤ k by omega); clear k3; rw [aB]
     by_cases hc : cys n Y (i + k) = 0
     ·have hcb : (cys n Y (i + k) == 0) = true := by rw [hc]; rfl
      have C0 := J hc; clear hc; go_wp2_with fail
      have hm6 : mixw Z n (i + k) = wds Z := by
       obtain ⟨y0, y1, y2, y3, bel, c0, ZB, hZ⟩ := P.o; refine mixw_above Z n (i + k) fun j hj => ?_
       unfold wd; rw [hZ, qd_sub_done n Y (i + k) j (y3 k (by have := K3.o; omega)) C0.o hj]
      refine (fit_calls wr b Z (P.o.2.2.2.2.2.2.1.1) (P.o.2.2.2.2.2.2.1.2) (by rw [← hm6]; exact K6.o)).mono ?_; rintro e w7 ⟨rfl, h7, g7⟩; go_wp2_with fail; go_end0; exact ⟨rfl, h7, grown_grown G6.o g7⟩
     ·have hcb : (cys n Y (i + k) == 0) = false := beq_eq_false_iff_ne.mpr hc; clear hc; go_wp2_with fail; go_meet
      case rel =>
       refine ⟨?_, rfl⟩; obtain ⟨y0, y1, y2, y3, bel, c0, ZB, hZ⟩ := P.o; unfold wd; rw [y3 k (by have := K3.o; omega)]; rfl
   case rest =>
    obtain ⟨rfl, rfl⟩ := hcut
    have hw : ∀ w, (callFunc 67 #[.int .u64 (wd n (i + k)), .int .u64 (wd Y (i + k)), .int .u64 (cys n Y (i + k))]).run Try.prog w = .ok (.value (.tuple #[.int .u64 (wd Z (i + k)), .int .u64 (cys n Y (i + k + 1))])) w := by
     obtain ⟨y0, y1, y2, y3, bel, c0, ZB, hZ⟩ := P.o; rw [hZ]; exact sub_word n Y (i + k)
    have hlt7 : (i : Int) + k < 76 := by omega
    have K7 := J (zA K6.o); have J7 := J (zA J6.o); have G7 := J (show w.grownBy wr.drew (some b) from ⟨G6.o.os, G6.o.tape, G6.o.output, G6.o.size, G6.o.block⟩); clear K6 J6 G6; go_wp2_with fail; have hcell : wr.drew.cell? ⟨b, i + k, none⟩ = some (.int .u64 (wd n (i + k))) := (zg K7.o (i + k)).trans (cellsW_get _ _ _ _ (mixw_get _ _ _ HK.o)); have hfro : wr.drew.frozen? ⟨b, i + k, none⟩ = false := zb K7.o (i + k); have hwr : IntKind.i64.wrap ((i : Int) + k) = (i : Int) + k := by rw [zat]; unfold wrap64; omega
    have htn : ((i : Int) + (k : Int)).toNat = i + k := by omega
    refine zaw (n := 23) (S := fun w' => w'.cell? ⟨b, i + k, none⟩ = some (.int .u64 (wd n (i + k)))) (ds := [21]) (bl_ 23 0) yK_ rfl rfl hcell (fun hHeld => ?_); refine zS putS.tab11 putS.bits11 (fun HT_ HW_ => ?_); generalize wr.drew = w9 at K7 J7 G7 hcell hfro hHeld ⊢; refine pu_ 0 ?_; refine pu_ 1 ?_; refine pu_ 2 ?_; refine pu_ 3 ?_; refine pu_ 4 ?_; refine pu_ 5 ?_; refine pu_ 6 ?_; refine pu_ 7 ?_; refine pu_ 8 ?_; refine pu_ 9 ?_; refine pu_ 10 ?_; refine pu_ 12 ?_; refine pu_ 13 ?_; refine pu_ 18 ?_; refine pu_ 19 ?_; refine tk_ 11 ?_; refine pu_ 14 ?_; refine pu_ 15 ?_; refine pu_ 16 ?_; refine pu_ 17 ?_; refine pu_ 20 ?_; refine last_ (i := 21) (N := none) (bl_ 23 4194303) rfl rfl (zaY HT_.o yK_) yD_ (fun K hK => ?_); refine skip_ (w1 := ?_) (by rfl) rfl ?_ ?_; rotate_left; (focus (go_simp; first | done | rfl)); refine hK.out _ _ ?_; clear hK K; refine pu_ 22 ?_; refine zaL (zad HT_.o yK_) ?_; clear hwr htn; go_wp2_with fail; go_roundg (gk - 1)
    case measure => have := hm.o; have := HK.o; omega
    case rel =>
     refine ⟨k + 1, by go_num, rfl, ⟨by have := hm.o; have := HK.o; omega⟩, ⟨?_⟩, ⟨?_⟩, ⟨?_⟩⟩
     ·have hs := zav K7.o (i + k) (.int .u64 (wd Z (i + k))); rw [cellsW_set _ _ _ _ (by rw [zbk]; exact HK.o), mixw_set _ _ _ HK.o] at hs; exact hs
     ·exact za1 J7.o (fun e => N5.o e.symm) _
     ·exact grown_set G7.o _ _
  ·have hlt : decide ((i : Int) + (k : Int) < 76) = false := by simp; omega
   have HK := J (show i + k = 76 by have := hm.o; omega); have hk7 : (i : Int) + k ≤ 76 := by have := HK.o; omega
   have hk8 : 76 ≤ (i : Int) + k := by omega
   clear hk; have aA := K6.o; rw [HK.o, mixw_all] at aA; have H76 := J aA; clear aA; go_wp2_with fail; refine (fit_calls wr b Z (P.o.2.2.2.2.2.2.1.1) (P.o.2.2.2.2.2.2.1.2) H76.o).mono ?_; rintro e w7 ⟨rfl, h7, g7⟩; go_wp2_with fail; go_end0; exact ⟨rfl, h7, grown_grown G6.o g7⟩
end Go.Proofs.Ytlidbaejhmamjaa.AC
namespace Go.Proofs.Ytlidbaejhmamjaa.PB
open Go.RowKit YtlidbaejhmamjaaW.PrintWords YtlidbaejhmamjaaW.PrintLast YtlidbaejhmamjaaW.PrintMore
attribute [local go_sem] zao zaq zaB zaC zae zaf zap zar   -- for this text's walks alone
def bits_Mul64.f (a0 : Int) (a1 : Int) : Option (Int × Int) := some (IntKind.u64.wrap ((IntKind.u64.wrap ((IntKind.u64.wrap ((a0 / 4294967296) * (a1 / 4294967296))) + ((IntKind.u64.wrap ((IntKind.u64.wrap ((a0 / 4294967296) * (Go.bits .and .u64 a1 4294967295))) + ((IntKind.u64.wrap ((Go.bits .and .u64 a0 4294967295) * (Go.bits .and .u64 a1 4294967295))) / 4294967296))) / 4294967296))) + ((IntKind.u64.wrap ((Go.bits .and .u64 (IntKind.u64.wrap ((IntKind.u64.wrap ((a0 / 4294967296) * (Go.bits .and .u64 a1 4294967295))) + ((IntKind.u64.wrap ((Go.bits .and .u64 a0 4294967295) * (Go.bits .and .u64 a1 4294967295))) / 4294967296))) 4294967295) + (IntKind.u64.wrap ((Go.bits .and .u64 a0 4294967295) * (a1 / 4294967296))))) / 4294967296)), IntKind.u64.wrap (a0 * a1))
theorem bits_Mul64.calls (a0 : Int) (a1 : Int) (r1 : Int) (r2 : Int) (w : World) (h : bits_Mul64.f a0 a1 = some (r1, r2)) :
  Calls Try.prog 65 #[.int .u64 a0, .int .u64 a1] w fun e w' => e = .returned (.tuple #[.int .u64 r1, .int .u64 r2]) ∧ zag w w' := by
 have H : (some (IntKind.u64.wrap ((IntKind.u64.wrap ((IntKind.u64.wrap ((a0 / 4294967296) * (a1 / 4294967296))) + ((IntKind.u64.wrap ((IntKind.u64.wrap ((a0 / 4294967296) * (Go.bits .and .u64 a1 4294967295))) + ((IntKind.u64.wrap ((Go.bits .and .u64 a0 4294967295) * (Go.bits .and .u64 a1 4294967295))) / 4294967296))) / 4294967296))) + ((IntKind.u64.wrap ((Go.bits .and .u64 (IntKind.u64.wrap ((IntKind.u64.wrap ((a0 / 4294967296) * (Go.bits .and .u64 a1 4294967295))) + ((IntKind.u64.wrap ((Go.bits .and .u64 a0 4294967295) * (Go.bits .and .u64 a1 4294967295))) / 4294967296))) 4294967295) + (IntKind.u64.wrap ((Go.bits .and .u64 a0 4294967295) * (a1 / 4294967296))))) / 4294967296)), IntKind.u64.wrap (a0 * a1))) = some (r1, r2) := h; clear h; simp only [Option.some.injEq, Prod.mk.injEq] at H; obtain ⟨rfl, rfl⟩ := H; go_enter Try.func65, Try.ntmps65; go_wp2; go_ret2; exact ⟨rs_, by repeat (first | exact zag.refl _ | apply zag.step)⟩
end Go.Proofs.Ytlidbaejhmamjaa.PB
namespace Go.Proofs.Ytlidbaejhmamjaa.AC
open Go.RowKit YtlidbaejhmamjaaW.PrintWords YtlidbaejhmamjaaW.PrintLast YtlidbaejhmamjaaW.PrintMore
theorem mul_parts (p q r s : Int) (hp : 0 ≤ p) (hq : 0 ≤ q) (hr : 0 ≤ r) (hs : 0 ≤ s) (hp' : p ≤ 18446744065119617025) (hq' : q ≤ 18446744065119617025) (hr' : r ≤ 18446744065119617025) (hs' : s ≤ 18446744065119617025) :
  (((s % 18446744073709551616) + (((q % 18446744073709551616) + (p % 18446744073709551616) / 4294967296) % 18446744073709551616) / 4294967296) % 18446744073709551616
   + ((((((q % 18446744073709551616) + (p % 18446744073709551616) / 4294967296) % 18446744073709551616) % 4294967296) + r % 18446744073709551616) % 18446744073709551616) / 4294967296) % 18446744073709551616
  = (s * 18446744073709551616 + (q + r) * 4294967296 + p) / 18446744073709551616 := by omega
theorem and_32 (x : Int) (h0 : 0 ≤ x) (h1 : x < 2 ^ 64) : bits .and .u64 x 4294967295 = x % 4294967296 := bits_mask .u64 64 yD_ wraps_u64 32 yD_ x h0 h1
theorem half_mul {a b : Int} (a0 : 0 ≤ a) (a1 : a ≤ 4294967295) (b0 : 0 ≤ b) (b1 : b ≤ 4294967295) : 0 ≤ a * b ∧ a * b ≤ 18446744065119617025 :=
 ⟨Int.mul_nonneg a0 b0, Int.le_trans (Int.mul_le_mul a1 b1 b0 yD_) yD_⟩
theorem mul64 (a b : Int) (a0 : 0 ≤ a) (a1 : a < 18446744073709551616) (b0 : 0 ≤ b) (b1 : b < 18446744073709551616) :
  PB.bits_Mul64.f a b = some (a * b / 18446744073709551616, a * b % 18446744073709551616) := by
 have hp : (2 : Int) ^ 64 = 18446744073709551616 := by decide
 unfold PB.bits_Mul64.f; rw [and_32 a a0 yO_, and_32 b b0 yO_]; simp only [IntKind.wrap_u64]; obtain ⟨x1, x0, hx1, hx0, ea⟩ : ∃ x1 x0 : Int, x1 = a / 4294967296 ∧ x0 = a % 4294967296 ∧ a = x1 * 4294967296 + x0 := ⟨_, _, rfl, rfl, by omega⟩
 obtain ⟨y1, y0, hy1, hy0, eb⟩ : ∃ y1 y0 : Int, y1 = b / 4294967296 ∧ y0 = b % 4294967296 ∧ b = y1 * 4294967296 + y0 := ⟨_, _, rfl, rfl, by omega⟩
 have p := half_mul (a := x0) (b := y0) yO_ yO_ yO_ yO_; have q := half_mul (a := x1) (b := y0) yO_ yO_ yO_ yO_; have r := half_mul (a := x0) (b := y1) yO_ yO_ yO_ yO_; have s := half_mul (a := x1) (b := y1) yO_ yO_ yO_ yO_; rw [← hx1, ← hx0, ← hy1, ← hy0]
 have eab : a * b = x1 * y1 * 18446744073709551616 + (x1 * y0 + x0 * y1) * 4294967296 + x0 * y0 := by
  rw [ea, eb]; simp only [Int.add_mul, Int.mul_add]
  rw [show x1 * 4294967296 * (y1 * 4294967296) = x1 * y1 * 18446744073709551616 from by
   rw [Int.mul_assoc, Int.mul_left_comm 4294967296, ← Int.mul_assoc]; rfl, show x1 * 4294967296 * y0 = x1 * y0 * 4294967296 from by rw [Int.mul_right_comm], ← Int.mul_assoc x0 y1]
  omega
 have h := mul_parts (x0 * y0) (x1 * y0) (x0 * y1) (x1 * y1) p.1 q.1 r.1 s.1 p.2 q.2 r.2 s.2; rw [eab, ← h, and_32 _ yO_ yO_]
def fo (u : Nat) : Bool := (fnum u).isSome
def fs (u : Nat) : Bool := match fnum u with | some (s, _, _) => s | none => false
def fm (u : Nat) : Nat := match fnum u with | some (_, m, _) => m | none => 0
def fe (u : Nat) : Int := match fnum u with | some (_, _, e) => e | none => 0
theorem splitRes_parts (u : Nat) : splitRes (fnum u) = .tuple #[.bool (fs u), .int .u64 (fm u), .int .i64 (fe u), .bool (fo u)] := by
 unfold fo fs fm fe
 cases fnum u with
 | none => rfl
 | some r => obtain ⟨s, m, e⟩ := r; rfl
theorem fm_hi (u : Nat) : fm u < 9007199254740992 := by
 unfold fm fnum
 split
 ·rename_i h
  split at h
  ·cases h
  ·split at h <;> (cases h; omega)
 ·decide
theorem fe_in (u : Nat) : -1074 ≤ fe u ∧ fe u ≤ 971 := by
 unfold fe fnum
 split
 ·rename_i h
  split at h
  ·cases h
  ·split at h <;> (cases h; omega)
 ·decide
theorem za4 (u : Nat) (hu : u < 2 ^ 64) (w : World) : Calls Try.prog 64 #[.float .f64 u] w fun e w' => e = .returned (.tuple #[.bool (fs u), .int .u64 (fm u), .int .i64 (fe u), .bool (fo u)]) ∧ w = w' :=
 (split_calls u hu w).mono fun e w' h => ⟨by rw [h.1, splitRes_parts], h.2⟩
def prodV (v : Option Int) (x y : Nat) (n : Int) : Option Int :=
 match v with
 | none => none
 | some a => if (fo x && fo y && decide (-64 ≤ n) && decide (n ≤ 64)) = true then
   normA (if (fs x != fs y) = true then a - (fm x : Int) * fm y * 2 ^ (fe x + fe y + n + 2212).toNat else a + (fm x : Int) * fm y * 2 ^ (fe x + fe y + n + 2212).toNat) else none
def accOk : Option Int → Prop
 | none => True
 | some a => zaS a < 2 ^ 4772
theorem normA_ok (n : Int) : accOk (normA n) := by
 unfold normA
 split
 ·assumption
 ·trivial
theorem prodV_ok (v : Option Int) (x y : Nat) (n : Int) : accOk (prodV v x y n) := by
 unfold prodV
 split
 ·trivial
 ·split
  ·exact normA_ok _
  ·trivial
theorem zbg (v : Option Int) : (zbf v)[76]? = some (.bool v.isNone) := by
 cases v with
 | none => exact cellsW_bad _ _ (by simp)
 | some n => exact cellsW_bad _ _ (zak n)
theorem zaV (v : Option Int) : (zbf v).size = 77 := by
 cases v with
 | none => unfold zbf; rw [cellsW_size]; rfl
 | some n => unfold zbf; rw [cellsW_size, zak]
theorem info124v (v : Option Int) : (Try.prog.info? 124).map (·.size) = some (zbf v).size := by rw [info124, zaV]
theorem accW_one (v : Option Int) : (zbf v).all (·.oneCell') = true := by
 cases v with
 | none => exact cellsW_one _ _
 | some n => exact cellsW_one _ _
theorem prodV_good (a : Int) (x y : Nat) (n : Int) (h2 : fo x = true) (h3 : fo y = true) (m0 : -64 ≤ n) (m1 : n ≤ 64) :
  prodV (some a) x y n = normA (if (fs x != fs y) = true then a - (fm x : Int) * fm y * 2 ^ (fe x + fe y + n + 2212).toNat else a + (fm x : Int) * fm y * 2 ^ (fe x + fe y + n + 2212).toNat) := by
 have e : (fo x && fo y && decide (-64 ≤ n) && decide (n ≤ 64)) = true := by simp [h2, h3, m0, m1]
 show (if (fo x && fo y && decide (-64 ≤ n) && decide (n ≤ 64)) = true then _ else _) = _
 rw [if_pos e]
/-- A word, moved up by less than a word: what stays and what goes over. -/
theorem shift_one (x P Q : Int) (hP : 0 < P) (hQ : 0 < Q) (hPQ : P * Q = 18446744073709551616) (h0 : 0 ≤ x) :
  x * P % 18446744073709551616 = x % Q * P ∧ x * P / 18446744073709551616 = x / Q := by
 have e1 : Q * (x / Q) + x % Q = x := Int.mul_ediv_add_emod x Q; have e2 := Int.emod_nonneg x (show Q ≠ 0 by omega); have e3 := Int.emod_lt_of_pos x hQ
 have e4 : x * P = 18446744073709551616 * (x / Q) + x % Q * P := by
  rw [← hPQ]
  calc x * P = (Q * (x / Q) + x % Q) * P := by rw [e1]
   _ = _ := by rw [Int.add_mul, Int.mul_comm (Q * (x / Q)), ← Int.mul_assoc]
 have e5 : 0 ≤ x % Q * P := Int.mul_nonneg e2 (Int.le_of_lt hP)
 have e6 : x % Q * P < 18446744073709551616 := by
  rw [← hPQ, Int.mul_comm P Q]; exact Int.mul_lt_mul_of_pos_right e3 hP
 generalize x % Q * P = m at *
 generalize x / Q = d at *
 generalize x * P = z at *
 omega
theorem shift_all (mx my : Nat) (at_ r hi lo v0 p1 q1 v1 v2 : Int) (hx : mx < 9007199254740992) (hy : my < 9007199254740992) (r0 : 0 ≤ r) (r1 : r ≤ 63) (at0 : 0 ≤ at_) (hr : at_ % 64 = r)
  (hhi : (mx : Int) * my / 18446744073709551616 = hi) (hlo : (mx : Int) * my % 18446744073709551616 = lo)
  (hV : IntKind.u64.wrap (lo * 2 ^ r.toNat) = v0 ∧ IntKind.u64.wrap (hi * 2 ^ r.toNat) = p1 ∧ lo / 2 ^ (64 - r).toNat = q1 ∧ bits .or .u64 p1 q1 = v1 ∧ hi / 2 ^ (64 - r).toNat = v2) :
  0 ≤ v0 ∧ v0 < 18446744073709551616 ∧ 0 ≤ v1 ∧ v1 < 18446744073709551616 ∧ 0 ≤ v2 ∧ v2 < 18446744073709551616 ∧
   (v0 + v1 * 18446744073709551616 + v2 * 340282366920938463463374607431768211456) * 2 ^ (64 * (at_ / 64).toNat) = (mx : Int) * my * 2 ^ at_.toNat := by
 obtain ⟨aG, aC, aE, hv1, aH⟩ := hV; have aA : (2 : Int) ^ 64 = 18446744073709551616 := by decide
 have hprod : 0 ≤ (mx : Int) * my ∧ (mx : Int) * my < 81129638414606681695789005144064 := by
  refine ⟨Int.mul_nonneg yO_ yO_, ?_⟩; have := Int.mul_le_mul (show (mx : Int) ≤ 9007199254740991 by omega) (show (my : Int) ≤ 9007199254740991 by omega) yO_ yD_
  omega
 generalize (mx : Int) * my = M at *
 have lo0 : 0 ≤ lo := by omega
 have lo1 : lo < 18446744073709551616 := by omega
 have aI : 0 ≤ hi := by omega
 have hM : M = hi * 18446744073709551616 + lo := by omega
 obtain ⟨P, hP⟩ : ∃ P, P = (2 : Int) ^ r.toNat := ⟨_, rfl⟩
 obtain ⟨Q, hQ⟩ : ∃ Q, Q = (2 : Int) ^ (64 - r).toNat := ⟨_, rfl⟩
 have aD : 0 < P := by rw [hP]; exact zY _
 have aB : 0 < Q := by rw [hQ]; exact zY _
 have hPQ : P * Q = 18446744073709551616 := by
  rw [hP, hQ, ← Int.pow_add, show r.toNat + (64 - r).toNat = 64 from by omega]; exact aA
 obtain ⟨a1, a2⟩ := shift_one lo P Q aD aB hPQ lo0; obtain ⟨c1, c2⟩ := shift_one hi P Q aD aB hPQ aI; rw [IntKind.wrap_u64, ← hP] at aG aC; rw [← hQ] at aE aH; have l1 := Int.emod_nonneg hi (show Q ≠ 0 by omega); have l2 := Int.emod_lt_of_pos hi aB; have l3 := Int.mul_ediv_add_emod hi Q; have q10 : 0 ≤ q1 := by rw [← aE]; exact Int.ediv_nonneg lo0 (Int.le_of_lt aB)
 have q11 : q1 < P := by
  rw [← aE]; refine Int.ediv_lt_of_lt_mul aB ?_; rw [hPQ]; exact lo1
 have p10 : 0 ≤ p1 := by rw [← aC]; exact Int.emod_nonneg _ yD_
 have p11 : p1 < 18446744073709551616 := by rw [← aC]; exact Int.emod_lt_of_pos _ yD_
 have p12 : p1 % P = 0 := by rw [← aC, c1]; exact Int.mul_emod_left _ _
 have hle : P ≤ 18446744073709551616 := by
  have h1 : P * 1 ≤ P * Q := Int.mul_le_mul_of_nonneg_left yO_ (Int.le_of_lt aD)
  omega
 have ev1 : v1 = p1 + q1 := by
  rw [← hv1]; exact bits_join .u64 64 yD_ wraps_u64 r.toNat p1 q1 p10 (by rw [← hP]; exact p12) (by rw [aA]; exact p11) q10 (by rw [← hP]; exact q11) (by rw [aA]; omega)
 have v11 : v1 < 18446744073709551616 := by
  have h1 : p1 + P ≤ 18446744073709551616 := by
   rw [← aC, c1, ← hPQ, Int.mul_comm P Q]; have : hi % Q * P + P = (hi % Q + 1) * P := by rw [Int.add_mul, Int.one_mul]
   rw [this]; exact Int.mul_le_mul_of_nonneg_right yO_ (Int.le_of_lt aD)
  omega
 have v20 : 0 ≤ v2 := by rw [← aH]; exact Int.ediv_nonneg aI (Int.le_of_lt aB)
 have v21 : v2 < 18446744073709551616 := by
  rw [← aH]; exact Int.lt_of_le_of_lt (Int.ediv_le_self _ aI) yO_
 refine ⟨by rw [← aG]; exact Int.emod_nonneg _ yD_, by rw [← aG]; exact Int.emod_lt_of_pos _ yD_, by omega, v11, v20, v21, ?_⟩
 have eD : v0 + v1 * 18446744073709551616 + v2 * 340282366920938463463374607431768211456 = M * P := by
  have f1 : lo * P = 18446744073709551616 * q1 + v0 := by
   have := Int.mul_ediv_add_emod (lo * P) 18446744073709551616; rw [a2, aE, aG] at this; omega
  have f2 : hi * P = 18446744073709551616 * v2 + p1 := by
   have := Int.mul_ediv_add_emod (hi * P) 18446744073709551616; rw [c2, aH, aC] at this; omega
  have f3 : M * P = hi * P * 18446744073709551616 + lo * P := by
   rw [hM, Int.add_mul, Int.mul_right_comm]
  rw [f3, f1, f2, ev1]
  omega
 rw [eD, hP, Int.mul_assoc, ← Int.pow_add]
 congr 2
 omega
theorem prod_bad_v (w : World) (b : Nat) (v : Option Int) (x y : Nat) (n : Int) (hx : x < 2 ^ 64) (hy : y < 2 ^ 64) (hb : w.heap[b]? = some (.cells (zbf v) 124 (0, 0))) (h1 : v.isNone = true) :
  Calls Try.prog 43 #[.pointer (some ⟨b, 0, none⟩), .float .f64 x, .float .f64 y, .int .i64 n] w fun e w' => e = .returned (.tuple #[]) ∧ w'.heap[b]? = some (.cells (zbf none) 124 (0, 0)) ∧ w.grownBy w' (some b) := by
 have hc : w.cell? ⟨b, 76, none⟩ = some (.bool v.isNone) := (zg hb 76).trans (zbg v); have HB := J hb; clear hb; go_enter Try.func43, Try.ntmps43; go_wp2_with fail; refine (za4 x hx w).mono ?_; rintro e w1 ⟨rfl, rfl⟩; go_wp2_with fail; refine (za4 y hy w).mono ?_; rintro e w1 ⟨rfl, rfl⟩
 go_wp2_with (first
  | ((with_reducible refine zf (N := 56) rfl ?_); refine val_event rfl (v := .agg (zbf none)) (w1 := w) ?hr ?_; (case hr => kernel_rfl); have T56 : True := trivial)
  | ((with_reducible refine zj (t := 124) (p := 57) rfl ?_); refine zi rfl 124 rfl rfl b (zbf none) rfl rfl 124 _ HB.o (info124v _) (by rw [zaV, zaV]) (accW_one _) ?_; intro w4 hw4 hg4; have K4 := J hw4; have G4 := J hg4; clear hw4 hg4)
  | fail)
 (try simp only [Exit.inBlock, Exit.then])
 exact bodyPost_ret (results_none rfl _ _ _) rfl ⟨rfl, K4.o, G4.o⟩
theorem prod_bad_x (w : World) (b : Nat) (v : Option Int) (x y : Nat) (n : Int) (hx : x < 2 ^ 64) (hy : y < 2 ^ 64) (hb : w.heap[b]? = some (.cells (zbf v) 124 (0, 0))) (h1 : v.isNone = false) (h2 : fo x = false) :
  Calls Try.prog 43 #[.pointer (some ⟨b, 0, none⟩), .float .f64 x, .float .f64 y, .int .i64 n] w fun e w' => e = .returned (.tuple #[]) ∧ w'.heap[b]? = some (.cells (zbf none) 124 (0, 0)) ∧ w.grownBy w' (some b) := by
 have hc : w.cell? ⟨b, 76, none⟩ = some (.bool v.isNone) := (zg hb 76).trans (zbg v); have HB := J hb; clear hb; go_enter Try.func43, Try.ntmps43; go_wp2_with fail; refine (za4 x hx w).mono ?_; rintro e w1 ⟨rfl, rfl⟩; go_wp2_with fail; refine (za4 y hy w).mono ?_; rintro e w1 ⟨rfl, rfl⟩
 go_wp2_with (first
  | ((with_reducible refine zf (N := 56) rfl ?_); refine val_event rfl (v := .agg (zbf none)) (w1 := w) ?hr ?_; (case hr => kernel_rfl); have T56 : True := trivial)
  | ((with_reducible refine zj (t := 124) (p := 57) rfl ?_); refine zi rfl 124 rfl rfl b (zbf none) rfl rfl 124 _ HB.o (info124v _) (by rw [zaV, zaV]) (accW_one _) ?_; intro w4 hw4 hg4; have K4 := J hw4; have G4 := J hg4; clear hw4 hg4)
  | fail)
 (try simp only [Exit.inBlock, Exit.then])
 exact bodyPost_ret (results_none rfl _ _ _) rfl ⟨rfl, K4.o, G4.o⟩
theorem prod_bad_y (w : World) (b : Nat) (v : Option Int) (x y : Nat) (n : Int) (hx : x < 2 ^ 64) (hy : y < 2 ^ 64) (hb : w.heap[b]? = some (.cells (zbf v) 124 (0, 0))) (h1 : v.isNone = false) (h2 : fo x = true) (h3 : fo y = false) :
  Calls Try.prog 43 #[.pointer (some ⟨b, 0, none⟩), .float .f64 x, .float .f64 y, .int .i64 n] w fun e w' => e = .returned (.tuple #[]) ∧ w'.heap[b]? = some (.cells (zbf none) 124 (0, 0)) ∧ w.grownBy w' (some b) := by
 have hc : w.cell? ⟨b, 76, none⟩ = some (.bool v.isNone) := (zg hb 76).trans (zbg v); have HB := J hb; clear hb; go_enter Try.func43, Try.ntmps43; go_wp2_with fail; refine (za4 x hx w).mono ?_; rintro e w1 ⟨rfl, rfl⟩; go_wp2_with fail; refine (za4 y hy w).mono ?_; rintro e w1 ⟨rfl, rfl⟩
 go_wp2_with (first
  | ((with_reducible refine zf (N := 56) rfl ?_); refine val_event rfl (v := .agg (zbf none)) (w1 := w) ?hr ?_; (case hr => kernel_rfl); have T56 : True := trivial)
  | ((with_reducible refine zj (t := 124) (p := 57) rfl ?_); refine zi rfl 124 rfl rfl b (zbf none) rfl rfl 124 _ HB.o (info124v _) (by rw [zaV, zaV]) (accW_one _) ?_; intro w4 hw4 hg4; have K4 := J hw4; have G4 := J hg4; clear hw4 hg4)
  | fail)
 (try simp only [Exit.inBlock, Exit.then])
 exact bodyPost_ret (results_none rfl _ _ _) rfl ⟨rfl, K4.o, G4.o⟩
theorem prod_bad_lo (w : World) (b : Nat) (v : Option Int) (x y : Nat) (n : Int) (hx : x < 2 ^ 64) (hy : y < 2 ^ 64) (hb : w.heap[b]? = some (.cells (zbf v) 124 (0, 0))) (h1 : v.isNone = false) (h2 : fo x = true) (h3 : fo y = true) (h4 : decide (n < -64) = true) :
  Calls Try.prog 43 #[.pointer (some ⟨b, 0, none⟩), .float .f64 x, .float .f64 y, .int .i64 n] w fun e w' => e = .returned (.tuple #[]) ∧ w'.heap[b]? = some (.cells (zbf none) 124 (0, 0)) ∧ w.grownBy w' (some b) := by
 have hc : w.cell? ⟨b, 76, none⟩ = some (.bool v.isNone) := (zg hb 76).trans (zbg v); have HB := J hb; clear hb; go_enter Try.func43, Try.ntmps43; go_wp2_with fail; refine (za4 x hx w).mono ?_; rintro e w1 ⟨rfl, rfl⟩; go_wp2_with fail; refine (za4 y hy w).mono ?_; rintro e w1 ⟨rfl, rfl⟩
 go_wp2_with (first
  | ((with_reducible refine zf (N := 56) rfl ?_); refine val_event rfl (v := .agg (zbf none)) (w1 := w) ?hr ?_; (case hr => kernel_rfl); have T56 : True := trivial)
  | ((with_reducible refine zj (t := 124) (p := 57) rfl ?_); refine zi rfl 124 rfl rfl b (zbf none) rfl rfl 124 _ HB.o (info124v _) (by rw [zaV, zaV]) (accW_one _) ?_; intro w4 hw4 hg4; have K4 := J hw4; have G4 := J hg4; clear hw4 hg4)
  | fail)
 (try simp only [Exit.inBlock, Exit.then])
 exact bodyPost_ret (results_none rfl _ _ _) rfl ⟨rfl, K4.o, G4.o⟩
theorem prod_bad_hi (w : World) (b : Nat) (v : Option Int) (x y : Nat) (n : Int) (hx : x < 2 ^ 64) (hy : y < 2 ^ 64) (hb : w.heap[b]? = some (.cells (zbf v) 124 (0, 0))) (h1 : v.isNone = false) (h2 : fo x = true) (h3 : fo y = true) (h4 : decide (n < -64) = false) (h5 : decide (64 < n) = true) :
  Calls Try.prog 43 #[.pointer (some ⟨b, 0, none⟩), .float .f64 x, .float .f64 y, .int .i64 n] w fun e w' => e = .returned (.tuple #[]) ∧ w'.heap[b]? = some (.cells (zbf none) 124 (0, 0)) ∧ w.grownBy w' (some b) := by
 have hc : w.cell? ⟨b, 76, none⟩ = some (.bool v.isNone) := (zg hb 76).trans (zbg v); have HB := J hb; clear hb; go_enter Try.func43, Try.ntmps43; go_wp2_with fail; refine (za4 x hx w).mono ?_; rintro e w1 ⟨rfl, rfl⟩; go_wp2_with fail; refine (za4 y hy w).mono ?_; rintro e w1 ⟨rfl, rfl⟩
 go_wp2_with (first
  | ((with_reducible refine zf (N := 56) rfl ?_); refine val_event rfl (v := .agg (zbf none)) (w1 := w) ?hr ?_; (case hr => kernel_rfl); have T56 : True := trivial)
  | ((with_reducible refine zj (t := 124) (p := 57) rfl ?_); refine zi rfl 124 rfl rfl b (zbf none) rfl rfl 124 _ HB.o (info124v _) (by rw [zaV, zaV]) (accW_one _) ?_; intro w4 hw4 hg4; have K4 := J hw4; have G4 := J hg4; clear hw4 hg4)
  | fail)
 (try simp only [Exit.inBlock, Exit.then])
 exact bodyPost_ret (results_none rfl _ _ _) rfl ⟨rfl, K4.o, G4.o⟩
def prod.T7 : Bool × List (List Nat × List Nat) := (true, [([], []), ([], []), ([0, 1], [0, 1]), ([], []), ([], []), ([3, 4], [3, 4]), ([], []), ([], []), ([7], [7]), ([6, 8], [6, 8]), ([5, 9], [5, 9]), ([], []), ([], []), ([12], [12]), ([11, 13], [11, 13]), ([2, 10, 14], [2, 10, 14]), ([], []), ([16, 15, 0, 1, 2, 3, 4, 5, 6, 7, 8, 9, 10, 11, 12, 13, 14, 15, 16], [15, 16])])
def prod.B7 : List Nat := [0, 0, 3, 0, 0, 24, 0, 0, 128, 448, 1016, 0, 0, 4096, 14336, 32767, 0, 131071]
theorem prod.tab7 : zbc .any (opsOf Try.f43 7) = prod.T7 := by kernel_rfl
theorem prod.bits7 : zal prod.T7.2 prod.B7 = true := by kernel_rfl
theorem prod_good (w : World) (b : Nat) (a : Int) (x y : Nat) (n : Int) (hx : x < 2 ^ 64) (hy : y < 2 ^ 64) (hb : w.heap[b]? = some (.cells (zbf (some a)) 124 (0, 0))) (ha : zaS a < 2 ^ 4772) (h2 : fo x = true) (h3 : fo y = true) (h4 : decide (n < -64) = false) (h5 : decide (64 < n) = false) (m0 : -64 ≤ n) (m1 : n ≤ 64) :
  Calls Try.prog 43 #[.pointer (some ⟨b, 0, none⟩), .float .f64 x, .float .f64 y, .int .i64 n] w fun e w' => e = .returned (.tuple #[]) ∧ w'.heap[b]? = some (.cells (zbf (prodV (some a) x y n)) 124 (0, 0)) ∧ w.grownBy w' (some b) := by
 have hc : w.cell? ⟨b, 76, none⟩ = some (.bool false) := (zg hb 76).trans (zbg (some a)); have HB := J hb; have HA := J ha; clear hb ha; obtain ⟨e0, e1⟩ := fe_in x; obtain ⟨f0, f1⟩ := fe_in y; have mx := J (fm_hi x); have my := J (fm_hi y); have hm := J (mul64 (fm x) (fm y) yO_ (by have := mx.o; omega) yO_ (by have := my.o; omega)); go_enter Try.func43, Try.ntmps43; go_wp2_with fail; refine (za4 x hx w).mono ?_; rintro e w1 ⟨rfl, rfl⟩; go_wp2_with fail; refine (za4 y hy w).mono ?_; rintro e w1 ⟨rfl, rfl⟩; go_wp2_with fail; refine (PB.bits_Mul64.calls _ _ _ _ w hm.o).mono ?_; rintro e w1 ⟨rfl, hd1⟩; have D1 := J hd1; clear hd1; go_wp2_with fail; generalize hat : fe x + fe y + n + 2212 = at_; generalize hr : at_ % 64 = r; generalize hhi : (fm x : Int) * (fm y : Int) / 18446744073709551616 = hi; generalize hlo : (fm x : Int) * (fm y : Int) % 18446744073709551616 = lo; have E := J (And.intro hat (And.intro hr (And.intro hhi hlo))); have r0 : 0 ≤ r := by omega
 have r1 : r ≤ 63 := by omega
 have aH : IntKind.i64.wrap (64 - r) = 64 - r := by rw [zat]; unfold wrap64; omega
 have aI : 0 ≤ 64 - r := by omega
 clear hat hr hhi hlo; obtain ⟨v0, hv0⟩ : ∃ v, IntKind.u64.wrap (lo * 2 ^ r.toNat) = v := ⟨_, rfl⟩
 obtain ⟨p1, hp1⟩ : ∃ v, IntKind.u64.wrap (hi * 2 ^ r.toNat) = v := ⟨_, rfl⟩
 obtain ⟨q1, hq1⟩ : ∃ v, lo / 2 ^ (64 - r).toNat = v := ⟨_, rfl⟩
 obtain ⟨v1, hv1⟩ : ∃ v, bits .or .u64 p1 q1 = v := ⟨_, rfl⟩
 obtain ⟨v2, hv2⟩ : ∃ v, hi / 2 ^ (64 - r).toNat = v := ⟨_, rfl⟩
 have V := J (And.intro hv0 (And.intro hp1 (And.intro hq1 (And.intro hv1 hv2)))); have B9 := J (zax D1.o.below); refine zaw (n := 18) (S := fun w' => True) (ds := [17]) (bl_ 18 0) yK_ rfl rfl trivial (fun hHeld => ?_); refine zS prod.tab7 prod.bits7 (fun HT_ HW_ => ?_); generalize w1.drew = w9 at hHeld B9 ⊢; refine pu_ 0 ?_; refine pu_ 1 ?_; refine pu_ 2 ?_; refine pu_ 3 ?_; refine pu_ 4 ?_; refine pu_ 5 ?_; refine pu_ 6 ?_; refine pu_ 7 ?_; refine pu_ 8 ?_; refine pu_ 9 ?_; refine pu_ 10 ?_; refine pu_ 11 ?_; refine pu_ 12 ?_; refine pu_ 13 ?_; refine pu_ 14 ?_; refine pu_ 15 ?_; refine on_ HT_ 16 (some 20) (bl_ 18 131071) fun K hK => ?_
 refine za2 ?hg (N := 20) ?hd (cs := #[.int .u64 0, .int .u64 0, .int .u64 0]) (t := 129) ?hr ?_; (case hd => rfl); (case hg => rfl); (case hr => first | (go_simp; done) | (go_simp; rfl)); intro aE hg w20 hbox hb; have K20 := J hbox; have B20 := J (za B9.o hb); have aG := J (show w.heap.size ≤ aE by rw [hg]; exact B9.o.size); have hz0 := cz_ hbox 0 rfl; have hz1 := cz_ hbox 1 rfl; have hz2 := cz_ hbox 2 rfl; have hf0 := zb hbox 0; have hf1 := zb hbox 1; have hf2 := zb hbox 2; clear hg hbox hb; refine hK.out _ _ trivial (fun hHeld => ?_); clear hK K; refine nm_ ?_; refine last_ (i := 17) (N := none) (bl_ 18 262143) rfl rfl (zaY HT_.o yK_) yD_ (fun K hK => ?_); refine skip_ (w1 := ?_) (by rfl) rfl ?_ ?_; rotate_left; (focus (go_simp; first | done | rfl)); refine hK.out _ _ ?_; clear hK K; refine zaL (zad HT_.o yK_) ?_; clear aH aI hv0 hp1 hq1 hv1 hv2 hHeld; have aC := blk_put (blk_put (blk_put K20.o 0 (.int .u64 v0) rfl) 1 (.int .u64 v1) rfl) 2 (.int .u64 v2) rfl; have aD := J (zN (j := 2) (v := .int .u64 v2) (zN (j := 1) (v := .int .u64 v1) (zN (j := 0) (v := .int .u64 v0) B20.o aG.o) aG.o) aG.o); generalize (((w20.setCell ⟨aE, 0, none⟩ (.int .u64 v0)).setCell ⟨aE, 1, none⟩ (.int .u64 v1)).setCell ⟨aE, 2, none⟩ (.int .u64 v2)) = w21 at aC aD ⊢; clear hz0 hz1 hz2 hf0 hf1 hf2 K20 B20; have k0 := cz_ aC 0 rfl; have k1 := cz_ aC 1 rfl; have k2 := cz_ aC 2 rfl; clear aC
 have S := J (shift_all (fm x) (fm y) at_ r hi lo v0 p1 q1 v1 v2 mx.o my.o r0 r1 (by have := E.o.1; omega) E.o.2.1 E.o.2.2.1 E.o.2.2.2 V.o); have aA := (aD.o.block b (zac HB.o)).trans HB.o; simp only [zbf] at aA; have aB := J aA; clear aA; have at0 : 0 ≤ at_ := by have := E.o.1; omega
 have at1 : at_ ≤ 4218 := by have := E.o.1; omega
 have PV := J (prodV_good a x y n h2 h3 m0 m1); clear e0 e1 f0 f1
 by_cases hs : (fs x == fs y) = false
 ·have HS := J (show (fs x != fs y) = true by simp only [bne, hs]; rfl); go_wp2_with fail; obtain ⟨s0, s1, s2, s3, s4, s5, sD⟩ := S.o
  with_reducible refine (putS_calls w21 b a v0 v1 v2 at_ (at_ / 64).toNat HA.o s0 s1 s2 s3 s4 s5 yO_ at0 yO_ yO_ aB.o).mono ?_
  rintro e w7 ⟨rfl, h7, g7⟩; go_wp2_with fail; go_end0; refine ⟨rfl, ?_, below_grown aD.o g7⟩; rw [PV.o, if_pos HS.o, E.o.1, ← sD]; exact h7
 ·have hs : (fs x == fs y) = true := by simpa using hs
  have HS := J (show (fs x != fs y) = false by simp only [bne, hs]; rfl); go_wp2_with fail; obtain ⟨s0, s1, s2, s3, s4, s5, sD⟩ := S.o
  with_reducible refine (putA_calls w21 b a v0 v1 v2 at_ (at_ / 64).toNat HA.o s0 s1 s2 s3 s4 s5 yO_ at0 yO_ yO_ aB.o).mono ?_
  rintro e w7 ⟨rfl, h7, g7⟩; go_wp2_with fail; go_end0; refine ⟨rfl, ?_, below_grown aD.o g7⟩; rw [PV.o, if_neg (by rw [HS.o]; decide), E.o.1, ← sD]; exact h7
theorem prod_calls (w : World) (b : Nat) (v : Option Int) (x y : Nat) (n : Int) (hx : x < 2 ^ 64) (hy : y < 2 ^ 64) (hv : accOk v) (hb : w.heap[b]? = some (.cells (zbf v) 124 (0, 0))) :
  Calls Try.prog 43 #[.pointer (some ⟨b, 0, none⟩), .float .f64 x, .float .f64 y, .int .i64 n] w fun e w' => e = .returned (.tuple #[]) ∧ w'.heap[b]? = some (.cells (zbf (prodV v x y n)) 124 (0, 0)) ∧ w.grownBy w' (some b) := by
 cases v with
 | none => exact prod_bad_v w b none x y n hx hy hb rfl
 | some a =>
  have bad : (fo x && fo y && decide (-64 ≤ n) && decide (n ≤ 64)) = false → prodV (some a) x y n = none := fun h => by
   show (if (fo x && fo y && decide (-64 ≤ n) && decide (n ≤ 64)) = true then _ else _) = _
   rw [h]; rfl
  cases h2 : fo x with
  | false => rw [bad (by simp [h2])]; exact prod_bad_x w b _ x y n hx hy hb rfl h2
  | true =>
   cases h3 : fo y with
   | false => rw [bad (by simp [h3])]; exact prod_bad_y w b _ x y n hx hy hb rfl h2 h3
   | true =>
    by_cases h4 : n < -64
    ·rw [bad (by simp [h2, h3]; omega)]; exact prod_bad_lo w b _ x y n hx hy hb rfl h2 h3 (decide_eq_true h4)
    ·by_cases h5 : 64 < n
     ·rw [bad (by simp [h2, h3]; omega)]; exact prod_bad_hi w b _ x y n hx hy hb rfl h2 h3 (decide_eq_false h4) (decide_eq_true h5)
     ·exact prod_good w b a x y n hx hy hb hv h2 h3 (decide_eq_false h4) (decide_eq_false h5) yO_ yO_
/-- 1 as a number. -/
def oneF : Nat := 4607182418800017408
theorem add_calls (w : World) (b : Nat) (v : Option Int) (x : Nat) (hx : x < 2 ^ 64) (hv : accOk v) (hb : w.heap[b]? = some (.cells (zbf v) 124 (0, 0))) :
  Calls Try.prog 44 #[.pointer (some ⟨b, 0, none⟩), .float .f64 x] w fun e w' => e = .returned (.tuple #[]) ∧ w'.heap[b]? = some (.cells (zbf (prodV v x oneF 0)) 124 (0, 0)) ∧ w.grownBy w' (some b) := by
 have HB := J hb; clear hb; go_enter Try.func44, Try.ntmps44; go_wp2_with fail; refine (prod_calls w b v x oneF 0 hx yD_ hv HB.o).mono ?_; rintro e w1 ⟨rfl, h1, g1⟩; go_wp2_with fail; go_end0; exact ⟨rfl, h1, g1⟩
theorem run_eqItems_words (ws zs : List Int) (w : World) : ∀ (is : List Nat), (∀ i ∈ is, i < ws.length ∧ i < zs.length) →
  (Op.eqItems 9999 114 (Try.prog.cellsOf 114) (ws.map (Value.int .u64)).toArray (zs.map (Value.int .u64)).toArray is).run Try.prog w = .ok (is.all fun i => ws.getD i 0 == zs.getD i 0) w
 | [], _ => by simp [Op.eqItems]
 | i :: is, h => by
  obtain ⟨h1, h2⟩ := h i (by simp); have hc : Try.prog.cellsOf 114 = 1 := by kernel_rfl
  have p1 := run_part_plain (P := Try.prog) (w := w) (e := 114) yK_ (xs := (ws.map (Value.int .u64)).toArray) (off := i) (v := .int .u64 (ws.getD i 0)) (by simp [h1]); have p2 := run_part_plain (P := Try.prog) (w := w) (e := 114) yK_ (xs := (zs.map (Value.int .u64)).toArray) (off := i) (v := .int .u64 (zs.getD i 0)) (by simp [h2]); have ih := run_eqItems_words ws zs w is (fun j hj => h j (by simp [hj])); rw [hc] at ih ⊢; simp only [Op.eqItems, Nat.mul_one, Sem.run_bind, p1, p2, Result.andThen_ok, run_equalIn_int w 9998 114 .u64 .u64 _ _ Try.underlying114]
  cases hq : ws.getD i 0 == zs.getD i 0 with
  | false => simp only [Bool.not_false, if_true, List.all_cons, hq, Bool.false_and, Sem.run_pure]
  | true => simp only [Bool.not_true, Bool.false_eq_true, if_false, ih, List.all_cons, hq, Bool.true_and]
def zerosA : Array Value := (List.replicate 76 (Value.int .u64 0)).toArray
theorem wds_inj0 (n : Int) (h0 : -2 ^ 4800 < n) (h1 : n < 2 ^ 4800) (h : ∀ i, i < 76 → wd n i = 0) : n = 0 := by
 have key : ∀ i, i ≤ 75 → n = qd n i * 2 ^ (64 * i) := by
  intro i
  induction i with
  | zero => intro _; rw [qd_zero]; simp
  | succ i ih =>
   intro hi; have e1 := ih yO_; have e2 := h i yO_; unfold wd at e2; have e3 : qd n i = qd n (i + 1) * 18446744073709551616 := by rw [qd_succ]; omega
   rw [e3, Int.mul_assoc] at e1; rw [show (2 : Int) ^ (64 * (i + 1)) = 18446744073709551616 * 2 ^ (64 * i) from by rw [pow_word (i + 1) yO_]; rfl]; exact e1
 have e := key 75 (Nat.le_refl _); have hp : (2 : Int) ^ (64 * 75) = 2 ^ 4800 := rfl; rw [hp] at e; have hp0 := zY 4800; generalize (2 : Int) ^ 4800 = P at *
 generalize qd n 75 = q at *
 have hq : q = 0 := by
  rcases Int.lt_trichotomy q 0 with hq | hq | hq
  ·have : q * P ≤ -1 * P := Int.mul_le_mul_of_nonneg_right yO_ (Int.le_of_lt hp0)
   omega
  ·exact hq
  ·have : 1 * P ≤ q * P := Int.mul_le_mul_of_nonneg_right yO_ (Int.le_of_lt hp0)
   omega
 rw [e, hq, Int.zero_mul]
theorem eq122 (n : Int) (h0 : -2 ^ 4800 < n) (h1 : n < 2 ^ 4800) (w : World) : (Op.equalIn 10000 122 (.agg ((wds n).map (Value.int .u64)).toArray) (.agg zerosA)).run Try.prog w = .ok (n == 0) w := by
 obtain ⟨i114, hi⟩ : ∃ i, Try.prog.info? 114 = some i := by
  cases h : Try.prog.info? 114 with
  | some i => exact ⟨i, rfl⟩
  | none => exact absurd (show (Try.prog.info? 114).isSome = true by kernel_rfl) (by rw [h]; decide)
 have hz : zerosA = ((List.replicate 76 (0 : Int)).map (Value.int .u64)).toArray := by kernel_rfl
 rw [hz]; refine (run_equalIn_array w 9999 _ _ Try.underlying122 hi).trans ?_; rw [run_eqItems_words (wds n) (List.replicate 76 0) w (List.range 76) (fun i hi => by rw [zak, List.length_replicate]; exact ⟨List.mem_range.1 hi, List.mem_range.1 hi⟩)]
 congr 1
 rw [Bool.eq_iff_iff, List.all_eq_true, beq_iff_eq]
 constructor
 ·intro h; refine wds_inj0 n h0 h1 fun i hi => ?_
  have := h i (List.mem_range.2 hi); rw [List.getD_eq_getElem?_getD, wds_get n i hi, List.getD_eq_getElem?_getD, List.getElem?_replicate, if_pos hi] at this; exact beq_iff_eq.mp this
 ·rintro rfl i hi; have hi := List.mem_range.1 hi; rw [List.getD_eq_getElem?_getD, wds_get 0 i hi, wd_zero, List.getD_eq_getElem?_getD, List.getElem?_replicate, if_pos hi]; rfl
def sgnI (n : Int) : Int := if n = 0 then 0 else if n < 0 then -1 else 1
theorem sgnI_zero {n : Int} (h : n = 0) : sgnI n = 0 := by unfold sgnI; rw [if_pos h]
theorem zbh {n : Int} (h : n < 0) : sgnI n = -1 := by unfold sgnI; rw [if_neg yO_, if_pos h]
theorem zbi {n : Int} (h : 0 < n) : sgnI n = 1 := by unfold sgnI; rw [if_neg yO_, if_neg yO_]
theorem sign_calls (w : World) (b : Nat) (n : Int) (h0 : -2 ^ 4800 < n) (h1 : n < 2 ^ 4800) (hb : w.heap[b]? = some (.cells (zaR (wds n) false) 124 (0, 0))) :
  Calls Try.prog 68 #[.pointer (some ⟨b, 0, none⟩)] w fun e w' => e = .returned (.int .i64 (sgnI n)) ∧ w = w' := by
 have hc : w.cell? ⟨b, 76, none⟩ = some (.bool false) := (zg hb 76).trans (cellsW_bad _ _ (zak n)); have heq := eq122 n h0 h1; have HB := J hb; have H0 := J (show -2 ^ 4800 ≤ n by omega); have H1 := J h1; clear hb h0 h1; generalize hs : sgnI n = s; have HS := J hs; clear hs
 by_cases hz : n = 0
 ·have hzb : (n == 0) = true := beq_iff_eq.mpr hz; have HZ := J hz; clear hz; go_enter Try.func68, Try.ntmps68; go_wp2_with (first
  | ((with_reducible refine zf (N := 12) rfl ?_); refine zR rfl ?_; refine wpList_load_mid rfl 122 _ rfl b 0 rfl ((wds n).map (Value.int .u64)) _ ?hr Try.underlying122 rfl (info122l _ (zak n)) ?_; (case hr => exact cellsW_range w b _ false HB.o); have T12 : True := trivial)
  | ((with_reducible refine zf (N := 13) rfl ?_); refine zR rfl ?_; refine val_event rfl (v := .agg zerosA) (w1 := w) ?hr ?_; (case hr => kernel_rfl); have T13 : True := trivial)
  | fail)
  go_ret; exact ⟨by rw [← HS.o, sgnI_zero HZ.o]; rfl, rfl⟩
 ·have hzb : (n == 0) = false := beq_eq_false_iff_ne.mpr hz; have HZ := J hz; clear hz; go_enter Try.func68, Try.ntmps68; go_wp2_with (first
  | ((with_reducible refine zf (N := 12) rfl ?_); refine zR rfl ?_; refine wpList_load_mid rfl 122 _ rfl b 0 rfl ((wds n).map (Value.int .u64)) _ ?hr Try.underlying122 rfl (info122l _ (zak n)) ?_; (case hr => exact cellsW_range w b _ false HB.o); have T12 : True := trivial)
  | ((with_reducible refine zf (N := 13) rfl ?_); refine zR rfl ?_; refine val_event rfl (v := .agg zerosA) (w1 := w) ?hr ?_; (case hr => kernel_rfl); have T13 : True := trivial)
  | fail)
  refine (neg_any w b _ n H0.o H1.o HB.o (cellsW_get _ _ 75 _ (wds_get n 75 yD_))).mono ?_; rintro e w5 ⟨rfl, rfl⟩
  by_cases hn : n < 0
  ·have hd : decide (n < 0) = true := decide_eq_true hn; have HN := J hn; clear hn; go_wp2_with fail; go_ret; exact ⟨by rw [← HS.o, zbh HN.o]; rfl, rfl⟩
  ·have hd : decide (n < 0) = false := decide_eq_false hn; have HN := J (show 0 < n by have := HZ.o; omega); clear hn; go_wp2_with fail; go_ret; exact ⟨by rw [← HS.o, zbi HN.o]; rfl, rfl⟩
def cmpR (v u : Option Int) : Value :=
 match v, u with
 | some a, some b => .tuple #[.int .i64 (sgnI (a - b)), .bool true]
 | _, _ => .tuple #[.int .i64 0, .bool false]
theorem cmpR_none (v u : Option Int) (h : v = none ∨ u = none) : cmpR v u = .tuple #[.int .i64 0, .bool false] := by
 rcases h with rfl | rfl
 ·rfl
 ·cases v <;> rfl
theorem accOk_bounds {a b : Int} (ha : accOk (some a)) (hb : accOk (some b)) : (-2 ^ 4800 < a - b ∧ a - b < 2 ^ 4800) := by
 have ha : zaS a < 2 ^ 4772 := ha; have hb : zaS b < 2 ^ 4772 := hb; have h8 : (2 : Int) ^ 4800 = 2 ^ 28 * 2 ^ 4772 := Int.pow_add 2 28 4772; have hp := zY 4772; unfold zaS at ha hb; rw [h8]; generalize (2 : Int) ^ 4772 = P at *
 constructor <;> (split at ha <;> split at hb <;> omega)
def cmp.T8 : Bool × List (List Nat × List Nat) := (true, [([], []), ([], []), ([], []), ([2, 1], [1, 2]), ([3], [3]), ([], []), ([], []), ([5], [5]), ([7], [7]), ([8, 6], [6, 8]), ([9], [9]), ([], []), ([4, 10, 11], [4, 10, 11]), ([12], [12]), ([13], [13]), ([13], [13]), ([], []), ([16, 0, 0, 1, 2, 3, 4, 5, 6, 7, 8, 9, 10, 11, 12, 13, 14], [0, 16]), ([17, 14, 12, 0, 1, 2, 3, 4, 5, 6, 7, 8, 9, 10, 11, 12, 13, 14], [14, 17]), ([15, 18, 0, 1, 2, 3, 4, 5, 6, 7, 8, 9, 10, 11, 12, 13, 14, 15, 16, 17, 18], [11, 15])])
def cmp.B8 : List Nat := [0, 0, 0, 6, 14, 0, 0, 32, 160, 480, 992, 0, 4094, 8190, 16382, 16382, 0, 98303, 229375, 524287]
theorem cmp.tab8 : zbc .any (opsOf Try.f45 8) = cmp.T8 := by kernel_rfl
theorem cmp.bits8 : zal cmp.T8.2 cmp.B8 = true := by kernel_rfl
theorem cmp_bad_l (w : World) (b c : Nat) (v u : Option Int) (hb : w.heap[b]? = some (.cells (zbf v) 124 (0, 0))) (h : v = none) :
  Calls Try.prog 45 #[.pointer (some ⟨b, 0, none⟩), .pointer (some ⟨c, 0, none⟩)] w fun e w' => e = .returned (cmpR v u) ∧ w = w' := by
 have h1 : w.cell? ⟨b, 76, none⟩ = some (.bool true) := (zg hb 76).trans (by rw [zbg v, h]; rfl); have HR := J (cmpR_none v u (.inl h)); clear hb h; go_enter Try.func45, Try.ntmps45; go_wp2_with fail; exact bodyPost_ret (v := .tuple #[.int .i64 0, .bool false]) (by simp [results, Try.results45, go_sem]) rfl ⟨by rw [HR.o], rfl⟩
theorem cmp_bad_r (w : World) (b c : Nat) (v u : Option Int) (hb : w.heap[b]? = some (.cells (zbf v) 124 (0, 0))) (hc : w.heap[c]? = some (.cells (zbf u) 124 (0, 0))) (hv : v.isNone = false) (h : u = none) :
  Calls Try.prog 45 #[.pointer (some ⟨b, 0, none⟩), .pointer (some ⟨c, 0, none⟩)] w fun e w' => e = .returned (cmpR v u) ∧ w = w' := by
 have h1 : w.cell? ⟨b, 76, none⟩ = some (.bool false) := (zg hb 76).trans (by rw [zbg v, hv]); have h2 : w.cell? ⟨c, 76, none⟩ = some (.bool true) := (zg hc 76).trans (by rw [zbg u, h]; rfl); have HR := J (cmpR_none v u (.inr h)); clear hb hc h hv; go_enter Try.func45, Try.ntmps45; go_wp2_with fail; exact bodyPost_ret (v := .tuple #[.int .i64 0, .bool false]) (by simp [results, Try.results45, go_sem]) rfl ⟨by rw [HR.o], rfl⟩
theorem cmp_good (w : World) (b c : Nat) (x y : Int) (hx : accOk (some x)) (hy : accOk (some y)) (hb : w.heap[b]? = some (.cells (zbf (some x)) 124 (0, 0))) (hc : w.heap[c]? = some (.cells (zbf (some y)) 124 (0, 0))) :
  Calls Try.prog 45 #[.pointer (some ⟨b, 0, none⟩), .pointer (some ⟨c, 0, none⟩)] w fun e w' => e = .returned (.tuple #[.int .i64 (sgnI (x - y)), .bool true]) ∧ Below w.heap.size w w' := by
 obtain ⟨z0, z1⟩ := accOk_bounds hx hy; have Z0 := J z0; have Z1 := J z1; have h1 : w.cell? ⟨b, 76, none⟩ = some (.bool false) := (zg hb 76).trans (zbg (some x)); have h2 : w.cell? ⟨c, 76, none⟩ = some (.bool false) := (zg hc 76).trans (zbg (some y)); have HB := J (show w.heap[b]? = some (.cells (zaR (wds x) false) 124 (0, 0)) from hb); have HC := J (show w.heap[c]? = some (.cells (zaR (wds y) false) 124 (0, 0)) from hc); clear hb hc hx hy z0 z1; go_enter Try.func45, Try.ntmps45
 go_wp2_with (first
  | ((with_reducible refine zf (N := 25) rfl ?_); refine zR rfl ?_; refine wpList_load_row rfl 124 _ rfl b rfl 124 _ (0, 0) _ HB.o Try.underlying124 rfl (info124a _ _ (zak x)) ?_; have T25 : True := trivial)
  | ((with_reducible refine zf (N := 6) rfl ?_); refine box_event rfl (N := 6) rfl (cs := zbf (some 0)) (t := 124) ?hr ?_; (case hr => kernel_rfl); intro g6 hg6 w6 hw6 hb6; have B6 := J hb6; have K6 := J hw6; have L6 := J (show w.heap.size ≤ g6 by omega); have N6 := J (show b ≠ g6 ∧ c ≠ g6 by have := zac HB.o; have := zac HC.o; omega); clear hg6 hw6 hb6)
  | ((with_reducible refine zj (t := 124) (p := 6) rfl ?_); refine zi rfl 124 rfl rfl g6 (zaR (wds x) false) rfl rfl 124 _ K6.o (info124a _ _ (zak x)) (by rw [cellsW_size, zak, zaV]) (cellsW_one _ _) ?_; intro w7 hw7 hg7; have B7 := J (B6.o.grown hg7 B6.o.size (fun k hk => by cases hk; exact L6.o)); have K7 := J hw7; clear hw7 hg7)
  | fail)
 go_loopg [7, 8, 26] 76 (fun m v7 v8 v26 wr => ∃ k : Nat, v26 = .int .i64 k ∧ v7 = .int .u64 (cys x y k) ∧ ze (m + k = 76) ∧ ze (wr.heap[g6]? = some (.cells (zaR (mixw (x - y) x k) false) 124 (0, 0))) ∧ ze (Below w.heap.size w wr))
 case atStart => exact ⟨0, rfl, by rw [cys_zero], ⟨rfl⟩, ⟨by rw [mixw_zero]; exact K7.o⟩, B7⟩
 case round =>
  obtain ⟨k, rfl, rfl, hm, K8, B8⟩ := hrel
  by_cases hk : k < 76
  ·have hlt : decide ((k : Int) < 76) = true := by simp; omega
   have hk0 : (0 : Int) ≤ k := by omega
   have hlt7 : (k : Int) < 76 := by omega
   have HK := J hk; clear hk; have hw : ∀ w, (callFunc 67 #[.int .u64 (wd x k), .int .u64 (wd y k), .int .u64 (cys x y k)]).run Try.prog w = .ok (.value (.tuple #[.int .u64 (wd (x - y) k), .int .u64 (cys x y (k + 1))])) w := sub_word x y k
   have K9 := J (zA K8.o); have B9 := J (zU B8.o); clear K8 B8; go_wp2_with fail; have hcell : wr.drew.cell? ⟨g6, k, none⟩ = some (.int .u64 (wd x k)) := (zg K9.o k).trans (cellsW_get _ _ _ _ (mixw_get _ _ _ HK.o)); have hfro : wr.drew.frozen? ⟨g6, k, none⟩ = false := zb K9.o k; have hcely : wr.drew.cell? ⟨c, k, none⟩ = some (.int .u64 (wd y k)) := (zg ((B9.o.block c (zac HC.o)).trans HC.o) k).trans (cellsW_get _ _ _ _ (wds_get y k HK.o)); have hwr : IntKind.i64.wrap (k : Int) = k := by rw [zat]; unfold wrap64; omega
   have htn : ((k : Int)).toNat = k := by omega
   refine zaw (n := 20) (S := fun w' => w'.cell? ⟨g6, k, none⟩ = some (.int .u64 (wd x k)) ∧ w'.cell? ⟨c, k, none⟩ = some (.int .u64 (wd y k))) (ds := [18]) (bl_ 20 0) yK_ rfl rfl ⟨hcell, hcely⟩ (fun hHeld => ?_); refine zS cmp.tab8 cmp.bits8 (fun HT_ HW_ => ?_); generalize wr.drew = w9 at K9 B9 hcell hfro hcely hHeld ⊢; refine pu_ 0 ?_; refine pu_ 1 ?_; refine pu_ 2 ?_; refine pu_ 3 ?_; refine pu_ 5 ?_; refine pu_ 6 ?_; refine pu_ 7 ?_; refine pu_ 8 ?_; refine pu_ 9 ?_; refine pu_ 11 ?_; refine pu_ 16 ?_; refine tk_ 4 ?_; refine tk_ 10 ?_; refine pu_ 12 ?_; refine pu_ 13 ?_; refine pu_ 14 ?_; refine pu_ 15 ?_; refine pu_ 17 ?_; refine last_ (i := 18) (N := none) (bl_ 20 524287) rfl rfl (zaY HT_.o yK_) yD_ (fun K hK => ?_); refine skip_ (w1 := ?_) (by rfl) rfl ?_ ?_; rotate_left; (focus (go_simp; first | done | rfl)); refine hK.out _ _ ?_; clear hK K; refine pu_ 19 ?_; refine zaL (zad HT_.o yK_) ?_; clear hwr htn; go_wp2_with fail; go_roundg (gk - 1)
   case measure => have := hm.o; have := HK.o; omega
   case rel =>
    refine ⟨k + 1, by go_num, rfl, ⟨by have := hm.o; have := HK.o; omega⟩, ⟨?_⟩, ⟨zN B9.o L6.o⟩⟩; have hs := zav K9.o k (.int .u64 (wd (x - y) k)); rw [cellsW_set _ _ _ _ (by rw [zbk]; exact HK.o), mixw_set _ _ _ HK.o] at hs; exact hs
  ·have hlt : decide ((k : Int) < 76) = false := by simp; omega
   obtain rfl : k = 76 := by have := hm.o; omega
   clear hk; have aA := K8.o; rw [mixw_all] at aA; have H76 := J aA; clear aA; go_wp2_with fail; refine (sign_calls wr g6 (x - y) Z0.o Z1.o H76.o).mono ?_; rintro e w7 ⟨rfl, rfl⟩; go_wp2_with fail; refine bodyPost_ret (v := .tuple #[.int .i64 (sgnI (x - y)), .bool true]) (by simp [results, Try.results45, go_sem]) rfl ⟨rfl, B8.o⟩
theorem cmp_calls (w : World) (b c : Nat) (v u : Option Int) (hv : accOk v) (hu : accOk u) (hb : w.heap[b]? = some (.cells (zbf v) 124 (0, 0))) (hc : w.heap[c]? = some (.cells (zbf u) 124 (0, 0))) :
  Calls Try.prog 45 #[.pointer (some ⟨b, 0, none⟩), .pointer (some ⟨c, 0, none⟩)] w fun e w' => e = .returned (cmpR v u) ∧ Below w.heap.size w w' := by
 cases v with
 | none => exact (cmp_bad_l w b c none u hb rfl).mono (fun e w' h => ⟨h.1, by rw [← h.2]; exact Below.refl _ _⟩)
 | some x =>
  cases u with
  | none => exact (cmp_bad_r w b c (some x) none hb hc rfl rfl).mono (fun e w' h => ⟨h.1, by rw [← h.2]; exact Below.refl _ _⟩)
  | some y => exact cmp_good w b c x y hv hu hb hc
def flt (n : Int) : Nat := FloatKind.f64.nearest n
theorem flt_lt (n : Int) : flt n < 2 ^ 64 := Ieee.Format.write_lt Ieee.double (.number (n < 0) n.natAbs 0)
theorem flt_bits (n : Int) (h0 : n ≠ 0) (h1 : n.natAbs < 9007199254740992) : ∃ L : Nat, L ≤ 52 ∧ 2 ^ L ≤ n.natAbs ∧ n.natAbs < 2 ^ (L + 1) ∧
  flt n = (if n < 0 then 9223372036854775808 else 0) + ((L + 1022) * 4503599627370496 + n.natAbs * 2 ^ (52 - L)) := by
 have hm : n.natAbs ≠ 0 := by omega
 obtain ⟨L, hL⟩ : ∃ L, n.natAbs.log2 = L := ⟨_, rfl⟩
 have l0 : 2 ^ L ≤ n.natAbs := by rw [← hL]; exact Nat.log2_self_le hm
 have l1 : n.natAbs < 2 ^ (L + 1) := by rw [← hL]; exact Nat.lt_log2_self
 have l2 : L ≤ 52 := by
  rw [← hL]; have := (Nat.log2_lt (k := 53) hm).2 h1
  omega
 refine ⟨L, l2, l0, l1, ?_⟩
 show Ieee.double.nearest (decide (n < 0)) n.natAbs 0 = _
 unfold Ieee.Format.nearest; rw [if_neg hm]; have e1 : Ieee.double.leastPlace = -1074 := by decide
 have e2 : max (0 + (n.natAbs.log2 : Int) - (Ieee.double.fractionBits : Nat)) (-1074) = (L : Int) - 52 := by
  rw [hL]
  show max (0 + (L : Int) - 52) (-1074) = _
  omega
 simp only [e1]; simp only [e2]; have e3 : (0 - ((L : Int) - 52)).toNat = 52 - L := by omega
 have e4 : ((L : Int) - 52 - 0).toNat = 0 := by omega
 have e5 : ((L : Int) - 52 - -1074).toNat = L + 1022 := by omega
 rw [e3, e4, e5]
 have e6 : Ieee.Toward.even.cut (decide (n < 0)) (n.natAbs <<< (52 - L)) 0 = n.natAbs * 2 ^ (52 - L) := by
  unfold Ieee.Toward.cut; simp [Nat.shiftLeft_eq, Nat.mod_one]
 rw [e6]; have hb : Ieee.double.binade = 4503599627370496 := by decide
 have hi : Ieee.double.infRung = 9218868437227405312 := by decide
 have hs : Ieee.double.signWeight = 9223372036854775808 := by decide
 have hk : n.natAbs * 2 ^ (52 - L) < 9007199254740992 := by
  have := Nat.mul_lt_mul_of_pos_right l1 (Nat.two_pow_pos (52 - L)); rw [← Nat.pow_add, show L + 1 + (52 - L) = 53 by omega] at this
  simpa using this
 rw [hb, hi, Nat.min_eq_left yO_]; unfold Ieee.Format.word; rw [hs]
 by_cases hn : n < 0
 ·simp [hn]
 ·simp [hn]
theorem flt_num (n : Int) (h0 : n ≠ 0) (h1 : n.natAbs < 9007199254740992) : ∃ L : Nat, L ≤ 52 ∧ fnum (flt n) = some (decide (n < 0), n.natAbs * 2 ^ (52 - L), (L : Int) - 52) := by
 obtain ⟨L, l2, l0, l1, hf⟩ := flt_bits n h0 h1; refine ⟨L, l2, ?_⟩
 have hk : n.natAbs * 2 ^ (52 - L) < 9007199254740992 := by
  have := Nat.mul_lt_mul_of_pos_right l1 (Nat.two_pow_pos (52 - L)); rw [← Nat.pow_add, show L + 1 + (52 - L) = 53 by omega] at this
  simpa using this
 have hk0 : 4503599627370496 ≤ n.natAbs * 2 ^ (52 - L) := by
  have := Nat.mul_le_mul_right (2 ^ (52 - L)) l0; rw [← Nat.pow_add, show L + (52 - L) = 52 by omega] at this
  simpa using this
 generalize n.natAbs * 2 ^ (52 - L) = q at *
 have e1 : flt n / 4503599627370496 % 2048 = L + 1023 := by
  rw [hf]; split <;> omega
 have e2 : flt n % 4503599627370496 = q - 4503599627370496 := by
  rw [hf]; split <;> omega
 have e3 : (flt n / 9223372036854775808 == 1) = decide (n < 0) := by
  rw [hf]
  by_cases hn : n < 0
  ·rw [if_pos hn, decide_eq_true hn, beq_iff_eq]; omega
  ·rw [if_neg hn, decide_eq_false hn, beq_eq_false_iff_ne]; omega
 unfold fnum; rw [if_neg yO_, if_neg yO_, e1, e2, e3, Nat.sub_add_cancel hk0, show (((L + 1023 : Nat) : Int) - 1075) = (L : Int) - 52 by omega]
theorem flt_zero : flt 0 = 0 := by decide
theorem fnum_zero : fnum 0 = some (false, 0, -1074) := by decide
def powF (j : Nat) : Nat := 4503599627370496 * (j + 1023)
theorem powF_eq (j : Nat) : powF j = (j + 1023) * 4503599627370496 := by unfold powF; exact Nat.mul_comm _ _
theorem fnum_pow (j : Nat) (hj : j ≤ 1000) : fnum (powF j) = some (false, 4503599627370496, (j : Int) - 52) := by
 rw [powF_eq]; unfold fnum; rw [Nat.mul_div_cancel _ yD_, if_neg yO_, if_neg yO_, Nat.mul_mod_left]; rw [show ((j + 1023) * 4503599627370496 / 9223372036854775808 == 1) = false from by rw [beq_eq_false_iff_ne]; omega]; rw [show (j + 1023) % 2048 = j + 1023 from Nat.mod_eq_of_lt yO_, Nat.zero_add, show (((j + 1023 : Nat) : Int) - 1075) = (j : Int) - 52 by omega]
theorem normA_some (n : Int) (h0 : -2 ^ 4772 < n) (h1 : n < 2 ^ 4772) : normA n = some n := by
 unfold normA; rw [if_pos (absI_hi h0 h1)]
theorem zaG (a b : Nat) : (2 : Int) ^ (a + b) = 2 ^ a * 2 ^ b := Int.pow_add 2 a b
theorem of_fnum {u : Nat} {s : Bool} {m : Nat} {e : Int} (h : fnum u = some (s, m, e)) : fo u = true ∧ fs u = s ∧ fm u = m ∧ fe u = e := by
 unfold fo fs fm fe; rw [h]; exact ⟨rfl, rfl, rfl, rfl⟩
theorem pow_parts (j : Nat) (hj : j ≤ 1000) : fo (powF j) = true ∧ fs (powF j) = false ∧ fm (powF j) = 4503599627370496 ∧ fe (powF j) = (j : Int) - 52 := of_fnum (fnum_pow j hj)
theorem zero_parts : fo 0 = true ∧ fs 0 = false ∧ fm 0 = 0 := ⟨(of_fnum fnum_zero).1, (of_fnum fnum_zero).2.1, (of_fnum fnum_zero).2.2.1⟩
theorem flt_parts (n : Int) (h0 : n ≠ 0) (hn : n.natAbs < 9007199254740992) : ∃ L : Nat, L ≤ 52 ∧ fo (flt n) = true ∧ fs (flt n) = decide (n < 0) ∧ fm (flt n) = n.natAbs * 2 ^ (52 - L) ∧ fe (flt n) = (L : Int) - 52 := by
 obtain ⟨L, hL, hf⟩ := flt_num n h0 hn; exact ⟨L, hL, of_fnum hf⟩
/-- 2^(2212+n). -/
def P22 (n : Int) : Int := 2 ^ (n + 2212).toNat
theorem prod_key (m L j : Nat) (d : Int) (hL : L ≤ 52) (hj : j ≤ 64) (d0 : -64 ≤ d) (d1 : d ≤ 64) :
  ((m * 2 ^ (52 - L) : Nat) : Int) * ((4503599627370496 : Nat) : Int) * P22 ((L : Int) - 52 + ((j : Int) - 52) + d) = m * P22 ((j : Int) + d) := by
 unfold P22; obtain ⟨e, he⟩ : ∃ e : Nat, ((L : Int) - 52 + ((j : Int) - 52) + d + 2212).toNat = e := ⟨_, rfl⟩
 have he2 : ((j : Int) + d + 2212).toNat = (52 - L) + 52 + e := by omega
 rw [he, he2, zaG, zaG, Int.natCast_mul, Int.natCast_pow, show (((4503599627370496 : Nat)) : Int) = 2 ^ 52 from by decide, show ((2 : Nat) : Int) = 2 from rfl]; generalize (2 : Int) ^ (52 - L) = A; generalize (2 : Int) ^ e = B; generalize (2 : Int) ^ 52 = C; rw [Int.mul_assoc _ A C, Int.mul_assoc _ (A * C) B]
theorem prodV_P (a : Int) (x y : Nat) (n : Int) (hx : fo x = true) (hy : fo y = true) (d0 : -64 ≤ n) (d1 : n ≤ 64) : prodV (some a) x y n =
  normA (if (fs x != fs y) = true then a - (fm x : Int) * fm y * P22 (fe x + fe y + n) else a + (fm x : Int) * fm y * P22 (fe x + fe y + n)) := by
 show (if (fo x && fo y && decide (-64 ≤ n) && decide (n ≤ 64)) = true then _ else _) = _
 rw [hx, hy, decide_eq_true d0, decide_eq_true d1]; rfl
/-- What Prod adds: a whole number times a power of 2. -/
theorem prod_flt (a n d : Int) (j : Nat) (hn : n.natAbs < 9007199254740992) (hj : j ≤ 64) (d0 : -64 ≤ d) (d1 : d ≤ 64) :
  prodV (some a) (flt n) (powF j) d = normA (a + n * P22 ((j : Int) + d)) := by
 obtain ⟨p0, p1, p2, p3⟩ := pow_parts j yO_
 by_cases h0 : n = 0
 ·obtain ⟨q0, q1, q2⟩ := zero_parts; rw [h0, flt_zero, prodV_P a _ _ d q0 p0 d0 d1, p1, q1, q2]; rw [if_neg (show ¬ ((false != false) = true) by decide), Int.natCast_zero, Int.zero_mul, Int.zero_mul, Int.zero_mul]
 ·obtain ⟨L, hL, q0, q1, q2, q3⟩ := flt_parts n h0 hn; rw [prodV_P a _ _ d q0 p0 d0 d1, p1, p2, p3, q1, q2, q3, prod_key _ L j d hL hj d0 d1]
  by_cases hn0 : n < 0
  ·rw [decide_eq_true hn0, if_pos (show (true != false) = true from rfl), show ((n.natAbs : Nat) : Int) = -n by omega, Int.neg_mul, Int.sub_neg]
  ·rw [decide_eq_false hn0, if_neg (show ¬ ((false != false) = true) by decide), show ((n.natAbs : Nat) : Int) = n by omega]
theorem oneF_pow : oneF = powF 0 := by decide
theorem f32_pow : 4751297606875873280 = powF 32 := by decide
theorem neg_flt : 13830554455654793216 = flt (-1) := by decide
end Go.Proofs.Ytlidbaejhmamjaa.AC
namespace Go.Proofs.Ytlidbaejhmamjaa.PB
open Go.RowKit YtlidbaejhmamjaaW.PrintWords YtlidbaejhmamjaaW.PrintLast YtlidbaejhmamjaaW.PrintMore
attribute [local go_sem] zao zaq zaB zaC zae zaf zap zar   -- for this text's walks alone
def zt.l0 : Nat → List (S90) → Int → Int → List Int → List Int → Option (List Int × List Int)
 | 0, _, _, _, _, _ => none
 | k + 1, aD, x14, aC, aA, aB => if aC < x14 then (if 0 ≤ aC then (if aC < (aD.length : Int) then (if aC < (aA.length : Int) then (if aC < (aB.length : Int) then (zt.l0 k aD x14 (wrap64 (aC + 1)) (aA.set (aC : Int).toNat ((zn aD aC).f0)) (aB.set (aC : Int).toNat ((zn aD aC).f1))) else (none)) else (none)) else (none)) else (none)) else (some (aA, aB))
def zt.f (k : Nat) (l0 : List (S90)) : Option (List Int × List Int) := if 0 ≤ (l0.length : Int) then (if ((l0.length : Int) : Int).toNat ≤ 35184372088832 then (zt.l0 k l0 (l0.length : Int) 0 (List.replicate ((l0.length : Int) : Int).toNat 0) (List.replicate ((l0.length : Int) : Int).toNat 0)) else (none)) else (none)
def zt.T1 : Bool × List (List Nat × List Nat) := (true, [([], []), ([0], [0]), ([1, 1], [1]), ([], []), ([3], [3]), ([4, 4], [4]), ([2, 5], [2, 5]), ([], []), ([7, 6, 0, 1, 2, 3, 4, 5, 6, 7], [6, 7])])
def zt.B1 : List Nat := [0, 1, 3, 0, 8, 24, 63, 0, 255]
theorem zt.tab1 : zbc .any (opsOf Try.f37 1) = zt.T1 := by kernel_rfl
theorem zt.bits1 : zal zt.T1.2 zt.B1 = true := by kernel_rfl
def zt.T5 : Bool × List (List Nat × List Nat) := (true, [([], []), ([0], [0]), ([], []), ([], []), ([3], [3]), ([], []), ([], []), ([6], [6]), ([], []), ([8], [8]), ([1, 2, 0, 1, 2, 6, 7], [1, 2]), ([10, 7, 0, 1, 2, 6, 7], [7, 10]), ([4, 5, 0, 1, 2, 3, 4, 5, 6, 7, 8, 9, 10, 11], [4, 5]), ([12, 9, 11, 0, 1, 2, 3, 4, 5, 6, 7, 8, 9, 10, 11], [9, 12])])
def zt.B5 : List Nat := [0, 1, 0, 0, 8, 0, 0, 64, 0, 256, 199, 1223, 4095, 8191]
theorem zt.tab5 : zbc .any (opsOf Try.f37 5) = zt.T5 := by kernel_rfl
theorem zt.bits5 : zal zt.T5.2 zt.B5 = true := by kernel_rfl
theorem zt.calls (k : Nat) (A0 : Option Addr) (c0 : Nat) (l0 : List (S90)) (r1 : List Int) (r2 : List Int) (w : World) (hr0 : Kd.C k90 w A0 l0.length l0) (hc0 : l0.length ≤ c0) (h : zt.f k l0 = some (r1, r2)) :
  Calls Try.prog 37 #[.slice A0 l0.length c0] w fun e w' => ∃ fL fM : Value, e = .returned (.agg #[fL, fM]) ∧ Kd.R (Kd.int .i64) 3 w' w.heap.size (fun k_ => some k_ ≠ (fM : Value).ownBlock) fL r1 ∧ Kd.R (Kd.int .i64) 3 w' w.heap.size (fun k_ => some k_ ≠ (fL : Value).ownBlock) fM r2 ∧ Below w.heap.size w w' := by
 have hu24 := Try.underlying24; have hu90 := Try.underlying90; have HR0 := J hr0; have HC0 := J hc0; clear hr0 hc0; have HB := J (Below.refl w.heap.size w); have H : (if 0 ≤ (l0.length : Int) then (if ((l0.length : Int) : Int).toNat ≤ 35184372088832 then (zt.l0 k l0 (l0.length : Int) 0 (List.replicate ((l0.length : Int) : Int).toNat 0) (List.replicate ((l0.length : Int) : Int).toNat 0)) else (none)) else (none)) = some (r1, r2) := h; clear h
 by_cases c2 : 0 ≤ (l0.length : Int)
 ·rw [if_pos c2] at H; have c2b0 := eq_true c2; have c2b1 := decide_eq_true c2; clear c2
  by_cases c3 : ((l0.length : Int) : Int).toNat ≤ 35184372088832
  ·rw [if_pos c3] at H; have c3b0 := eq_true c3; have c3b1 := decide_eq_true c3; clear c3; obtain ⟨aZ, bX⟩ : ∃ y_ : List Int, y_ = (List.replicate ((l0.length : Int) : Int).toNat 0) := ⟨_, rfl⟩
   replace H : (zt.l0 k l0 (l0.length : Int) 0 aZ (List.replicate ((l0.length : Int) : Int).toNat 0)) = some (r1, r2) := by first | (rw [bX]; with_reducible exact H) | (have cD := (Option.bind_some _ _).symm.trans H; rw [bX]; with_reducible exact cD) | (have cD := (Option.bind_some _ _).symm.trans H; with_reducible exact cD) | with_reducible exact H | (rw [bX]; exact H) | exact H
   have bJ := J bX; clear bX; obtain ⟨bA, bY⟩ : ∃ y_ : List Int, y_ = (List.replicate ((l0.length : Int) : Int).toNat 0) := ⟨_, rfl⟩
   replace H : (zt.l0 k l0 (l0.length : Int) 0 aZ bA) = some (r1, r2) := by first | (rw [bY]; with_reducible exact H) | (have cD := (Option.bind_some _ _).symm.trans H; rw [bY]; with_reducible exact cD) | (have cD := (Option.bind_some _ _).symm.trans H; with_reducible exact cD) | with_reducible exact H | (rw [bY]; exact H) | exact H
   have bK := J bY; clear bY; have H' := J H; clear H; go_enter Try.func37, Try.ntmps37
   try go_wp2_with (first | ((with_reducible refine zf (N := 2) rfl ?_); refine zah 2 (cs := #[.slice none 0 0, .slice none 0 0]) (t := 24) ?_; intro aG hg w4 hbox hb; have aA := J (hbox); have dY := J ((by rw [hg]; exact (zh bw_) : w.heap.size ≤ aG)); replace HB := J (za bw_ hb); have dW := dY; clear hb hbox hg))
   have aP := J (zA aA.o); have aQ := J (zax HB.o); clear aA; clear HB; have aA := aP; have HB := aQ; clear aP aQ; refine zaw (n := 9) (S := fun w' => True) (ds := []) (bl_ 9 0) yK_ rfl rfl trivial (fun hHeld => ?_); refine zS zt.tab1 zt.bits1 (fun HT_ HW_ => ?_); generalize w4.drew = w5 at aA HB hHeld ⊢; refine pu_ 0 ?_; refine pu_ 1 ?_; refine pu_ 3 ?_; refine pu_ 4 ?_; refine join_ (σ := Value × Value × Nat) 1 (bl_ 9 255) (fun s_ => [(8, s_.1), (11, s_.2.1), (3, .pointer (some ⟨s_.2.2, 0, none⟩)), (12, .agg #[s_.1, s_.2.1])]) (fun s_ w' => (Kd.R (Kd.int .i64) 3 w' w.heap.size (fun k_ => some k_ ≠ (s_.2.1 : Value).ownBlock) s_.1 aZ) ∧ (Kd.R (Kd.int .i64) 3 w' w.heap.size (fun k_ => some k_ ≠ (s_.1 : Value).ownBlock) s_.2.1 bA) ∧ (w'.heap[aG]? = some (.cells #[.slice none 0 0, .slice none 0 0] 24 (0, 0))) ∧ (w'.heap[s_.2.2]? = some (.cells #[.slice none 0 0, .slice none 0 0] 24 (0, 0))) ∧ (w.heap.size ≤ s_.2.2) ∧ (w.heap.size ≤ s_.2.2) ∧ (aG ≠ s_.2.2) ∧ (s_.2.2 ≠ aG) ∧ (Below w.heap.size w w')) ?_ ?_; rotate_left
   ·intro bV; refine join_ (σ := Value × Value) 2 (bl_ 9 127) (fun s_ => [(8, s_.1), (11, s_.2), (12, .agg #[s_.1, s_.2])]) (fun s_ w' => (Kd.R (Kd.int .i64) 3 w' w.heap.size (fun k_ => some k_ ≠ (s_.2 : Value).ownBlock) s_.1 aZ) ∧ (Kd.R (Kd.int .i64) 3 w' w.heap.size (fun k_ => some k_ ≠ (s_.1 : Value).ownBlock) s_.2 bA) ∧ (w'.heap[aG]? = some (.cells #[.slice none 0 0, .slice none 0 0] 24 (0, 0))) ∧ (Below w.heap.size w w')) ?_ ?_; rotate_left
    ·intro cZ; refine join_ (σ := Value × Nat) 3 (bl_ 9 159) (fun s_ => [(8, s_.1), (3, .pointer (some ⟨s_.2, 0, none⟩))]) (fun s_ w' => (Kd.R (Kd.int .i64) 3 w' w.heap.size (fun _ => True) s_.1 aZ) ∧ (w'.heap[aG]? = some (.cells #[.slice none 0 0, .slice none 0 0] 24 (0, 0))) ∧ (w'.heap[s_.2]? = some (.cells #[.slice none 0 0, .slice none 0 0] 24 (0, 0))) ∧ (w.heap.size ≤ s_.2) ∧ (w.heap.size ≤ s_.2) ∧ (aG ≠ s_.2) ∧ (s_.2 ≠ aG) ∧ (Below w.heap.size w w')) ?_ ?_; rotate_left
     ·intro dA; refine join_ (σ := Value × Nat) 3 (bl_ 9 187) (fun s_ => [(11, s_.1), (3, .pointer (some ⟨s_.2, 0, none⟩))]) (fun s_ w' => (Kd.R (Kd.int .i64) 3 w' w.heap.size (fun _ => True) s_.1 bA) ∧ (w'.heap[aG]? = some (.cells #[.slice none 0 0, .slice none 0 0] 24 (0, 0))) ∧ (w'.heap[s_.2]? = some (.cells #[.slice none 0 0, .slice none 0 0] 24 (0, 0))) ∧ (w.heap.size ≤ s_.2) ∧ (w.heap.size ≤ s_.2) ∧ (aG ≠ s_.2) ∧ (s_.2 ≠ aG) ∧ (Below w.heap.size w w')) ?_ ?_; rotate_left
      ·intro dB; refine join_ (σ := Value) 4 (bl_ 9 31) (fun s_ => [(8, s_)]) (fun s_ w' => (Kd.R (Kd.int .i64) 3 w' w.heap.size (fun _ => True) s_ aZ) ∧ (w'.heap[aG]? = some (.cells #[.slice none 0 0, .slice none 0 0] 24 (0, 0))) ∧ (Below w.heap.size w w')) ?_ ?_; rotate_left
       ·intro hJ2; refine join_ (σ := Value) 4 (bl_ 9 59) (fun s_ => [(11, s_)]) (fun s_ w' => (Kd.R (Kd.int .i64) 3 w' w.heap.size (fun _ => True) s_ bA) ∧ (w'.heap[aG]? = some (.cells #[.slice none 0 0, .slice none 0 0] 24 (0, 0))) ∧ (Below w.heap.size w w')) ?_ ?_; rotate_left
        ·intro hJ5; refine join_ (σ := Nat) 4 (bl_ 9 155) (fun s_ => [(3, .pointer (some ⟨s_, 0, none⟩))]) (fun s_ w' => (w'.heap[aG]? = some (.cells #[.slice none 0 0, .slice none 0 0] 24 (0, 0))) ∧ (w'.heap[s_]? = some (.cells #[.slice none 0 0, .slice none 0 0] 24 (0, 0))) ∧ (w.heap.size ≤ s_) ∧ (w.heap.size ≤ s_) ∧ (aG ≠ s_) ∧ (s_ ≠ aG) ∧ (Below w.heap.size w w')) ?_ ?_; rotate_left
         ·intro hJ7; refine three_ (i := 2) (j := 5) (k := 7) (Ni := some 8) (Nj := some 11) (Nk := some 3) (bl_ 9 31) (bl_ 9 59) (bl_ 9 155) rfl rfl rfl rfl rfl rfl (three_of HT_.o yK_) yD_ yD_ yD_ (fun K hK => ?_) (fun K hK => ?_) (fun K hK => ?_)
          ·skip
           refine Kd.za6 (Kd.int .i64) _ 3 (by rfl) (N := 8) rfl 22 _ _ rfl (l0.length : Int) rfl rfl Try.underlying22 (.int .i64 0) 8 info3 rfl yD_ yO_ 0 (ok := fun _ => True) (okp := fun _ => True) rfl (fun _ hk => hk) trivial (od_) (Nat.le_trans (Nat.mul_le_mul_right _ (od_ : (l0.length : Int).toNat ≤ 35184372088832)) yO_) (Below.refl _ _) (Nat.le_refl _) ?_; intro bE w6 cV hb cF aW; clear cF aW
           (first | rw [← bJ.o] at cV | (simp only [Int.reduceToNat] at cV; rw [← bJ.o] at cV))
           have aP := J (Kd.z9 cV (zh bw_)); have aQ := J (fr_ aA.o hb); have aR := J (za bw_ hb); clear aA; clear HB; have aK := aP; have aA := aQ; have HB := aR; clear aP aQ aR; clear hb cV; refine hK.out _ _ trivial (fun hHeld => ?_); clear hK K; refine zbl (a' := ?_) ?_ ?_; rotate_left
           ·show Act.put _ (some 8) _ = _
            simp only [Act.put, sI_, s0_, s1_, zat, zaM]; rfl
           exact np_ (hJ2 (bE) _ ⟨(pk_ aK.o), (pe_ aA.o), bw_⟩)
          ·skip
           refine Kd.za6 (Kd.int .i64) _ 3 (by rfl) (N := 11) rfl 22 _ _ rfl (l0.length : Int) rfl rfl Try.underlying22 (.int .i64 0) 8 info3 rfl yD_ yO_ 0 (ok := fun _ => True) (okp := fun _ => True) rfl (fun _ hk => hk) trivial (od_) (Nat.le_trans (Nat.mul_le_mul_right _ (od_ : (l0.length : Int).toNat ≤ 35184372088832)) yO_) (Below.refl _ _) (Nat.le_refl _) ?_; intro bF w6 cV hb cF aW; clear cF aW
           (first | rw [← bK.o] at cV | (simp only [Int.reduceToNat] at cV; rw [← bK.o] at cV))
           have aP := J (Kd.z9 cV (zh bw_)); have aQ := J (fr_ aA.o hb); have aR := J (za bw_ hb); clear aA; clear HB; have aL := aP; have aA := aQ; have HB := aR; clear aP aQ aR; clear hb cV; refine hK.out _ _ trivial (fun hHeld => ?_); clear hK K; refine zbl (a' := ?_) ?_ ?_; rotate_left
           ·show Act.put _ (some 11) _ = _
            simp only [Act.put, sI_, s0_, s1_, zat, zaM]; rfl
           exact np_ (hJ5 (bF) _ ⟨(pk_ aL.o), (pe_ aA.o), bw_⟩)
          ·skip
           refine za2 ?hg (N := 3) ?hd (cs := #[.slice none 0 0, .slice none 0 0]) (t := 24) ?hr ?_; (case hd => rfl); (case hg => rfl); (case hr => first | (go_simp; done) | (go_simp; rfl)); intro aB hg w6 hbox hb; have aP := J (fr_ aA.o hb); have aQ := J (za bw_ hb); have aR := J (hbox); have aT := J ((by rw [hg]; exact (zh bw_) : w.heap.size ≤ aB)); have bB := J ((by rw [hg]; exact (zh bw_) : w.heap.size ≤ aB)); have bG := J ((by rw [hg]; exact Nat.ne_of_lt (fl_ aA.o) : aG ≠ aB)); have bP := J ((by rw [hg]; exact Nat.ne_of_gt (fl_ aA.o) : aB ≠ aG)); clear aA; clear HB; have aA := aP; have HB := aQ; have aD := aR; have aV := aT; have aU := bB; have aH := bG; have aI := bP; clear aP aQ aR aT bB bG bP; clear hb hbox hg; refine hK.out _ _ trivial (fun hHeld => ?_); clear hK K; refine zbl (a' := ?_) ?_ ?_; rotate_left
           ·show Act.put _ (some 3) _ = _
            simp only [Act.put, sI_, s0_, s1_, zat, zaM]; rfl
           exact np_ (hJ7 (aB) _ ⟨(pe_ aA.o), (pe_ aD.o), aV.o, aU.o, aH.o, aI.o, bw_⟩)
         ·skip
          rintro aB w7 ⟨bS, bT, bU, cG, cS, cT, cU⟩; have aP : ze (w7.heap[aG]? = some (.cells #[.slice none 0 0, .slice none 0 0] 24 (0, 0))) := ⟨bS⟩
          have aQ : ze (w7.heap[aB]? = some (.cells #[.slice none 0 0, .slice none 0 0] 24 (0, 0))) := ⟨bT⟩
          have aR : ze (w.heap.size ≤ aB) := ⟨bU⟩
          have aT : ze (w.heap.size ≤ aB) := ⟨cG⟩
          have bB : ze (aG ≠ aB) := ⟨cS⟩
          have bG : ze (aB ≠ aG) := ⟨cT⟩
          have bP : ze (Below w.heap.size w w7) := ⟨cU⟩
          clear aA; clear HB; clear bS bT bU cG cS cT cU; have aA := aP; have aD := aQ; have aV := aR; have aU := aT; have aH := bB; have aI := bG; have HB := bP; clear aP aQ aR aT bB bG bP; have hHeld := trivial; refine zbl (a' := ?_) ?_ ?_; rotate_left
          ·simp only [putAll, Act.put, sI_, s0_, s1_]; rfl
          refine two_ (i := 2) (j := 5) (Ni := some 8) (Nj := some 11) (bl_ 9 159) (bl_ 9 187) rfl rfl rfl rfl (two_of HT_.o yK_) yD_ yD_ (fun K hK => ?_) (fun K hK => ?_)
          ·skip
           refine Kd.za6 (Kd.int .i64) _ 3 (by rfl) (N := 8) rfl 22 _ _ rfl (l0.length : Int) rfl rfl Try.underlying22 (.int .i64 0) 8 info3 rfl yD_ yO_ 0 (ok := fun _ => True) (okp := fun _ => True) rfl (fun _ hk => hk) trivial (od_) (Nat.le_trans (Nat.mul_le_mul_right _ (od_ : (l0.length : Int).toNat ≤ 35184372088832)) yO_) (Below.refl _ _) (Nat.le_refl _) ?_; intro bE w8 cW hb cF aW; clear cF aW
           (first | rw [← bJ.o] at cW | (simp only [Int.reduceToNat] at cW; rw [← bJ.o] at cW))
           have aP := J (Kd.z9 cW (zh bw_)); have aQ := J (fr_ aA.o hb); have aR := J (fr_ aD.o hb); have aT := J (za bw_ hb); clear aA; clear aD; clear HB; have aK := aP; have aA := aQ; have aD := aR; have HB := aT; clear aP aQ aR aT; clear hb cW; refine hK.out _ _ trivial (fun hHeld => ?_); clear hK K; refine zbl (a' := ?_) ?_ ?_; rotate_left
           ·show Act.put _ (some 8) _ = _
            simp only [Act.put, sI_, s0_, s1_, zat, zaM]; rfl
           exact np_ (dA (bE, aB) _ ⟨(pk_ aK.o), (pe_ aA.o), (pe_ aD.o), aV.o, aU.o, aH.o, aI.o, bw_⟩)
          ·skip
           refine Kd.za6 (Kd.int .i64) _ 3 (by rfl) (N := 11) rfl 22 _ _ rfl (l0.length : Int) rfl rfl Try.underlying22 (.int .i64 0) 8 info3 rfl yD_ yO_ 0 (ok := fun _ => True) (okp := fun _ => True) rfl (fun _ hk => hk) trivial (od_) (Nat.le_trans (Nat.mul_le_mul_right _ (od_ : (l0.length : Int).toNat ≤ 35184372088832)) yO_) (Below.refl _ _) (Nat.le_refl _) ?_; intro bF w8 cW hb cF aW; clear cF aW
           (first | rw [← bK.o] at cW | (simp only [Int.reduceToNat] at cW; rw [← bK.o] at cW))
           have aP := J (Kd.z9 cW (zh bw_)); have aQ := J (fr_ aA.o hb); have aR := J (fr_ aD.o hb); have aT := J (za bw_ hb); clear aA; clear aD; clear HB; have aL := aP; have aA := aQ; have aD := aR; have HB := aT; clear aP aQ aR aT; clear hb cW; refine hK.out _ _ trivial (fun hHeld => ?_); clear hK K; refine zbl (a' := ?_) ?_ ?_; rotate_left
           ·show Act.put _ (some 11) _ = _
            simp only [Act.put, sI_, s0_, s1_, zat, zaM]; rfl
           exact np_ (dB (bF, aB) _ ⟨(pk_ aL.o), (pe_ aA.o), (pe_ aD.o), aV.o, aU.o, aH.o, aI.o, bw_⟩)
        ·skip
         rintro bF w8 ⟨bS, bT, bU⟩; have aP : ze (Kd.R (Kd.int .i64) 3 w8 w.heap.size (fun _ => True) bF bA) := ⟨bS⟩
         have aQ : ze (w8.heap[aG]? = some (.cells #[.slice none 0 0, .slice none 0 0] 24 (0, 0))) := ⟨bT⟩
         have aR : ze (Below w.heap.size w w8) := ⟨bU⟩
         clear aA; clear HB; clear bS bT bU; have aL := aP; have aA := aQ; have HB := aR; clear aP aQ aR; have hHeld := trivial; refine zbl (a' := ?_) ?_ ?_; rotate_left
         ·simp only [putAll, Act.put, sI_, s0_, s1_]; rfl
         refine two_ (i := 2) (j := 7) (Ni := some 8) (Nj := some 3) (bl_ 9 63) (bl_ 9 187) rfl rfl rfl rfl (two_of HT_.o yK_) yD_ yD_ (fun K hK => ?_) (fun K hK => ?_)
         ·skip
          refine Kd.za6 (Kd.int .i64) _ 3 (by rfl) (N := 8) rfl 22 _ _ rfl (l0.length : Int) rfl rfl Try.underlying22 (.int .i64 0) 8 info3 rfl yD_ yO_ 0 (ok := fun _ => True) (okp := fun _ => True) rfl (fun _ hk => hk) trivial (od_) (Nat.le_trans (Nat.mul_le_mul_right _ (od_ : (l0.length : Int).toNat ≤ 35184372088832)) yO_) (Below.refl _ _) (Nat.le_refl _) ?_; intro bE w9 bH hb cF aW; clear cF aW
          (first | rw [← bJ.o] at bH | (simp only [Int.reduceToNat] at bH; rw [← bJ.o] at bH))
          have aP := J (Kd.R_elder' (pk_ aL.o) (Kd.R_base bH) hb); have aQ := J (Kd.z9 (Kd.R_new' bH (Kd.R_lt (pk_ aL.o))) (zh bw_)); have aR := J (fr_ aA.o hb); have aT := J (za bw_ hb); clear aL; clear aA; clear HB; have aL := aP; have aK := aQ; have aA := aR; have HB := aT; clear aP aQ aR aT; clear hb bH; obtain ⟨dC, dI, cQ⟩ := Kd.zJ aL.o
          (first | subst cQ | (injection cQ with bC bM bD; have bN := bC.symm; have bO := bD.symm; clear bC bM bD; subst bN; subst bO))
          obtain ⟨cC, cE, bL⟩ := Kd.zJ aK.o
          (first | subst bL | (injection bL with bC bM bD; have bN := bC.symm; have bO := bD.symm; clear bC bM bD; subst bN; subst bO))
          refine hK.out _ _ trivial (fun hHeld => ?_); clear hK K; refine zbl (a' := ?_) ?_ ?_; rotate_left
          ·show Act.put _ (some 8) _ = _
           simp only [Act.put, sI_, s0_, s1_, zat, zaM]; rfl
          refine pu_ 6 ?_; exact np_ (cZ (.slice cC aZ.length cE, .slice dC bA.length dI) _ ⟨(by (with_reducible repeat (first | apply Kd.R_alloc | apply Kd.zH | apply Kd.zI)); exact Kd.zB aK.o (fun _ hk => hk.2)), (by (with_reducible repeat (first | apply Kd.R_alloc | apply Kd.zH | apply Kd.zI)); exact Kd.zB aL.o (fun _ hk => hk.2)), (pe_ aA.o), bw_⟩)
         ·skip
          refine za2 ?hg (N := 3) ?hd (cs := #[.slice none 0 0, .slice none 0 0]) (t := 24) ?hr ?_; (case hd => rfl); (case hg => rfl); (case hr => first | (go_simp; done) | (go_simp; rfl)); intro aB hg w9 hbox hb; have aP := J (Kd.zF (pk_ aL.o) hb); have aQ := J (fr_ aA.o hb); have aR := J (za bw_ hb); have aT := J (hbox); have bB := J ((by rw [hg]; exact (zh bw_) : w.heap.size ≤ aB)); have bG := J ((by rw [hg]; exact (zh bw_) : w.heap.size ≤ aB)); have bP := J ((by rw [hg]; exact Nat.ne_of_lt (fl_ aA.o) : aG ≠ aB)); have cB := J ((by rw [hg]; exact Nat.ne_of_gt (fl_ aA.o) : aB ≠ aG)); clear aL; clear aA; clear HB; have aL := aP; have aA := aQ; have HB := aR; have aD := aT; have aV := bB; have aU := bG; have aH := bP; have aI := cB; clear aP aQ aR aT bB bG bP cB; clear hb hbox hg; refine hK.out _ _ trivial (fun hHeld => ?_); clear hK K; refine zbl (a' := ?_) ?_ ?_; rotate_left
          ·show Act.put _ (some 3) _ = _
           simp only [Act.put, sI_, s0_, s1_, zat, zaM]; rfl
          exact np_ (dB (bF, aB) _ ⟨(pk_ aL.o), (pe_ aA.o), (pe_ aD.o), aV.o, aU.o, aH.o, aI.o, bw_⟩)
       ·skip
        rintro bE w8 ⟨bS, bT, bU⟩; have aP : ze (Kd.R (Kd.int .i64) 3 w8 w.heap.size (fun _ => True) bE aZ) := ⟨bS⟩
        have aQ : ze (w8.heap[aG]? = some (.cells #[.slice none 0 0, .slice none 0 0] 24 (0, 0))) := ⟨bT⟩
        have aR : ze (Below w.heap.size w w8) := ⟨bU⟩
        clear aA; clear HB; clear bS bT bU; have aK := aP; have aA := aQ; have HB := aR; clear aP aQ aR; have hHeld := trivial; refine zbl (a' := ?_) ?_ ?_; rotate_left
        ·simp only [putAll, Act.put, sI_, s0_, s1_]; rfl
        refine two_ (i := 5) (j := 7) (Ni := some 11) (Nj := some 3) (bl_ 9 63) (bl_ 9 159) rfl rfl rfl rfl (two_of HT_.o yK_) yD_ yD_ (fun K hK => ?_) (fun K hK => ?_)
        ·skip
         refine Kd.za6 (Kd.int .i64) _ 3 (by rfl) (N := 11) rfl 22 _ _ rfl (l0.length : Int) rfl rfl Try.underlying22 (.int .i64 0) 8 info3 rfl yD_ yO_ 0 (ok := fun _ => True) (okp := fun _ => True) rfl (fun _ hk => hk) trivial (od_) (Nat.le_trans (Nat.mul_le_mul_right _ (od_ : (l0.length : Int).toNat ≤ 35184372088832)) yO_) (Below.refl _ _) (Nat.le_refl _) ?_; intro bF w9 bH hb cF aW; clear cF aW
         (first | rw [← bK.o] at bH | (simp only [Int.reduceToNat] at bH; rw [← bK.o] at bH))
         have aP := J (Kd.R_elder' (pk_ aK.o) (Kd.R_base bH) hb); have aQ := J (Kd.z9 (Kd.R_new' bH (Kd.R_lt (pk_ aK.o))) (zh bw_)); have aR := J (fr_ aA.o hb); have aT := J (za bw_ hb); clear aK; clear aA; clear HB; have aK := aP; have aL := aQ; have aA := aR; have HB := aT; clear aP aQ aR aT; clear hb bH; obtain ⟨dC, dI, cQ⟩ := Kd.zJ aL.o
         (first | subst cQ | (injection cQ with bC bM bD; have bN := bC.symm; have bO := bD.symm; clear bC bM bD; subst bN; subst bO))
         obtain ⟨cC, cE, bL⟩ := Kd.zJ aK.o
         (first | subst bL | (injection bL with bC bM bD; have bN := bC.symm; have bO := bD.symm; clear bC bM bD; subst bN; subst bO))
         refine hK.out _ _ trivial (fun hHeld => ?_); clear hK K; refine zbl (a' := ?_) ?_ ?_; rotate_left
         ·show Act.put _ (some 11) _ = _
          simp only [Act.put, sI_, s0_, s1_, zat, zaM]; rfl
         refine pu_ 6 ?_; exact np_ (cZ (.slice cC aZ.length cE, .slice dC bA.length dI) _ ⟨(by (with_reducible repeat (first | apply Kd.R_alloc | apply Kd.zH | apply Kd.zI)); exact Kd.zB aK.o (fun _ hk => hk.2)), (by (with_reducible repeat (first | apply Kd.R_alloc | apply Kd.zH | apply Kd.zI)); exact Kd.zB aL.o (fun _ hk => hk.2)), (pe_ aA.o), bw_⟩)
        ·skip
         refine za2 ?hg (N := 3) ?hd (cs := #[.slice none 0 0, .slice none 0 0]) (t := 24) ?hr ?_; (case hd => rfl); (case hg => rfl); (case hr => first | (go_simp; done) | (go_simp; rfl)); intro aB hg w9 hbox hb; have aP := J (Kd.zF (pk_ aK.o) hb); have aQ := J (fr_ aA.o hb); have aR := J (za bw_ hb); have aT := J (hbox); have bB := J ((by rw [hg]; exact (zh bw_) : w.heap.size ≤ aB)); have bG := J ((by rw [hg]; exact (zh bw_) : w.heap.size ≤ aB)); have bP := J ((by rw [hg]; exact Nat.ne_of_lt (fl_ aA.o) : aG ≠ aB)); have cB := J ((by rw [hg]; exact Nat.ne_of_gt (fl_ aA.o) : aB ≠ aG)); clear aK; clear aA; clear HB; have aK := aP; have aA := aQ; have HB := aR; have aD := aT; have aV := bB; have aU := bG; have aH := bP; have aI := cB; clear aP aQ aR aT bB bG bP cB; clear hb hbox hg; refine hK.out _ _ trivial (fun hHeld => ?_); clear hK K; refine zbl (a' := ?_) ?_ ?_; rotate_left
         ·show Act.put _ (some 3) _ = _
          simp only [Act.put, sI_, s0_, s1_, zat, zaM]; rfl
         exact np_ (dA (bE, aB) _ ⟨(pk_ aK.o), (pe_ aA.o), (pe_ aD.o), aV.o, aU.o, aH.o, aI.o, bw_⟩)
      ·skip
       rintro ⟨bF, aB⟩ w9 ⟨bS, bT, bU, cG, cS, cT, cU, cY⟩; have aP : ze (Kd.R (Kd.int .i64) 3 w9 w.heap.size (fun _ => True) bF bA) := ⟨bS⟩
       have aQ : ze (w9.heap[aG]? = some (.cells #[.slice none 0 0, .slice none 0 0] 24 (0, 0))) := ⟨bT⟩
       have aR : ze (w9.heap[aB]? = some (.cells #[.slice none 0 0, .slice none 0 0] 24 (0, 0))) := ⟨bU⟩
       have aT : ze (w.heap.size ≤ aB) := ⟨cG⟩
       have bB : ze (w.heap.size ≤ aB) := ⟨cS⟩
       have bG : ze (aG ≠ aB) := ⟨cT⟩
       have bP : ze (aB ≠ aG) := ⟨cU⟩
       have cB : ze (Below w.heap.size w w9) := ⟨cY⟩
       clear aA; clear HB; clear bS bT bU cG cS cT cU cY; have aL := aP; have aA := aQ; have aD := aR; have aV := aT; have aU := bB; have aH := bG; have aI := bP; have HB := cB; clear aP aQ aR aT bB bG bP cB; have hHeld := trivial; refine zbl (a' := ?_) ?_ ?_; rotate_left
       ·simp only [putAll, Act.put, sI_, s0_, s1_]; rfl
       refine on_ HT_ 2 (some 8) (bl_ 9 191) fun K hK => ?_
       refine Kd.za6 (Kd.int .i64) _ 3 (by rfl) (N := 8) rfl 22 _ _ rfl (l0.length : Int) rfl rfl Try.underlying22 (.int .i64 0) 8 info3 rfl yD_ yO_ 0 (ok := fun _ => True) (okp := fun _ => True) rfl (fun _ hk => hk) trivial (od_) (Nat.le_trans (Nat.mul_le_mul_right _ (od_ : (l0.length : Int).toNat ≤ 35184372088832)) yO_) (Below.refl _ _) (Nat.le_refl _) ?_; intro bE w10 bI hb cF aW; clear cF aW
       (first | rw [← bJ.o] at bI | (simp only [Int.reduceToNat] at bI; rw [← bJ.o] at bI))
       have aP := J (Kd.R_elder' (pk_ aL.o) (Kd.R_base bI) hb); have aQ := J (Kd.z9 (Kd.R_new' bI (Kd.R_lt (pk_ aL.o))) (zh bw_)); have aR := J (fr_ aA.o hb); have aT := J (fr_ aD.o hb); have bB := J (za bw_ hb); clear aL; clear aA; clear aD; clear HB; have aL := aP; have aK := aQ; have aA := aR; have aD := aT; have HB := bB; clear aP aQ aR aT bB; clear hb bI; obtain ⟨cC, cE, bL⟩ := Kd.zJ aL.o
       (first | subst bL | (injection bL with bC bM bD; have bN := bC.symm; have bO := bD.symm; clear bC bM bD; subst bN; subst bO))
       obtain ⟨cM, cO, bW⟩ := Kd.zJ aK.o
       (first | subst bW | (injection bW with bC bM bD; have bN := bC.symm; have bO := bD.symm; clear bC bM bD; subst bN; subst bO))
       refine hK.out _ _ trivial (fun hHeld => ?_); clear hK K; refine zbl (a' := ?_) ?_ ?_; rotate_left
       ·show Act.put _ (some 8) _ = _
        simp only [Act.put, sI_, s0_, s1_, zat, zaM]; rfl
       refine pu_ 6 ?_; exact np_ (bV (.slice cM aZ.length cO, .slice cC bA.length cE, aB) _ ⟨(by (with_reducible repeat (first | apply Kd.R_alloc | apply Kd.zH | apply Kd.zI)); exact Kd.zB aK.o (fun _ hk => hk.2)), (by (with_reducible repeat (first | apply Kd.R_alloc | apply Kd.zH | apply Kd.zI)); exact Kd.zB aL.o (fun _ hk => hk.2)), (pe_ aA.o), (pe_ aD.o), aV.o, aU.o, aH.o, aI.o, bw_⟩)
     ·skip
      rintro ⟨bE, aB⟩ w9 ⟨bS, bT, bU, cG, cS, cT, cU, cY⟩; have aP : ze (Kd.R (Kd.int .i64) 3 w9 w.heap.size (fun _ => True) bE aZ) := ⟨bS⟩
      have aQ : ze (w9.heap[aG]? = some (.cells #[.slice none 0 0, .slice none 0 0] 24 (0, 0))) := ⟨bT⟩
      have aR : ze (w9.heap[aB]? = some (.cells #[.slice none 0 0, .slice none 0 0] 24 (0, 0))) := ⟨bU⟩
      have aT : ze (w.heap.size ≤ aB) := ⟨cG⟩
      have bB : ze (w.heap.size ≤ aB) := ⟨cS⟩
      have bG : ze (aG ≠ aB) := ⟨cT⟩
      have bP : ze (aB ≠ aG) := ⟨cU⟩
      have cB : ze (Below w.heap.size w w9) := ⟨cY⟩
      clear aA; clear HB; clear bS bT bU cG cS cT cU cY; have aK := aP; have aA := aQ; have aD := aR; have aV := aT; have aU := bB; have aH := bG; have aI := bP; have HB := cB; clear aP aQ aR aT bB bG bP cB; have hHeld := trivial; refine zbl (a' := ?_) ?_ ?_; rotate_left
      ·simp only [putAll, Act.put, sI_, s0_, s1_]; rfl
      refine on_ HT_ 5 (some 11) (bl_ 9 191) fun K hK => ?_
      refine Kd.za6 (Kd.int .i64) _ 3 (by rfl) (N := 11) rfl 22 _ _ rfl (l0.length : Int) rfl rfl Try.underlying22 (.int .i64 0) 8 info3 rfl yD_ yO_ 0 (ok := fun _ => True) (okp := fun _ => True) rfl (fun _ hk => hk) trivial (od_) (Nat.le_trans (Nat.mul_le_mul_right _ (od_ : (l0.length : Int).toNat ≤ 35184372088832)) yO_) (Below.refl _ _) (Nat.le_refl _) ?_; intro bF w10 bI hb cF aW; clear cF aW
      (first | rw [← bK.o] at bI | (simp only [Int.reduceToNat] at bI; rw [← bK.o] at bI))
      have aP := J (Kd.R_elder' (pk_ aK.o) (Kd.R_base bI) hb); have aQ := J (Kd.z9 (Kd.R_new' bI (Kd.R_lt (pk_ aK.o))) (zh bw_)); have aR := J (fr_ aA.o hb); have aT := J (fr_ aD.o hb); have bB := J (za bw_ hb); clear aK; clear aA; clear aD; clear HB; have aK := aP; have aL := aQ; have aA := aR; have aD := aT; have HB := bB; clear aP aQ aR aT bB; clear hb bI; obtain ⟨cC, cE, bL⟩ := Kd.zJ aL.o
      (first | subst bL | (injection bL with bC bM bD; have bN := bC.symm; have bO := bD.symm; clear bC bM bD; subst bN; subst bO))
      obtain ⟨cM, cO, bW⟩ := Kd.zJ aK.o
      (first | subst bW | (injection bW with bC bM bD; have bN := bC.symm; have bO := bD.symm; clear bC bM bD; subst bN; subst bO))
      refine hK.out _ _ trivial (fun hHeld => ?_); clear hK K; refine zbl (a' := ?_) ?_ ?_; rotate_left
      ·show Act.put _ (some 11) _ = _
       simp only [Act.put, sI_, s0_, s1_, zat, zaM]; rfl
      refine pu_ 6 ?_; exact np_ (bV (.slice cM aZ.length cO, .slice cC bA.length cE, aB) _ ⟨(by (with_reducible repeat (first | apply Kd.R_alloc | apply Kd.zH | apply Kd.zI)); exact Kd.zB aK.o (fun _ hk => hk.2)), (by (with_reducible repeat (first | apply Kd.R_alloc | apply Kd.zH | apply Kd.zI)); exact Kd.zB aL.o (fun _ hk => hk.2)), (pe_ aA.o), (pe_ aD.o), aV.o, aU.o, aH.o, aI.o, bw_⟩)
    ·skip
     rintro ⟨bE, bF⟩ eX ⟨bS, bT, bU, cG⟩; have aP : ze (Kd.R (Kd.int .i64) 3 eX w.heap.size (fun k_ => some k_ ≠ (bF : Value).ownBlock) bE aZ) := ⟨bS⟩
     have aQ : ze (Kd.R (Kd.int .i64) 3 eX w.heap.size (fun k_ => some k_ ≠ (bE : Value).ownBlock) bF bA) := ⟨bT⟩
     have aR : ze (eX.heap[aG]? = some (.cells #[.slice none 0 0, .slice none 0 0] 24 (0, 0))) := ⟨bU⟩
     have aT : ze (Below w.heap.size w eX) := ⟨cG⟩
     clear aA; clear HB; clear bS bT bU cG; have aK := aP; have aL := aQ; have aA := aR; have HB := aT; clear aP aQ aR aT; have hHeld := trivial; obtain ⟨cM, cO, bW⟩ := Kd.zJ aL.o
     (first | subst bW | (injection bW with bC bM bD; have bN := bC.symm; have bO := bD.symm; clear bC bM bD; subst bN; subst bO))
     obtain ⟨cN, cP, cR⟩ := Kd.zJ aK.o
     (first | subst cR | (injection cR with bC bM bD; have bN := bC.symm; have bO := bD.symm; clear bC bM bD; subst bN; subst bO))
     refine zbl (a' := ?_) ?_ ?_; rotate_left
     ·simp only [putAll, Act.put, sI_, s0_, s1_]; rfl
     refine on_ HT_ 7 (some 3) (bl_ 9 255) fun K hK => ?_
     refine za2 ?hg (N := 3) ?hd (cs := #[.slice none 0 0, .slice none 0 0]) (t := 24) ?hr ?_; (case hd => rfl); (case hg => rfl); (case hr => first | (go_simp; done) | (go_simp; rfl)); intro aB hg w15 hbox hb; have aP := J (Kd.zF (pk_ aK.o) hb); have aQ := J (Kd.zF (pk_ aL.o) hb); have aR := J (fr_ aA.o hb); have aT := J (za bw_ hb); have bB := J (hbox); have bG := J ((by rw [hg]; exact (zh bw_) : w.heap.size ≤ aB)); have bP := J ((by rw [hg]; exact (zh bw_) : w.heap.size ≤ aB)); have cB := J ((by rw [hg]; exact Nat.ne_of_lt (fl_ aA.o) : aG ≠ aB)); have eQ := J ((by rw [hg]; exact Nat.ne_of_gt (fl_ aA.o) : aB ≠ aG)); clear aK; clear aL; clear aA; clear HB; have aK := aP; have aL := aQ; have aA := aR; have HB := aT; have aD := bB; have aV := bG; have aU := bP; have aH := cB; have aI := eQ; clear aP aQ aR aT bB bG bP cB eQ; clear hb hbox hg; refine hK.out _ _ trivial (fun hHeld => ?_); clear hK K; refine zbl (a' := ?_) ?_ ?_; rotate_left
     ·show Act.put _ (some 3) _ = _
      simp only [Act.put, sI_, s0_, s1_, zat, zaM]; rfl
     exact np_ (bV (.slice cN aZ.length cP, .slice cM bA.length cO, aB) _ ⟨(pk_ aK.o), (pk_ aL.o), (pe_ aA.o), (pe_ aD.o), aV.o, aU.o, aH.o, aI.o, bw_⟩)
   rintro ⟨bE, bF, aB⟩ eR ⟨bS, bT, bU, cG, cS, cT, cU, cY, h8_⟩; have aP : ze (Kd.R (Kd.int .i64) 3 eR w.heap.size (fun k_ => some k_ ≠ (bF : Value).ownBlock) bE aZ) := ⟨bS⟩
   have aQ : ze (Kd.R (Kd.int .i64) 3 eR w.heap.size (fun k_ => some k_ ≠ (bE : Value).ownBlock) bF bA) := ⟨bT⟩
   have aR : ze (eR.heap[aG]? = some (.cells #[.slice none 0 0, .slice none 0 0] 24 (0, 0))) := ⟨bU⟩
   have aT : ze (eR.heap[aB]? = some (.cells #[.slice none 0 0, .slice none 0 0] 24 (0, 0))) := ⟨cG⟩
   have bB : ze (w.heap.size ≤ aB) := ⟨cS⟩
   have bG : ze (w.heap.size ≤ aB) := ⟨cT⟩
   have bP : ze (aG ≠ aB) := ⟨cU⟩
   have cB : ze (aB ≠ aG) := ⟨cY⟩
   have eQ : ze (Below w.heap.size w eR) := ⟨h8_⟩
   clear aA; clear HB; clear bS bT bU cG cS cT cU cY h8_; have aK := aP; have aL := aQ; have aA := aR; have aD := aT; have aV := bB; have aU := bG; have aH := bP; have aI := cB; have HB := eQ; clear aP aQ aR aT bB bG bP cB eQ; have hHeld := trivial; obtain ⟨cN, cP, cR⟩ := Kd.zJ aL.o
   (first | subst cR | (injection cR with bC bM bD; have bN := bC.symm; have bO := bD.symm; clear bC bM bD; subst bN; subst bO))
   obtain ⟨dD, dJ, eK⟩ := Kd.zJ aK.o
   (first | subst eK | (injection eK with bC bM bD; have bN := bC.symm; have bO := bD.symm; clear bC bM bD; subst bN; subst bO))
   refine zbl (a' := ?_) ?_ ?_; rotate_left
   ·simp only [putAll, Act.put, sI_, s0_, s1_]; rfl
   refine on_ HT_ 8 none (bl_ 9 511) fun K hK => ?_
   have hs16 := cz_ aD.o 0 rfl; have hfs16 := zb aD.o 0; have hns16_0 := aH.o; have hms16_0 := aI.o; have hs17 := cz_ aD.o 1 rfl; have hfs17 := zb aD.o 1; have hns17_0 := aH.o; have hms17_0 := aI.o; refine skip_ (w1 := ?_) (by rfl) rfl ?_ ?_; rotate_left
   ·go_simp; rfl
   refine hK.out _ _ trivial (fun hHeld => ?_); clear hK K; refine zaL (zad HT_.o yK_) ?_
   try go_wp2
   go_loopg [15] k (fun kq v15 w' => ∃ (aC : Int) (aN : List Int) (aM : List Int) (aX : Value) (aY : Value), v15 = .int .i64 aC ∧ ze (zt.l0 kq l0 (l0.length : Int) aC aN aM = some (r1, r2)) ∧ ze (kq ≤ k) ∧ ze (Kd.R (Kd.int .i64) 3 w' w.heap.size (fun k_ => some k_ ≠ (aY : Value).ownBlock) aX aN) ∧ ze (Kd.R (Kd.int .i64) 3 w' w.heap.size (fun k_ => some k_ ≠ (aX : Value).ownBlock) aY aM) ∧ ze (w'.heap[aG]? = some (.cells #[(.slice none 0 0), (.slice none 0 0)] 24 (0, 0))) ∧ ze (w'.heap[aB]? = some (.cells #[aX, aY] 24 (0, 0))) ∧ ze (Below w.heap.size w w'))
   case atStart => exact ⟨(0), (aZ), (bA), (.slice dD aZ.length dJ), (.slice cN bA.length cP), rs_, H', ⟨Nat.le_refl _⟩, ⟨by (with_reducible repeat (first | apply Kd.R_alloc | apply Kd.zH | apply Kd.zI)); exact Kd.zB (Kd.zT (p := ⟨aB, 1, none⟩) (Kd.zT (p := ⟨aB, 0, none⟩) (Kd.zV aK.o aD.o yD_) (fun _ hk => hk.2) (.slice dD aZ.length dJ)) (fun _ hk => hk.2) (.slice cN bA.length cP)) (fun _ hk => hk.1)⟩, ⟨by (with_reducible repeat (first | apply Kd.R_alloc | apply Kd.zH | apply Kd.zI)); exact Kd.zB (Kd.zT (p := ⟨aB, 1, none⟩) (Kd.zT (p := ⟨aB, 0, none⟩) (Kd.zV aL.o aD.o yD_) (fun _ hk => hk.2) (.slice dD aZ.length dJ)) (fun _ hk => hk.2) (.slice cN bA.length cP)) (fun _ hk => hk.1)⟩, ⟨hp_ aA.o⟩, ⟨hp_ aD.o⟩, ⟨bw_⟩⟩
   case round =>
    clear H'
    try clear p2
    obtain ⟨aC, aN, aM, aX, aY, rfl, HA, HK1, aE, aJ, aA, aD, HB⟩ := hrel
    cases gk with
    | zero => exact absurd HA.o (by simp [zt.l0])
    | succ k1 =>
     have H := HA.o; clear HA; simp only [zt.l0] at H
     by_cases dV : aC < (l0.length : Int)
     ·rw [if_pos dV] at H; have eH := decide_eq_true dV; clear dV
      by_cases eT : 0 ≤ aC
      ·rw [if_pos eT] at H; have c19b0 := decide_eq_true eT; clear eT
       by_cases eU : aC < (l0.length : Int)
       ·rw [if_pos eU] at H; have c20b0 := decide_eq_true eU; clear eU
        by_cases eV : aC < (aN.length : Int)
        ·rw [if_pos eV] at H; have c21b0 := decide_eq_true eV; clear eV; obtain ⟨dT, bZ⟩ : ∃ y_ : List Int, y_ = (aN.set (aC : Int).toNat ((zn l0 aC).f0)) := ⟨_, rfl⟩
         replace H : (if aC < (aM.length : Int) then (zt.l0 k1 l0 (l0.length : Int) (wrap64 (aC + 1)) dT (aM.set (aC : Int).toNat ((zn l0 aC).f1))) else (none)) = some (r1, r2) := by first | (rw [bZ]; with_reducible exact H) | (have cD := (Option.bind_some _ _).symm.trans H; rw [bZ]; with_reducible exact cD) | (have cD := (Option.bind_some _ _).symm.trans H; with_reducible exact cD) | with_reducible exact H | (rw [bZ]; exact H) | exact H
         have eF := J bZ; clear bZ
         by_cases eW : aC < (aM.length : Int)
         ·rw [if_pos eW] at H; have c23b0 := decide_eq_true eW; clear eW; obtain ⟨eS, cA⟩ : ∃ y_ : List Int, y_ = (aM.set (aC : Int).toNat ((zn l0 aC).f1)) := ⟨_, rfl⟩
          replace H : (zt.l0 k1 l0 (l0.length : Int) (wrap64 (aC + 1)) dT eS) = some (r1, r2) := by first | (rw [cA]; with_reducible exact H) | (have cD := (Option.bind_some _ _).symm.trans H; rw [cA]; with_reducible exact cD) | (have cD := (Option.bind_some _ _).symm.trans H; with_reducible exact cD) | with_reducible exact H | (rw [cA]; exact H) | exact H
          have eG := J cA; clear cA; have H' := J H; clear H; have dQ : 0 ≤ (aC : Int) := od_; have dR : aC < (l0.length : Int) := od_; obtain ⟨ad109, fC, cH, cI⟩ := at_T90 HR0.o aC dQ dR; cases fC; replace cH := bx_ HB.o cH; replace cI := bx_ HB.o cI; replace dQ := eq_true dQ; replace dR := eq_true dR
          try go_wp2_with (first | ((with_reducible refine zf (N := 5) rfl ?_); refine zah 5 (cs := #[.int .i64 0, .int .i64 0]) (t := 90) ?_; intro aO hg dS hbox hb; replace aE := J (Kd.zF (pk_ aE.o) hb); replace aJ := J (Kd.zF (pk_ aJ.o) hb); have aS := J (hbox); have dZ := J ((by rw [hg]; exact (zh bw_) : w.heap.size ≤ aO)); replace HB := J (za bw_ hb); have dX := dZ; have bQ := J ((by rw [hg]; exact Nat.ne_of_lt (fl_ aA.o) : aG ≠ aO)); replace aA := J (fr_ aA.o hb); have cJ := J bQ.o.symm; have bR := J ((by rw [hg]; exact Nat.ne_of_lt (fl_ aD.o) : aB ≠ aO)); replace aD := J (fr_ aD.o hb); have cK := J bR.o.symm; clear hb hbox hg; have hnb26 := cJ.o; have hnc26 := bQ.o; have hnb27 := cK.o; have hnc27 := bR.o; have hcz28_0 := cz_ aS.o 0 rfl; have hcz28_1 := cz_ aS.o 1 rfl; have hfz28_0 := zb aS.o 0; have hfz28_1 := zb aS.o 1))
          have aP : ze (Kd.R (Kd.int .i64) 3 ((dS.setCell ⟨aO, 0, none⟩ (.int .i64 ((zn l0 aC).f0))).setCell ⟨aO, 1, none⟩ (.int .i64 ((zn l0 aC).f1))) w.heap.size (fun k_ => some k_ ≠ (aY : Value).ownBlock) aX aN) := ⟨by (with_reducible repeat (first | apply Kd.R_alloc | apply Kd.zH | apply Kd.zI)); exact Kd.zB (Kd.zT (p := ⟨aO, 1, none⟩) (Kd.zT (p := ⟨aO, 0, none⟩) (Kd.zV aE.o aS.o yD_) (fun _ hk => hk.2) (.int .i64 ((zn l0 aC).f0))) (fun _ hk => hk.2) (.int .i64 ((zn l0 aC).f1))) (fun _ hk => hk.1)⟩
          have aQ : ze (Kd.R (Kd.int .i64) 3 ((dS.setCell ⟨aO, 0, none⟩ (.int .i64 ((zn l0 aC).f0))).setCell ⟨aO, 1, none⟩ (.int .i64 ((zn l0 aC).f1))) w.heap.size (fun k_ => some k_ ≠ (aX : Value).ownBlock) aY aM) := ⟨by (with_reducible repeat (first | apply Kd.R_alloc | apply Kd.zH | apply Kd.zI)); exact Kd.zB (Kd.zT (p := ⟨aO, 1, none⟩) (Kd.zT (p := ⟨aO, 0, none⟩) (Kd.zV aJ.o aS.o yD_) (fun _ hk => hk.2) (.int .i64 ((zn l0 aC).f0))) (fun _ hk => hk.2) (.int .i64 ((zn l0 aC).f1))) (fun _ hk => hk.1)⟩
          have aR : ze (((dS.setCell ⟨aO, 0, none⟩ (.int .i64 ((zn l0 aC).f0))).setCell ⟨aO, 1, none⟩ (.int .i64 ((zn l0 aC).f1))).heap[aG]? = some (.cells #[.slice none 0 0, .slice none 0 0] 24 (0, 0))) := ⟨hp_ aA.o⟩
          have aT : ze (((dS.setCell ⟨aO, 0, none⟩ (.int .i64 ((zn l0 aC).f0))).setCell ⟨aO, 1, none⟩ (.int .i64 ((zn l0 aC).f1))).heap[aB]? = some (.cells #[aX, aY] 24 (0, 0))) := ⟨hp_ aD.o⟩
          have bB : ze (((dS.setCell ⟨aO, 0, none⟩ (.int .i64 ((zn l0 aC).f0))).setCell ⟨aO, 1, none⟩ (.int .i64 ((zn l0 aC).f1))).heap[aO]? = some (.cells #[.int .i64 ((zn l0 aC).f0), .int .i64 ((zn l0 aC).f1)] 90 (0, 0))) := ⟨hp_ aS.o⟩
          have bG : ze (Below w.heap.size w ((dS.setCell ⟨aO, 0, none⟩ (.int .i64 ((zn l0 aC).f0))).setCell ⟨aO, 1, none⟩ (.int .i64 ((zn l0 aC).f1)))) := ⟨bw_⟩
          (try clear aE)
          (try clear aJ)
          (try clear aA)
          (try clear aD)
          (try clear aS)
          (try clear HB)
          generalize ((dS.setCell ⟨aO, 0, none⟩ (.int .i64 ((zn l0 aC).f0))).setCell ⟨aO, 1, none⟩ (.int .i64 ((zn l0 aC).f1))) = w29 at aP aQ aR aT bB bG ⊢; have aE := aP; have aJ := aQ; have aA := aR; have aD := aT; have aS := bB; have HB := bG; clear aP aQ aR aT bB bG; have aP := J (Kd.zI aE.o); have aQ := J (Kd.zI aJ.o); have aR := J (zA aA.o); have aT := J (zA aD.o); have bB := J (zA aS.o); have bG := J (zax HB.o); clear aE; clear aJ; clear aA; clear aD; clear aS; clear HB; have aE := aP; have aJ := aQ; have aA := aR; have aD := aT; have aS := bB; have HB := bG; clear aP aQ aR aT bB bG; have fH : 0 ≤ (aC : Int) := od_; have fJ : (aC : Int) < ((aN.length : Int) : Int) := od_; obtain ⟨cL, eI, eM, eO, fF, cl22, eA⟩ := Kd.R_form aE.o yO_
          (first | cases eM | (injection eM with ea_ en_ ec_; (first | subst ea_ | (injection ea_ with ea_; subst ea_)); subst ec_; clear en_))
          have eY := J eO; have fA := J eA; clear eO fF eA; obtain ⟨dO, dM⟩ := Kd.zaQ 0 aE.o (aC : Int) fH fJ; replace fH := eq_true fH; replace fJ := eq_true fJ; have dG := Kd.R_putn aE.o (aC : Int) ((zn l0 aC).f0); rw [← eF.o] at dG; have eC := J dG; clear dG; have fI : 0 ≤ (aC : Int) := od_; have fK : (aC : Int) < ((aM.length : Int) : Int) := od_; obtain ⟨cX, eJ, eN, eP, fG, cl24, eB⟩ := Kd.R_form aJ.o yO_
          (first | cases eN | (injection eN with ea_ en_ ec_; (first | subst ea_ | (injection ea_ with ea_; subst ea_)); subst ec_; clear en_))
          have eZ := J eP; have fB := J eB; clear eP fG eB; obtain ⟨dP, dN⟩ := Kd.zaQ 0 (Kd.zT (p := ⟨cL, (aC : Int).toNat, none⟩) (Kd.zB aJ.o (fun k_ hk => (⟨hk, fun e_ => hk (by rw [e_]; rfl)⟩ : _ ∧ k_ ≠ cL))) (fun _ hk => hk.2) (.int .i64 ((zn l0 aC).f0))) (aC : Int) fI fK; replace fI := eq_true fI; replace fK := eq_true fK; have dH := Kd.R_putn (Kd.zT (p := ⟨cL, (aC : Int).toNat, none⟩) (Kd.zB aJ.o (fun k_ hk => (⟨hk, fun e_ => hk (by rw [e_]; rfl)⟩ : _ ∧ k_ ≠ cL))) (fun _ hk => hk.2) (.int .i64 ((zn l0 aC).f0))) (aC : Int) ((zn l0 aC).f1); rw [← eG.o] at dH; have eD := J dH; clear dH; refine zaw (n := 14) (S := fun w' => w'.cell? ⟨aB, 0, none⟩ = some (.slice (some ⟨cL, 0, none⟩) aN.length eI) ∧ w'.cell? ⟨aB, 1, none⟩ = some (.slice (some ⟨cX, 0, none⟩) aM.length eJ) ∧ w'.cell? ⟨aO, 0, none⟩ = some (.int .i64 ((zn l0 aC).f0)) ∧ w'.cell? ⟨aO, 1, none⟩ = some (.int .i64 ((zn l0 aC).f1))) (ds := [13]) (bl_ 14 0) yK_ rfl rfl ⟨(zg aD.o 0).trans rfl, (zg aD.o 1).trans rfl, (zg aS.o 0).trans rfl, (zg aS.o 1).trans rfl⟩ (fun hHeld => ?_); refine zS zt.tab5 zt.bits5 (fun HT_ HW_ => ?_); generalize w29.drew = w30 at aE aJ aA aD aS HB fA fB eC eD dM dN dO dP hHeld ⊢; refine pu_ 0 ?_; refine pu_ 2 ?_; refine pu_ 3 ?_; refine pu_ 5 ?_; refine pu_ 6 ?_; refine pu_ 8 ?_; refine tk_ 1 ?_; refine tk_ 4 ?_; refine tk_ 7 ?_; refine tk_ 9 ?_; refine pu_ 10 ?_; refine on_ HT_ 11 none (bl_ 14 4095) fun K hK => ?_
          refine skip_ (w1 := ?_) (by rfl) rfl ?_ ?_; rotate_left
          ·go_simp; rfl
          refine hK.out _ _ ⟨(cell_far (by have h_ := Kd.R_ne aE.o aD.o yD_; intro e_; exact h_ ((congrArg some e_).trans rfl)) _).trans ((zg aD.o 0).trans rfl), (cell_far (by have h_ := Kd.R_ne aE.o aD.o yD_; intro e_; exact h_ ((congrArg some e_).trans rfl)) _).trans ((zg aD.o 1).trans rfl), (cell_far (by have h_ := Kd.R_ne aE.o aS.o yD_; intro e_; exact h_ ((congrArg some e_).trans rfl)) _).trans ((zg aS.o 0).trans rfl), (cell_far (by have h_ := Kd.R_ne aE.o aS.o yD_; intro e_; exact h_ ((congrArg some e_).trans rfl)) _).trans ((zg aS.o 1).trans rfl)⟩ (fun hHeld => ?_); clear hK K; refine pu_ 12 ?_; refine last_ (i := 13) (N := none) (bl_ 14 16383) rfl rfl (zaY HT_.o yK_) yD_ (fun K hK => ?_); refine skip_ (w1 := ?_) (by rfl) rfl ?_ ?_; rotate_left
          ·go_simp; rfl
          refine hK.out _ _ ?_; clear hK K; refine zaL (zad HT_.o yK_) ?_
          try go_wp2
          go_roundg k1
          case measure => have := HK1.o; omega
          case rel => exact ⟨(wrap64 (aC + 1)), (dT), (eS), (.slice (some ⟨cL, 0, none⟩) aN.length eI), (.slice (some ⟨cX, 0, none⟩) aM.length eJ), rs_, H', ⟨by have := HK1.o; omega⟩, ⟨by (with_reducible repeat (first | apply Kd.R_alloc | apply Kd.zH | apply Kd.zI)); exact Kd.zB (Kd.zT (p := ⟨cX, (aC : Int).toNat, none⟩) (Kd.zB eC.o (fun k_ hk => (⟨hk, fun e_ => hk (by rw [e_]; rfl)⟩ : _ ∧ k_ ≠ cX))) (fun _ hk => hk.2) (.int .i64 ((zn l0 aC).f1))) (fun _ hk => hk.1)⟩, ⟨by (with_reducible repeat (first | apply Kd.R_alloc | apply Kd.zH | apply Kd.zI)); exact Kd.zB eD.o (fun _ hk => hk.1)⟩, ⟨by (with_reducible repeat (first | refine zab ?_ _ | refine zA ?_ | refine zZ ?_ _)); refine za1 ?_ (by have h_ := Kd.R_ne aJ.o aA.o yD_; intro e_; exact h_ (by rw [e_]; rfl)) _; (with_reducible repeat (first | refine zab ?_ _ | refine zA ?_ | refine zZ ?_ _)); refine za1 ?_ (by have h_ := Kd.R_ne aE.o aA.o yD_; intro e_; exact h_ (by rw [e_]; rfl)) _; (with_reducible repeat (first | refine zab ?_ _ | refine zA ?_ | refine zZ ?_ _)); exact aA.o⟩, ⟨by (with_reducible repeat (first | refine zab ?_ _ | refine zA ?_ | refine zZ ?_ _)); refine za1 ?_ (by have h_ := Kd.R_ne aJ.o aD.o yD_; intro e_; exact h_ (by rw [e_]; rfl)) _; (with_reducible repeat (first | refine zab ?_ _ | refine zA ?_ | refine zZ ?_ _)); refine za1 ?_ (by have h_ := Kd.R_ne aE.o aD.o yD_; intro e_; exact h_ (by rw [e_]; rfl)) _; (with_reducible repeat (first | refine zab ?_ _ | refine zA ?_ | refine zZ ?_ _)); exact aD.o⟩, ⟨by repeat (first | (with_reducible first | exact HB.o | apply z7 | apply zas | apply zax | refine zN ?_ eY.o | refine zN ?_ eZ.o | refine zN ?_ dW.o | refine zN ?_ aU.o | refine zN ?_ dX.o) | exact HB.o)⟩⟩
         ·rw [if_neg eW] at H; exact absurd H (by simp)
        ·rw [if_neg eV] at H; exact absurd H (by simp)
       ·rw [if_neg eU] at H; exact absurd H (by simp)
      ·rw [if_neg eT] at H; exact absurd H (by simp)
     ·rw [if_neg dV] at H; have eH := decide_eq_false dV; clear dV; simp only [Option.some.injEq, Prod.mk.injEq] at H; obtain ⟨rfl, rfl⟩ := H; have hnb33 := aI.o; have hnc33 := aH.o; have hcz34_0 := cz_ aD.o 0 rfl; have hcz34_1 := cz_ aD.o 1 rfl; have hfz34_0 := zb aD.o 0; have hfz34_1 := zb aD.o 1; obtain ⟨dE, dK, fD⟩ := Kd.zJ aE.o; subst fD; have hcz36_0 := cz_ aA.o 0 rfl; have hcz36_1 := cz_ aA.o 1 rfl; have hfz36_0 := zb aA.o 0; have hfz36_1 := zb aA.o 1; obtain ⟨dF, dL, fE⟩ := Kd.zJ aJ.o; subst fE; go_wp2; refine bodyPost_ret (results_cell_row rfl _ _ aG 24 #[.slice dE aN.length dK, .slice dF aM.length dL] (0, 0) _ rfl (hp_ aA.o) Try.underlying24 rfl yK_) rfl ?_; exact ⟨_, _, er_, by (with_reducible repeat (first | apply Kd.R_alloc | apply Kd.zH | apply Kd.zI)); exact Kd.zB (Kd.zT (p := ⟨aG, 1, none⟩) (Kd.zT (p := ⟨aG, 0, none⟩) (Kd.zV aE.o aA.o yD_) (fun _ hk => hk.2) (.slice dE aN.length dK)) (fun _ hk => hk.2) (.slice dF aM.length dL)) (fun _ hk => hk.1), by (with_reducible repeat (first | apply Kd.R_alloc | apply Kd.zH | apply Kd.zI)); exact Kd.zB (Kd.zT (p := ⟨aG, 1, none⟩) (Kd.zT (p := ⟨aG, 0, none⟩) (Kd.zV aJ.o aA.o yD_) (fun _ hk => hk.2) (.slice dE aN.length dK)) (fun _ hk => hk.2) (.slice dF aM.length dL)) (fun _ hk => hk.1), bw_⟩
  ·rw [if_neg c3] at H; exact absurd H (by simp)
 ·rw [if_neg c2] at H; exact absurd H (by simp)
end Go.Proofs.Ytlidbaejhmamjaa.PB
namespace Go.Proofs.Ytlidbaejhmamjaa.PB
open Go.RowKit YtlidbaejhmamjaaW.PrintWords YtlidbaejhmamjaaW.PrintLast YtlidbaejhmamjaaW.PrintMore
attribute [local go_sem] zao zaq zaB zaC zae zaf zap zar   -- for this text's walks alone
def split_Whole.f (k : Nat) (a0 : Int) : Option (List Int × List Int × Int) := if a0 < 0 then (some (([] : List Int), ([] : List Int), 1)) else (if a0 > 256 then (some (([] : List Int), ([] : List Int), 1)) else (if 0 ≤ a0 then (if (a0 : Int).toNat ≤ 17592186044416 then ((zt.f k (List.replicate (a0 : Int).toNat z90)).bind fun aA => (some (aA.1, aA.2, 0))) else (none)) else (none)))
theorem split_Whole.calls (k : Nat) (a0 : Int) (r1 : List Int) (r2 : List Int) (r3 : Int) (w : World) (h : split_Whole.f k a0 = some (r1, r2, r3)) :
  Calls Try.prog 11 #[.int .i64 a0] w fun e w' => ∃ bD bE : Value, e = .returned (.tuple #[.agg #[bD, bE], .int .i64 r3]) ∧ Kd.R (Kd.int .i64) 3 w' w.heap.size (fun k_ => some k_ ≠ (bE : Value).ownBlock) bD r1 ∧ Kd.R (Kd.int .i64) 3 w' w.heap.size (fun k_ => some k_ ≠ (bD : Value).ownBlock) bE r2 ∧ Below w.heap.size w w' := by
 have hu24 := Try.underlying24; have HB := J (Below.refl w.heap.size w); have H : (if a0 < 0 then (some (([] : List Int), ([] : List Int), 1)) else (if a0 > 256 then (some (([] : List Int), ([] : List Int), 1)) else (if 0 ≤ a0 then (if (a0 : Int).toNat ≤ 17592186044416 then ((zt.f k (List.replicate (a0 : Int).toNat z90)).bind fun aE => (some (aE.1, aE.2, 0))) else (none)) else (none)))) = some (r1, r2, r3) := h; clear h
 by_cases c2 : a0 < 0
 ·rw [if_pos c2] at H; have aX := decide_eq_true c2; clear c2; simp only [Option.some.injEq, Prod.mk.injEq] at H; obtain ⟨rfl, rfl, rfl⟩ := H; go_enter Try.func11, Try.ntmps11; go_wp2_with (first | ((with_reducible refine zf (N := 2) rfl ?_); refine zah 2 (cs := #[.slice none 0 0, .slice none 0 0]) (t := 24) ?_; intro aB hg w3 hbox hb; have aA := J (hbox); have aC := J ((by rw [hg]; exact (zh bw_) : w.heap.size ≤ aB)); replace HB := J (za bw_ hb); have aI := aC; clear hb hbox hg; have hcz4_0 := cz_ aA.o 0 rfl; have hcz4_1 := cz_ aA.o 1 rfl; have hfz4_0 := zb aA.o 0; have hfz4_1 := zb aA.o 1)); refine bodyPost_ret (zan rfl _ _ aB 24 #[.slice none 0 0, .slice none 0 0] (0, 0) _ rfl (hp_ aA.o) Try.underlying24 rfl yK_) rfl ?_; exact ⟨_, _, er_, by first | exact Kd.zaI _ _ _ _ _ | exact Kd.N_nil _ _ _ _ _ | exact Kd.V_nil _ _ _ _ _ | exact Kd.Q_nil _ _ _ _ _ | exact Kd.zaP _ _ _ _ _, by first | exact Kd.zaI _ _ _ _ _ | exact Kd.N_nil _ _ _ _ _ | exact Kd.V_nil _ _ _ _ _ | exact Kd.Q_nil _ _ _ _ _ | exact Kd.zaP _ _ _ _ _, bw_⟩
 ·rw [if_neg c2] at H; have aX := decide_eq_false c2; clear c2
  by_cases c5 : a0 > 256
  ·rw [if_pos c5] at H; have aY := decide_eq_true c5; clear c5; simp only [Option.some.injEq, Prod.mk.injEq] at H; obtain ⟨rfl, rfl, rfl⟩ := H; go_enter Try.func11, Try.ntmps11; go_wp2_with (first | ((with_reducible refine zf (N := 2) rfl ?_); refine zah 2 (cs := #[.slice none 0 0, .slice none 0 0]) (t := 24) ?_; intro aB hg w6 hbox hb; have aA := J (hbox); have aC := J ((by rw [hg]; exact (zh bw_) : w.heap.size ≤ aB)); replace HB := J (za bw_ hb); have aI := aC; clear hb hbox hg; have hcz7_0 := cz_ aA.o 0 rfl; have hcz7_1 := cz_ aA.o 1 rfl; have hfz7_0 := zb aA.o 0; have hfz7_1 := zb aA.o 1)); refine bodyPost_ret (zan rfl _ _ aB 24 #[.slice none 0 0, .slice none 0 0] (0, 0) _ rfl (hp_ aA.o) Try.underlying24 rfl yK_) rfl ?_; exact ⟨_, _, er_, by first | exact Kd.zaI _ _ _ _ _ | exact Kd.N_nil _ _ _ _ _ | exact Kd.V_nil _ _ _ _ _ | exact Kd.Q_nil _ _ _ _ _ | exact Kd.zaP _ _ _ _ _, by first | exact Kd.zaI _ _ _ _ _ | exact Kd.N_nil _ _ _ _ _ | exact Kd.V_nil _ _ _ _ _ | exact Kd.Q_nil _ _ _ _ _ | exact Kd.zaP _ _ _ _ _, bw_⟩
  ·rw [if_neg c5] at H; have aY := decide_eq_false c5; clear c5
   by_cases c8 : 0 ≤ a0
   ·rw [if_pos c8] at H; have c8b0 := eq_true c8; have c8b1 := decide_eq_true c8; clear c8
    by_cases c9 : (a0 : Int).toNat ≤ 17592186044416
    ·rw [if_pos c9] at H; have c9b0 := eq_true c9; have c9b1 := decide_eq_true c9; clear c9; obtain ⟨aQ, aG⟩ : ∃ y_ : List (S90), y_ = (List.replicate (a0 : Int).toNat z90) := ⟨_, rfl⟩
     replace H : ((zt.f k aQ).bind fun aE => (some (aE.1, aE.2, 0))) = some (r1, r2, r3) := by first | (rw [aG]; with_reducible exact H) | (have aW := (Option.bind_some _ _).symm.trans H; rw [aG]; with_reducible exact aW) | (have aW := (Option.bind_some _ _).symm.trans H; with_reducible exact aW) | with_reducible exact H | (rw [aG]; exact H) | exact H
     have aL := J aG; clear aG; replace H := Option.bind_eq_some_iff.mp H; obtain ⟨⟨t117, t120⟩, aR, H⟩ := H; replace H : (some (t117, t120, 0)) = some (r1, r2, r3) := H; have A10 := J aR; clear aR; simp only [Option.some.injEq, Prod.mk.injEq] at H; obtain ⟨rfl, rfl, rfl⟩ := H; go_enter Try.func11, Try.ntmps11
     go_wp2_with (first | ((with_reducible refine zf (N := 2) rfl ?_); refine zah 2 (cs := #[.slice none 0 0, .slice none 0 0]) (t := 24) ?_; intro aB hg w11 hbox hb; have aA := J (hbox); have aC := J ((by rw [hg]; exact (zh bw_) : w.heap.size ≤ aB)); replace HB := J (za bw_ hb); have aI := aC; clear hb hbox hg) | ((with_reducible refine zf (N := 12) rfl ?_); refine Kd.R_make k90 _ 90 rfl (N := 12) rfl 86 _ _ rfl a0 rfl rfl Try.underlying86 (.agg #[(.int .i64 0), (.int .i64 0)]) 16 info90 rfl yD_ yO_ z90 (ok := fun _ => True) (okp := fun _ => True) (k90_mkM _ _ _ z90 ) (fun _ hk => hk) trivial (od_) (Nat.le_trans (Nat.mul_le_mul_right _ (od_ : a0.toNat ≤ 17592186044416)) yO_) (Below.refl _ _) (Nat.le_refl _) ?_; intro v115 w12 aH hb hg_ aS; clear hg_ aS; (first | rw [← aL.o] at aH | (simp only [Int.reduceToNat] at aH; rw [← aL.o] at aH)); have aD := J (Kd.z9 aH (zh bw_)); replace aA := J (fr_ aA.o hb); replace HB := J (za bw_ hb); clear hb aH; obtain ⟨aV, aZ, bA⟩ := Kd.zJ aD.o; subst bA) | ((with_reducible refine zM (f := 37) rfl ?_); refine gl_ 13 Try.func37 #[.slice aV aQ.length aZ] ?_; (with_reducible refine (zt.calls k _ _ aQ t117 t120 _ ?aT ?aU A10.o).mono ?_); (case aT => repeat (first | exact (Kd.zK aD.o).2.2 | (with_reducible refine Kd.C_alloc ?_ _) | (with_reducible refine Kd.C_drewN ?_ _) | (with_reducible refine Kd.C_drew ?_))); (case aU => exact (Kd.zK aD.o).2.1); rintro e w15 ⟨v118, v121, rfl, ho0, ho1, hb⟩; refine ⟨_, rfl, ?_⟩; replace aD := J (Kd.zF (pk_ aD.o) hb); have aJ := J (Kd.z9 ho0 (zh bw_)); have aK := J (Kd.z9 ho1 (zh bw_)); replace aA := J (fr_ aA.o hb); replace HB := J (za bw_ hb); (try clear hb ho0 ho1); obtain ⟨aM, aO, bB⟩ := Kd.zJ aJ.o; subst bB; have hcz17_0 := cz_ aA.o 0 rfl; have hcz17_1 := cz_ aA.o 1 rfl; have hfz17_0 := zb aA.o 0; have hfz17_1 := zb aA.o 1; obtain ⟨aN, aP, bC⟩ := Kd.zJ aK.o; subst bC))
     refine bodyPost_ret (zan rfl _ _ aB 24 #[.slice aM t117.length aO, .slice aN t120.length aP] (0, 0) _ rfl (hp_ aA.o) Try.underlying24 rfl yK_) rfl ?_; exact ⟨_, _, er_, by (with_reducible repeat (first | apply Kd.R_alloc | apply Kd.zH | apply Kd.zI)); exact Kd.zB (Kd.zT (p := ⟨aB, 1, none⟩) (Kd.zT (p := ⟨aB, 0, none⟩) (Kd.zV aJ.o aA.o yD_) (fun _ hk => hk.2) (.slice aM t117.length aO)) (fun _ hk => hk.2) (.slice aN t120.length aP)) (fun _ hk => hk.1), by (with_reducible repeat (first | apply Kd.R_alloc | apply Kd.zH | apply Kd.zI)); exact Kd.zB (Kd.zT (p := ⟨aB, 1, none⟩) (Kd.zT (p := ⟨aB, 0, none⟩) (Kd.zV aK.o aA.o yD_) (fun _ hk => hk.2) (.slice aM t117.length aO)) (fun _ hk => hk.2) (.slice aN t120.length aP)) (fun _ hk => hk.1), bw_⟩
    ·rw [if_neg c9] at H; exact absurd H (by simp)
   ·rw [if_neg c8] at H; exact absurd H (by simp)
end Go.Proofs.Ytlidbaejhmamjaa.PB
namespace Go.Proofs.Ytlidbaejhmamjaa.PB
open Go.RowKit YtlidbaejhmamjaaW.PrintWords YtlidbaejhmamjaaW.PrintLast YtlidbaejhmamjaaW.PrintMore
attribute [local go_sem] zao zaq zaB zaC zae zaf zap zar   -- for this text's walks alone
def zO.l0 : Nat → List (S90) → Int → Int → List Int → List Int → Option ((List (S90)))
 | 0, _, _, _, _, _ => none
 | k + 1, x3, x7, x8, aA, aB => if x8 < x7 then (if 0 ≤ x8 then (if x8 < (aA.length : Int) then (if x8 < (aB.length : Int) then (if x3.length < 8796093022208 then (zO.l0 k (x3 ++ [(⟨rd aA x8, rd aB x8⟩ : S90)]) x7 (wrap64 (x8 + 1)) aA aB) else (none)) else (none)) else (none)) else (none)) else (some x3)
def zO.f (k : Nat) (aA : List Int) (aB : List Int) : Option ((List (S90))) := zO.l0 k ([] : List (S90)) (aA.length : Int) 0 aA aB
def zO.T5 : Bool × List (List Nat × List Nat) := (true, [([], []), ([], []), ([1], [1]), ([], []), ([2, 3], [2, 3]), ([4], [4]), ([], []), ([6], [6]), ([], []), ([7, 8], [7, 8]), ([9], [9]), ([5, 10], [5, 10]), ([11], [11]), ([0, 12], [0, 12]), ([13, 13, 0, 1, 2, 3, 4, 5, 6, 7, 8, 9, 10, 11, 12, 13], [0, 13])])
def zO.B5 : List Nat := [0, 0, 2, 0, 14, 30, 0, 64, 0, 448, 960, 2046, 4094, 8191, 16383]
theorem zO.tab5 : zbc .any (opsOf Try.f39 5) = zO.T5 := by kernel_rfl
theorem zO.bits5 : zal zO.T5.2 zO.B5 = true := by kernel_rfl
theorem zO.calls (k : Nat) (aU : Option Addr) (aR : Nat) (aD : List Int) (aV : Option Addr) (aT : Nat) (aE : List Int) (r : List (S90)) (w : World) (bA : Kd.C (Kd.int .i64) w aU aD.length aD) (aY : aD.length ≤ aR) (bB : Kd.C (Kd.int .i64) w aV aE.length aE) (aZ : aE.length ≤ aT) (h : zO.f k aD aE = some r) :
  Calls Try.prog 39 #[.agg #[.slice aU aD.length aR, .slice aV aE.length aT]] w fun e w' => ∃ v0_ : Value, e = .returned (v0_) ∧ Kd.R k90 90 w' w.heap.size (fun _ => True) v0_ r ∧ Below w.heap.size w w' := by
 have hu24 := Try.underlying24; have hu90 := Try.underlying90; have bM := J bA; have HC0_0 := J aY; clear bA aY; have bN := J bB; have HC0_1 := J aZ; clear bB aZ; have HB := J (Below.refl w.heap.size w); have H : (zO.l0 k ([] : List (S90)) (aD.length : Int) 0 aD aE) = some r := h; clear h; have H' := J H; clear H; go_enter Try.func39, Try.ntmps39; go_wp2_with (first | ((with_reducible refine zf (N := 1) rfl ?_); refine zah 1 (cs := #[.slice aU aD.length aR, .slice aV aE.length aT]) (t := 24) ?_; intro aN hg w2 hbox hb; have aA := J (hbox); have bK := J ((by rw [hg]; exact (zh bw_) : w.heap.size ≤ aN)); replace HB := J (za bw_ hb); have GE139 := bK; clear hb hbox hg; have bC := cz_ aA.o 0 rfl; have bD := cz_ aA.o 1 rfl; have bE := zb aA.o 0; have bF := zb aA.o 1))
 go_loopg [3, 8] k (fun kq v3 v8 w' => ∃ (aQ : List (S90)) (aC : Int), v8 = .int .i64 aC ∧ ze (zO.l0 kq aQ (aD.length : Int) aC aD aE = some r) ∧ ze (kq ≤ k) ∧ ze (Kd.R k90 90 w' w.heap.size (fun _ => True) v3 aQ) ∧ ze (w'.heap[aN]? = some (.cells #[(.slice aU aD.length aR), (.slice aV aE.length aT)] 24 (0, 0))) ∧ ze (Below w.heap.size w w'))
 case atStart => exact ⟨(([] : List (S90))), (0), rs_, H', ⟨Nat.le_refl _⟩, ⟨by first | exact Kd.zaI _ _ _ _ _ | exact Kd.N_nil _ _ _ _ _ | exact Kd.V_nil _ _ _ _ _ | exact Kd.Q_nil _ _ _ _ _ | exact Kd.zaP _ _ _ _ _⟩, ⟨pe_ aA.o⟩, ⟨bw_⟩⟩
 case round =>
  clear H'
  try clear p2
  try clear c3
  try clear bC
  try clear bD
  try clear bE
  try clear bF
  obtain ⟨aQ, aC, rfl, HA, HK1, aK, aA, HB⟩ := hrel
  cases gk with
  | zero => exact absurd HA.o (by simp [zO.l0])
  | succ k1 =>
   have H := HA.o; clear HA; simp only [zO.l0] at H
   by_cases c4 : aC < (aD.length : Int)
   ·rw [if_pos c4] at H; have bV := decide_eq_true c4; clear c4
    by_cases c5 : 0 ≤ aC
    ·rw [if_pos c5] at H; have c5b0 := decide_eq_true c5; clear c5
     by_cases c6 : aC < (aD.length : Int)
     ·rw [if_pos c6] at H; have c6b0 := decide_eq_true c6; clear c6
      by_cases c7 : aC < (aE.length : Int)
      ·rw [if_pos c7] at H; have c7b0 := decide_eq_true c7; clear c7
       by_cases c8 : aQ.length < 8796093022208
       ·rw [if_pos c8] at H; have bU := J c8; clear c8; obtain ⟨bS, aM⟩ : ∃ y_ : List (S90), y_ = (aQ ++ [(⟨rd aD aC, rd aE aC⟩ : S90)]) := ⟨_, rfl⟩
        replace H : (zO.l0 k1 bS (aD.length : Int) (wrap64 (aC + 1)) aD aE) = some r := by first | (rw [aM]; with_reducible exact H) | (have bT := (Option.bind_some _ _).symm.trans H; rw [aM]; with_reducible exact bT) | (have bT := (Option.bind_some _ _).symm.trans H; with_reducible exact bT) | with_reducible exact H | (rw [aM]; exact H) | exact H
        have bO := J aM; clear aM; have H' := J H; clear H
        try go_wp2
        have bP := J (Kd.zI aK.o); have bQ := J (zA aA.o); have bR := J (zax HB.o); clear aK; clear aA; clear HB; have aK := bP; have aA := bQ; have HB := bR; clear bP bQ bR; have bG : 0 ≤ (aC : Int) := od_; have bI : aC < (aD.length : Int) := od_; obtain ⟨aW, bW, aI⟩ := Kd.zQ bM.o aC bG bI; have aG := aI; cases bW; replace aI := bx_ HB.o aI; replace bG := eq_true bG; replace bI := eq_true bI; have bH : 0 ≤ (aC : Int) := od_; have bJ : aC < (aE.length : Int) := od_; obtain ⟨aX, bX, aJ⟩ := Kd.zQ bN.o aC bH bJ; have aH := aJ; cases bX; replace aJ := bx_ HB.o aJ; replace bH := eq_true bH; replace bJ := eq_true bJ; refine zaw (n := 15) (S := fun w' => w'.cell? ⟨aN, 0, none⟩ = some (.slice (some aW) aD.length aR) ∧ w'.cell? ⟨aN, 1, none⟩ = some (.slice (some aX) aE.length aT) ∧ w'.cell? (aW.add (aC).toNat) = some (.int .i64 (rd aD aC)) ∧ w'.cell? (aX.add (aC).toNat) = some (.int .i64 (rd aE aC))) (ds := []) (bl_ 15 0) yK_ rfl rfl ⟨(zg aA.o 0).trans rfl, (zg aA.o 1).trans rfl, (bx_ HB.o aG), (bx_ HB.o aH)⟩ (fun hHeld => ?_); refine zS zO.tab5 zO.bits5 (fun HT_ HW_ => ?_); generalize wr.drew = w9 at aK aA HB aI aJ hHeld ⊢; refine pu_ 0 ?_; refine pu_ 1 ?_; refine pu_ 3 ?_; refine pu_ 6 ?_; refine pu_ 8 ?_; refine tk_ 2 ?_; refine pu_ 4 ?_; refine tk_ 5 ?_; refine tk_ 7 ?_; refine pu_ 9 ?_; refine tk_ 10 ?_; refine pu_ 11 ?_; refine on_ HT_ 12 (some 23) (bl_ 15 8191) fun K hK => ?_
        refine value_ (w1 := ?_) (v := ?_) (by rfl) rfl ?_ ?_; rotate_left 2
        ·go_simp
         constructor
         ·rfl
         ·rfl
        refine hK.out _ _ ⟨(zg (zZ aA.o _) 0).trans rfl, (zg (zZ aA.o _) 1).trans rfl, (World.cell?_alloc_lt _ _ _ (World.block_lt_of_cell? _ _ ((bx_ HB.o aG)))).trans ((bx_ HB.o aG)), (World.cell?_alloc_lt _ _ _ (World.block_lt_of_cell? _ _ ((bx_ HB.o aH)))).trans ((bx_ HB.o aH))⟩ (fun hHeld => ?_); clear hK K; refine zbl (a' := ?_) ?_ ?_; rotate_left
        ·show Act.put _ (some 23) _ = _
         simp only [Act.put, sI_, s0_, s1_, zat, zaM]; rfl
        refine on_ HT_ 13 (some 24) (bl_ 15 16383) fun K hK => ?_
        refine Kd.R_append_step k90 (w0 := w) w.heap.size (by rfl) (.tmp 11) (.tmp 23) 86 90 (.agg #[(.int .i64 0), (.int .i64 0)]) 16 rfl Try.underlying86 info90 rfl yD_ yO_ u3 aQ (⟨rd aD aC, rd aE aC⟩ : S90) [.int .i64 (rd aD aC), .int .i64 (rd aE aC)] (fun _ => True) (fun _ => False) rfl rfl ?aP (fun _ hk => hk.elim) ?aF ?aO ?aB ?aS ?aL ?_
        (case aP => exact k90_mkM _ _ _ (⟨rd aD aC, rd aE aC⟩ : S90))
        (case aB => exact bw_)
        (case aF => exact (fun _ _ => trivial))
        (case aO => exact (pk_ aK.o))
        (case aS => exact (zh bw_))
        (case aL => have := bU.o; omega)
        intro v143 w10 ho hb hg hat; rw [← bO.o] at ho; have bP := J (gr_ aA.o aK.o hg); have bQ := J (hb); have bR := J (ho); clear aA; clear HB; clear aK; have aA := bP; have HB := bQ; have bL := bR; clear bP bQ bR; clear ho hb hg hat; refine hK.out _ _ ⟨(zg aA.o 0).trans rfl, (zg aA.o 1).trans rfl, (bx_ HB.o aG), (bx_ HB.o aH)⟩ (fun hHeld => ?_); clear hK K; refine zbl (a' := ?_) ?_ ?_; rotate_left
        ·show Act.put _ (some 24) _ = _
         simp only [Act.put, sI_, s0_, s1_, zat, zaM]; rfl
        refine pu_ 14 ?_; refine zaL (zad HT_.o yK_) ?_
        try go_wp2
        go_roundg k1
        case measure => have := HK1.o; omega
        case rel => exact ⟨(bS), (wrap64 (aC + 1)), rs_, H', ⟨by have := HK1.o; omega⟩, ⟨pk_ bL.o⟩, ⟨pe_ aA.o⟩, ⟨bw_⟩⟩
       ·rw [if_neg c8] at H; exact absurd H (by simp)
      ·rw [if_neg c7] at H; exact absurd H (by simp)
     ·rw [if_neg c6] at H; exact absurd H (by simp)
    ·rw [if_neg c5] at H; exact absurd H (by simp)
   ·rw [if_neg c4] at H; have bV := decide_eq_false c4; clear c4; obtain rfl := Option.some.inj H; go_wp2; go_ret; exact ⟨_, er_, pk_ aK.o, bw_⟩
end Go.Proofs.Ytlidbaejhmamjaa.PB
namespace Go.Proofs.Ytlidbaejhmamjaa.PB
open Go.RowKit YtlidbaejhmamjaaW.PrintWords YtlidbaejhmamjaaW.PrintLast YtlidbaejhmamjaaW.PrintMore
attribute [local go_sem] zao zaq zaB zaC zae zaf zap zar   -- for this text's walks alone
def zaO.f (aA : Int) (aB : Int) : Option (Bool) := if aA ≥ 0 then (if aA ≤ 8 then (if aB ≥ 0 then (if 0 ≤ aA then (some (decide (aB < (shl .i64 1 aA)))) else (none)) else (some false)) else (some false)) else (some false)
theorem zaO.calls (aD : Int) (aE : Int) (r : Bool) (w : World) (h : zaO.f aD aE = some r) :
  Calls Try.prog 40 #[.agg #[.int .i64 aD, .int .i64 aE]] w fun e w' => e = .returned (.bool r) ∧ Below w.heap.size w w' := by
 have hu90 := Try.underlying90; have HB := J (Below.refl w.heap.size w); have H : (if aD ≥ 0 then (if aD ≤ 8 then (if aE ≥ 0 then (if 0 ≤ aD then (some (decide (aE < (shl .i64 1 aD)))) else (none)) else (some false)) else (some false)) else (some false)) = some r := h; clear h
 by_cases c2 : aD ≥ 0
 ·rw [if_pos c2] at H; have bB := decide_eq_true c2; clear c2
  by_cases c3 : aD ≤ 8
  ·rw [if_pos c3] at H; have bC := decide_eq_true c3; clear c3
   by_cases c4 : aE ≥ 0
   ·rw [if_pos c4] at H; have bD := decide_eq_true c4; clear c4
    by_cases c5 : 0 ≤ aD
    ·rw [if_pos c5] at H; have c5b0 := eq_true c5; have c5b1 := decide_eq_true c5; clear c5; obtain ⟨bA, aX⟩ : ∃ j_ : Int, (shl .i64 1 aD) = j_ := ⟨_, rfl⟩
     replace H : (some (decide (aE < (bA)))) = some r := by first | (rw [aX] at H; exact H) | (simp only [aX] at H ⊢; exact H)
     have aY : (IntKind.i64.wrap (1 * 2 ^ min aD.toNat 64)) = bA := aX; have aZ : aD ≤ 64 → (IntKind.i64.wrap (1 * 2 ^ aD.toNat)) = bA := shl_small aX; have hji6u : (IntKind.i64.wrap (2 ^ min aD.toNat 64)) = bA := by have h_ := aY; rw [Int.one_mul] at h_; exact h_
     have hji6v : aD ≤ 64 → (IntKind.i64.wrap (2 ^ aD.toNat)) = bA := fun bE => by have h_ := aZ bE; rw [Int.one_mul] at h_; exact h_
     have hji6y : (wrap64 (1 * 2 ^ min aD.toNat 64)) = bA := (zat _).symm.trans aY; have hji6x : aD ≤ 64 → (wrap64 (1 * 2 ^ aD.toNat)) = bA := fun h_ => (zat _).symm.trans (aZ h_)
     obtain rfl := Option.some.inj H; go_enter Try.func40, Try.ntmps40; go_wp2_with (first | ((with_reducible refine zf (N := 1) rfl ?_); refine zah 1 (cs := #[.int .i64 aD, .int .i64 aE]) (t := 90) ?_; intro aC hg w7 hbox hb; have aA := J (hbox); have aB := J ((by rw [hg]; exact (zh bw_) : w.heap.size ≤ aC)); replace HB := J (za bw_ hb); have aG := aB; clear hb hbox hg; have aT := cz_ aA.o 0 rfl; have aU := cz_ aA.o 1 rfl; have aV := zb aA.o 0; have aW := zb aA.o 1))
     repeat (go_quiet (first | ((with_reducible refine zf (N := 1) rfl ?_); refine zah 1 (cs := #[.int .i64 aD, .int .i64 aE]) (t := 90) ?_; intro aC hg w7 hbox hb; have aA := J (hbox); have aB := J ((by rw [hg]; exact (zh bw_) : w.heap.size ≤ aC)); replace HB := J (za bw_ hb); have aG := aB; clear hb hbox hg; have aT := cz_ aA.o 0 rfl; have aU := cz_ aA.o 1 rfl; have aV := zb aA.o 0; have aW := zb aA.o 1)); try go_wp2_with (first | ((with_reducible refine zf (N := 1) rfl ?_); refine zah 1 (cs := #[.int .i64 aD, .int .i64 aE]) (t := 90) ?_; intro aC hg w7 hbox hb; have aA := J (hbox); have aB := J ((by rw [hg]; exact (zh bw_) : w.heap.size ≤ aC)); replace HB := J (za bw_ hb); have aG := aB; clear hb hbox hg; have aT := cz_ aA.o 0 rfl; have aU := cz_ aA.o 1 rfl; have aV := zb aA.o 0; have aW := zb aA.o 1)))
     go_ret; exact ⟨by first | rfl | (simp [zaE, zaF] <;> rfl) | (simp only [← aX]; first | rfl | (simp [zaE, zaF] <;> rfl)) | (simp [*, zaE, zaF] <;> rfl), bw_⟩
    ·rw [if_neg c5] at H; exact absurd H (by simp)
   ·rw [if_neg c4] at H; have bD := decide_eq_false c4; clear c4; obtain rfl := Option.some.inj H; go_enter Try.func40, Try.ntmps40; go_wp2_with (first | ((with_reducible refine zf (N := 1) rfl ?_); refine zah 1 (cs := #[.int .i64 aD, .int .i64 aE]) (t := 90) ?_; intro aC hg w9 hbox hb; have aA := J (hbox); have aB := J ((by rw [hg]; exact (zh bw_) : w.heap.size ≤ aC)); replace HB := J (za bw_ hb); have aG := aB; clear hb hbox hg; have aH := cz_ aA.o 0 rfl; have aI := cz_ aA.o 1 rfl; have aN := zb aA.o 0; have aO := zb aA.o 1))
    repeat (go_quiet (first | ((with_reducible refine zf (N := 1) rfl ?_); refine zah 1 (cs := #[.int .i64 aD, .int .i64 aE]) (t := 90) ?_; intro aC hg w9 hbox hb; have aA := J (hbox); have aB := J ((by rw [hg]; exact (zh bw_) : w.heap.size ≤ aC)); replace HB := J (za bw_ hb); have aG := aB; clear hb hbox hg; have aH := cz_ aA.o 0 rfl; have aI := cz_ aA.o 1 rfl; have aN := zb aA.o 0; have aO := zb aA.o 1)); try go_wp2_with (first | ((with_reducible refine zf (N := 1) rfl ?_); refine zah 1 (cs := #[.int .i64 aD, .int .i64 aE]) (t := 90) ?_; intro aC hg w9 hbox hb; have aA := J (hbox); have aB := J ((by rw [hg]; exact (zh bw_) : w.heap.size ≤ aC)); replace HB := J (za bw_ hb); have aG := aB; clear hb hbox hg; have aH := cz_ aA.o 0 rfl; have aI := cz_ aA.o 1 rfl; have aN := zb aA.o 0; have aO := zb aA.o 1)))
    go_ret; exact ⟨er_, bw_⟩
  ·rw [if_neg c3] at H; have bC := decide_eq_false c3; clear c3; obtain rfl := Option.some.inj H; go_enter Try.func40, Try.ntmps40; go_wp2_with (first | ((with_reducible refine zf (N := 1) rfl ?_); refine zah 1 (cs := #[.int .i64 aD, .int .i64 aE]) (t := 90) ?_; intro aC hg w11 hbox hb; have aA := J (hbox); have aB := J ((by rw [hg]; exact (zh bw_) : w.heap.size ≤ aC)); replace HB := J (za bw_ hb); have aG := aB; clear hb hbox hg; have aJ := cz_ aA.o 0 rfl; have aK := cz_ aA.o 1 rfl; have aP := zb aA.o 0; have aQ := zb aA.o 1))
   repeat (go_quiet (first | ((with_reducible refine zf (N := 1) rfl ?_); refine zah 1 (cs := #[.int .i64 aD, .int .i64 aE]) (t := 90) ?_; intro aC hg w11 hbox hb; have aA := J (hbox); have aB := J ((by rw [hg]; exact (zh bw_) : w.heap.size ≤ aC)); replace HB := J (za bw_ hb); have aG := aB; clear hb hbox hg; have aJ := cz_ aA.o 0 rfl; have aK := cz_ aA.o 1 rfl; have aP := zb aA.o 0; have aQ := zb aA.o 1)); try go_wp2_with (first | ((with_reducible refine zf (N := 1) rfl ?_); refine zah 1 (cs := #[.int .i64 aD, .int .i64 aE]) (t := 90) ?_; intro aC hg w11 hbox hb; have aA := J (hbox); have aB := J ((by rw [hg]; exact (zh bw_) : w.heap.size ≤ aC)); replace HB := J (za bw_ hb); have aG := aB; clear hb hbox hg; have aJ := cz_ aA.o 0 rfl; have aK := cz_ aA.o 1 rfl; have aP := zb aA.o 0; have aQ := zb aA.o 1)))
   go_ret; exact ⟨er_, bw_⟩
 ·rw [if_neg c2] at H; have bB := decide_eq_false c2; clear c2; obtain rfl := Option.some.inj H; go_enter Try.func40, Try.ntmps40; go_wp2_with (first | ((with_reducible refine zf (N := 1) rfl ?_); refine zah 1 (cs := #[.int .i64 aD, .int .i64 aE]) (t := 90) ?_; intro aC hg w13 hbox hb; have aA := J (hbox); have aB := J ((by rw [hg]; exact (zh bw_) : w.heap.size ≤ aC)); replace HB := J (za bw_ hb); have aG := aB; clear hb hbox hg; have aL := cz_ aA.o 0 rfl; have aM := cz_ aA.o 1 rfl; have aR := zb aA.o 0; have aS := zb aA.o 1))
  repeat (go_quiet (first | ((with_reducible refine zf (N := 1) rfl ?_); refine zah 1 (cs := #[.int .i64 aD, .int .i64 aE]) (t := 90) ?_; intro aC hg w13 hbox hb; have aA := J (hbox); have aB := J ((by rw [hg]; exact (zh bw_) : w.heap.size ≤ aC)); replace HB := J (za bw_ hb); have aG := aB; clear hb hbox hg; have aL := cz_ aA.o 0 rfl; have aM := cz_ aA.o 1 rfl; have aR := zb aA.o 0; have aS := zb aA.o 1)); try go_wp2_with (first | ((with_reducible refine zf (N := 1) rfl ?_); refine zah 1 (cs := #[.int .i64 aD, .int .i64 aE]) (t := 90) ?_; intro aC hg w13 hbox hb; have aA := J (hbox); have aB := J ((by rw [hg]; exact (zh bw_) : w.heap.size ≤ aC)); replace HB := J (za bw_ hb); have aG := aB; clear hb hbox hg; have aL := cz_ aA.o 0 rfl; have aM := cz_ aA.o 1 rfl; have aR := zb aA.o 0; have aS := zb aA.o 1)))
  go_ret; exact ⟨er_, bw_⟩
end Go.Proofs.Ytlidbaejhmamjaa.PB
namespace Go.Proofs.Ytlidbaejhmamjaa.PB
open Go.RowKit YtlidbaejhmamjaaW.PrintWords YtlidbaejhmamjaaW.PrintLast YtlidbaejhmamjaaW.PrintMore
attribute [local go_sem] zao zaq zaB zaC zae zaf zap zar   -- for this text's walks alone
mutual
def zz.j0 : Nat → Bool → List Int → List Int → Option (Int)
 | 0, _, _, _ => none
 | k + 1, x26, aA, aB => if x26 = true then (some 180) else ((zO.f k aA aB).bind fun t147 => (zz.l0 k t147 (t147.length : Int) 0))
def zz.l0 : Nat → List (S90) → Int → Int → Option (Int)
 | 0, _, _, _ => none
 | k + 1, aB, x29, aA => if aA < x29 then (if 0 ≤ aA then (if aA < (aB.length : Int) then ((zaO.f ((zn aB aA).f0) ((zn aB aA).f1)).bind fun t152 => (if t152 = true then (zz.l0 k aB x29 (wrap64 (aA + 1))) else (some 180))) else (none)) else (none)) else (some 0)
end
def zz.f (k : Nat) (aA : List Int) (aB : List Int) (a1 : Int) : Option (Int) := if a1 < 0 then (zz.j0 k true aA aB) else (if a1 > 256 then (zz.j0 k true aA aB) else (if (aA.length : Int) = a1 then (zz.j0 k ((aB.length : Int) != a1) aA aB) else (zz.j0 k true aA aB)))
theorem zz.calls (k : Nat) (aL : Option Addr) (aN : Nat) (aC : List Int) (aM : Option Addr) (aO : Nat) (aH : List Int) (a1 : Int) (r : Int) (w : World) (bL : Kd.C (Kd.int .i64) w aL aC.length aC) (bJ : aC.length ≤ aN) (bM : Kd.C (Kd.int .i64) w aM aH.length aH) (bK : aH.length ≤ aO) (h : zz.f k aC aH a1 = some r) :
  Calls Try.prog 17 #[.agg #[.slice aL aC.length aN, .slice aM aH.length aO], .int .i64 a1] w fun e w' => e = .returned (.int .i64 r) ∧ Below w.heap.size w w' := by
 have hu24 := Try.underlying24; have hu90 := Try.underlying90; have bZ := J bL; have bX := J bJ; clear bL bJ; have cA := J bM; have bY := J bK; clear bM bK; have HB := J (Below.refl w.heap.size w); have H : (if a1 < 0 then (zz.j0 k true aC aH) else (if a1 > 256 then (zz.j0 k true aC aH) else (if (aC.length : Int) = a1 then (zz.j0 k ((aH.length : Int) != a1) aC aH) else (zz.j0 k true aC aH)))) = some r := h; clear h; have cM := J H; clear H; go_enter Try.func17, Try.ntmps17; go_upto_region 1 with (first | ((with_reducible refine zf (N := 2) rfl ?_); (try (refine zR (by rfl) ?_; dsimp only)); refine zah 2 (cs := #[.slice aL aC.length aN, .slice aM aH.length aO]) (t := 24) ?_; intro aK hg w4 hbox hb; have aA := J (hbox); have bW := J ((by rw [hg]; exact (zh bw_) : w.heap.size ≤ aK)); replace HB := J (za bw_ hb); have GE146 := bW; clear hb hbox hg))
 (try simp only [Act.put, sI_, s0_, s1_])
 go_cut [26] (fun v26 wc => ∃ (kq : Nat) (aS : Bool), v26 = .bool aS ∧ ze (zz.j0 kq aS aC aH = some r) ∧ ze (kq ≤ k) ∧ ze (wc.heap[aK]? = some (.cells #[(.slice aL aC.length aN), (.slice aM aH.length aO)] 24 (0, 0))) ∧ ze (Below w.heap.size w wc))
 case first =>
  have H := cM.o; clear cM
  by_cases c5 : a1 < 0
  ·rw [if_pos c5] at H; have aP := decide_eq_true c5; clear c5
   (first | rw [aP] | (simp only [zat, zaM]; rw [aP]) | skip)
   have H' := J H; clear H; go_wp2; go_meet
   case rel => exact ⟨_, (true), rs_, H', ⟨om_⟩, ⟨pe_ aA.o⟩, ⟨bw_⟩⟩
  ·rw [if_neg c5] at H; have aP := decide_eq_false c5; clear c5
   (first | rw [aP] | (simp only [zat, zaM]; rw [aP]) | skip)
   by_cases c6 : a1 > 256
   ·rw [if_pos c6] at H; have bN := decide_eq_true c6; clear c6; have H' := J H; clear H; go_wp2; go_meet
    case rel => exact ⟨_, (true), rs_, H', ⟨om_⟩, ⟨pe_ aA.o⟩, ⟨bw_⟩⟩
   ·rw [if_neg c6] at H; have bN := decide_eq_false c6; clear c6
    by_cases c7 : (aC.length : Int) = a1
    ·rw [if_pos c7] at H; have bO : ((aC.length : Int) == a1) = true := beq_iff_eq.mpr c7; have bP : ((aC.length : Int) != a1) = false := bne_eq_false_iff_eq.mpr c7; clear c7; have H' := J H; clear H; have aU := cz_ aA.o 0 rfl; have aV := cz_ aA.o 1 rfl; have aY := zb aA.o 0; have aZ := zb aA.o 1; go_wp2; go_meet
     case rel => exact ⟨_, (((aH.length : Int) != a1)), rs_, H', ⟨om_⟩, ⟨pe_ aA.o⟩, ⟨bw_⟩⟩
    ·rw [if_neg c7] at H; have bO : ((aC.length : Int) == a1) = false := beq_eq_false_iff_ne.mpr c7; have bP : ((aC.length : Int) != a1) = true := bne_iff_ne.mpr c7; have H' := J H; clear H; have aW := cz_ aA.o 0 rfl; have aX := cz_ aA.o 1 rfl; have bA := zb aA.o 0; have bB := zb aA.o 1; go_wp2; go_meet
     case rel => exact ⟨_, (true), rs_, H', ⟨om_⟩, ⟨pe_ aA.o⟩, ⟨bw_⟩⟩
 case rest =>
  clear cM
  try clear c1
  try clear p2
  try clear c5
  try clear aP
  try clear c6
  try clear bN
  try clear c7
  try clear bO
  try clear bP
  try clear aU
  try clear aV
  try clear aW
  try clear aX
  try clear aY
  try clear aZ
  try clear bA
  try clear bB
  obtain ⟨kq, aS, rfl, HA, HJ2, aA, HB⟩ := hcut
  cases kq with
  | zero => exact absurd HA.o (by simp [zz.j0])
  | succ bS =>
   have H := HA.o; clear HA; simp only [zz.j0] at H
   by_cases cC : aS = true
   ·subst cC; have H1 : (some 180) = some r := by rw [if_pos rfl] at H; exact H
    clear H; have H := H1; clear H1; obtain rfl := Option.some.inj H; go_wp2; go_ret; exact ⟨er_, bw_⟩
   ·replace cC := Bool.eq_false_iff.mpr cC; subst cC; have H1 : ((zO.f bS aC aH).bind fun t147 => (zz.l0 bS t147 (t147.length : Int) 0)) = some r := by rw [if_neg (show ¬ (false = true) by decide)] at H; exact H
    clear H; have H := H1; clear H1; replace H := Option.bind_eq_some_iff.mp H; obtain ⟨t147, bT, H⟩ := H; replace H : (zz.l0 bS t147 (t147.length : Int) 0) = some r := H; have A11 := J bT; clear bT; have H' := J H; clear H; have bC := cz_ aA.o 0 rfl; have bD := cz_ aA.o 1 rfl; have bE := zb aA.o 0; have bF := zb aA.o 1; go_wp2_with (first | ((with_reducible refine zM (f := 39) rfl ?_); refine gl_ 28 Try.func39 #[.agg #[.slice aL aC.length aN, .slice aM aH.length aO]] ?_; (with_reducible refine (zO.calls bS _ _ aC _ _ aH t147 _ ?cE ?cF ?cG ?cH A11.o).mono ?_); (case cE => exact sc_ (Kd.zm bZ.o HB.o)); (case cF => exact bX.o); (case cG => exact sc_ (Kd.zm cA.o HB.o)); (case cH => exact bY.o); rintro e w13 ⟨v148, rfl, ho0, hb⟩; refine ⟨_, rfl, ?_⟩; have bI := J (Kd.z9 ho0 (zh bw_)); replace aA := J (fr_ aA.o hb); replace HB := J (za bw_ hb); (try clear hb ho0); obtain ⟨cL, cN, cO⟩ := Kd.zJ bI.o; subst cO))
    go_loopg [30] bS (fun kq v30 w' => ∃ (aB : Int), v30 = .int .i64 aB ∧ ze (zz.l0 kq t147 (t147.length : Int) aB = some r) ∧ ze (kq ≤ bS) ∧ ze (Kd.R k90 90 w' w.heap.size (fun _ => True) (.slice cL t147.length cN) t147) ∧ ze (w'.heap[aK]? = some (.cells #[(.slice aL aC.length aN), (.slice aM aH.length aO)] 24 (0, 0))) ∧ ze (Below w.heap.size w w'))
    case atStart => exact ⟨(0), rs_, H', ⟨Nat.le_refl _⟩, ⟨pk_ bI.o⟩, ⟨pe_ aA.o⟩, ⟨bw_⟩⟩
    case round =>
     clear H'
     try clear c1
     try clear p2
     try clear c3
     try clear c5
     try clear aP
     try clear c6
     try clear bN
     try clear c7
     try clear bO
     try clear bP
     try clear cC
     try clear bC
     try clear bD
     try clear aU
     try clear aV
     try clear aW
     try clear aX
     try clear bE
     try clear bF
     try clear aY
     try clear aZ
     try clear bA
     try clear bB
     try clear p2
     obtain ⟨aB, rfl, HA, HK2, aI, aA, HB⟩ := hrel
     cases gk with
     | zero => exact absurd HA.o (by simp [zz.l0])
     | succ k2 =>
      have H := HA.o; clear HA; simp only [zz.l0] at H
      by_cases bR : aB < (t147.length : Int)
      ·rw [if_pos bR] at H; have cD := decide_eq_true bR; clear bR
       by_cases cI : 0 ≤ aB
       ·rw [if_pos cI] at H; have c16b0 := decide_eq_true cI; clear cI
        by_cases cJ : aB < (t147.length : Int)
        ·rw [if_pos cJ] at H; have c17b0 := decide_eq_true cJ; clear cJ; replace H := Option.bind_eq_some_iff.mp H; obtain ⟨t152, bU, H⟩ := H; replace H : (if t152 = true then (zz.l0 k2 t147 (t147.length : Int) (wrap64 (aB + 1))) else (some 180)) = some r := H; have A18 := J bU; clear bU
         by_cases cK : t152 = true
         ·subst cK; have H1 : (zz.l0 k2 t147 (t147.length : Int) (wrap64 (aB + 1))) = some r := by rw [if_pos rfl] at H; exact H
          clear H; have H := H1; clear H1; have H' := J H; clear H; have aQ : 0 ≤ (aB : Int) := od_; have aR : aB < (t147.length : Int) := od_; obtain ⟨cB, bQ, bG, bH⟩ := at_T90 (Kd.zK aI.o).2.2 aB aQ aR; cases bQ; replace aQ := eq_true aQ; replace aR := eq_true aR
          go_wp2_with (first | ((with_reducible refine zf (N := 6) rfl ?_); (try (refine zR (by rfl) ?_; dsimp only)); refine zah 6 (cs := #[.int .i64 0, .int .i64 0]) (t := 90) ?_; intro aD hg w20 hbox hb; replace aI := J (Kd.zF (Kd.R_elderB (pk_ aI.o) aD (Nat.le_of_eq hg.symm)) hb); have aE := J (hbox); have aT := J ((by rw [hg]; exact (zh bw_) : w.heap.size ≤ aD)); replace HB := J (za bw_ hb); have bV := aT; have aG := J ((by rw [hg]; exact Nat.ne_of_lt (fl_ aA.o) : aK ≠ aD)); replace aA := J (fr_ aA.o hb); have aJ := J aG.o.symm; clear hb hbox hg; have hnb21 := aJ.o; have hnc21 := aG.o; have hcz22_0 := cz_ aE.o 0 rfl; have hcz22_1 := cz_ aE.o 1 rfl; have hfz22_0 := zb aE.o 0; have hfz22_1 := zb aE.o 1) | ((with_reducible refine zM (f := 40) rfl ?_); refine gl_ 35 Try.func40 #[.agg #[.int .i64 ((zn t147 aB).f0), .int .i64 ((zn t147 aB).f1)]] ?_; (with_reducible refine (zaO.calls ((zn t147 aB).f0) ((zn t147 aB).f1) true _ A18.o).mono ?_); rintro e w23 ⟨rfl, hb⟩; refine ⟨_, rfl, ?_⟩; replace aI := J (Kd.zF (by (with_reducible repeat (first | apply Kd.R_alloc | apply Kd.zH | apply Kd.zI)); exact (Kd.zB (Kd.zT (p := ⟨aD, 1, none⟩) (Kd.zT (p := ⟨aD, 0, none⟩) (Kd.zB aI.o (fun k_ hk => (⟨hk, hk.2⟩ : _ ∧ k_ ≠ aD))) (fun _ hk => hk.2) (.int .i64 ((zn t147 aB).f0))) (fun _ hk => hk.2) (.int .i64 ((zn t147 aB).f1))) (fun _ h_ => h_.1))) hb); replace aA := J (zd (g := aK) (o := .cells #[.slice aL aC.length aN, .slice aM aH.length aO] 24 (0, 0)) (hp_ aA.o) hb); replace aE := J (zd (g := aD) (o := .cells #[.int .i64 ((zn t147 aB).f0), .int .i64 ((zn t147 aB).f1)] 90 (0, 0)) (hp_ aE.o) hb); replace HB := J (za bw_ hb); (try clear hb)))
          go_roundg k2
          case measure => have := HJ2.o; have := HK2.o; omega
          case rel => exact ⟨(wrap64 (aB + 1)), rs_, H', ⟨by have := HJ2.o; have := HK2.o; omega⟩, ⟨by (with_reducible repeat (first | apply Kd.R_alloc | apply Kd.zH | apply Kd.zI)); exact Kd.zB aI.o (fun _ hk => trivial)⟩, ⟨pe_ aA.o⟩, ⟨bw_⟩⟩
         ·replace cK := Bool.eq_false_iff.mpr cK; subst cK; have H1 : (some 180) = some r := by rw [if_neg (show ¬ (false = true) by decide)] at H; exact H
          clear H; have H := H1; clear H1; obtain rfl := Option.some.inj H; have aQ : 0 ≤ (aB : Int) := od_; have aR : aB < (t147.length : Int) := od_; obtain ⟨cB, bQ, bG, bH⟩ := at_T90 (Kd.zK aI.o).2.2 aB aQ aR; cases bQ; replace aQ := eq_true aQ; replace aR := eq_true aR
          go_wp2_with (first | ((with_reducible refine zf (N := 6) rfl ?_); (try (refine zR (by rfl) ?_; dsimp only)); refine zah 6 (cs := #[.int .i64 0, .int .i64 0]) (t := 90) ?_; intro aD hg w24 hbox hb; replace aI := J (Kd.zF (Kd.R_elderB (pk_ aI.o) aD (Nat.le_of_eq hg.symm)) hb); have aE := J (hbox); have aT := J ((by rw [hg]; exact (zh bw_) : w.heap.size ≤ aD)); replace HB := J (za bw_ hb); have bV := aT; have aG := J ((by rw [hg]; exact Nat.ne_of_lt (fl_ aA.o) : aK ≠ aD)); replace aA := J (fr_ aA.o hb); have aJ := J aG.o.symm; clear hb hbox hg; have hnb25 := aJ.o; have hnc25 := aG.o; have hcz26_0 := cz_ aE.o 0 rfl; have hcz26_1 := cz_ aE.o 1 rfl; have hfz26_0 := zb aE.o 0; have hfz26_1 := zb aE.o 1) | ((with_reducible refine zM (f := 40) rfl ?_); refine gl_ 35 Try.func40 #[.agg #[.int .i64 ((zn t147 aB).f0), .int .i64 ((zn t147 aB).f1)]] ?_; (with_reducible refine (zaO.calls ((zn t147 aB).f0) ((zn t147 aB).f1) false _ A18.o).mono ?_); rintro e w27 ⟨rfl, hb⟩; refine ⟨_, rfl, ?_⟩; replace aI := J (Kd.zF (by (with_reducible repeat (first | apply Kd.R_alloc | apply Kd.zH | apply Kd.zI)); exact (Kd.zB (Kd.zT (p := ⟨aD, 1, none⟩) (Kd.zT (p := ⟨aD, 0, none⟩) (Kd.zB aI.o (fun k_ hk => (⟨hk, hk.2⟩ : _ ∧ k_ ≠ aD))) (fun _ hk => hk.2) (.int .i64 ((zn t147 aB).f0))) (fun _ hk => hk.2) (.int .i64 ((zn t147 aB).f1))) (fun _ h_ => h_.1))) hb); replace aA := J (zd (g := aK) (o := .cells #[.slice aL aC.length aN, .slice aM aH.length aO] 24 (0, 0)) (hp_ aA.o) hb); replace aE := J (zd (g := aD) (o := .cells #[.int .i64 ((zn t147 aB).f0), .int .i64 ((zn t147 aB).f1)] 90 (0, 0)) (hp_ aE.o) hb); replace HB := J (za bw_ hb); (try clear hb)))
          go_ret; exact ⟨er_, bw_⟩
        ·rw [if_neg cJ] at H; exact absurd H (by simp)
       ·rw [if_neg cI] at H; exact absurd H (by simp)
      ·rw [if_neg bR] at H; have cD := decide_eq_false bR; clear bR; obtain rfl := Option.some.inj H; go_wp2; go_ret; exact ⟨er_, bw_⟩
end Go.Proofs.Ytlidbaejhmamjaa.PB
namespace Go.Proofs.Ytlidbaejhmamjaa.LA
open Go.RowKit YtlidbaejhmamjaaW.PrintWords YtlidbaejhmamjaaW.PrintLast YtlidbaejhmamjaaW.PrintMore PB
/-- From some fuel on, the value. -/
def EvS {α : Type} (F : Nat → Option α) (v : α) : Prop := ∃ K, ∀ k, K ≤ k → F k = some v
theorem EvS.succ {α : Type} {F G : Nat → Option α} {v : α} (h : ∀ k, F (k + 1) = G k) (hg : EvS G v) : EvS F v := by
 obtain ⟨K, hK⟩ := hg; refine ⟨K + 1, fun k hk => ?_⟩; obtain ⟨j, rfl⟩ : ∃ j, k = j + 1 := ⟨k - 1, by omega⟩
 rw [h j]; exact hK j yO_
theorem EvS.of {α : Type} {F G : Nat → Option α} {v : α} (h : ∀ k, F k = G k) (hg : EvS G v) : EvS F v := by
 obtain ⟨K, hK⟩ := hg; exact ⟨K, fun k hk => by rw [h k]; exact hK k hk⟩
theorem EvS.pure {α : Type} (v : α) : EvS (fun _ => some v) v := ⟨0, fun _ _ => rfl⟩
theorem EvS.done {α : Type} {F : Nat → Option α} {v : α} (h : ∀ k, F (k + 1) = some v) : EvS F v := EvS.succ h (EvS.pure v)
theorem EvS.bind {α β : Type} {F : Nat → Option α} {G : Nat → α → Option β} {u : α} {v : β} (hf : EvS F u) (hg : EvS (fun k => G k u) v) : EvS (fun k => (F k).bind (G k)) v := by
 obtain ⟨K, hK⟩ := hf; obtain ⟨J, hJ⟩ := hg; exact ⟨max K J, fun k hk => by show (F k).bind _ = _; rw [hK k yO_]; exact hJ k yO_⟩
theorem EvS.get {α : Type} {F : Nat → Option α} {v : α} (h : EvS F v) : ∃ k, F k = some v := ⟨_, h.choose_spec _ (Nat.le_refl _)⟩
theorem w64 (x : Int) (h0 : -9223372036854775808 ≤ x) (h1 : x < 9223372036854775808) : wrap64 x = x := by unfold wrap64; omega
theorem wnext (i : Nat) (h : i < 1000000000000) : wrap64 ((i : Int) + 1) = ((i + 1 : Nat) : Int) := by rw [w64] <;> omega
/-- The parts of a region. -/
def pz (lv at_ : List Int) : List S90 := List.zipWith S90.mk lv at_
theorem zba (lv at_ : List Int) (h : at_.length = lv.length) : (pz lv at_).length = lv.length := by simp [pz, h]
theorem pz_get (lv at_ : List Int) (i : Nat) (h0 : i < lv.length) (h1 : i < at_.length) : (pz lv at_)[i]? = some ⟨lv[i], at_[i]⟩ := by
 simp [pz, List.getElem?_zipWith, h0, h1]
theorem pz_rd (lv at_ : List Int) (i : Nat) (h0 : i < lv.length) (h1 : i < at_.length) : zn (pz lv at_) (i : Int) = ⟨rd lv (i : Int), rd at_ (i : Int)⟩ := by
 simp [zn, List.getD_eq_getElem?_getD, pz_get lv at_ i h0 h1, rd, h0, h1]
theorem parts_ev (lv at_ : List Int) (h : at_.length = lv.length) (hn : lv.length ≤ 256) : EvS (fun k => zO.f k lv at_) (pz lv at_) := by
 have key : ∀ m i : Nat, m + i = lv.length → EvS (fun k => zO.l0 k ((pz lv at_).take i) (lv.length : Int) (i : Int) lv at_) (pz lv at_) := by
  intro m
  induction m with
  | zero =>
   intro i hi; rw [List.take_of_length_le (by rw [zba lv at_ h]; omega)]; exact EvS.done fun k => by simp only [zO.l0]; rw [if_neg yO_]
  | succ m ih =>
   intro i hi; refine EvS.succ (fun k => ?_) (ih (i + 1) yO_); have hg := pz_get lv at_ i yO_ yO_; simp only [zO.l0]; rw [if_pos yO_, if_pos yO_, if_pos yO_, if_pos yO_, if_pos (by rw [List.length_take]; omega), wnext i yO_, List.take_add_one, hg]; simp [rd, show i < lv.length by omega, show i < at_.length by omega]
 exact key lv.length 0 yO_
theorem set_step (L : List Int) (i : Nat) (h : i < L.length) : (L.take i ++ List.replicate (L.length - i) 0).set i L[i] = L.take (i + 1) ++ List.replicate (L.length - (i + 1)) 0 := by
 rw [show L.length - i = (L.length - (i + 1)) + 1 by omega, List.replicate_succ, List.set_append_right _ _ (by rw [List.length_take]; omega), List.length_take, Nat.min_eq_left yO_, Nat.sub_self, s0_, List.take_add_one, List.getElem?_eq_getElem h, Option.toList_some, List.append_assoc]; rfl
theorem region_ev (l : List S90) (hn : l.length ≤ 256) : EvS (fun k => zt.f k l) (l.map (·.f0), l.map (·.f1)) := by
 unfold zt.f; simp only [if_pos (show 0 ≤ (l.length : Int) by omega), Int.toNat_natCast, if_pos (show l.length ≤ 35184372088832 by omega)]
 have key : ∀ m i : Nat, m + i = l.length → EvS (fun k => zt.l0 k l (l.length : Int) (i : Int) ((l.map (·.f0)).take i ++ List.replicate (l.length - i) 0) ((l.map (·.f1)).take i ++ List.replicate (l.length - i) 0)) (l.map (·.f0), l.map (·.f1)) := by
  intro m
  induction m with
  | zero =>
   intro i hi; obtain rfl : i = l.length := by omega
   rw [List.take_of_length_le (by simp), List.take_of_length_le (by simp), Nat.sub_self]; exact EvS.done fun k => by simp only [zt.l0]; rw [if_neg yO_]; simp
  | succ m ih =>
   intro i hi; refine EvS.succ (fun k => ?_) (ih (i + 1) yO_); have h0 := set_step (l.map (·.f0)) i (by simp; omega); have h1 := set_step (l.map (·.f1)) i (by simp; omega); simp only [List.length_map, List.getElem_map] at h0 h1; have hr : zn l (i : Int) = l[i] := by simp [zn, List.getD_eq_getElem?_getD, List.getElem?_eq_getElem (show i < l.length by omega)]
   simp only [zt.l0]; rw [if_pos yO_, if_pos yO_, if_pos yO_, if_pos (by simp; omega), if_pos (by simp; omega), wnext i yO_, hr, Int.toNat_natCast, h0, h1]
 simpa using key l.length 0 yO_
theorem ite_cong {c d : Prop} [Decidable c] [Decidable d] (h : c ↔ d) (x y : Int) : (if c then x else y) = (if d then x else y) := by
 by_cases hc : c
 ·rw [if_pos hc, if_pos (h.mp hc)]
 ·rw [if_neg hc, if_neg (fun hd => hc (h.mpr hd))]
def Fit (l a : Int) : Prop := 0 ≤ l ∧ l ≤ 8 ∧ 0 ≤ a ∧ a < 2 ^ l.toNat
instance (l a : Int) : Decidable (Fit l a) := by unfold Fit; infer_instance
def Reg (lv at_ : List Int) : Prop := lv.length ≤ 256 ∧ at_.length = lv.length ∧ ∀ i, i < lv.length → Fit (rd lv (i : Nat)) (rd at_ (i : Nat))
instance (lv at_ : List Int) : Decidable (Reg lv at_) := by unfold Reg; infer_instance
def chkE (lv at_ : List Int) (k : Int) : Int := if (lv.length : Int) = k ∧ Reg lv at_ then 0 else 180
theorem shl_one (l : Int) (h0 : 0 ≤ l) (h8 : l ≤ 62) : shl .i64 1 l = 2 ^ l.toNat := by
 obtain ⟨n, rfl⟩ : ∃ n : Nat, l = n := ⟨l.toNat, by omega⟩
 show IntKind.i64.wrap (1 * 2 ^ min (n : Int).toNat 64) = _
 rw [Int.toNat_natCast, Nat.min_eq_left yO_, Int.one_mul, zat, w64]
 ·have : (0 : Int) < 2 ^ n := Int.pow_pos yD_
  omega
 ·have h : (2 : Int) ^ n ≤ 2 ^ 62 := by
   have := Nat.pow_le_pow_right (n := 2) yD_ (show n ≤ 62 by omega); exact Int.ofNat_le.mpr this |> fun h => by simpa using h
  have e : (2 : Int) ^ 62 = 4611686018427387904 := by decide
  omega
theorem fits_some (l a : Int) : zaO.f l a = some (decide (Fit l a)) := by
 unfold zaO.f
 by_cases h0 : l ≥ 0
 ·by_cases h1 : l ≤ 8
  ·by_cases h2 : a ≥ 0
   ·rw [if_pos h0, if_pos h1, if_pos h2, if_pos h0, shl_one l h0 yO_]
    congr 1
    rw [decide_eq_decide]; exact ⟨fun h => ⟨h0, h1, h2, h⟩, fun h => h.2.2.2⟩
   ·rw [if_pos h0, if_pos h1, if_neg h2, decide_eq_false (fun h : Fit l a => h2 h.2.2.1)]
  ·rw [if_pos h0, if_neg h1, decide_eq_false (fun h : Fit l a => h1 h.2.1)]
 ·rw [if_neg h0, decide_eq_false (fun h : Fit l a => h0 h.1)]
theorem Check_ev (lv at_ : List Int) (k : Int) : EvS (fun f => zz.f f lv at_ k) (chkE lv at_ k) := by
 unfold zz.f; have bad : (¬ ((lv.length : Int) = k ∧ Reg lv at_)) → chkE lv at_ k = 180 := fun h => if_neg h
 have stop : EvS (fun f => zz.j0 f true lv at_) 180 := EvS.done fun f => by simp only [zz.j0]; rfl
 by_cases h0 : k < 0
 ·simp only [if_pos h0]; rw [bad yO_]; exact stop
 ·by_cases h1 : k > 256
  ·simp only [if_neg h0, if_pos h1]; rw [bad (by rintro ⟨h2, h3⟩; have := h3.1; omega)]; exact stop
  ·by_cases h2 : (lv.length : Int) = k
   ·by_cases h3 : (at_.length : Int) = k
    ·simp only [if_neg h0, if_neg h1, if_pos h2]; rw [show ((at_.length : Int) != k) = false by simp [h3]]; refine EvS.succ (fun f => by simp only [zz.j0]; rfl) ?_; simp only [Bool.false_eq_true, if_false]; have hl : at_.length = lv.length := by omega
     refine EvS.bind (parts_ev lv at_ hl yO_) ?_; rw [zba lv at_ hl]
     have key : ∀ m i : Nat, m + i = lv.length → EvS (fun f => zz.l0 f (pz lv at_) (lv.length : Int) (i : Int)) (if ∀ j, j < lv.length → i ≤ j → Fit (rd lv (j : Nat)) (rd at_ (j : Nat)) then 0 else 180) := by
      intro m
      induction m with
      | zero =>
       intro i hi; rw [if_pos (fun j h1 h2 => by omega)]; exact EvS.done fun f => by simp only [zz.l0]; rw [if_neg yO_]
      | succ m ih =>
       intro i hi; have hr := pz_rd lv at_ i yO_ yO_
       by_cases hf : Fit (rd lv (i : Int)) (rd at_ (i : Int))
       ·have := ih (i + 1) yO_
        rw [ite_cong (show (∀ j, j < lv.length → i ≤ j → Fit (rd lv (j : Nat)) (rd at_ (j : Nat))) ↔ (∀ j, j < lv.length → i + 1 ≤ j → Fit (rd lv (j : Nat)) (rd at_ (j : Nat))) from ⟨fun h j h1 h2 => h j h1 yO_, fun h j h1 h2 => by
         by_cases hj : i = j
         ·subst hj; exact hf
         ·exact h j h1 yO_⟩)]
        refine EvS.succ (fun f => ?_) this; simp only [zz.l0]; rw [if_pos yO_, if_pos yO_, if_pos (by rw [zba lv at_ hl]; omega), hr, fits_some, decide_eq_true hf]; simp only [Option.bind_some, if_true, wnext i yO_]
       ·rw [if_neg (fun h => hf (h i yO_ (Nat.le_refl _)))]; refine EvS.done fun f => ?_
        simp only [zz.l0]; rw [if_pos yO_, if_pos yO_, if_pos (by rw [zba lv at_ hl]; omega), hr, fits_some, decide_eq_false hf]; rfl
     have := key lv.length 0 yO_
     rw [show chkE lv at_ k = (if ∀ j, j < lv.length → 0 ≤ j → Fit (rd lv (j : Nat)) (rd at_ (j : Nat)) then 0 else 180) from by
      unfold chkE; exact ite_cong ⟨fun h j h1 _ => h.2.2.2 j h1, fun h => ⟨h2, by omega, hl, fun j h1 => h j h1 (Nat.zero_le _)⟩⟩ _ _]
     exact this
    ·simp only [if_neg h0, if_neg h1, if_pos h2]; rw [show ((at_.length : Int) != k) = true by simp [h3], bad (by rintro ⟨_, h4⟩; have := h4.2.1; omega)]; exact stop
   ·simp only [if_neg h0, if_neg h1, if_neg h2]; rw [bad (fun h => h2 h.1)]; exact stop
end Go.Proofs.Ytlidbaejhmamjaa.LA
namespace Go.Proofs.Ytlidbaejhmamjaa.AC
open Go.RowKit YtlidbaejhmamjaaW.PrintWords YtlidbaejhmamjaaW.PrintLast YtlidbaejhmamjaaW.PrintMore PB LA
/-- A point's place in one symbol's part, in parts of 2^-62. -/
def InP (d x l a : Int) : Prop := (2 * a - 2 ^ l.toNat) * 2 ^ (62 - l.toNat) ≤ x * 2 ^ (62 - d.toNat) ∧ x * 2 ^ (62 - d.toNat) ≤ (2 * a + 2 - 2 ^ l.toNat) * 2 ^ (62 - l.toNat)
instance (d x l a : Int) : Decidable (InP d x l a) := by unfold InP; infer_instance
def Win (lv at_ es : List Int) (d : Int) : Prop := Reg lv at_ ∧ es.length = lv.length ∧ 0 ≤ d ∧ d ≤ 62 ∧ ∀ i, i < lv.length → InP d (rd es (i : Nat)) (rd lv (i : Nat)) (rd at_ (i : Nat))
instance (lv at_ es : List Int) (d : Int) : Decidable (Win lv at_ es d) := by unfold Win; infer_instance
def I64 (es : List Int) : Prop := ∀ x, x ∈ es → -9223372036854775808 ≤ x ∧ x < 9223372036854775808
theorem i64_rd {es : List Int} (h : I64 es) (i : Nat) (hi : i < es.length) : -9223372036854775808 ≤ rd es (i : Int) ∧ rd es (i : Int) < 9223372036854775808 := by
 have : rd es (i : Int) = es[i] := by simp [rd, hi]
 rw [this]; exact h _ (List.getElem_mem hi)
theorem chk_ok {lv at_ : List Int} (h : chkE lv at_ lv.length = 0) : Reg lv at_ := by
 unfold chkE at h
 split at h
 ·rename_i h'; exact h'.2
 ·exact absurd h yD_
theorem chk_bad {lv at_ : List Int} (h : ¬ chkE lv at_ lv.length = 0) : ¬ Reg lv at_ := fun hr => h (by unfold chkE; rw [if_pos ⟨rfl, hr⟩])
/-- The round's memory: the part, three sums. -/
structure St (w3 wc : World) (g b c e : Nat) (l a : Int) (v u t : Option Int) : Prop where
 below : Below w3.heap.size w3 wc
 part : wc.heap[g]? = some (.cells #[.int .i64 l, .int .i64 a] 90 (0, 0))
 lo : wc.heap[b]? = some (.cells (zbf v) 124 (0, 0))
 hi : wc.heap[c]? = some (.cells (zbf u) 124 (0, 0))
 pt : wc.heap[e]? = some (.cells (zbf t) 124 (0, 0))
 far : b ≠ c ∧ b ≠ e ∧ c ≠ e ∧ g ≠ b ∧ g ≠ c ∧ g ≠ e ∧ w3.heap.size ≤ b ∧ w3.heap.size ≤ c ∧ w3.heap.size ≤ e
theorem some_ne {a b : Nat} (h : a ≠ b) : some a ≠ some b := fun e => h (Option.some.inj e)
theorem St.putLo {w3 wc w' : World} {g b c e : Nat} {l a : Int} {v u t v' : Option Int} (h : St w3 wc g b c e l a v u t) (hk : w'.heap[b]? = some (.cells (zbf v') 124 (0, 0))) (hg : wc.grownBy w' (some b)) : St w3 w' g b c e l a v' u t := by
 obtain ⟨f0, f1, f2, f3, f4, f5, f6, f7, f8⟩ := h.far; exact ⟨h.below.grown hg h.below.size (fun k hk => by cases hk; exact f6), zu hg h.part (some_ne f3), hk, zu hg h.hi (some_ne (Ne.symm f0)), zu hg h.pt (some_ne (Ne.symm f1)), h.far⟩
theorem St.putHi {w3 wc w' : World} {g b c e : Nat} {l a : Int} {v u t v' : Option Int} (h : St w3 wc g b c e l a v u t) (hk : w'.heap[c]? = some (.cells (zbf v') 124 (0, 0))) (hg : wc.grownBy w' (some c)) : St w3 w' g b c e l a v v' t := by
 obtain ⟨f0, f1, f2, f3, f4, f5, f6, f7, f8⟩ := h.far; exact ⟨h.below.grown hg h.below.size (fun k hk => by cases hk; exact f7), zu hg h.part (some_ne f4), zu hg h.lo (some_ne f0), hk, zu hg h.pt (some_ne (Ne.symm f2)), h.far⟩
theorem St.putPt {w3 wc w' : World} {g b c e : Nat} {l a : Int} {v u t v' : Option Int} (h : St w3 wc g b c e l a v u t) (hk : w'.heap[e]? = some (.cells (zbf v') 124 (0, 0))) (hg : wc.grownBy w' (some e)) : St w3 w' g b c e l a v u v' := by
 obtain ⟨f0, f1, f2, f3, f4, f5, f6, f7, f8⟩ := h.far; exact ⟨h.below.grown hg h.below.size (fun k hk => by cases hk; exact f8), zu hg h.part (some_ne f5), zu hg h.lo (some_ne f1), zu hg h.hi (some_ne f2), hk, h.far⟩
theorem St.step {w3 wc w' : World} {g b c e : Nat} {l a : Int} {v u t : Option Int} (h : St w3 wc g b c e l a v u t) (hb : Below wc.heap.size wc w') : St w3 w' g b c e l a v u t :=
 ⟨za h.below hb, zd h.part hb, zd h.lo hb, zd h.hi hb, zd h.pt hb, h.far⟩
theorem St.p0 {w3 wc : World} {g b c e : Nat} {l a : Int} {v u t : Option Int} (h : St w3 wc g b c e l a v u t) : wc.cell? ⟨g, 0, none⟩ = some (.int .i64 l) := (zg h.part 0).trans rfl
theorem St.p1 {w3 wc : World} {g b c e : Nat} {l a : Int} {v u t : Option Int} (h : St w3 wc g b c e l a v u t) : wc.cell? ⟨g, 1, none⟩ = some (.int .i64 a) := (zg h.part 1).trans rfl
theorem info90 : (Try.prog.info? 90).map (·.size) = some 2 := by kernel_rfl
theorem acc_zero : accOk (some 0) := by
 show zaS 0 < 2 ^ 4772
 rw [absI_pos (Int.le_refl 0)]; exact zY 4772
def cmpN (v u : Option Int) : Int := match v, u with
 | some a, some b => sgnI (a - b)
 | _, _ => 0
def cmpK (v u : Option Int) : Bool := match v, u with
 | some _, some _ => true
 | _, _ => false
theorem cmpR_eq (v u : Option Int) : cmpR v u = .tuple #[.int .i64 (cmpN v u), .bool (cmpK v u)] := by
 cases v <;> cases u <;> rfl
theorem pow62 (L : Nat) (h : L ≤ 62) : (2 : Int) ^ 62 = 2 ^ L * 2 ^ (62 - L) := by rw [← zaG, show L + (62 - L) = 62 by omega]
theorem named_prod (v : Option Int) (x y : Nat) (n : Int) : ∃ t, prodV v x y n = t ∧ accOk t := ⟨_, rfl, prodV_ok v x y n⟩
theorem and_low (z : Int) : bits .and .i64 z 4294967295 = z % 4294967296 := by
 show IntKind.i64.wrap ((BitVec.ofInt 64 z &&& BitVec.ofInt 64 4294967295).toNat : Int) = _
 have h2 : (BitVec.ofInt 64 4294967295).toNat = 2 ^ 32 - 1 := by decide
 rw [BitVec.toNat_and, BitVec.toNat_ofInt, h2, Nat.and_two_pow_sub_one_eq_mod, IntKind.wrap_i64]; have e : ((2 ^ 64 : Nat) : Int) = 18446744073709551616 := by decide
 rw [e]; have e2 : (2 ^ 32 : Nat) = 4294967296 := by decide
 rw [e2]; have h3 := Int.emod_nonneg z (show (18446744073709551616 : Int) ≠ 0 by decide)
 omega
theorem fit_256 {l a : Int} (h : Fit l a) : 0 ≤ a ∧ a < 256 := by
 obtain ⟨h0, h1, h2, h3⟩ := h; have : (2 : Int) ^ l.toNat ≤ 2 ^ 8 := za3 yO_; have e : (2 : Int) ^ 8 = 256 := by decide
 omega
theorem round_law (d z l a : Int) (d0 : 0 ≤ d) (d1 : d ≤ 62) (hz : -9223372036854775808 ≤ z ∧ z < 9223372036854775808) (hf : Fit l a) :
  (¬ cmpN (prodV (prodV (some 0) (flt (z / 4294967296)) 4751297606875873280 (-d)) (flt (z % 4294967296)) 4607182418800017408 (-d)) (prodV (prodV (some 0) 13830554455654793216 oneF 0) (flt (2 * a)) 4607182418800017408 (-l)) < 0 ↔ (2 * a - 2 ^ l.toNat) * 2 ^ (62 - l.toNat) ≤ z * 2 ^ (62 - d.toNat)) ∧
  (¬ 0 < cmpN (prodV (prodV (some 0) (flt (z / 4294967296)) 4751297606875873280 (-d)) (flt (z % 4294967296)) 4607182418800017408 (-d)) (prodV (prodV (some 0) 13830554455654793216 oneF 0) (flt (2 * a + 2)) 4607182418800017408 (-l)) ↔ z * 2 ^ (62 - d.toNat) ≤ (2 * a + 2 - 2 ^ l.toNat) * 2 ^ (62 - l.toNat)) := by
 obtain ⟨l0, l1, a0, a1⟩ := hf; have a8 := (fit_256 ⟨l0, l1, a0, a1⟩).2; rw [f32_pow, neg_flt, oneF_pow, show (4607182418800017408 : Nat) = powF 0 from oneF_pow]; obtain ⟨D, hD⟩ : ∃ D : Nat, d = D := ⟨d.toNat, by omega⟩
 obtain ⟨L, hL⟩ : ∃ L : Nat, l = L := ⟨l.toNat, by omega⟩
 have P0 : (0 : Int) < P22 0 := zY _
 -- everything is in units of 2^(2212-62)
 obtain ⟨U, hU⟩ : ∃ U : Int, U = 2 ^ 2150 := ⟨_, rfl⟩
 have U0 : 0 < U := by rw [hU]; exact zY _
 have big : ∀ n : Nat, n ≤ 4000 → (2 : Int) ^ n < 2 ^ 4772 := fun n hn => by
  have h1 : (2 : Int) ^ n < 2 ^ (n + 1) := by rw [Int.pow_succ]; have := zY n; omega
  exact Int.lt_of_lt_of_le h1 (za3 yO_)
 have pd : ∀ j : Nat, j ≤ 32 → P22 ((j : Int) + -d) = 2 ^ j * (2 ^ (62 - D) * U) := fun j hj => by
  unfold P22; rw [show ((j : Int) + -d + 2212).toNat = j + ((62 - D) + 2150) by omega, zaG, zaG, hU]
 have pl : P22 (((0 : Nat) : Int) + -l) = 2 ^ (62 - L) * U := by
  unfold P22; rw [show (((0 : Nat) : Int) + -l + 2212).toNat = (62 - L) + 2150 by omega, zaG, hU]
 have pz : P22 (((0 : Nat) : Int) + 0) = 2 ^ 62 * U := by
  unfold P22; rw [show (((0 : Nat) : Int) + 0 + 2212).toNat = 62 + 2150 by omega, zaG, hU]
 have W : (0 : Int) < 2 ^ 62 * U := Int.mul_pos (zY _) U0
 -- a product of a number of at most 64 bits and 2^62 U is small
 have small : ∀ (n : Int) (m : Nat), -18446744073709551616 ≤ n → n ≤ 18446744073709551616 → m ≤ 62 → (-2 ^ 4772 < n * (2 ^ m * U) ∧ n * (2 ^ m * U) < 2 ^ 4772) := fun n m h0 h1 hm => by
  have hx : (2 : Int) ^ 64 * (2 ^ m * U) < 2 ^ 4772 := by
   rw [hU, ← zaG, ← zaG]; exact big _ yO_
  have hy : (0 : Int) < 2 ^ m * U := Int.mul_pos (zY _) U0; rw [show (2 : Int) ^ 64 = 18446744073709551616 by decide] at hx; generalize (2 : Int) ^ m * U = V at *
  have g0 := Int.mul_le_mul_of_nonneg_right h1 (Int.le_of_lt hy); have g1 := Int.mul_le_mul_of_nonneg_right h0 (Int.le_of_lt hy); rw [Int.neg_mul] at g1
  constructor <;> omega
 have e1 : prodV (some 0) (flt (z / 4294967296)) (powF 32) (-d) = some (z / 4294967296 * 4294967296 * (2 ^ (62 - D) * U)) := by
  rw [prod_flt 0 (z / 4294967296) (-d) 32 yO_ yO_ yO_ yO_, pd 32 yO_, Int.zero_add, ← Int.mul_assoc, show (2 : Int) ^ 32 = 4294967296 by decide]; exact normA_some _ (small _ _ yO_ yO_ yO_).1 (small _ _ yO_ yO_ yO_).2
 have e2 : prodV (some (z / 4294967296 * 4294967296 * (2 ^ (62 - D) * U))) (flt (z % 4294967296)) (powF 0) (-d) = some (z * (2 ^ (62 - D) * U)) := by
  rw [prod_flt _ (z % 4294967296) (-d) 0 yO_ yO_ yO_ yO_, pd 0 yO_, Int.pow_zero, Int.one_mul, ← Int.add_mul, show z / 4294967296 * 4294967296 + z % 4294967296 = z by omega]; exact normA_some _ (small _ _ yO_ yO_ yO_).1 (small _ _ yO_ yO_ yO_).2
 have e3 : prodV (some 0) (flt (-1)) (powF 0) 0 = some (-1 * (2 ^ 62 * U)) := by
  rw [prod_flt 0 (-1) 0 0 yD_ yO_ yO_ yO_, pz, Int.zero_add]; exact normA_some _ (small _ _ yO_ yO_ yO_).1 (small _ _ yO_ yO_ yO_).2
 have two := pow62 L yO_
 have pL8 : (2 : Int) ^ L ≤ 256 := by
  have := za3 (show L ≤ 8 by omega)
  rwa [show (2 : Int) ^ 8 = 256 by decide] at this
 have pL0 := zY L
 have e4 : ∀ n : Int, 0 ≤ n → n ≤ 1000 → prodV (some (-1 * (2 ^ 62 * U))) (flt n) (powF 0) (-l) = some ((n - 2 ^ L) * (2 ^ (62 - L) * U)) := fun n n0 n1 => by
  rw [prod_flt _ n (-l) 0 yO_ yO_ yO_ yO_, pl, two, Int.mul_assoc (2 ^ L), show -1 * (2 ^ L * (2 ^ (62 - L) * U)) + n * (2 ^ (62 - L) * U) = (n - 2 ^ L) * (2 ^ (62 - L) * U) by rw [Int.sub_mul]; omega]; exact normA_some _ (small _ _ yO_ yO_ yO_).1 (small _ _ yO_ yO_ yO_).2
 rw [e1, e2, e3, e4 (2 * a) yO_ yO_, e4 (2 * a + 2) yO_ yO_]; have lL : l.toNat = L := by omega
 have dD : d.toNat = D := by omega
 rw [lL, dD]
 have cmpL : ∀ p q : Int, (¬ sgnI (p * U - q * U) < 0 ↔ q ≤ p) ∧ (¬ 0 < sgnI (p * U - q * U) ↔ p ≤ q) := fun p q => by
  rw [← Int.sub_mul]
  rcases Int.lt_trichotomy p q with h | h | h
  ·have : (p - q) * U < 0 := Int.mul_neg_of_neg_of_pos yO_ U0; rw [zbh this]
   constructor <;> omega
  ·rw [h, Int.sub_self, Int.zero_mul, sgnI_zero rfl]
   constructor <;> omega
  ·have : 0 < (p - q) * U := Int.mul_pos yO_ U0; rw [zbi this]
   constructor <;> omega
 rw [← Int.mul_assoc z, ← Int.mul_assoc (2 * a - 2 ^ L), ← Int.mul_assoc (2 * a + 2 - 2 ^ L)]; exact ⟨(cmpL _ _).1, (cmpL _ _).2⟩
theorem within_calls (A0 : Option Addr) (c0 : Nat) (lv : List Int) (A1 : Option Addr) (c1 : Nat) (at_ : List Int) (A2 : Option Addr) (c2 : Nat) (es : List Int) (d : Int) (w : World)
  (hr0 : Kd.C (Kd.int .i64) w A0 lv.length lv) (hk0 : lv.length ≤ c0) (hr1 : Kd.C (Kd.int .i64) w A1 at_.length at_) (hk1 : at_.length ≤ c1) (hr2 : Kd.C (Kd.int .i64) w A2 es.length es) (hk2 : es.length ≤ c2) (hes : I64 es) :
  Calls Try.prog 24 #[.agg #[.slice A0 lv.length c0, .slice A1 at_.length c1], .slice A2 es.length c2, .int .i64 d] w fun e w' => e = .returned (.bool (decide (Win lv at_ es d))) ∧ Below w.heap.size w w' := by
 have hu24 := Try.underlying24; have hu90 := Try.underlying90; have HR0 := J hr0; have HR1 := J hr1; have HR2 := J hr2; have HK0 := J hk0; have HK1 := J hk1; have HK2 := J hk2; have HES := J hes; clear hr0 hr1 hr2 hk0 hk1 hk2 hes; obtain ⟨k, hk⟩ := (Check_ev lv at_ lv.length).get; have HF := J hk; clear hk; generalize hbn : decide (Win lv at_ es d) = bb; have HBN := J hbn; clear hbn; generalize hcr : chkE lv at_ lv.length = cr at *
 have HCR := J hcr; clear hcr; go_enter Try.func24, Try.ntmps24
 go_wp2_with (first
  | ((with_reducible refine zf (N := 3) rfl ?_); refine zah 3 (cs := #[.slice A0 lv.length c0, .slice A1 at_.length c1]) (t := 24) ?_; intro g3 hg3 w1 hw1 hb1; have B1 := J hb1; have K1 := J hw1; have L1 := J (show w.heap.size ≤ g3 by omega); clear hg3 hw1 hb1; have hc0 := cz_ K1.o 0 rfl; have hc1 := cz_ K1.o 1 rfl)
  | fail)
 refine (zz.calls k A0 c0 lv A1 c1 at_ lv.length cr w1 (Kd.zm HR0.o B1.o) HK0.o (Kd.zm HR1.o B1.o) HK1.o HF.o).mono ?_; rintro e w2 ⟨rfl, aJ⟩; have B2 := J (za B1.o aJ); have K2 := J (zd K1.o aJ); have hc0' : w2.cell? ⟨g3, 0, none⟩ = some (.slice A0 lv.length c0) := (zg K2.o 0).trans rfl; have hc1' : w2.cell? ⟨g3, 1, none⟩ = some (.slice A1 at_.length c1) := (zg K2.o 1).trans rfl; clear aJ hc0 hc1
 by_cases hz : cr = 0
 ·have hzb : (cr != 0) = false := by rw [hz]; rfl
  have HREG := J (chk_ok (HCR.o.trans hz)); clear hz
  by_cases hl : es.length = lv.length
  ·have hlb : ((es.length : Int) != (lv.length : Int)) = false := by rw [hl]; exact bne_self_eq_false _
   have HLE := J hl; clear hl
   by_cases aC : d < 0
   ·have hdb : decide (d < 0) = true := decide_eq_true aC; have HN := J (show ¬ Win lv at_ es d from fun h => by have := h.2.2.1; omega); clear aC; go_wp2_with fail; go_ret; exact ⟨by rw [← HBN.o, decide_eq_false HN.o]; first | done | rfl, B2.o⟩
   ·have hdb : decide (d < 0) = false := decide_eq_false aC
    by_cases aE : 62 < d
    ·have hde : decide (62 < d) = true := decide_eq_true aE; have HN := J (show ¬ Win lv at_ es d from fun h => by have := h.2.2.2.1; omega); clear aC aE; go_wp2_with fail; go_ret; exact ⟨by rw [← HBN.o, decide_eq_false HN.o]; first | done | rfl, B2.o⟩
    ·have hde : decide (62 < d) = false := decide_eq_false aE; have HD := J (show 0 ≤ d ∧ d ≤ 62 by omega); clear aC aE; go_wp2_with fail; obtain ⟨kp, hkp⟩ := (parts_ev lv at_ HREG.o.2.1 HREG.o.1).get; refine (zO.calls kp A0 c0 lv A1 c1 at_ (pz lv at_) w2 (Kd.zm HR0.o B2.o) HK0.o (Kd.zm HR1.o B2.o) HK1.o hkp).mono ?_; rintro e w3 ⟨v39, rfl, ho, hb3⟩; obtain ⟨Ap, cp, aI⟩ := Kd.zJ ho; have HP := J ((Kd.zK (aI ▸ ho)).2.2); rw [zba lv at_ HREG.o.2.1] at aI; subst aI; have B3 := J (za B2.o hb3); have HE := J (Kd.zm HR2.o B3.o); clear hb3 ho hkp; go_wp2_with fail
     go_loopg [41] lv.length (fun m v41 wr => ∃ x : Int, v41 = .int .i64 x ∧ ze (0 ≤ x ∧ x + m = lv.length) ∧ ze (∀ j : Nat, (j : Int) < x → InP d (rd es (j : Nat)) (rd lv (j : Nat)) (rd at_ (j : Nat))) ∧ ze (Below w3.heap.size w3 wr))
     case atStart => exact ⟨0, rfl, ⟨by omega⟩, ⟨fun j hj => by omega⟩, ⟨Below.refl _ _⟩⟩
     case round =>
      obtain ⟨x, rfl, hm, hall, BL⟩ := hrel
      by_cases hx : x < (lv.length : Int)
      ·have hxb : decide (x < (lv.length : Int)) = true := decide_eq_true hx; have p0 : 0 ≤ x := hm.o.1; obtain ⟨j, rfl⟩ : ∃ j : Nat, x = j := ⟨x.toNat, by omega⟩
       have hj : j < lv.length := by omega
       have hfit := HREG.o.2.2 j hj; have hee := i64_rd HES.o j (by have := HLE.o; omega); have hpz := pz_rd lv at_ j hj (by have := HREG.o.2.1; omega); obtain ⟨ad, e44, aG, aB⟩ := at_T90 (Kd.zm HP.o BL.o) (j : Int) p0 (by rw [zba lv at_ HREG.o.2.1]; exact hx); rw [hpz] at aG aB; obtain ⟨ae, e52, aH⟩ := Kd.zQ (Kd.zm HE.o BL.o) (j : Int) p0 (by have := HLE.o; omega); cases e44; cases e52
       have hzz : ∀ W : World, Below w3.heap.size w3 W → W.cell? (ae.add j) = some (.int .i64 (rd es (j : Int))) := by
        intro W hW; obtain ⟨ad', e', h'⟩ := Kd.zQ (Kd.zm HE.o hW) (j : Int) p0 (by have := HLE.o; omega)
        cases e'
        rw [Int.toNat_natCast] at h'; exact h'
       have HZ := J hzz; clear hzz; have HW := J (show Win lv at_ es d → InP d (rd es (j : Int)) (rd lv (j : Int)) (rd at_ (j : Int)) from fun h => h.2.2.2.2 j hj)
       have HQ := J (show InP d (rd es (j : Int)) (rd lv (j : Int)) (rd at_ (j : Int)) → ∀ i : Nat, (i : Int) < (j : Int) + 1 → InP d (rd es (i : Nat)) (rd lv (i : Nat)) (rd at_ (i : Nat)) from fun h i hi => by
        by_cases hij : i = j
        ·subst hij; exact h
        ·exact hall.o i yO_)
       dsimp only at aG aB
       rw [Int.toNat_natCast] at aG aB aH; have hq : (j : Int) < (es.length : Int) := by have := HLE.o; omega
       have hj1 : j < es.length := by have := HLE.o; omega
       have hj0 := eq_true hj; replace hj1 := eq_true hj1; replace p0 := eq_true p0; replace hq := eq_true hq; have HJ := J hj; have HEE := J hee; have HFIT := J hfit; clear hx hj hpz hee hfit; generalize rd lv (j : Int) = l at *
       generalize rd at_ (j : Int) = a at *
       generalize rd es (j : Int) = z at *
       go_wp2_with (first
        | ((with_reducible refine zf (N := 8) rfl ?_); refine zah 8 (cs := #[.int .i64 0, .int .i64 0]) (t := 90) ?_; intro g8 hg8 w8 hw8 hb8; have B8 := J (za BL.o hb8); have K8 := J hw8; have L8 := J (show w3.heap.size ≤ g8 by have := BL.o.size; omega); clear hg8 hw8 hb8)
        | ((with_reducible refine zj (t := 90) (p := 8) rfl ?_); refine zi rfl 90 rfl rfl g8 #[.int .i64 l, .int .i64 a] rfl rfl 90 _ K8.o (info90.trans rfl) rfl (by simp [Value.oneCell']) ?_; intro w9 hw9 hg9; have B9 := J (B8.o.grown hg9 B8.o.size (fun k hk => by cases hk; exact L8.o)); have K9 := J hw9; clear hw9 hg9)
        | fail)
       refine (new_calls w9).mono ?_; rintro e w10 ⟨b, rfl, hgb, hkb, hbb⟩; have B10 := J (za B9.o hbb); have K10 := J (zd K9.o hbb); have Kb := J hkb; have Nb := J (show g8 ≠ b ∧ w3.heap.size ≤ b by have := zac K9.o; have := B9.o.size; omega); clear hgb hkb hbb aG aB aH; go_wp2_with fail; refine (new_calls w10).mono ?_; rintro e w11 ⟨c, rfl, hgb, hkb, hbb⟩; have B11 := J (za B10.o hbb); have K11 := J (zd K10.o hbb); have Kb1 := J (zd Kb.o hbb); have Kc := J hkb; have Nc := J (show g8 ≠ c ∧ b ≠ c ∧ w3.heap.size ≤ c by have := zac K10.o; have := zac Kb.o; have := B10.o.size; omega); clear hgb hkb hbb; go_wp2_with fail; refine (new_calls w11).mono ?_; rintro e aQ ⟨e, rfl, hgb, hkb, hbb⟩; have S0 := J (show St w3 aQ g8 b c e l a (some 0) (some 0) (some 0) from ⟨za B11.o hbb, zd K11.o hbb, zd Kb1.o hbb, zd Kc.o hbb, hkb, by have := zac K11.o; have := zac Kb1.o; have := zac Kc.o; have := B11.o.size; have := Nb.o; have := Nc.o; omega⟩); have aO := HZ.o aQ S0.o.below; clear hgb hkb hbb; have hnd : wrap64 (-d) = -d := w64 _ (by have := HD.o; omega) (by have := HD.o; omega); have hnl : wrap64 (-l) = -l := w64 _ (by have := HFIT.o.2.1; omega) (by have := HFIT.o.1; omega); have ha8 : 0 ≤ a ∧ a < 256 := fit_256 HFIT.o; have hw2 : wrap64 (2 * a) = 2 * a := w64 _ yO_ yO_; have hw3 : wrap64 (2 * a + 2) = 2 * a + 2 := w64 _ yO_ yO_; clear ha8; have hba := and_low z
       obtain ⟨x1, aB⟩ : ∃ x, floatOfInt .f64 (z / 4294967296) = x := ⟨_, rfl⟩
       obtain ⟨x2, aH⟩ : ∃ x, floatOfInt .f64 (z % 4294967296) = x := ⟨_, rfl⟩
       obtain ⟨x3, hx3⟩ : ∃ x, floatOfInt .f64 (2 * a) = x := ⟨_, rfl⟩
       obtain ⟨x4, hx4⟩ : ∃ x, floatOfInt .f64 (2 * a + 2) = x := ⟨_, rfl⟩
       have X1 := J (show flt (z / 4294967296) = x1 from aB); have X2 := J (show flt (z % 4294967296) = x2 from aH); have X3 := J (show flt (2 * a) = x3 from hx3); have X4 := J (show flt (2 * a + 2) = x4 from hx4); go_wp2_with fail; refine (prod_calls aQ e (some 0) x1 4751297606875873280 (-d) (by rw [← X1.o]; exact flt_lt _) yD_ acc_zero S0.o.pt).mono ?_; rintro e' w13 ⟨rfl, hk, hg⟩; generalize ht : prodV (some 0) x1 4751297606875873280 (-d) = t1 at *
       have T1 := J ht; have O1 := J (show accOk t1 from by rw [← ht]; exact prodV_ok _ _ _ _); have S1 := J (S0.o.putPt hk hg); clear ht hk hg; have aP := HZ.o w13 S1.o.below; clear aO; go_wp2_with fail; refine (prod_calls w13 e t1 x2 4607182418800017408 (-d) (by rw [← X2.o]; exact flt_lt _) yD_ O1.o S1.o.pt).mono ?_; rintro e' w14 ⟨rfl, hk, hg⟩; generalize ht : prodV t1 x2 4607182418800017408 (-d) = t2 at *
       have T2 := J ht; have O2 := J (show accOk t2 from by rw [← ht]; exact prodV_ok _ _ _ _); have S2 := J (S1.o.putPt hk hg); clear ht hk hg; clear aP; go_wp2_with fail; refine (add_calls w14 b (some 0) 13830554455654793216 yD_ acc_zero S2.o.lo).mono ?_; rintro e' w15 ⟨rfl, hk, hg⟩; obtain ⟨t3, ht, ho⟩ := named_prod (some 0) 13830554455654793216 oneF 0; rw [ht] at hk; have T3 := J ht; have O3 := J ho; have S3 := J (S2.o.putLo hk hg); clear ht hk hg ho; have aM := S3.o.p0; have aN := S3.o.p1; go_wp2_with fail; refine (prod_calls w15 b t3 x3 4607182418800017408 (-l) (by rw [← X3.o]; exact flt_lt _) yD_ O3.o S3.o.lo).mono ?_; rintro e' w16 ⟨rfl, hk, hg⟩; generalize ht : prodV t3 x3 4607182418800017408 (-l) = t4 at *
       have T4 := J ht; have O4 := J (show accOk t4 from by rw [← ht]; exact prodV_ok _ _ _ _); have S4 := J (S3.o.putLo hk hg); clear ht hk hg; clear aM aN; go_wp2_with fail; refine (add_calls w16 c (some 0) 13830554455654793216 yD_ acc_zero S4.o.hi).mono ?_; rintro e' w17 ⟨rfl, hk, hg⟩; obtain ⟨t5, ht, ho⟩ := named_prod (some 0) 13830554455654793216 oneF 0; rw [ht] at hk; have T5 := J ht; have O5 := J ho; have S5 := J (S4.o.putHi hk hg); clear ht hk hg ho; have aM := S5.o.p0; have aN := S5.o.p1; go_wp2_with fail; refine (prod_calls w17 c t5 x4 4607182418800017408 (-l) (by rw [← X4.o]; exact flt_lt _) yD_ O5.o S5.o.hi).mono ?_; rintro e' w18 ⟨rfl, hk, hg⟩; generalize ht : prodV t5 x4 4607182418800017408 (-l) = t6 at *
       have T6 := J ht; have O6 := J (show accOk t6 from by rw [← ht]; exact prodV_ok _ _ _ _); have S6 := J (S5.o.putHi hk hg); clear ht hk hg; clear aM aN; go_wp2_with fail; refine (cmp_calls w18 e b t2 t4 O2.o O4.o S6.o.pt S6.o.lo).mono ?_; rintro e' w19 ⟨rfl, hb⟩; have S7 := J (S6.o.step hb); clear hb; rw [cmpR_eq t2 t4]; go_wp2_with fail; refine (cmp_calls w19 e c t2 t6 O2.o O6.o S7.o.pt S7.o.hi).mono ?_; rintro e' w20 ⟨rfl, hb⟩; have S8 := J (S7.o.step hb); clear hb; rw [cmpR_eq t2 t6]; obtain ⟨q1, q2⟩ := round_law d z l a HD.o.1 HD.o.2 HEE.o HFIT.o; rw [X1.o, X2.o, T1.o, T2.o, X3.o, T3.o, T4.o] at q1; rw [X1.o, X2.o, T1.o, T2.o, X4.o, T5.o, T6.o] at q2; have HQ1 := J q1; have HQ2 := J q2; clear q1 q2
       by_cases aA : cmpN t2 t4 < 0
       ·have aK : decide (cmpN t2 t4 < 0) = true := decide_eq_true aA; have HN1 := J aA; clear aA; go_wp2_with fail; go_ret; exact ⟨by rw [← HBN.o, decide_eq_false (fun h => by have := HQ1.o.mpr (HW.o h).1; have := HN1.o; omega)]; first | done | rfl, za B3.o S8.o.below⟩
       ·have aK : decide (cmpN t2 t4 < 0) = false := decide_eq_false aA
        by_cases aD : 0 < cmpN t2 t6
        ·have aL : decide (0 < cmpN t2 t6) = true := decide_eq_true aD; have HN2 := J aD; clear aA aD; go_wp2_with fail; go_ret; exact ⟨by rw [← HBN.o, decide_eq_false (fun h => by have := HQ2.o.mpr (HW.o h).2; have := HN2.o; omega)]; first | done | rfl, za B3.o S8.o.below⟩
        ·have aL : decide (0 < cmpN t2 t6) = false := decide_eq_false aD; have HN := J (show InP d z l a from ⟨HQ1.o.mp yO_, HQ2.o.mp yO_⟩); clear aA aD; go_wp2_with fail; go_roundg (gk - 1)
         case measure => have := hm.o; have := HJ.o; omega
         case rel => exact ⟨(j : Int) + 1, by rw [show wrap64 ((j : Int) + 1) = (j : Int) + 1 from w64 _ yO_ (by have := HJ.o; have := HREG.o.1; omega)], ⟨by have := hm.o; have := HJ.o; omega⟩, ⟨HQ.o HN.o⟩, ⟨S8.o.below⟩⟩
      ·have hxb : decide (x < (lv.length : Int)) = false := decide_eq_false hx; have HX := J (show x = lv.length by have := hm.o; omega); clear hx; go_wp2_with fail; go_ret; exact ⟨by rw [← HBN.o, decide_eq_true ⟨HREG.o, HLE.o, HD.o.1, HD.o.2, fun i hi => hall.o i (by have := HX.o; omega)⟩]; first | done | rfl, za B3.o BL.o⟩
  ·have hlb : ((es.length : Int) != (lv.length : Int)) = true := by rw [bne_iff_ne]; omega
   have HN := J (show ¬ Win lv at_ es d from fun h => hl h.2.1); clear hl; go_wp2_with fail; go_ret; exact ⟨by rw [← HBN.o, decide_eq_false HN.o]; first | done | rfl, B2.o⟩
 ·have hzb : (cr != 0) = true := by rw [bne_iff_ne]; exact hz
  have HN := J (show ¬ Win lv at_ es d from fun h => chk_bad (by rw [HCR.o]; exact hz) h.1); clear hz; go_wp2_with fail; go_ret; exact ⟨by rw [← HBN.o, decide_eq_false HN.o]; first | done | rfl, B2.o⟩
end Go.Proofs.Ytlidbaejhmamjaa.AC
namespace Go.Proofs.Ytlidbaejhmamjaa.PB
open Go.RowKit YtlidbaejhmamjaaW.PrintWords YtlidbaejhmamjaaW.PrintLast YtlidbaejhmamjaaW.PrintMore
attribute [local go_sem] zao zaq zaB zaC zae zaf zap zar   -- for this text's walks alone
def zX.j0 : Nat → Int → List (S90) → Bool → Option (List Int × List Int × List Int × List Int × Int)
 | 0, _, _, _ => none
 | k + 1, x1, x8, x37 => if x37 = true then (some (([] : List Int), ([] : List Int), ([] : List Int), ([] : List Int), 1)) else (if 0 ≤ x1 then (if x1 < (x8.length : Int) then ((some (x8.set (x1 : Int).toNat (⟨wrap64 (((zn x8 x1).f0) + 1), wrap64 (2 * ((zn x8 x1).f1))⟩ : S90) : List (S90))).bind fun aA => ((zt.f k aA).bind fun aB => ((some (aA.set (x1 : Int).toNat (⟨(zn aA x1).f0, wrap64 (((zn aA x1).f1) + 1)⟩ : S90) : List (S90))).bind fun aD => ((zt.f k aD).bind fun aC => (if (((zn aD x1).f0) == ((zn x8 x1).f0) && (((zn aD x1).f1) == ((zn x8 x1).f1))) = true then (none) else (some (aB.1, aB.2, aC.1, aC.2, 0))))))) else (none)) else (none))
def zX.f (k : Nat) (aA : List Int) (aB : List Int) (a1 : Int) : Option (List Int × List Int × List Int × List Int × Int) := (zz.f k aA aB (aA.length : Int)).bind fun t156 => (if t156 = 0 then ((zO.f k aA aB).bind fun t157 => (if a1 < 0 then (zX.j0 k a1 t157 true) else (if a1 ≥ (aA.length : Int) then (zX.j0 k a1 t157 true) else (if 0 ≤ a1 then (if a1 < (t157.length : Int) then (zX.j0 k a1 t157 (((zn t157 a1).f0) == 8)) else (none)) else (none))))) else (some (([] : List Int), ([] : List Int), ([] : List Int), ([] : List Int), 180)))
theorem zX.ite2 {a b c d : Int} {x y : Result Next} (h : ((a == b) && (c == d)) = false) : (if a = b then (if c = d then x else y) else y) = y := by
 by_cases e0 : a = b
 ·by_cases e1 : c = d
  ·exact absurd h (by simp [e0, e1])
  ·rw [if_pos e0, if_neg e1]
 ·rw [if_neg e0]
theorem zX.calls (k : Nat) (cC : Option Addr) (cE : Nat) (aX : List Int) (cD : Option Addr) (cF : Nat) (bK : List Int) (a1 : Int) (r1 : List Int) (r2 : List Int) (r3 : List Int) (r4 : List Int) (r5 : Int) (w : World) (fG : Kd.C (Kd.int .i64) w cC aX.length aX) (fB : aX.length ≤ cE) (fH : Kd.C (Kd.int .i64) w cD bK.length bK) (fC : bK.length ≤ cF) (h : zX.f k aX bK a1 = some (r1, r2, r3, r4, r5)) :
  Calls Try.prog 15 #[.agg #[.slice cC aX.length cE, .slice cD bK.length cF], .int .i64 a1] w fun e w' => ∃ hM hN hO hP : Value, e = .returned (.tuple #[.agg #[hM, hN], .agg #[hO, hP], .int .i64 r5]) ∧ Kd.R (Kd.int .i64) 3 w' w.heap.size (fun k_ => some k_ ≠ (hN : Value).ownBlock ∧ some k_ ≠ (hO : Value).ownBlock ∧ some k_ ≠ (hP : Value).ownBlock) hM r1 ∧ Kd.R (Kd.int .i64) 3 w' w.heap.size (fun k_ => some k_ ≠ (hM : Value).ownBlock ∧ some k_ ≠ (hO : Value).ownBlock ∧ some k_ ≠ (hP : Value).ownBlock) hN r2 ∧ Kd.R (Kd.int .i64) 3 w' w.heap.size (fun k_ => some k_ ≠ (hM : Value).ownBlock ∧ some k_ ≠ (hN : Value).ownBlock ∧ some k_ ≠ (hP : Value).ownBlock) hO r3 ∧ Kd.R (Kd.int .i64) 3 w' w.heap.size (fun k_ => some k_ ≠ (hM : Value).ownBlock ∧ some k_ ≠ (hN : Value).ownBlock ∧ some k_ ≠ (hO : Value).ownBlock) hP r4 ∧ Below w.heap.size w w' := by
 have hu24 := Try.underlying24; have hu90 := Try.underlying90; have dO := J fG; have dM := J fB; clear fG fB; have dP := J fH; have dN := J fC; clear fH fC; have HB := J (Below.refl w.heap.size w); have H : ((zz.f k aX bK (aX.length : Int)).bind fun t156 => (if t156 = 0 then ((zO.f k aX bK).bind fun t157 => (if a1 < 0 then (zX.j0 k a1 t157 true) else (if a1 ≥ (aX.length : Int) then (zX.j0 k a1 t157 true) else (if 0 ≤ a1 then (if a1 < (t157.length : Int) then (zX.j0 k a1 t157 (((zn t157 a1).f0) == 8)) else (none)) else (none))))) else (some (([] : List Int), ([] : List Int), ([] : List Int), ([] : List Int), 180)))) = some (r1, r2, r3, r4, r5) := h; clear h; replace H := Option.bind_eq_some_iff.mp H; obtain ⟨t156, hQ, H⟩ := H; replace H : (if t156 = 0 then ((zO.f k aX bK).bind fun t157 => (if a1 < 0 then (zX.j0 k a1 t157 true) else (if a1 ≥ (aX.length : Int) then (zX.j0 k a1 t157 true) else (if 0 ≤ a1 then (if a1 < (t157.length : Int) then (zX.j0 k a1 t157 (((zn t157 a1).f0) == 8)) else (none)) else (none))))) else (some (([] : List Int), ([] : List Int), ([] : List Int), ([] : List Int), 180))) = some (r1, r2, r3, r4, r5) := H; have A3 := J hQ; clear hQ
 by_cases c4 : t156 = 0
 ·rw [if_pos c4] at H; have gW : (t156 == 0) = true := beq_iff_eq.mpr c4; have gX : (t156 != 0) = false := bne_eq_false_iff_eq.mpr c4; clear c4; replace H := Option.bind_eq_some_iff.mp H; obtain ⟨t157, A50, H⟩ := H; replace H : (if a1 < 0 then (zX.j0 k a1 t157 true) else (if a1 ≥ (aX.length : Int) then (zX.j0 k a1 t157 true) else (if 0 ≤ a1 then (if a1 < (t157.length : Int) then (zX.j0 k a1 t157 (((zn t157 a1).f0) == 8)) else (none)) else (none)))) = some (r1, r2, r3, r4, r5) := H; have A5 := J A50; clear A50; have hU := J H; clear H; go_enter Try.func15, Try.ntmps15
  go_upto_region 5 with (first | ((with_reducible refine zf (N := 2) rfl ?_); refine zah 2 (cs := #[.slice cC aX.length cE, .slice cD bK.length cF]) (t := 24) ?_; intro bJ hg w7 hbox hb; have aB := J (hbox); have dJ := J ((by rw [hg]; exact (zh bw_) : w.heap.size ≤ bJ)); replace HB := J (za bw_ hb); have gF := dJ; clear hb hbox hg) | ((with_reducible refine zf (N := 4) rfl ?_); refine zah 4 (cs := #[.slice none 0 0, .slice none 0 0]) (t := 24) ?_; intro aH hg w8 hbox hb; have aA := J (hbox); have dK := J ((by rw [hg]; exact (zh bw_) : w.heap.size ≤ aH)); replace HB := J (za bw_ hb); have gG := dK; have aR := J ((by rw [hg]; exact Nat.ne_of_lt (fl_ aB.o) : bJ ≠ aH)); replace aB := J (fr_ aB.o hb); have bF := J aR.o.symm; clear hb hbox hg) | ((with_reducible refine zf (N := 5) rfl ?_); refine zah 5 (cs := #[.slice none 0 0, .slice none 0 0]) (t := 24) ?_; intro aI hg w9 hbox hb; have aC := J (hbox); have dL := J ((by rw [hg]; exact (zh bw_) : w.heap.size ≤ aI)); replace HB := J (za bw_ hb); have gH := dL; have aS := J ((by rw [hg]; exact Nat.ne_of_lt (fl_ aB.o) : bJ ≠ aI)); replace aB := J (fr_ aB.o hb); have bG := J aS.o.symm; have aO := J ((by rw [hg]; exact Nat.ne_of_lt (fl_ aA.o) : aH ≠ aI)); replace aA := J (fr_ aA.o hb); have aZ := J aO.o.symm; clear hb hbox hg; have hnb10 := aR.o; have hnc10 := bF.o; have hnb11 := aS.o; have hnc11 := bG.o; have dZ := cz_ aB.o 0 rfl; have eA := cz_ aB.o 1 rfl; have eD := zb aB.o 0; have eF := zb aB.o 1) | ((with_reducible refine zM (f := 17) rfl ?_); refine gl_ 17 Try.func17 #[.agg #[.slice cC aX.length cE, .slice cD bK.length cF], .int .i64 (aX.length : Int)] ?_; (with_reducible refine (zz.calls k _ _ aX _ _ bK (aX.length : Int) t156 _ ?bY ?bZ ?cW ?cX A3.o).mono ?_); (case bY => exact sc_ (Kd.zm dO.o HB.o)); (case bZ => exact dM.o); (case cW => exact sc_ (Kd.zm dP.o HB.o)); (case cX => exact dN.o); rintro e w13 ⟨rfl, hb⟩; refine ⟨_, rfl, ?_⟩; replace aB := J (fr_ aB.o hb); replace aA := J (fr_ aA.o hb); replace aC := J (fr_ aC.o hb); replace HB := J (za bw_ hb); (try clear hb); have eB := cz_ aB.o 0 rfl; have eC := cz_ aB.o 1 rfl; have eG := zb aB.o 0; have eH := zb aB.o 1) | ((with_reducible refine zM (f := 39) rfl ?_); refine gl_ 22 Try.func39 #[.agg #[.slice cC aX.length cE, .slice cD bK.length cF]] ?_; (with_reducible refine (zO.calls k _ _ aX _ _ bK t157 _ ?bY ?bZ ?cW ?cX A5.o).mono ?_); (case bY => exact sc_ (Kd.zm dO.o HB.o)); (case bZ => exact dM.o); (case cW => exact sc_ (Kd.zm dP.o HB.o)); (case cX => exact dN.o); rintro e w15 ⟨iK, rfl, dY, hb⟩; refine ⟨_, rfl, ?_⟩; have cS := J (Kd.z9 dY (zh bw_)); replace aB := J (fr_ aB.o hb); replace aA := J (fr_ aA.o hb); replace aC := J (fr_ aC.o hb); replace HB := J (za bw_ hb); (try clear hb dY)))
  (try simp only [Act.put, sI_, s0_, s1_])
  go_cut [37] (fun v37 wc => ∃ (kq : Nat) (dA : Bool), v37 = .bool dA ∧ ze (zX.j0 kq a1 t157 dA = some (r1, r2, r3, r4, r5)) ∧ ze (kq ≤ k) ∧ ze (Kd.R k90 90 wc w.heap.size (fun _ => True) iK t157) ∧ ze (wc.heap[bJ]? = some (.cells #[(.slice cC aX.length cE), (.slice cD bK.length cF)] 24 (0, 0))) ∧ ze (wc.heap[aH]? = some (.cells #[(.slice none 0 0), (.slice none 0 0)] 24 (0, 0))) ∧ ze (wc.heap[aI]? = some (.cells #[(.slice none 0 0), (.slice none 0 0)] 24 (0, 0))) ∧ ze (Below w.heap.size w wc))
  case first =>
   have H := hU.o; clear hU
   by_cases fN : a1 < 0
   ·rw [if_pos fN] at H; have cN := decide_eq_true fN; clear fN
    (first | rw [cN] | (simp only [zat, zaM]; rw [cN]) | skip)
    have H' := J H; clear H; go_wp2; go_meet
    case rel => exact ⟨_, (true), rs_, H', ⟨om_⟩, ⟨pk_ cS.o⟩, ⟨pe_ aB.o⟩, ⟨pe_ aA.o⟩, ⟨pe_ aC.o⟩, ⟨bw_⟩⟩
   ·rw [if_neg fN] at H; have cN := decide_eq_false fN; clear fN
    (first | rw [cN] | (simp only [zat, zaM]; rw [cN]) | skip)
    by_cases fO : a1 ≥ (aX.length : Int)
    ·rw [if_pos fO] at H; have fA := decide_eq_true fO; clear fO; have H' := J H; clear H; go_wp2; go_meet
     case rel => exact ⟨_, (true), rs_, H', ⟨om_⟩, ⟨pk_ cS.o⟩, ⟨pe_ aB.o⟩, ⟨pe_ aA.o⟩, ⟨pe_ aC.o⟩, ⟨bw_⟩⟩
    ·rw [if_neg fO] at H; have fA := decide_eq_false fO; clear fO
     by_cases gR : 0 ≤ a1
     ·rw [if_pos gR] at H; have gS := decide_eq_true gR; clear gR
      by_cases gT : a1 < (t157.length : Int)
      ·rw [if_pos gT] at H; have gU := decide_eq_true gT; clear gT; have H' := J H; clear H; obtain ⟨Ao20, co20, hZ⟩ := Kd.zJ cS.o; subst hZ; have eX : 0 ≤ (a1 : Int) := od_; have eY : a1 < (t157.length : Int) := od_; obtain ⟨ad160, hV, eI, eJ⟩ := at_T90 (Kd.zK cS.o).2.2 a1 eX eY; cases hV; replace eX := eq_true eX; replace eY := eq_true eY; go_wp2; go_meet
       case rel => exact ⟨_, ((((zn t157 a1).f0) == 8)), rs_, H', ⟨om_⟩, ⟨pk_ cS.o⟩, ⟨pe_ aB.o⟩, ⟨pe_ aA.o⟩, ⟨pe_ aC.o⟩, ⟨bw_⟩⟩
      ·rw [if_neg gT] at H; exact absurd H (by simp)
     ·rw [if_neg gR] at H; exact absurd H (by simp)
  case rest =>
   clear hU
   try clear c1
   try clear p1
   try clear q1
   try clear hx1
   try clear p2
   try clear c3
   try clear c4
   try clear gW
   try clear gX
   try clear c10
   try clear c11
   try clear c15
   try clear fN
   try clear cN
   try clear p16
   try clear q16
   try clear hx16
   try clear fO
   try clear fA
   try clear gR
   try clear gS
   try clear gT
   try clear gU
   try clear dZ
   try clear eA
   try clear eB
   try clear eC
   try clear eD
   try clear eF
   try clear eG
   try clear eH
   try clear eI
   try clear eJ
   try clear eX
   try clear eY
   obtain ⟨kq, dA, rfl, HA, HJ5, aE, aB, aA, aC, HB⟩ := hcut
   cases kq with
   | zero => exact absurd HA.o (by simp [zX.j0])
   | succ fI =>
    have H := HA.o; clear HA; simp only [zX.j0] at H
    by_cases hR : dA = true
    ·subst hR; have H1 : (some (([] : List Int), ([] : List Int), ([] : List Int), ([] : List Int), 1)) = some (r1, r2, r3, r4, r5) := by rw [if_pos rfl] at H; exact H
     clear H; have H := H1; clear H1; simp only [Option.some.injEq, Prod.mk.injEq] at H; obtain ⟨rfl, rfl, rfl, rfl, rfl⟩ := H; have hnb22 := bF.o; have hnc22 := aR.o; have hnb23 := aO.o; have hnc23 := aZ.o; have hcz24_0 := cz_ aA.o 0 rfl; have hcz24_1 := cz_ aA.o 1 rfl; have hfz24_0 := zb aA.o 0; have hfz24_1 := zb aA.o 1; have hnb25 := bG.o; have hnc25 := aS.o; have hcz26_0 := cz_ aC.o 0 rfl; have hcz26_1 := cz_ aC.o 1 rfl; have hfz26_0 := zb aC.o 0; have hfz26_1 := zb aC.o 1; go_wp2; refine bodyPost_ret (zbb (rs := [.cell 4 24, .cell 5 24, .tmp 6]) rfl (by simp) (.cell aH 24 #[.slice none 0 0, .slice none 0 0] (0, 0) _ rfl (hp_ aA.o) Try.underlying24 rfl yK_ (.cell aI 24 #[.slice none 0 0, .slice none 0 0] (0, 0) _ rfl (hp_ aC.o) Try.underlying24 rfl yK_ (.tmp .nil)))) rfl ?_; exact ⟨_, _, _, _, er_, by first | exact Kd.zaI _ _ _ _ _ | exact Kd.N_nil _ _ _ _ _ | exact Kd.V_nil _ _ _ _ _ | exact Kd.Q_nil _ _ _ _ _ | exact Kd.zaP _ _ _ _ _, by first | exact Kd.zaI _ _ _ _ _ | exact Kd.N_nil _ _ _ _ _ | exact Kd.V_nil _ _ _ _ _ | exact Kd.Q_nil _ _ _ _ _ | exact Kd.zaP _ _ _ _ _, by first | exact Kd.zaI _ _ _ _ _ | exact Kd.N_nil _ _ _ _ _ | exact Kd.V_nil _ _ _ _ _ | exact Kd.Q_nil _ _ _ _ _ | exact Kd.zaP _ _ _ _ _, by first | exact Kd.zaI _ _ _ _ _ | exact Kd.N_nil _ _ _ _ _ | exact Kd.V_nil _ _ _ _ _ | exact Kd.Q_nil _ _ _ _ _ | exact Kd.zaP _ _ _ _ _, bw_⟩
    ·replace hR := Bool.eq_false_iff.mpr hR; subst hR; have H1 : (if 0 ≤ a1 then (if a1 < (t157.length : Int) then ((some (t157.set (a1 : Int).toNat (⟨wrap64 (((zn t157 a1).f0) + 1), wrap64 (2 * ((zn t157 a1).f1))⟩ : S90) : List (S90))).bind fun aQ => ((zt.f fI aQ).bind fun cT => ((some (aQ.set (a1 : Int).toNat (⟨(zn aQ a1).f0, wrap64 (((zn aQ a1).f1) + 1)⟩ : S90) : List (S90))).bind fun aN => ((zt.f fI aN).bind fun bP => (if (((zn aN a1).f0) == ((zn t157 a1).f0) && (((zn aN a1).f1) == ((zn t157 a1).f1))) = true then (none) else (some (cT.1, cT.2, bP.1, bP.2, 0))))))) else (none)) else (none)) = some (r1, r2, r3, r4, r5) := by rw [if_neg (show ¬ (false = true) by decide)] at H; exact H
     clear H; have H := H1; clear H1
     by_cases hS : 0 ≤ a1
     ·rw [if_pos hS] at H; have c27b0 := decide_eq_true hS; clear hS
      by_cases hT : a1 < (t157.length : Int)
      ·rw [if_pos hT] at H; have c28b0 := decide_eq_true hT; clear hT; obtain ⟨aQ, cU⟩ : ∃ y_ : List (S90), y_ = (t157.set (a1 : Int).toNat (⟨wrap64 (((zn t157 a1).f0) + 1), wrap64 (2 * ((zn t157 a1).f1))⟩ : S90)) := ⟨_, rfl⟩
       replace H : ((zt.f fI aQ).bind fun cT => ((some (aQ.set (a1 : Int).toNat (⟨(zn aQ a1).f0, wrap64 (((zn aQ a1).f1) + 1)⟩ : S90) : List (S90))).bind fun aN => ((zt.f fI aN).bind fun bP => (if (((zn aN a1).f0) == ((zn t157 a1).f0) && (((zn aN a1).f1) == ((zn t157 a1).f1))) = true then (none) else (some (cT.1, cT.2, bP.1, bP.2, 0)))))) = some (r1, r2, r3, r4, r5) := by first | (rw [cU]; with_reducible exact H) | (have fK := (Option.bind_some _ _).symm.trans H; rw [cU]; with_reducible exact fK) | (have fK := (Option.bind_some _ _).symm.trans H; with_reducible exact fK) | with_reducible exact H | (rw [cU]; exact H) | exact H
       have dQ := J cU; clear cU; replace H := Option.bind_eq_some_iff.mp H; obtain ⟨⟨t164, t167⟩, gD, H⟩ := H; replace H : ((some (aQ.set (a1 : Int).toNat (⟨(zn aQ a1).f0, wrap64 (((zn aQ a1).f1) + 1)⟩ : S90) : List (S90))).bind fun aN => ((zt.f fI aN).bind fun bP => (if (((zn aN a1).f0) == ((zn t157 a1).f0) && (((zn aN a1).f1) == ((zn t157 a1).f1))) = true then (none) else (some (t164, t167, bP.1, bP.2, 0))))) = some (r1, r2, r3, r4, r5) := H; have hQ := J gD; clear gD; obtain ⟨aN, cV⟩ : ∃ y_ : List (S90), y_ = (aQ.set (a1 : Int).toNat (⟨(zn aQ a1).f0, wrap64 (((zn aQ a1).f1) + 1)⟩ : S90)) := ⟨_, rfl⟩
       replace H : ((zt.f fI aN).bind fun bP => (if (((zn aN a1).f0) == ((zn t157 a1).f0) && (((zn aN a1).f1) == ((zn t157 a1).f1))) = true then (none) else (some (t164, t167, bP.1, bP.2, 0)))) = some (r1, r2, r3, r4, r5) := by first | (rw [cV]; with_reducible exact H) | (have fK := (Option.bind_some _ _).symm.trans H; rw [cV]; with_reducible exact fK) | (have fK := (Option.bind_some _ _).symm.trans H; with_reducible exact fK) | with_reducible exact H | (rw [cV]; exact H) | exact H
       have eZ := J cV; clear cV; replace H := Option.bind_eq_some_iff.mp H; obtain ⟨⟨t173, t176⟩, gE, H⟩ := H; replace H : (if (((zn aN a1).f0) == ((zn t157 a1).f0) && (((zn aN a1).f1) == ((zn t157 a1).f1))) = true then (none) else (some (t164, t167, t173, t176, 0))) = some (r1, r2, r3, r4, r5) := H; have A32 := J gE; clear gE
       by_cases fP : (((zn aN a1).f0) == ((zn t157 a1).f0) && (((zn aN a1).f1) == ((zn t157 a1).f1))) = true
       ·rw [if_pos fP] at H; exact absurd H (by simp)
       ·rw [if_neg fP] at H; have gV : (((zn aN a1).f0) == ((zn t157 a1).f0) && (((zn aN a1).f1) == ((zn t157 a1).f1))) = false := by simpa using fP
        (try (have c33b1 : decide (((zn aN a1).f0) = ((zn t157 a1).f0) && (((zn aN a1).f1) == ((zn t157 a1).f1))) = false := by simpa using fP))
        (try (have c33b2 : (((zn aN a1).f0) == ((zn t157 a1).f0) && (((zn aN a1).f1) == ((zn t157 a1).f1))) = false := by simpa using fP))
        (try (have c33b3 : ¬ (((zn aN a1).f0) = ((zn t157 a1).f0) && (((zn aN a1).f1) == ((zn t157 a1).f1))) := by simpa using fP))
        clear fP; simp only [Option.some.injEq, Prod.mk.injEq] at H; obtain ⟨rfl, rfl, rfl, rfl, rfl⟩ := H; obtain ⟨Ao34, cG, iA⟩ := Kd.zJ aE.o; subst iA; have fX : 0 ≤ (a1 : Int) := od_; have gA : a1 < (t157.length : Int) := od_; obtain ⟨gO, hW, eK, eM⟩ := at_T90 (Kd.zK aE.o).2.2 a1 fX gA; cases hW; replace fX := eq_true fX; replace gA := eq_true gA
        try go_wp2_with (first | ((with_reducible refine zf (N := 9) rfl ?_); refine zah 9 (cs := #[.int .i64 0, .int .i64 0]) (t := 90) ?_; intro aK hg w35 hbox hb; replace aE := J (Kd.zF (Kd.R_elderB (pk_ aE.o) aK (Nat.le_of_eq hg.symm)) hb); have aG := J (hbox); have gI := J ((by rw [hg]; exact (zh bw_) : w.heap.size ≤ aK)); replace HB := J (za bw_ hb); have GE162 := gI; have cH := J ((by rw [hg]; exact Nat.ne_of_lt (fl_ aB.o) : bJ ≠ aK)); replace aB := J (fr_ aB.o hb); have dB := J cH.o.symm; have bQ := J ((by rw [hg]; exact Nat.ne_of_lt (fl_ aA.o) : aH ≠ aK)); replace aA := J (fr_ aA.o hb); have cA := J bQ.o.symm; have bT := J ((by rw [hg]; exact Nat.ne_of_lt (fl_ aC.o) : aI ≠ aK)); replace aC := J (fr_ aC.o hb); have cB := J bT.o.symm; clear hb hbox hg; have hnb36 := dB.o; have hnc36 := cH.o; have hnb37 := cA.o; have hnc37 := bQ.o; have hnb38 := cB.o; have hnc38 := bT.o; have hcz39_0 := cz_ aG.o 0 rfl; have hcz39_1 := cz_ aG.o 1 rfl; have hfz39_0 := zb aG.o 0; have hfz39_1 := zb aG.o 1) | ((with_reducible refine zj (t := 90) (p := 9) rfl ?_); refine store_ 90 9 (((w35.setCell ⟨aK, 0, none⟩ (.int .i64 ((zn t157 a1).f0))).setCell ⟨aK, 1, none⟩ (.int .i64 ((zn t157 a1).f1)))) ?_; intro dH hw; replace aE : ze (Kd.R k90 90 dH w.heap.size (fun k_ => k_ ≠ aK) (.slice (some gO) t157.length cG) t157) := ⟨(by rw [hw]; exact (by (with_reducible repeat (first | apply Kd.R_alloc | apply Kd.zH | apply Kd.zI)); exact Kd.zB (Kd.zT (p := ⟨aK, 1, none⟩) (Kd.zT (p := ⟨aK, 0, none⟩) (Kd.zB aE.o (fun k_ hk => (⟨hk, hk.2⟩ : _ ∧ k_ ≠ aK))) (fun _ hk => hk.2) (.int .i64 ((zn t157 a1).f0))) (fun _ hk => hk.2) (.int .i64 ((zn t157 a1).f1))) (fun _ hk => hk.1.2)))⟩; replace aB : ze (dH.heap[bJ]? = some (.cells #[.slice cC aX.length cE, .slice cD bK.length cF] 24 (0, 0))) := ⟨(by rw [hw]; exact (hp_ aB.o))⟩; replace aA : ze (dH.heap[aH]? = some (.cells #[.slice none 0 0, .slice none 0 0] 24 (0, 0))) := ⟨(by rw [hw]; exact (hp_ aA.o))⟩; replace aC : ze (dH.heap[aI]? = some (.cells #[.slice none 0 0, .slice none 0 0] 24 (0, 0))) := ⟨(by rw [hw]; exact (hp_ aC.o))⟩; replace aG : ze (dH.heap[aK]? = some (.cells #[.int .i64 ((zn t157 a1).f0), .int .i64 ((zn t157 a1).f1)] 90 (0, 0))) := ⟨(by rw [hw]; exact (hp_ aG.o))⟩; replace HB : ze (Below w.heap.size w dH) := ⟨(by rw [hw]; exact bw_)⟩; clear hw; have hcz41_0 := cz_ aG.o 0 rfl; have hcz41_1 := cz_ aG.o 1 rfl; have hfz41_0 := zb aG.o 0; have hfz41_1 := zb aG.o 1; have iG : 0 ≤ (a1 : Int) := od_; have iI : (a1 : Int) < ((t157.length : Int) : Int) := od_; obtain ⟨bE, co29, gY, gZ, iF, cl29, gL⟩ := Kd.R_form aE.o yO_; (first | cases gY | (injection gY with ea_ en_ ec_; (first | subst ea_ | (injection ea_ with ea_; subst ea_)); subst ec_; clear en_)); have fJ := J gZ; have GG29 := J gL; clear gZ iF gL; (first | simp only [add_plain] at eK | skip); (first | simp only [add_plain] at eM | skip); obtain ⟨ce29, hI, hD, dR, dV⟩ := Kd.R_elem aE.o z90 (a1 : Int) iG iI; obtain rfl := k90_openM hD; have hx29_0 : dH.cell? ⟨bE, (a1 : Int).toNat * 2, none⟩ = some (.int .i64 ((zn t157 a1).f0)) := dR 0 _ rfl; have hx29_1 : dH.cell? ⟨bE, (a1 : Int).toNat * 2 + 1, none⟩ = some (.int .i64 ((zn t157 a1).f1)) := dR 1 _ rfl; have hf29_0 : dH.frozen? ⟨bE, (a1 : Int).toNat * 2, none⟩ = false := dV 0; have hf29_1 : dH.frozen? ⟨bE, (a1 : Int).toNat * 2 + 1, none⟩ = false := dV 1; clear hI dR dV hD; replace iG := eq_true iG; replace iI := eq_true iI; have gM := J (show Kd.R k90 90 dH w.heap.size (fun k_ => k_ ≠ aK) (.slice (some ⟨bE, 0, none⟩) t157.length cG) t157 from (pk_ aE.o)); obtain ⟨ce42, fD, hG, cZ, dX⟩ := Kd.R_elem gM.o z90 (a1 : Int) (od_) (by have h_ : (a1 : Int) < ((t157.length : Int) : Int) := od_; first | exact h_ | (have e_ := (Kd.zK aE.o).1; omega) | simpa using h_); obtain rfl := k90_openM hG; have fL := Kd.R_seg gM.o (a1 : Int) (od_) (by have h_ : (a1 : Int) < ((t157.length : Int) : Int) := od_; first | exact h_ | (have e_ := (Kd.zK aE.o).1; omega) | simpa using h_) (seg := [.int .i64 (wrap64 (((zn t157 a1).f0) + 1)), .int .i64 (wrap64 (2 * ((zn t157 a1).f1)))]) (j := 0) fD cZ (show 2 ≤ 2 from by decide) (x' := (⟨wrap64 (((zn t157 a1).f0) + 1), wrap64 (2 * ((zn t157 a1).f1))⟩ : S90)) (k90_mkM _ _ _ (⟨wrap64 (((zn t157 a1).f0) + 1), wrap64 (2 * ((zn t157 a1).f1))⟩ : S90) ) (fun _ hk => hk); have fU := cZ 0 _ rfl; (try simp only [show (k90).sz = 2 from rfl, Nat.mul_one, Nat.add_zero] at fU); have fQ := dX 0; (try simp only [show (k90).sz = 2 from rfl, Nat.mul_one, Nat.add_zero] at fQ); have fV := cZ 1 _ rfl; (try simp only [show (k90).sz = 2 from rfl, Nat.mul_one, Nat.add_zero] at fV); have fR := dX 1; (try simp only [show (k90).sz = 2 from rfl, Nat.mul_one, Nat.add_zero] at fR); clear fD cZ dX hG) | ((with_reducible refine zj (t := 90) (p := 53) rfl ?_); refine store_ 90 53 (((dH.setCell ⟨bE, (a1 : Int).toNat * 2, none⟩ (.int .i64 (wrap64 (((zn t157 a1).f0) + 1)))).setCell ⟨bE, (a1 : Int).toNat * 2 + 1, none⟩ (.int .i64 (wrap64 (2 * ((zn t157 a1).f1)))))) ?_; intro iL hw; have hg : dH.grownBy iL (some bE) := (by rw [hw]; exact fL.2); have hp_ : Kd.R k90 90 iL w.heap.size (fun k_ => k_ ≠ aK) (.slice (some ⟨bE, 0, none⟩) t157.length cG) aQ := (by rw [hw, dQ.o]; exact fL.1); clear fL; replace aB := J (gr_ aB.o aE.o hg); replace aA := J (gr_ aA.o aE.o hg); replace aC := J (gr_ aC.o aE.o hg); replace aG := J (za8 (g := aK) (o := .cells #[.int .i64 ((zn t157 a1).f0), .int .i64 ((zn t157 a1).f1)] 90 (0, 0)) (pe_ aG.o) hg (Kd.R_away aE.o (fun _ hk => hk))); replace aE := J (hp_); replace HB := J ((by rw [hw]; exact zN (zN (HB.o) fJ.o) fJ.o : Below w.heap.size w iL)); clear hg hw hp_) | ((with_reducible refine zM (f := 37) rfl ?_); refine goesL_ (some 55) rfl rfl Try.func37 yK_ rfl #[.slice (some ⟨bE, 0, none⟩) aQ.length cG] rfl (by (try simp only [List.map_toArray, List.map_cons, List.map_nil]); first | done | (rw [show aQ.length = t157.length from (Kd.zK aE.o).1.symm] <;> rfl) | rfl | (simp only [List.length_drop, List.length_take]; rfl)) ?_; (with_reducible refine (zt.calls fI _ _ aQ t164 t167 _ ?bY ?bZ hQ.o).mono ?_); (case bY => repeat (first | exact (Kd.zK aE.o).2.2 | (with_reducible refine Kd.C_alloc ?_ _) | (with_reducible refine Kd.C_drewN ?_ _) | (with_reducible refine Kd.C_drew ?_))); (case bZ => rw [show aQ.length = t157.length from (Kd.zK aE.o).1.symm]; exact (Kd.zK aE.o).2.1); rintro e w44 ⟨v165, v168, rfl, dY, fT, hb⟩; refine ⟨_, rfl, ?_⟩; replace aE := J (Kd.zF (pk_ aE.o) hb); have aL := J (Kd.z9 dY (zh bw_)); have aM := J (Kd.z9 fT (zh bw_)); replace aB := J (fr_ aB.o hb); replace aA := J (fr_ aA.o hb); replace aC := J (fr_ aC.o hb); replace aG := J (fr_ aG.o hb); replace HB := J (za bw_ hb); (try clear hb dY fT)) | ((with_reducible refine zf (N := 10) rfl ?_); refine zah 10 (cs := #[.slice none 0 0, .slice none 0 0]) (t := 24) ?_; intro aY hg w45 hbox hb; replace aE := J (Kd.zF (pk_ aE.o) hb); replace aL := J (Kd.zF (pk_ aL.o) hb); replace aM := J (Kd.zF (pk_ aM.o) hb); have aJ := J (hbox); have gJ := J ((by rw [hg]; exact (zh bw_) : w.heap.size ≤ aY)); replace HB := J (za bw_ hb); have GE170 := gJ; have cI := J ((by rw [hg]; exact Nat.ne_of_lt (fl_ aB.o) : bJ ≠ aY)); replace aB := J (fr_ aB.o hb); have dC := J cI.o.symm; have bR := J ((by rw [hg]; exact Nat.ne_of_lt (fl_ aA.o) : aH ≠ aY)); replace aA := J (fr_ aA.o hb); have bA := J bR.o.symm; have bU := J ((by rw [hg]; exact Nat.ne_of_lt (fl_ aC.o) : aI ≠ aY)); replace aC := J (fr_ aC.o hb); have bB := J bU.o.symm; have cK := J ((by rw [hg]; exact Nat.ne_of_lt (fl_ aG.o) : aK ≠ aY)); replace aG := J (fr_ aG.o hb); have dD := J cK.o.symm; clear hb hbox hg; obtain ⟨bL, bN, iB⟩ := Kd.zJ aL.o; subst iB; have hnb47 := dC.o; have hnc47 := cI.o; have hnb48 := bA.o; have hnc48 := bR.o; have hnb49 := bB.o; have hnc49 := bU.o; have hnb50 := dD.o; have hnc50 := cK.o; have hcz51_0 := cz_ aJ.o 0 rfl; have hcz51_1 := cz_ aJ.o 1 rfl; have hfz51_0 := zb aJ.o 0; have hfz51_1 := zb aJ.o 1; obtain ⟨bM, bO, iC⟩ := Kd.zJ aM.o; subst iC) | ((with_reducible refine zj (t := 24) (p := 10) rfl ?_); refine store_ 24 10 (((w45.setCell ⟨aY, 0, none⟩ (.slice bL t164.length bN)).setCell ⟨aY, 1, none⟩ (.slice bM t167.length bO))) ?_; intro cY hw; replace aE : ze (Kd.R k90 90 cY w.heap.size (fun k_ => k_ ≠ aK) (.slice (some ⟨bE, 0, none⟩) t157.length cG) aQ) := ⟨(by rw [hw]; exact (by (with_reducible repeat (first | apply Kd.R_alloc | apply Kd.zH | apply Kd.zI)); exact Kd.zB (Kd.zT (p := ⟨aY, 1, none⟩) (Kd.zT (p := ⟨aY, 0, none⟩) (Kd.zV aE.o aJ.o yD_) (fun _ hk => hk.2) (.slice bL t164.length bN)) (fun _ hk => hk.2) (.slice bM t167.length bO)) (fun _ hk => hk.1)))⟩; replace aL : ze (Kd.R (Kd.int .i64) 3 cY w.heap.size (fun k_ => some k_ ≠ (.slice bM t167.length bO : Value).ownBlock) (.slice bL t164.length bN) t164) := ⟨(by rw [hw]; exact (by (with_reducible repeat (first | apply Kd.R_alloc | apply Kd.zH | apply Kd.zI)); exact Kd.zB (Kd.zT (p := ⟨aY, 1, none⟩) (Kd.zT (p := ⟨aY, 0, none⟩) (Kd.zV aL.o aJ.o yD_) (fun _ hk => hk.2) (.slice bL t164.length bN)) (fun _ hk => hk.2) (.slice bM t167.length bO)) (fun _ hk => hk.1)))⟩; replace aM : ze (Kd.R (Kd.int .i64) 3 cY w.heap.size (fun k_ => some k_ ≠ (.slice bL t164.length bN : Value).ownBlock) (.slice bM t167.length bO) t167) := ⟨(by rw [hw]; exact (by (with_reducible repeat (first | apply Kd.R_alloc | apply Kd.zH | apply Kd.zI)); exact Kd.zB (Kd.zT (p := ⟨aY, 1, none⟩) (Kd.zT (p := ⟨aY, 0, none⟩) (Kd.zV aM.o aJ.o yD_) (fun _ hk => hk.2) (.slice bL t164.length bN)) (fun _ hk => hk.2) (.slice bM t167.length bO)) (fun _ hk => hk.1)))⟩; replace aB : ze (cY.heap[bJ]? = some (.cells #[.slice cC aX.length cE, .slice cD bK.length cF] 24 (0, 0))) := ⟨(by rw [hw]; exact (hp_ aB.o))⟩; replace aA : ze (cY.heap[aH]? = some (.cells #[.slice none 0 0, .slice none 0 0] 24 (0, 0))) := ⟨(by rw [hw]; exact (hp_ aA.o))⟩; replace aC : ze (cY.heap[aI]? = some (.cells #[.slice none 0 0, .slice none 0 0] 24 (0, 0))) := ⟨(by rw [hw]; exact (hp_ aC.o))⟩; replace aG : ze (cY.heap[aK]? = some (.cells #[.int .i64 ((zn t157 a1).f0), .int .i64 ((zn t157 a1).f1)] 90 (0, 0))) := ⟨(by rw [hw]; exact (hp_ aG.o))⟩; replace aJ : ze (cY.heap[aY]? = some (.cells #[.slice bL t164.length bN, .slice bM t167.length bO] 24 (0, 0))) := ⟨(by rw [hw]; exact (hp_ aJ.o))⟩; replace HB : ze (Below w.heap.size w cY) := ⟨(by rw [hw]; exact bw_)⟩; clear hw; have fY : 0 ≤ (a1 : Int) := od_; have gB : a1 < (aQ.length : Int) := (by have h_ : (a1 : Int) < ((t157.length : Int) : Int) := od_; first | (have e_ := (Kd.zK aE.o).1; omega) | simpa only [dQ.o, List.length_set] using h_); have ql171 : ((a1 : Int) < ((t157.length : Int) : Int)) = True := eq_true (od_); obtain ⟨gP, hX, cO, cP⟩ := at_T90 (Kd.zK aE.o).2.2 a1 fY gB; obtain rfl : (⟨bE, 0, none⟩ : Addr) = gP := (by injection hX); (first | simp only [add_plain] at cO | simp only [add_at] at cO | simp only [Addr.add, Nat.zero_add] at cO | skip); (first | simp only [add_plain] at cP | simp only [add_at] at cP | simp only [Addr.add, Nat.zero_add] at cP | skip); replace fY := eq_true fY; replace gB := eq_true gB; have iH : 0 ≤ (a1 : Int) := od_; have iJ : (a1 : Int) < ((t157.length : Int) : Int) := od_; obtain ⟨ce31, hJ, hF, dS, dW⟩ := Kd.R_elem aE.o z90 (a1 : Int) iH iJ; obtain rfl := k90_openM hF; have hx31_0 : cY.cell? ⟨bE, (a1 : Int).toNat * 2, none⟩ = some (.int .i64 ((zn aQ a1).f0)) := dS 0 _ rfl; have hx31_1 : cY.cell? ⟨bE, (a1 : Int).toNat * 2 + 1, none⟩ = some (.int .i64 ((zn aQ a1).f1)) := dS 1 _ rfl; have hf31_0 : cY.frozen? ⟨bE, (a1 : Int).toNat * 2, none⟩ = false := dW 0; have hf31_1 : cY.frozen? ⟨bE, (a1 : Int).toNat * 2 + 1, none⟩ = false := dW 1; clear hJ dS dW hF; replace iH := eq_true iH; replace iJ := eq_true iJ; have gN := J (show Kd.R k90 90 cY w.heap.size (fun k_ => k_ ≠ aK) (.slice (some ⟨bE, 0, none⟩) t157.length cG) aQ from (pk_ aE.o)); obtain ⟨ce54, fE, hH, dT, fF⟩ := Kd.R_elem gN.o z90 (a1 : Int) (od_) (by have h_ : (a1 : Int) < ((t157.length : Int) : Int) := od_; first | exact h_ | (have e_ := (Kd.zK aE.o).1; omega) | simpa using h_); obtain rfl := k90_openM hH; have fM := Kd.R_seg gN.o (a1 : Int) (od_) (by have h_ : (a1 : Int) < ((t157.length : Int) : Int) := od_; first | exact h_ | (have e_ := (Kd.zK aE.o).1; omega) | simpa using h_) (seg := [.int .i64 (wrap64 (((zn aQ a1).f1) + 1))]) (j := 1) fE dT (show 2 ≤ 2 from by decide) (x' := (⟨(zn aQ a1).f0, wrap64 (((zn aQ a1).f1) + 1)⟩ : S90)) (k90_mkM _ _ _ (⟨(zn aQ a1).f0, wrap64 (((zn aQ a1).f1) + 1)⟩ : S90) ) (fun _ hk => hk); have fW := dT 1 _ rfl; (try simp only [show (k90).sz = 2 from rfl, Nat.mul_one, Nat.add_zero] at fW); have fS := fF 1; (try simp only [show (k90).sz = 2 from rfl, Nat.mul_one, Nat.add_zero] at fS); clear fE dT fF hH) | ((with_reducible refine zj (t := 3) (p := 63) rfl ?_); refine store_ 3 63 ((cY.setCell ⟨bE, (a1 : Int).toNat * 2 + 1, none⟩ (.int .i64 (wrap64 (((zn aQ a1).f1) + 1))))) ?_; intro iM hw; have hg : cY.grownBy iM (some bE) := (by rw [hw]; exact fM.2); have hp_ : Kd.R k90 90 iM w.heap.size (fun k_ => k_ ≠ aK) (.slice (some ⟨bE, 0, none⟩) t157.length cG) aN := (by rw [hw, eZ.o]; exact fM.1); clear fM; replace aB := J (gr_ aB.o aE.o hg); replace aA := J (gr_ aA.o aE.o hg); replace aC := J (gr_ aC.o aE.o hg); replace aG := J (za8 (g := aK) (o := .cells #[.int .i64 ((zn t157 a1).f0), .int .i64 ((zn t157 a1).f1)] 90 (0, 0)) (pe_ aG.o) hg (Kd.R_away aE.o (fun _ hk => hk))); replace aL := J (Kd.R_over' (v := (.slice (some ⟨bE, 0, none⟩) t157.length cG)) (pk_ aL.o) (Kd.R_typed aE.o) yD_ hg); replace aM := J (Kd.R_over' (v := (.slice (some ⟨bE, 0, none⟩) t157.length cG)) (pk_ aM.o) (Kd.R_typed aE.o) yD_ hg); replace aJ := J (gr_ aJ.o aE.o hg); replace aE := J (hp_); replace HB := J ((by rw [hw]; exact zN (HB.o) fJ.o : Below w.heap.size w iM)); clear hg hw hp_) | ((with_reducible refine zM (f := 37) rfl ?_); refine goesL_ (some 65) rfl rfl Try.func37 yK_ rfl #[.slice (some ⟨bE, 0, none⟩) aN.length cG] rfl (by (try simp only [List.map_toArray, List.map_cons, List.map_nil]); first | done | (rw [show aN.length = t157.length from (Kd.zK aE.o).1.symm] <;> rfl) | rfl | (simp only [List.length_drop, List.length_take]; rfl)) ?_; (with_reducible refine (zt.calls fI _ _ aN t173 t176 _ ?bY ?bZ A32.o).mono ?_); (case bY => repeat (first | exact (Kd.zK aE.o).2.2 | (with_reducible refine Kd.C_alloc ?_ _) | (with_reducible refine Kd.C_drewN ?_ _) | (with_reducible refine Kd.C_drew ?_))); (case bZ => rw [show aN.length = t157.length from (Kd.zK aE.o).1.symm]; exact (Kd.zK aE.o).2.1); rintro e w56 ⟨v174, v177, rfl, dY, fT, hb⟩; refine ⟨_, rfl, ?_⟩; replace aE := J (Kd.zF (pk_ aE.o) hb); have bH := J (Kd.z9 (Kd.R_new' (Kd.R_new' dY (Kd.R_lt (pk_ aL.o))) (Kd.R_lt (pk_ aM.o))) (zh bw_)); have bI := J (Kd.z9 (Kd.R_new' (Kd.R_new' fT (Kd.R_lt (pk_ aL.o))) (Kd.R_lt (pk_ aM.o))) (zh bw_)); replace aL := J (Kd.zB (Kd.R_told (Kd.R_told (Kd.R_old (pk_ aL.o) hb) (Kd.R_base dY)) (Kd.R_base fT)) (fun _ h_ => h_.1)); replace aM := J (Kd.zB (Kd.R_told (Kd.R_told (Kd.R_old (pk_ aM.o) hb) (Kd.R_base dY)) (Kd.R_base fT)) (fun _ h_ => h_.1)); replace aB := J (fr_ aB.o hb); replace aA := J (fr_ aA.o hb); replace aC := J (fr_ aC.o hb); replace aG := J (fr_ aG.o hb); replace aJ := J (fr_ aJ.o hb); replace HB := J (za bw_ hb); (try clear hb dY fT)) | ((with_reducible refine zf (N := 11) rfl ?_); refine zah 11 (cs := #[.slice none 0 0, .slice none 0 0]) (t := 24) ?_; intro aD hg dI hbox hb; replace aE := J (Kd.zF (pk_ aE.o) hb); replace aL := J (Kd.zF (pk_ aL.o) hb); replace aM := J (Kd.zF (pk_ aM.o) hb); replace bH := J (Kd.zF (pk_ bH.o) hb); replace bI := J (Kd.zF (pk_ bI.o) hb); have aP := J (hbox); have gK := J ((by rw [hg]; exact (zh bw_) : w.heap.size ≤ aD)); replace HB := J (za bw_ hb); have GE179 := gK; have cJ := J ((by rw [hg]; exact Nat.ne_of_lt (fl_ aB.o) : bJ ≠ aD)); replace aB := J (fr_ aB.o hb); have dE := J cJ.o.symm; have bS := J ((by rw [hg]; exact Nat.ne_of_lt (fl_ aA.o) : aH ≠ aD)); replace aA := J (fr_ aA.o hb); have bC := J bS.o.symm; have bV := J ((by rw [hg]; exact Nat.ne_of_lt (fl_ aC.o) : aI ≠ aD)); replace aC := J (fr_ aC.o hb); have bD := J bV.o.symm; have cL := J ((by rw [hg]; exact Nat.ne_of_lt (fl_ aG.o) : aK ≠ aD)); replace aG := J (fr_ aG.o hb); have dF := J cL.o.symm; have cM := J ((by rw [hg]; exact Nat.ne_of_lt (fl_ aJ.o) : aY ≠ aD)); replace aJ := J (fr_ aJ.o hb); have dG := J cM.o.symm; clear hb hbox hg; obtain ⟨aT, aV, iD⟩ := Kd.zJ bH.o; subst iD; have hnb59 := dE.o; have hnc59 := cJ.o; have hnb60 := bC.o; have hnc60 := bS.o; have hnb61 := bD.o; have hnc61 := bV.o; have hnb62 := dF.o; have hnc62 := cL.o; have hnb63 := dG.o; have hnc63 := cM.o; have hcz64_0 := cz_ aP.o 0 rfl; have hcz64_1 := cz_ aP.o 1 rfl; have hfz64_0 := zb aP.o 0; have hfz64_1 := zb aP.o 1; obtain ⟨aU, aW, iE⟩ := Kd.zJ bI.o; subst iE))
        have eN : ze (Kd.R k90 90 ((dI.setCell ⟨aD, 0, none⟩ (.slice aT t173.length aV)).setCell ⟨aD, 1, none⟩ (.slice aU t176.length aW)) w.heap.size (fun k_ => k_ ≠ aK) (.slice (some ⟨bE, 0, none⟩) t157.length cG) aN) := ⟨by (with_reducible repeat (first | apply Kd.R_alloc | apply Kd.zH | apply Kd.zI)); exact Kd.zB (Kd.zT (p := ⟨aD, 1, none⟩) (Kd.zT (p := ⟨aD, 0, none⟩) (Kd.zV aE.o aP.o yD_) (fun _ hk => hk.2) (.slice aT t173.length aV)) (fun _ hk => hk.2) (.slice aU t176.length aW)) (fun _ hk => hk.1)⟩
        have eO : ze (Kd.R (Kd.int .i64) 3 ((dI.setCell ⟨aD, 0, none⟩ (.slice aT t173.length aV)).setCell ⟨aD, 1, none⟩ (.slice aU t176.length aW)) w.heap.size (fun k_ => some k_ ≠ (.slice bM t167.length bO : Value).ownBlock ∧ some k_ ≠ (.slice aT t173.length aV : Value).ownBlock ∧ some k_ ≠ (.slice aU t176.length aW : Value).ownBlock) (.slice bL t164.length bN) t164) := ⟨by (with_reducible repeat (first | apply Kd.R_alloc | apply Kd.zH | apply Kd.zI)); exact Kd.zB (Kd.zT (p := ⟨aD, 1, none⟩) (Kd.zT (p := ⟨aD, 0, none⟩) (Kd.zV aL.o aP.o yD_) (fun _ hk => hk.2) (.slice aT t173.length aV)) (fun _ hk => hk.2) (.slice aU t176.length aW)) (fun _ hk => ⟨hk.1.1.1, ⟨hk.1.1.2, hk.1.2⟩⟩)⟩
        have eP : ze (Kd.R (Kd.int .i64) 3 ((dI.setCell ⟨aD, 0, none⟩ (.slice aT t173.length aV)).setCell ⟨aD, 1, none⟩ (.slice aU t176.length aW)) w.heap.size (fun k_ => some k_ ≠ (.slice bL t164.length bN : Value).ownBlock ∧ some k_ ≠ (.slice aT t173.length aV : Value).ownBlock ∧ some k_ ≠ (.slice aU t176.length aW : Value).ownBlock) (.slice bM t167.length bO) t167) := ⟨by (with_reducible repeat (first | apply Kd.R_alloc | apply Kd.zH | apply Kd.zI)); exact Kd.zB (Kd.zT (p := ⟨aD, 1, none⟩) (Kd.zT (p := ⟨aD, 0, none⟩) (Kd.zV aM.o aP.o yD_) (fun _ hk => hk.2) (.slice aT t173.length aV)) (fun _ hk => hk.2) (.slice aU t176.length aW)) (fun _ hk => ⟨hk.1.1.1, ⟨hk.1.1.2, hk.1.2⟩⟩)⟩
        have eQ : ze (Kd.R (Kd.int .i64) 3 ((dI.setCell ⟨aD, 0, none⟩ (.slice aT t173.length aV)).setCell ⟨aD, 1, none⟩ (.slice aU t176.length aW)) w.heap.size (fun k_ => some k_ ≠ (.slice bL t164.length bN : Value).ownBlock ∧ some k_ ≠ (.slice bM t167.length bO : Value).ownBlock ∧ some k_ ≠ (.slice aU t176.length aW : Value).ownBlock) (.slice aT t173.length aV) t173) := ⟨by (with_reducible repeat (first | apply Kd.R_alloc | apply Kd.zH | apply Kd.zI)); exact Kd.zB (Kd.zT (p := ⟨aD, 1, none⟩) (Kd.zT (p := ⟨aD, 0, none⟩) (Kd.zV bH.o aP.o yD_) (fun _ hk => hk.2) (.slice aT t173.length aV)) (fun _ hk => hk.2) (.slice aU t176.length aW)) (fun _ hk => ⟨hk.1.1.2, ⟨hk.1.2, hk.1.1.1⟩⟩)⟩
        have eR : ze (Kd.R (Kd.int .i64) 3 ((dI.setCell ⟨aD, 0, none⟩ (.slice aT t173.length aV)).setCell ⟨aD, 1, none⟩ (.slice aU t176.length aW)) w.heap.size (fun k_ => some k_ ≠ (.slice bL t164.length bN : Value).ownBlock ∧ some k_ ≠ (.slice bM t167.length bO : Value).ownBlock ∧ some k_ ≠ (.slice aT t173.length aV : Value).ownBlock) (.slice aU t176.length aW) t176) := ⟨by (with_reducible repeat (first | apply Kd.R_alloc | apply Kd.zH | apply Kd.zI)); exact Kd.zB (Kd.zT (p := ⟨aD, 1, none⟩) (Kd.zT (p := ⟨aD, 0, none⟩) (Kd.zV bI.o aP.o yD_) (fun _ hk => hk.2) (.slice aT t173.length aV)) (fun _ hk => hk.2) (.slice aU t176.length aW)) (fun _ hk => ⟨hk.1.1.2, ⟨hk.1.2, hk.1.1.1⟩⟩)⟩
        have eS : ze (((dI.setCell ⟨aD, 0, none⟩ (.slice aT t173.length aV)).setCell ⟨aD, 1, none⟩ (.slice aU t176.length aW)).heap[bJ]? = some (.cells #[.slice cC aX.length cE, .slice cD bK.length cF] 24 (0, 0))) := ⟨hp_ aB.o⟩
        have eT : ze (((dI.setCell ⟨aD, 0, none⟩ (.slice aT t173.length aV)).setCell ⟨aD, 1, none⟩ (.slice aU t176.length aW)).heap[aH]? = some (.cells #[.slice none 0 0, .slice none 0 0] 24 (0, 0))) := ⟨hp_ aA.o⟩
        have eU : ze (((dI.setCell ⟨aD, 0, none⟩ (.slice aT t173.length aV)).setCell ⟨aD, 1, none⟩ (.slice aU t176.length aW)).heap[aI]? = some (.cells #[.slice none 0 0, .slice none 0 0] 24 (0, 0))) := ⟨hp_ aC.o⟩
        have eV : ze (((dI.setCell ⟨aD, 0, none⟩ (.slice aT t173.length aV)).setCell ⟨aD, 1, none⟩ (.slice aU t176.length aW)).heap[aK]? = some (.cells #[.int .i64 ((zn t157 a1).f0), .int .i64 ((zn t157 a1).f1)] 90 (0, 0))) := ⟨hp_ aG.o⟩
        have eW : ze (((dI.setCell ⟨aD, 0, none⟩ (.slice aT t173.length aV)).setCell ⟨aD, 1, none⟩ (.slice aU t176.length aW)).heap[aY]? = some (.cells #[.slice bL t164.length bN, .slice bM t167.length bO] 24 (0, 0))) := ⟨hp_ aJ.o⟩
        have cQ : ze (((dI.setCell ⟨aD, 0, none⟩ (.slice aT t173.length aV)).setCell ⟨aD, 1, none⟩ (.slice aU t176.length aW)).heap[aD]? = some (.cells #[.slice aT t173.length aV, .slice aU t176.length aW] 24 (0, 0))) := ⟨hp_ aP.o⟩
        have cR : ze (Below w.heap.size w ((dI.setCell ⟨aD, 0, none⟩ (.slice aT t173.length aV)).setCell ⟨aD, 1, none⟩ (.slice aU t176.length aW))) := ⟨bw_⟩
        (try clear aE)
        (try clear aL)
        (try clear aM)
        (try clear bH)
        (try clear bI)
        (try clear aB)
        (try clear aA)
        (try clear aC)
        (try clear aG)
        (try clear aJ)
        (try clear aP)
        (try clear HB)
        generalize ((dI.setCell ⟨aD, 0, none⟩ (.slice aT t173.length aV)).setCell ⟨aD, 1, none⟩ (.slice aU t176.length aW)) = w66 at eN eO eP eQ eR eS eT eU eV eW cQ cR ⊢; have aE := eN; have aL := eO; have aM := eP; have bH := eQ; have bI := eR; have aB := eS; have aA := eT; have aC := eU; have aG := eV; have aJ := eW; have aP := cQ; have HB := cR; clear eN eO eP eQ eR eS eT eU eV eW cQ cR; have eN := J (Kd.zI aE.o); have eO := J (Kd.zI aL.o); have eP := J (Kd.zI aM.o); have eQ := J (Kd.zI bH.o); have eR := J (Kd.zI bI.o); have eS := J (zA aB.o); have eT := J (zA aA.o); have eU := J (zA aC.o); have eV := J (zA aG.o); have eW := J (zA aJ.o); have cQ := J (zA aP.o); have cR := J (zax HB.o); clear aE; clear aL; clear aM; clear bH; clear bI; clear aB; clear aA; clear aC; clear aG; clear aJ; clear aP; clear HB; have aE := eN; have aL := eO; have aM := eP; have bH := eQ; have bI := eR; have aB := eS; have aA := eT; have aC := eU; have aG := eV; have aJ := eW; have aP := cQ; have HB := cR; clear eN eO eP eQ eR eS eT eU eV eW cQ cR; have fZ : 0 ≤ (a1 : Int) := od_; have gC : a1 < (aN.length : Int) := (by have h_ : (a1 : Int) < ((t157.length : Int) : Int) := od_; first | (have e_ := (Kd.zK aE.o).1; omega) | simpa only [dQ.o, eZ.o, List.length_set] using h_)
        have ql180 : ((a1 : Int) < ((t157.length : Int) : Int)) = True := eq_true (od_); obtain ⟨gQ, hY, bW, bX⟩ := at_T90 (Kd.zK aE.o).2.2 a1 fZ gC; obtain rfl : (⟨bE, 0, none⟩ : Addr) = gQ := (by injection hY)
        (first | simp only [add_plain] at bW | simp only [add_at] at bW | simp only [Addr.add, Nat.zero_add] at bW | skip)
        (first | simp only [add_plain] at bX | simp only [add_at] at bX | simp only [Addr.add, Nat.zero_add] at bX | skip)
        replace fZ := eq_true fZ; replace gC := eq_true gC; refine zaw (n := 6) (S := fun w' => w'.cell? ⟨aK, 0, none⟩ = some (.int .i64 ((zn t157 a1).f0)) ∧ w'.cell? ⟨aK, 1, none⟩ = some (.int .i64 ((zn t157 a1).f1)) ∧ w'.cell? ⟨bE, (a1).toNat * 2, none⟩ = some (.int .i64 ((zn aN a1).f0)) ∧ w'.cell? ⟨bE, (a1).toNat * 2 + 1, none⟩ = some (.int .i64 ((zn aN a1).f1))) (ds := []) (bl_ 6 0) yK_ rfl rfl ⟨(zg aG.o 0).trans rfl, (zg aG.o 1).trans rfl, bW, bX⟩ (fun hHeld => ?_); generalize w66.drew = w67 at aE aL aM bH bI aB aA aC aG aJ aP HB bW bX hHeld ⊢; refine pure_ (i := 0) (N := some 66) (v := ?_) (a' := ?_) (bl_ 6 1) rfl rfl yK_ (fun _ _ _ h => h) (Or.inl ⟨by rfl, ?_⟩) ?_ ?_; rotate_left
        ·intro w'; go_simp
         with_reducible rfl
        rotate_left
        ·simp only [Act.put, sI_, s0_, s1_, zat, zaM]; rfl
        refine pure_ (i := 1) (N := some 67) (v := ?_) (a' := ?_) (bl_ 6 3) rfl rfl yK_ (fun _ _ _ h => h) (Or.inl ⟨by rfl, ?_⟩) ?_ ?_; rotate_left
        ·intro w'; go_simp
         with_reducible rfl
        rotate_left
        ·simp only [Act.put, sI_, s0_, s1_, zat, zaM]; rfl
        refine pure_ (i := 2) (N := some 68) (v := ?_) (a' := ?_) (bl_ 6 7) rfl rfl yK_ (fun _ _ _ h => h) (Or.inl ⟨by rfl, ?_⟩) ?_ ?_; rotate_left
        ·intro w'; go_simp
         with_reducible rfl
        rotate_left
        ·simp only [Act.put, sI_, s0_, s1_, zat, zaM]; rfl
        refine take_ (i := 3) (N := some 69) (v := ?_) (a' := ?_) (bl_ 6 15) rfl rfl yK_ (fun _ _ _ h => h) (Or.inl ⟨by rfl, ?_⟩) hHeld ?_ ?_; rotate_left
        ·rintro w' ⟨s0, s1, s2, s3⟩; go_simp
         with_reducible rfl
        rotate_left
        ·simp only [Act.put, sI_, s0_, s1_, zat, zaM]; rfl
        refine take_ (i := 4) (N := some 70) (v := ?_) (a' := ?_) (bl_ 6 31) rfl rfl yK_ (fun _ _ _ h => h) (Or.inl ⟨by rfl, ?_⟩) hHeld ?_ ?_; rotate_left
        ·rintro w' ⟨s0, s1, s2, s3⟩; go_simp
         with_reducible rfl
        rotate_left
        ·simp only [Act.put, sI_, s0_, s1_, zat, zaM]; rfl
        refine pure_ (i := 5) (N := some 71) (v := ?_) (a' := ?_) (bl_ 6 63) rfl rfl yK_ (fun _ _ _ h => h) (Or.inl ⟨by rfl, ?_⟩) ?_ ?_; rotate_left
        ·intro w'; go_simp; rw [zX.ite2 gV]
        rotate_left
        ·simp only [Act.put, sI_, s0_, s1_, zat, zaM]; rfl
        refine zaL yK_ ?_
        try go_wp2
        have eN := J (Kd.zI aE.o); have eO := J (Kd.zI aL.o); have eP := J (Kd.zI aM.o); have eQ := J (Kd.zI bH.o); have eR := J (Kd.zI bI.o); have eS := J (zA aB.o); have eT := J (zA aA.o); have eU := J (zA aC.o); have eV := J (zA aG.o); have eW := J (zA aJ.o); have cQ := J (zA aP.o); have cR := J (zax HB.o); clear aE; clear aL; clear aM; clear bH; clear bI; clear aB; clear aA; clear aC; clear aG; clear aJ; clear aP; clear HB; have aE := eN; have aL := eO; have aM := eP; have bH := eQ; have bI := eR; have aB := eS; have aA := eT; have aC := eU; have aG := eV; have aJ := eW; have aP := cQ; have HB := cR; clear eN eO eP eQ eR eS eT eU eV eW cQ cR; refine zaw (n := 5) (S := fun w' => w'.cell? ⟨aY, 0, none⟩ = some (.slice bL t164.length bN) ∧ w'.cell? ⟨aY, 1, none⟩ = some (.slice bM t167.length bO) ∧ w'.cell? ⟨aD, 0, none⟩ = some (.slice aT t173.length aV) ∧ w'.cell? ⟨aD, 1, none⟩ = some (.slice aU t176.length aW)) (ds := []) (bl_ 5 0) yK_ rfl rfl ⟨(zg aJ.o 0).trans rfl, (zg aJ.o 1).trans rfl, (zg aP.o 0).trans rfl, (zg aP.o 1).trans rfl⟩ (fun hHeld => ?_); generalize w67.drew = w68 at aE aL aM bH bI aB aA aC aG aJ aP HB hHeld ⊢; refine take_ (i := 0) (N := some 74) (v := ?_) (a' := ?_) (bl_ 5 1) rfl rfl yK_ (fun _ _ _ h => h) (Or.inl ⟨by rfl, ?_⟩) hHeld ?_ ?_; rotate_left
        ·rintro w' ⟨s0, s1, s2, s3⟩; go_simp
         with_reducible rfl
        rotate_left
        ·simp only [Act.put, sI_, s0_, s1_, zat, zaM]; rfl
        refine take_ (i := 1) (N := some 75) (v := ?_) (a' := ?_) (bl_ 5 3) rfl rfl yK_ (fun _ _ _ h => h) (Or.inl ⟨by rfl, ?_⟩) hHeld ?_ ?_; rotate_left
        ·rintro w' ⟨s0, s1, s2, s3⟩; go_simp
         with_reducible rfl
        rotate_left
        ·simp only [Act.put, sI_, s0_, s1_, zat, zaM]; rfl
        refine one_ (i := 2) (N := none) (bl_ 5 7) rfl rfl yK_ yD_ (fun K hK => ?_); have hs69 := cz_ aA.o 0 rfl; have hfs69 := zb aA.o 0; have hns69_0 := aR.o; have hns69_2 := aZ.o; have hns69_3 := cA.o; have hns69_4 := bA.o; have hns69_5 := bC.o; have hms69_0 := bF.o; have hms69_2 := aO.o; have hms69_3 := bQ.o; have hms69_4 := bR.o; have hms69_5 := bS.o; have hs70 := cz_ aA.o 1 rfl; have hfs70 := zb aA.o 1; have hns70_0 := aR.o; have hns70_2 := aZ.o; have hns70_3 := cA.o; have hns70_4 := bA.o; have hns70_5 := bC.o; have hms70_0 := bF.o; have hms70_2 := aO.o; have hms70_3 := bQ.o; have hms70_4 := bR.o; have hms70_5 := bS.o; refine skip_ (w1 := ?_) (by rfl) rfl ?_ ?_; rotate_left
        ·go_simp; rfl
        refine hK.out _ _ ⟨((cell_far (p := ⟨aH, _, none⟩) bA.o _).trans (((cell_far (p := ⟨aH, _, none⟩) bA.o _).trans (hHeld.1)))), ((cell_far (p := ⟨aH, _, none⟩) bA.o _).trans (((cell_far (p := ⟨aH, _, none⟩) bA.o _).trans (hHeld.2.1)))), ((cell_far (p := ⟨aH, _, none⟩) bC.o _).trans (((cell_far (p := ⟨aH, _, none⟩) bC.o _).trans (hHeld.2.2.1)))), ((cell_far (p := ⟨aH, _, none⟩) bC.o _).trans (((cell_far (p := ⟨aH, _, none⟩) bC.o _).trans (hHeld.2.2.2))))⟩ (fun hHeld => ?_); clear hK K; refine one_ (i := 3) (N := none) (bl_ 5 15) rfl rfl yK_ yD_ (fun K hK => ?_); have hs71 := cz_ aC.o 0 rfl; have hfs71 := zb aC.o 0; have hns71_0 := aS.o; have hns71_1 := aO.o; have hns71_3 := cB.o; have hns71_4 := bB.o; have hns71_5 := bD.o; have hms71_0 := bG.o; have hms71_1 := aZ.o; have hms71_3 := bT.o; have hms71_4 := bU.o; have hms71_5 := bV.o; have hs72 := cz_ aC.o 1 rfl; have hfs72 := zb aC.o 1; have hns72_0 := aS.o; have hns72_1 := aO.o; have hns72_3 := cB.o; have hns72_4 := bB.o; have hns72_5 := bD.o; have hms72_0 := bG.o; have hms72_1 := aZ.o; have hms72_3 := bT.o; have hms72_4 := bU.o; have hms72_5 := bV.o; refine skip_ (w1 := ?_) (by rfl) rfl ?_ ?_; rotate_left
        ·go_simp; rfl
        refine hK.out _ _ ⟨((cell_far (p := ⟨aI, _, none⟩) bB.o _).trans (((cell_far (p := ⟨aI, _, none⟩) bB.o _).trans (hHeld.1)))), ((cell_far (p := ⟨aI, _, none⟩) bB.o _).trans (((cell_far (p := ⟨aI, _, none⟩) bB.o _).trans (hHeld.2.1)))), ((cell_far (p := ⟨aI, _, none⟩) bD.o _).trans (((cell_far (p := ⟨aI, _, none⟩) bD.o _).trans (hHeld.2.2.1)))), ((cell_far (p := ⟨aI, _, none⟩) bD.o _).trans (((cell_far (p := ⟨aI, _, none⟩) bD.o _).trans (hHeld.2.2.2))))⟩ (fun hHeld => ?_); clear hK K; refine pure_ (i := 4) (N := some 6) (v := ?_) (a' := ?_) (bl_ 5 31) rfl rfl yK_ (fun _ _ _ h => h) (Or.inl ⟨by rfl, ?_⟩) ?_ ?_; rotate_left
        ·intro w'; go_simp
         with_reducible rfl
        rotate_left
        ·simp only [Act.put, sI_, s0_, s1_, zat, zaM]; rfl
        refine zaL yK_ ?_
        try go_wp2
        refine bodyPost_ret (zbb (rs := [.cell 4 24, .cell 5 24, .tmp 6]) rfl (by simp) (.cell aH 24 #[.slice bL t164.length bN, .slice bM t167.length bO] (0, 0) _ rfl (hp_ aA.o) Try.underlying24 rfl yK_ (.cell aI 24 #[.slice aT t173.length aV, .slice aU t176.length aW] (0, 0) _ rfl (hp_ aC.o) Try.underlying24 rfl yK_ (.tmp .nil)))) rfl ?_
        exact ⟨_, _, _, _, er_, by (with_reducible repeat (first | apply Kd.R_alloc | apply Kd.zH | apply Kd.zI)); exact Kd.zB (Kd.zT (p := ⟨aI, 1, none⟩) (Kd.zT (p := ⟨aI, 0, none⟩) (Kd.zT (p := ⟨aH, 1, none⟩) (Kd.zT (p := ⟨aH, 0, none⟩) (Kd.zV (Kd.zV aL.o aA.o yD_) aC.o yD_) (fun _ hk => hk.1.2) (.slice bL t164.length bN)) (fun _ hk => hk.1.2) (.slice bM t167.length bO)) (fun _ hk => hk.2) (.slice aT t173.length aV)) (fun _ hk => hk.2) (.slice aU t176.length aW)) (fun _ hk => ⟨hk.1.1.1, ⟨hk.1.1.2.1, hk.1.1.2.2⟩⟩), by (with_reducible repeat (first | apply Kd.R_alloc | apply Kd.zH | apply Kd.zI)); exact Kd.zB (Kd.zT (p := ⟨aI, 1, none⟩) (Kd.zT (p := ⟨aI, 0, none⟩) (Kd.zT (p := ⟨aH, 1, none⟩) (Kd.zT (p := ⟨aH, 0, none⟩) (Kd.zV (Kd.zV aM.o aA.o yD_) aC.o yD_) (fun _ hk => hk.1.2) (.slice bL t164.length bN)) (fun _ hk => hk.1.2) (.slice bM t167.length bO)) (fun _ hk => hk.2) (.slice aT t173.length aV)) (fun _ hk => hk.2) (.slice aU t176.length aW)) (fun _ hk => ⟨hk.1.1.1, ⟨hk.1.1.2.1, hk.1.1.2.2⟩⟩), by (with_reducible repeat (first | apply Kd.R_alloc | apply Kd.zH | apply Kd.zI)); exact Kd.zB (Kd.zT (p := ⟨aI, 1, none⟩) (Kd.zT (p := ⟨aI, 0, none⟩) (Kd.zT (p := ⟨aH, 1, none⟩) (Kd.zT (p := ⟨aH, 0, none⟩) (Kd.zV (Kd.zV bH.o aA.o yD_) aC.o yD_) (fun _ hk => hk.1.2) (.slice bL t164.length bN)) (fun _ hk => hk.1.2) (.slice bM t167.length bO)) (fun _ hk => hk.2) (.slice aT t173.length aV)) (fun _ hk => hk.2) (.slice aU t176.length aW)) (fun _ hk => ⟨hk.1.1.1, ⟨hk.1.1.2.1, hk.1.1.2.2⟩⟩), by (with_reducible repeat (first | apply Kd.R_alloc | apply Kd.zH | apply Kd.zI)); exact Kd.zB (Kd.zT (p := ⟨aI, 1, none⟩) (Kd.zT (p := ⟨aI, 0, none⟩) (Kd.zT (p := ⟨aH, 1, none⟩) (Kd.zT (p := ⟨aH, 0, none⟩) (Kd.zV (Kd.zV bI.o aA.o yD_) aC.o yD_) (fun _ hk => hk.1.2) (.slice bL t164.length bN)) (fun _ hk => hk.1.2) (.slice bM t167.length bO)) (fun _ hk => hk.2) (.slice aT t173.length aV)) (fun _ hk => hk.2) (.slice aU t176.length aW)) (fun _ hk => ⟨hk.1.1.1, ⟨hk.1.1.2.1, hk.1.1.2.2⟩⟩), bw_⟩
      ·rw [if_neg hT] at H; exact absurd H (by simp)
     ·rw [if_neg hS] at H; exact absurd H (by simp)
 ·rw [if_neg c4] at H; have gW : (t156 == 0) = false := beq_eq_false_iff_ne.mpr c4; have gX : (t156 != 0) = true := bne_iff_ne.mpr c4; simp only [Option.some.injEq, Prod.mk.injEq] at H; obtain ⟨rfl, rfl, rfl, rfl, rfl⟩ := H; go_enter Try.func15, Try.ntmps15
  go_wp2_with (first | ((with_reducible refine zf (N := 2) rfl ?_); refine zah 2 (cs := #[.slice cC aX.length cE, .slice cD bK.length cF]) (t := 24) ?_; intro bJ hg w73 hbox hb; have aB := J (hbox); have dJ := J ((by rw [hg]; exact (zh bw_) : w.heap.size ≤ bJ)); replace HB := J (za bw_ hb); have gF := dJ; clear hb hbox hg) | ((with_reducible refine zf (N := 4) rfl ?_); refine zah 4 (cs := #[.slice none 0 0, .slice none 0 0]) (t := 24) ?_; intro aH hg w74 hbox hb; have aA := J (hbox); have dK := J ((by rw [hg]; exact (zh bw_) : w.heap.size ≤ aH)); replace HB := J (za bw_ hb); have gG := dK; have aR := J ((by rw [hg]; exact Nat.ne_of_lt (fl_ aB.o) : bJ ≠ aH)); replace aB := J (fr_ aB.o hb); have bF := J aR.o.symm; clear hb hbox hg) | ((with_reducible refine zf (N := 5) rfl ?_); refine zah 5 (cs := #[.slice none 0 0, .slice none 0 0]) (t := 24) ?_; intro aI hg w75 hbox hb; have aC := J (hbox); have dL := J ((by rw [hg]; exact (zh bw_) : w.heap.size ≤ aI)); replace HB := J (za bw_ hb); have gH := dL; have aS := J ((by rw [hg]; exact Nat.ne_of_lt (fl_ aB.o) : bJ ≠ aI)); replace aB := J (fr_ aB.o hb); have bG := J aS.o.symm; have aO := J ((by rw [hg]; exact Nat.ne_of_lt (fl_ aA.o) : aH ≠ aI)); replace aA := J (fr_ aA.o hb); have aZ := J aO.o.symm; clear hb hbox hg; have hnb76 := aR.o; have hnc76 := bF.o; have hnb77 := aS.o; have hnc77 := bG.o; have hcz78_0 := cz_ aB.o 0 rfl; have hcz78_1 := cz_ aB.o 1 rfl; have hfz78_0 := zb aB.o 0; have hfz78_1 := zb aB.o 1) | ((with_reducible refine zM (f := 17) rfl ?_); refine gl_ 17 Try.func17 #[.agg #[.slice cC aX.length cE, .slice cD bK.length cF], .int .i64 (aX.length : Int)] ?_; (with_reducible refine (zz.calls k _ _ aX _ _ bK (aX.length : Int) t156 _ ?bY ?bZ ?cW ?cX A3.o).mono ?_); (case bY => exact sc_ (Kd.zm dO.o HB.o)); (case bZ => exact dM.o); (case cW => exact sc_ (Kd.zm dP.o HB.o)); (case cX => exact dN.o); rintro e w79 ⟨rfl, hb⟩; refine ⟨_, rfl, ?_⟩; replace aB := J (fr_ aB.o hb); replace aA := J (fr_ aA.o hb); replace aC := J (fr_ aC.o hb); replace HB := J (za bw_ hb); (try clear hb); have hnb80 := aO.o; have hnc80 := aZ.o; have hcz81_0 := cz_ aA.o 0 rfl; have hcz81_1 := cz_ aA.o 1 rfl; have hfz81_0 := zb aA.o 0; have hfz81_1 := zb aA.o 1; have hcz82_0 := cz_ aC.o 0 rfl; have hcz82_1 := cz_ aC.o 1 rfl; have hfz82_0 := zb aC.o 0; have hfz82_1 := zb aC.o 1))
  refine bodyPost_ret (zbb (rs := [.cell 4 24, .cell 5 24, .tmp 6]) rfl (by simp) (.cell aH 24 #[.slice none 0 0, .slice none 0 0] (0, 0) _ rfl (hp_ aA.o) Try.underlying24 rfl yK_ (.cell aI 24 #[.slice none 0 0, .slice none 0 0] (0, 0) _ rfl (hp_ aC.o) Try.underlying24 rfl yK_ (.tmp .nil)))) rfl ?_; exact ⟨_, _, _, _, er_, by first | exact Kd.zaI _ _ _ _ _ | exact Kd.N_nil _ _ _ _ _ | exact Kd.V_nil _ _ _ _ _ | exact Kd.Q_nil _ _ _ _ _ | exact Kd.zaP _ _ _ _ _, by first | exact Kd.zaI _ _ _ _ _ | exact Kd.N_nil _ _ _ _ _ | exact Kd.V_nil _ _ _ _ _ | exact Kd.Q_nil _ _ _ _ _ | exact Kd.zaP _ _ _ _ _, by first | exact Kd.zaI _ _ _ _ _ | exact Kd.N_nil _ _ _ _ _ | exact Kd.V_nil _ _ _ _ _ | exact Kd.Q_nil _ _ _ _ _ | exact Kd.zaP _ _ _ _ _, by first | exact Kd.zaI _ _ _ _ _ | exact Kd.N_nil _ _ _ _ _ | exact Kd.V_nil _ _ _ _ _ | exact Kd.Q_nil _ _ _ _ _ | exact Kd.zaP _ _ _ _ _, bw_⟩
end Go.Proofs.Ytlidbaejhmamjaa.PB
namespace Go.Proofs.Ytlidbaejhmamjaa.PB
open Go.RowKit YtlidbaejhmamjaaW.PrintWords YtlidbaejhmamjaaW.PrintLast YtlidbaejhmamjaaW.PrintMore
attribute [local go_sem] zao zaq zaB zaC zae zaf zap zar   -- for this text's walks alone
def zaJ.l0 : Nat → Int → List Int → Int → Int → Option (Int × Int)
 | 0, _, _, _, _ => none
 | k + 1, x4, aB, x15, aA => if aA < x15 then (if 0 ≤ aA then (if aA < (aB.length : Int) then (zaJ.l0 k (wrap64 (x4 + (rd aB aA))) aB x15 (wrap64 (aA + 1))) else (none)) else (none)) else (some (x4, 0))
def zaJ.f (k : Nat) (aA : List Int) (aB : List Int) : Option (Int × Int) := (zz.f k aA aB (aA.length : Int)).bind fun t182 => (if t182 = 0 then (zaJ.l0 k 0 aA (aA.length : Int) 0) else (some (0, 180)))
theorem zaJ.calls (k : Nat) (aE : Option Addr) (aH : Nat) (aB : List Int) (aG : Option Addr) (aI : Nat) (aD : List Int) (r1 : Int) (r2 : Int) (w : World) (aX : Kd.C (Kd.int .i64) w aE aB.length aB) (aV : aB.length ≤ aH) (aY : Kd.C (Kd.int .i64) w aG aD.length aD) (aW : aD.length ≤ aI) (h : zaJ.f k aB aD = some (r1, r2)) :
  Calls Try.prog 19 #[.agg #[.slice aE aB.length aH, .slice aG aD.length aI]] w fun e w' => e = .returned (.tuple #[.int .i64 r1, .int .i64 r2]) ∧ Below w.heap.size w w' := by
 have hu24 := Try.underlying24; have aM := J aX; have aS := J aV; clear aX aV; have aU := J aY; have aT := J aW; clear aY aW; have HB := J (Below.refl w.heap.size w); have H : ((zz.f k aB aD (aB.length : Int)).bind fun t182 => (if t182 = 0 then (zaJ.l0 k 0 aB (aB.length : Int) 0) else (some (0, 180)))) = some (r1, r2) := h; clear h; replace H := Option.bind_eq_some_iff.mp H; obtain ⟨t182, A20, H⟩ := H; replace H : (if t182 = 0 then (zaJ.l0 k 0 aB (aB.length : Int) 0) else (some (0, 180))) = some (r1, r2) := H; have A2 := J A20; clear A20
 by_cases c3 : t182 = 0
 ·rw [if_pos c3] at H; have bK : (t182 == 0) = true := beq_iff_eq.mpr c3; have bL : (t182 != 0) = false := bne_eq_false_iff_eq.mpr c3; clear c3; have H' := J H; clear H; go_enter Try.func19, Try.ntmps19; go_wp2_with (first | ((with_reducible refine zf (N := 1) rfl ?_); refine zah 1 (cs := #[.slice aE aB.length aH, .slice aG aD.length aI]) (t := 24) ?_; intro aJ hg w4 hbox hb; have aA := J (hbox); have aL := J ((by rw [hg]; exact (zh bw_) : w.heap.size ≤ aJ)); replace HB := J (za bw_ hb); have bJ := aL; clear hb hbox hg; have aZ := cz_ aA.o 0 rfl; have bA := cz_ aA.o 1 rfl; have bD := zb aA.o 0; have bE := zb aA.o 1) | ((with_reducible refine zM (f := 17) rfl ?_); refine gl_ 11 Try.func17 #[.agg #[.slice aE aB.length aH, .slice aG aD.length aI], .int .i64 (aB.length : Int)] ?_; (with_reducible refine (zz.calls k _ _ aB _ _ aD (aB.length : Int) t182 _ ?aN ?aO ?aP ?aQ A2.o).mono ?_); (case aN => exact sc_ (Kd.zm aM.o HB.o)); (case aO => exact aS.o); (case aP => exact sc_ (Kd.zm aU.o HB.o)); (case aQ => exact aT.o); rintro e w6 ⟨rfl, hb⟩; refine ⟨_, rfl, ?_⟩; replace aA := J (fr_ aA.o hb); replace HB := J (za bw_ hb); (try clear hb); have bB := cz_ aA.o 0 rfl; have bC := cz_ aA.o 1 rfl; have bF := zb aA.o 0; have bG := zb aA.o 1))
  go_loopg [4, 16] k (fun kq v4 v16 w' => ∃ (aR : Int) (aC : Int), v4 = .int .i64 aR ∧ v16 = .int .i64 aC ∧ ze (zaJ.l0 kq aR aB (aB.length : Int) aC = some (r1, r2)) ∧ ze (kq ≤ k) ∧ ze (w'.heap[aJ]? = some (.cells #[(.slice aE aB.length aH), (.slice aG aD.length aI)] 24 (0, 0))) ∧ ze (Below w.heap.size w w'))
  case atStart => exact ⟨(0), (0), rs_, rs_, H', ⟨Nat.le_refl _⟩, ⟨pe_ aA.o⟩, ⟨bw_⟩⟩
  case round =>
   clear H'
   try clear c1
   try clear p2
   try clear c3
   try clear bK
   try clear bL
   try clear aZ
   try clear bA
   try clear bB
   try clear bC
   try clear bD
   try clear bE
   try clear bF
   try clear bG
   obtain ⟨aR, aC, rfl, rfl, HA, HK1, aA, HB⟩ := hrel
   cases gk with
   | zero => exact absurd HA.o (by simp [zaJ.l0])
   | succ k1 =>
    have H := HA.o; clear HA; simp only [zaJ.l0] at H
    by_cases c8 : aC < (aB.length : Int)
    ·rw [if_pos c8] at H; have bN := decide_eq_true c8; clear c8
     by_cases c9 : 0 ≤ aC
     ·rw [if_pos c9] at H; have c9b0 := decide_eq_true c9; clear c9
      by_cases bM : aC < (aB.length : Int)
      ·rw [if_pos bM] at H; have c10b0 := decide_eq_true bM; clear bM; have H' := J H; clear H; have bH : 0 ≤ (aC : Int) := od_; have bI : aC < (aB.length : Int) := od_; obtain ⟨ad183, bO, aK⟩ := Kd.zQ aM.o aC bH bI; cases bO; replace aK := bx_ HB.o aK; replace bH := eq_true bH; replace bI := eq_true bI; go_wp2; go_roundg k1
       case measure => have := HK1.o; omega
       case rel => exact ⟨(wrap64 (aR + (rd aB aC))), (wrap64 (aC + 1)), rs_, rs_, H', ⟨by have := HK1.o; omega⟩, ⟨pe_ aA.o⟩, ⟨bw_⟩⟩
      ·rw [if_neg bM] at H; exact absurd H (by simp)
     ·rw [if_neg c9] at H; exact absurd H (by simp)
    ·rw [if_neg c8] at H; have bN := decide_eq_false c8; clear c8; simp only [Option.some.injEq, Prod.mk.injEq] at H; obtain ⟨rfl, rfl⟩ := H; go_wp2; go_ret2; exact ⟨er_, bw_⟩
 ·rw [if_neg c3] at H; have bK : (t182 == 0) = false := beq_eq_false_iff_ne.mpr c3; have bL : (t182 != 0) = true := bne_iff_ne.mpr c3; simp only [Option.some.injEq, Prod.mk.injEq] at H; obtain ⟨rfl, rfl⟩ := H; go_enter Try.func19, Try.ntmps19; go_wp2_with (first | ((with_reducible refine zf (N := 1) rfl ?_); refine zah 1 (cs := #[.slice aE aB.length aH, .slice aG aD.length aI]) (t := 24) ?_; intro aJ hg w11 hbox hb; have aA := J (hbox); have aL := J ((by rw [hg]; exact (zh bw_) : w.heap.size ≤ aJ)); replace HB := J (za bw_ hb); have bJ := aL; clear hb hbox hg; have hcz12_0 := cz_ aA.o 0 rfl; have hcz12_1 := cz_ aA.o 1 rfl; have hfz12_0 := zb aA.o 0; have hfz12_1 := zb aA.o 1) | ((with_reducible refine zM (f := 17) rfl ?_); refine gl_ 11 Try.func17 #[.agg #[.slice aE aB.length aH, .slice aG aD.length aI], .int .i64 (aB.length : Int)] ?_; (with_reducible refine (zz.calls k _ _ aB _ _ aD (aB.length : Int) t182 _ ?aN ?aO ?aP ?aQ A2.o).mono ?_); (case aN => exact sc_ (Kd.zm aM.o HB.o)); (case aO => exact aS.o); (case aP => exact sc_ (Kd.zm aU.o HB.o)); (case aQ => exact aT.o); rintro e w13 ⟨rfl, hb⟩; refine ⟨_, rfl, ?_⟩; replace aA := J (fr_ aA.o hb); replace HB := J (za bw_ hb); (try clear hb))); go_ret2; exact ⟨er_, bw_⟩
end Go.Proofs.Ytlidbaejhmamjaa.PB
