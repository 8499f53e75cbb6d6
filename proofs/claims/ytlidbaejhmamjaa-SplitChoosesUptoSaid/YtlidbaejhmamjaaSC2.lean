/- Part 2 of the proof of SplitChoosesUpto: what the functions below it compute, each shown by a walk or by plain reasoning; no condition of its own. -/
import Derived.Test.YtlidbaejhmamjaaSC1
import Derived.Outline
import Derived.Deep.MidRow
import Derived.ChangeKeysEq
import Derived.WalkLawsBesides
set_option linter.unusedVariables false
set_option linter.unusedSimpArgs false
namespace Go.Proofs.Ytlidbaejhmamjaa.AC
/-- n without its lowest i words. -/
def qd (n : Int) (i : Nat) : Int := n / 2 ^ (64 * i)
/-- Word i of n, in two's complement. -/
def wd (n : Int) (i : Nat) : Int := qd n i % 18446744073709551616
def wds (n : Int) : List Int := (List.range 76).map (wd n)
theorem wd_lo (n : Int) (i : Nat) : 0 ≤ wd n i := Int.emod_nonneg _ (by decide)
theorem wd_hi (n : Int) (i : Nat) : wd n i < 18446744073709551616 := Int.emod_lt_of_pos _ (by decide)
theorem zai (n : Int) : (wds n).length = 76 := by simp [wds]
theorem wds_get (n : Int) (i : Nat) (h : i < 76) : (wds n)[i]? = some (wd n i) := by
 simp [wds, h]
theorem zab (k : Nat) : (0 : Int) < 2 ^ k := Int.pow_pos (by decide)
theorem qd_zero (n : Int) : qd n 0 = n := by simp [qd]
theorem qd_succ (n : Int) (i : Nat) : qd n (i + 1) = qd n i / 18446744073709551616 := by
 unfold qd
 rw [Int.ediv_ediv_of_nonneg (Int.le_of_lt (zab _)), Nat.mul_add, Nat.mul_one, Int.pow_add]
 rfl
theorem qd_nat (i : Nat) : qd 0 i = 0 := by simp [qd]
theorem wd_zero (i : Nat) : wd 0 i = 0 := by simp [wd, qd_nat]
/-- The carry into word i of X + Y; the borrow into word i of X - Y. -/
def cya (X Y : Int) (i : Nat) : Int := qd (X + Y) i - qd X i - qd Y i
def cys (X Y : Int) (i : Nat) : Int := qd X i - qd Y i - qd (X - Y) i
theorem cya_zero (X Y : Int) : cya X Y 0 = 0 := by simp only [cya, qd_zero]; omega
theorem cys_zero (X Y : Int) : cys X Y 0 = 0 := by simp only [cys, qd_zero]; omega
theorem cya_step (X Y : Int) (i : Nat) (h : cya X Y i = 0 ∨ cya X Y i = 1) :
  (cya X Y (i + 1) = (wd X i + wd Y i + cya X Y i) / 18446744073709551616) ∧ wd (X + Y) i = (wd X i + wd Y i + cya X Y i) % 18446744073709551616 ∧ (cya X Y (i + 1) = 0 ∨ cya X Y (i + 1) = 1) := by
 unfold cya wd at *
 simp only [qd_succ]
 omega
theorem cys_step (X Y : Int) (i : Nat) (h : cys X Y i = 0 ∨ cys X Y i = 1) :
  (cys X Y (i + 1) = if wd X i < wd Y i + cys X Y i then 1 else 0) ∧ wd (X - Y) i = (wd X i + 18446744073709551616 - wd Y i - cys X Y i) % 18446744073709551616 ∧ (cys X Y (i + 1) = 0 ∨ cys X Y (i + 1) = 1) := by
 unfold cys wd at *
 simp only [qd_succ]
 refine ⟨?_, by omega, by omega⟩
 split <;> omega
theorem cya_01 (X Y : Int) : ∀ i, cya X Y i = 0 ∨ cya X Y i = 1
 | 0 => .inl (cya_zero X Y)
 | i + 1 => (cya_step X Y i (cya_01 X Y i)).2.2
theorem cys_01 (X Y : Int) : ∀ i, cys X Y i = 0 ∨ cys X Y i = 1
 | 0 => .inl (cys_zero X Y)
 | i + 1 => (cys_step X Y i (cys_01 X Y i)).2.2
/-- A number of words i0, i0 + 1, .. alone leaves the words below as they are, and brings no carry. -/
theorem qd_mul (D : Int) (i j : Nat) (h : j ≤ i) : qd (D * 2 ^ (64 * i)) j = D * 2 ^ (64 * (i - j)) := by
 unfold qd
 have e : 64 * i = 64 * (i - j) + 64 * j := by omega
 rw [e, Int.pow_add, ← Int.mul_assoc, Int.mul_ediv_cancel _ (by have := zab (64 * j); omega)]
theorem qd_add_mul (X D : Int) (i j : Nat) (h : j ≤ i) : qd (X + D * 2 ^ (64 * i)) j = qd X j + D * 2 ^ (64 * (i - j)) := by
 unfold qd
 have e : 64 * i = 64 * (i - j) + 64 * j := by omega
 rw [e, Int.pow_add, ← Int.mul_assoc, Int.add_mul_ediv_right _ _ (by have := zab (64 * j); omega)]
theorem pow_word (k : Nat) (h : 0 < k) : (2 : Int) ^ (64 * k) = 18446744073709551616 * 2 ^ (64 * (k - 1)) := by
 have e : 64 * k = 64 + 64 * (k - 1) := by omega
 rw [e, Int.pow_add]; rfl
theorem wd_add_below (X D : Int) (i j : Nat) (h : j < i) : wd (X + D * 2 ^ (64 * i)) j = wd X j := by
 unfold wd
 rw [qd_add_mul _ _ _ _ (by omega), pow_word (i - j) (by omega), ← Int.mul_assoc, Int.mul_comm D, Int.mul_assoc, Int.add_mul_emod_self_left]
theorem wd_sub_below (X D : Int) (i j : Nat) (h : j < i) : wd (X - D * 2 ^ (64 * i)) j = wd X j := by
 rw [Int.sub_eq_add_neg, ← Int.neg_mul]; exact wd_add_below X (-D) i j h
theorem cya_at (X D : Int) (i : Nat) : cya X (D * 2 ^ (64 * i)) i = 0 := by
 unfold cya
 rw [qd_add_mul _ _ _ _ (Nat.le_refl _), qd_mul _ _ _ (Nat.le_refl _)]; omega
theorem cys_at (X D : Int) (i : Nat) : cys X (D * 2 ^ (64 * i)) i = 0 := by
 unfold cys
 rw [show X - D * 2 ^ (64 * i) = X + -D * 2 ^ (64 * i) from by rw [Int.neg_mul]; rfl, qd_add_mul _ _ _ _ (Nat.le_refl _), qd_mul _ _ _ (Nat.le_refl _), Int.neg_mul]; omega
/-- Word i + k of D's words laid from word i on. -/
theorem qd_from (D : Int) (i k : Nat) : qd (D * 2 ^ (64 * i)) (i + k) = qd D k := by
 unfold qd
 rw [Nat.mul_add, Int.pow_add, Int.mul_comm (2 ^ (64 * i)), Int.mul_ediv_mul_of_pos_left _ _ (zab _)]
theorem wd_from (D : Int) (i k : Nat) : wd (D * 2 ^ (64 * i)) (i + k) = wd D k := by
 unfold wd; rw [qd_from]
theorem qd_small (D : Int) (k : Nat) (h0 : 0 ≤ D) (h1 : D < 2 ^ (64 * k)) : qd D k = 0 := Int.ediv_eq_zero_of_lt h0 h1
theorem qd_small_after (D : Int) (k j : Nat) (h0 : 0 ≤ D) (h1 : D < 2 ^ (64 * k)) (hj : k ≤ j) : qd D j = 0 := by
 refine qd_small D j h0 (Int.lt_of_lt_of_le h1 ?_)
 have h2 := Nat.pow_le_pow_right (n := 2) (by decide) (show 64 * k ≤ 64 * j by omega)
 exact_mod_cast h2
/-- Three words. -/
theorem words3 (v0 v1 v2 : Int) (a0 : 0 ≤ v0) (b0 : v0 < 18446744073709551616) (a1 : 0 ≤ v1) (b1 : v1 < 18446744073709551616) (a2 : 0 ≤ v2) (b2 : v2 < 18446744073709551616) :
  let D := v0 + v1 * 18446744073709551616 + v2 * 340282366920938463463374607431768211456
  wd D 0 = v0 ∧ wd D 1 = v1 ∧ wd D 2 = v2 ∧ 0 ≤ D ∧ D < 2 ^ (64 * 3) := by
 intro D
 have q0 : qd D 0 = D := qd_zero D
 have q1 : qd D 1 = D / 18446744073709551616 := by rw [qd_succ, q0]
 have q2 : qd D 2 = D / 18446744073709551616 / 18446744073709551616 := by rw [qd_succ, q1]
 have hp : (2 : Int) ^ (64 * 3) = 6277101735386680763835789423207666416102355444464034512896 := by decide
 unfold wd
 rw [q0, q1, q2, hp]
 simp only [D]
 omega
/-- Once no carry is left and nothing more is added, the words stay. -/
theorem qd_add_done (X Y : Int) (i j : Nat) (hY : qd Y i = 0) (hc : cya X Y i = 0) (hj : i ≤ j) : qd (X + Y) j = qd X j := by
 obtain ⟨d, rfl⟩ : ∃ d, j = i + d := ⟨j - i, by omega⟩
 clear hj
 induction d with
 | zero => unfold cya at hc; simp only [Nat.add_zero]; omega
 | succ d ih => rw [show i + (d + 1) = (i + d) + 1 from rfl, qd_succ, ih, qd_succ]
theorem qd_sub_done (X Y : Int) (i j : Nat) (hY : qd Y i = 0) (hc : cys X Y i = 0) (hj : i ≤ j) : qd (X - Y) j = qd X j := by
 obtain ⟨d, rfl⟩ : ∃ d, j = i + d := ⟨j - i, by omega⟩
 clear hj
 induction d with
 | zero => unfold cys at hc; simp only [Nat.add_zero]; omega
 | succ d ih => rw [show i + (d + 1) = (i + d) + 1 from rfl, qd_succ, ih, qd_succ]
/-- The sign of what lies well within 76 words. -/
theorem wd_top (n : Int) (h0 : -2 ^ 4800 ≤ n) (h1 : n < 2 ^ 4800) : wd n 75 = if n < 0 then 18446744073709551615 else 0 := by
 have e : qd n 75 = if n < 0 then -1 else 0 := by
  unfold qd
  have hp : (2 : Int) ^ (64 * 75) = 2 ^ 4800 := rfl
  rw [hp]
  generalize (2 : Int) ^ 4800 = P at *
  split
  ·rename_i hn
   have hP : 0 < P := by omega
   have : n / P = -1 := by
    rw [Int.ediv_eq_iff_of_pos hP]
    omega
   exact this
  ·exact Int.ediv_eq_zero_of_lt (by omega) h1
 unfold wd
 rw [e]
 split <;> rfl
end Go.Proofs.Ytlidbaejhmamjaa.AC
namespace Go.Proofs.Ytlidbaejhmamjaa.AC
open Go.RowKit YtlidbaejhmamjaaW.PrintWords YtlidbaejhmamjaaW.PrintLast YtlidbaejhmamjaaW.PrintMore
/-- The 77 cells of an Acc. -/
def zaJ (ws : List Int) (bad : Bool) : Array Value := (ws.map (Value.int .u64) ++ [Value.bool bad]).toArray
def zbb : Option Int → Array Value
 | none => zaJ (List.replicate 76 0) true
 | some n => zaJ (wds n) false
theorem new_calls (w : World) : Calls Try.prog 42 #[] w fun e w' => ∃ b, e = .returned (.pointer (some ⟨b, 0, none⟩)) ∧ w.heap.size ≤ b ∧ w'.heap[b]? = some (.cells (zbb (some 0)) 124 (0, 0)) ∧ Below w.heap.size w w' := by
 go_enter Try.func42, Try.ntmps42
 go_wp2_with fail
 go_ret
 refine ⟨w.heap.size, rfl, Nat.le_refl _, ?_, zj (Below.refl _ _) _⟩
 refine (heap_alloc_new w _).trans ?_
 kernel_rfl
theorem neg_calls (w : World) (b : Nat) (cs : Array Value) (x : Int) (hb : w.heap[b]? = some (.cells cs 124 (0, 0))) (hx : cs[75]? = some (.int .u64 x)) :
  Calls Try.prog 86 #[.pointer (some ⟨b, 0, none⟩)] w fun e w' => e = .returned (.bool (x / 9223372036854775808 == 1)) ∧ w = w' := by
 have hc : w.cell? ⟨b, 75, none⟩ = some (.int .u64 x) := (za hb 75).trans hx
 clear hb hx
 go_enter Try.func86, Try.ntmps86
 go_wp2
 go_ret
 exact ⟨rfl, rfl⟩
/-- The words of the real without its sign. -/
theorem cellsW_size (ws : List Int) (bad : Bool) : (zaJ ws bad).size = ws.length + 1 := by simp [zaJ]
theorem cellsW_get (ws : List Int) (bad : Bool) (i : Nat) (x : Int) (h : ws[i]? = some x) : (zaJ ws bad)[i]? = some (.int .u64 x) := by
 have hl : i < ws.length := (List.getElem?_eq_some_iff.1 h).1
 rw [List.getElem?_eq_getElem hl] at h
 simp [zaJ, List.getElem?_append_left, hl, Option.some.inj h]
theorem cellsW_bad (ws : List Int) (bad : Bool) (h : ws.length = 76) : (zaJ ws bad)[76]? = some (.bool bad) := by
 simp [zaJ, List.getElem?_append_right, h]
theorem cellsW_range (w : World) (b : Nat) (ws : List Int) (bad : Bool) (h : w.heap[b]? = some (.cells (zaJ ws bad) 124 (0, 0))) : w.rangeAt b 0 (ws.map (Value.int .u64)) := by
 intro j v hv
 rw [Nat.zero_add]
 refine (za h j).trans ?_
 rw [List.getElem?_map] at hv
 cases hw : ws[j]? with
 | none => rw [hw] at hv; cases hv
 | some x => rw [hw] at hv; cases hv; exact cellsW_get ws bad j x hw
theorem info122 : (Try.prog.info? 122).map (·.size) = some 76 := by kernel_rfl
section
variable {P : Program} {ops : Array Oper} {rest : List Oper} {o : Oper} {a : Act} {Q : Exit → Act → World → Prop} {W : World}
theorem grownBy_setRow (W : World) (g : Nat) (cs : Array Value) : W.grownBy (W.setRow g cs) (some g) :=
 ⟨rfl, rfl, rfl, by simp, fun k _ hk => setRow_other W g k cs (fun e => hk (congrArg some e))⟩
theorem zn (hgd : o.guard = none) (ty : TypeId) {p v : Operand} (ho : o.op = .store ty p v) (hN : o.dst = none)
  (g : Nat) (cells : Array Value) (hx : a.eval p = .pointer (some ⟨g, 0, none⟩)) (hy : a.eval v = .agg cells)
  (t : TypeId) (old : Array Value) (hg : W.heap[g]? = some (.cells old t (0, 0))) (hi : (P.info? ty).map (·.size) = some cells.size)
  (hold : old.size = cells.size) (h1 : cells.all (·.oneCell') = true)
  (h : ∀ w', w'.heap[g]? = some (.cells cells t (0, 0)) → W.grownBy w' (some g) → wpList P ops Q rest a w') : wpList P ops Q (o :: rest) a W := by
 refine wpList_store_row hgd ty p v ho g cells hx hy t old hg hi hold h1 ?_
 rw [hN]
 exact h _ (setRow_heap W g old cells t (0, 0) hg) (grownBy_setRow W g cells)
theorem val_event (hgd : o.guard = none) {v : Value} {w1 : World} (hrun : (execOp a.eval o).run P W = .ok (.value v) w1)
  (h : wpList P ops Q rest (a.put o.dst v) w1) : wpList P ops Q (o :: rest) a W := by
 refine wpList_plain hgd fun K hK => ?_
 unfold Oper.wp
 rw [hrun]
 exact hK _ _ h
end
theorem zx {w w' : World} {row : Option Nat} {g : Nat} {o : Obj} (hg : w.grownBy w' row) (h : w.heap[g]? = some o) (hne : some g ≠ row) : w'.heap[g]? = some o := (hg.block g (zaa h) hne).trans h
def subEntry : Array Value → Sem Value := fun args => do
 let (x, y, b) ← Extern.MathBitsCarry.three "Sub64" args
 pure (Extern.MathBitsCarry.pair ((x + Extern.MathBitsCarry.m64 - y - b) % Extern.MathBitsCarry.m64) (if x < y + b then 1 else 0))
theorem run_sub64 (x y b : Nat) (hb : b ≤ 1) (w : World) :
  (subEntry #[.int .u64 x, .int .u64 y, .int .u64 b]).run Try.prog w =
   .ok (.tuple #[.int .u64 (((x + 18446744073709551616 - y - b) % 18446744073709551616 : Nat) : Int), .int .u64 ((if x < y + b then 1 else 0 : Nat) : Int)]) w := by
 have : b = 0 ∨ b = 1 := by omega
 rcases this with rfl | rfl <;> rfl
theorem sub64 (x y b : Int) (hx : 0 ≤ x) (hy : 0 ≤ y) (hy' : y < 18446744073709551616) (hb : b = 0 ∨ b = 1) (w : World) :
  (callFunc 67 #[.int .u64 x, .int .u64 y, .int .u64 b]).run Try.prog w = .ok (.value (.tuple #[.int .u64 ((x + 18446744073709551616 - y - b) % 18446744073709551616), .int .u64 (if x < y + b then 1 else 0)])) w := by
 obtain ⟨x, rfl⟩ := Int.eq_ofNat_of_zero_le hx
 obtain ⟨y, rfl⟩ := Int.eq_ofNat_of_zero_le hy
 obtain ⟨b, rfl⟩ := Int.eq_ofNat_of_zero_le (show 0 ≤ b by omega)
 rw [run_callFunc_extern (fn := Try.f67) Try.func67 (by kernel_rfl) (by kernel_rfl) (by kernel_rfl) (e := subEntry) (by kernel_rfl), run_sub64 x y b (by omega)]
 simp only [Result.andThen]
 have e1 : (((x + 18446744073709551616 - y - b) % 18446744073709551616 : Nat) : Int) = ((x : Int) + 18446744073709551616 - y - b) % 18446744073709551616 := by omega
 have e2 : ((if x < y + b then 1 else 0 : Nat) : Int) = if (x : Int) < y + b then 1 else 0 := by split <;> split <;> omega
 rw [e1, e2]
theorem add64 (x y c : Int) (hx : 0 ≤ x) (hy : 0 ≤ y) (hc : c = 0 ∨ c = 1) (w : World) :
  (callFunc 84 #[.int .u64 x, .int .u64 y, .int .u64 c]).run Try.prog w = .ok (.value (.tuple #[.int .u64 ((x + y + c) % 18446744073709551616), .int .u64 ((x + y + c) / 18446744073709551616)])) w := by
 rw [run_callFunc_extern (fn := Try.f84) Try.func84 (by kernel_rfl) (by kernel_rfl) (by kernel_rfl) (e := add64Entry) (by kernel_rfl), run_add64 x y c hx hy (by omega) (by omega)]
 rfl
/-- One word of a difference; of a sum. -/
theorem sub_word (X Y : Int) (i : Nat) (w : World) : (callFunc 67 #[.int .u64 (wd X i), .int .u64 (wd Y i), .int .u64 (cys X Y i)]).run Try.prog w = .ok (.value (.tuple #[.int .u64 (wd (X - Y) i), .int .u64 (cys X Y (i + 1))])) w := by
 obtain ⟨h1, h2, _⟩ := cys_step X Y i (cys_01 X Y i)
 rw [h1, h2]
 exact sub64 _ _ _ (wd_lo _ _) (wd_lo _ _) (wd_hi _ _) (cys_01 X Y i) w
theorem add_word (X Y : Int) (i : Nat) (w : World) : (callFunc 84 #[.int .u64 (wd X i), .int .u64 (wd Y i), .int .u64 (cya X Y i)]).run Try.prog w = .ok (.value (.tuple #[.int .u64 (wd (X + Y) i), .int .u64 (cya X Y (i + 1))])) w := by
 obtain ⟨h1, h2, _⟩ := cya_step X Y i (cya_01 X Y i)
 rw [h1, h2]
 exact add64 _ _ _ (wd_lo _ _) (wd_lo _ _) (cya_01 X Y i) w
/-- The words of Z below k, of X from k on. -/
def mixw (Z X : Int) (k : Nat) : List Int := (List.range 76).map fun j => if j < k then wd Z j else wd X j
theorem zbf (Z X : Int) (k : Nat) : (mixw Z X k).length = 76 := by simp [mixw]
theorem mixw_zero (Z X : Int) : mixw Z X 0 = wds X := by simp [mixw, wds]
theorem mixw_all (Z X : Int) : mixw Z X 76 = wds Z := by
 unfold mixw wds
 refine List.map_congr_left fun j hj => ?_
 rw [if_pos (List.mem_range.1 hj)]
theorem mixw_get (Z X : Int) (k : Nat) (h : k < 76) : (mixw Z X k)[k]? = some (wd X k) := by simp [mixw, h]
theorem mixw_set (Z X : Int) (k : Nat) (h : k < 76) : (mixw Z X k).set k (wd Z k) = mixw Z X (k + 1) := by
 refine List.ext_getElem? fun j => ?_
 rw [List.getElem?_set]
 by_cases hj : j < 76
 ·by_cases e : k = j
  ·subst e; simp [mixw, h]
  ·rw [if_neg e]
   have : (j < k) = (j < k + 1) := by rw [eq_iff_iff]; omega
   simp [mixw, hj, this]
 ·have : ¬ k = j := by omega
  rw [if_neg this]
  simp [mixw, hj]
theorem words_set (ws : List Int) (k : Nat) (x : Int) : ((ws.map (Value.int .u64)).toArray).setIfInBounds k (.int .u64 x) = ((ws.set k x).map (Value.int .u64)).toArray := by
 simp [List.map_set]
theorem words_get (ws : List Int) (k : Nat) (x : Int) (h : ws[k]? = some x) : ((ws.map (Value.int .u64)).toArray)[k]? = some (.int .u64 x) := by simp [h]
theorem words_one (ws : List Int) : ((ws.map (Value.int .u64)).toArray).all (·.oneCell') = true := by
 simp [Array.all_eq_true_iff_forall_mem, Value.oneCell']
theorem info122l (ws : List Int) (h : ws.length = 76) : (Try.prog.info? 122).map (·.size) = some (ws.map (Value.int .u64)).length := by rw [info122]; simp [h]
theorem info122a (ws : List Int) (h : ws.length = 76) : (Try.prog.info? 122).map (·.size) = some ((ws.map (Value.int .u64)).toArray).size := by rw [info122]; simp [h]
theorem neg_any (w : World) (b : Nat) (cs : Array Value) (n : Int) (h0 : -2 ^ 4800 ≤ n) (h1 : n < 2 ^ 4800) (hb : w.heap[b]? = some (.cells cs 124 (0, 0))) (hx : cs[75]? = some (.int .u64 (wd n 75))) :
  Calls Try.prog 86 #[.pointer (some ⟨b, 0, none⟩)] w fun e w' => e = .returned (.bool (decide (n < 0))) ∧ w = w' := by
 refine (neg_calls w b cs _ hb hx).mono ?_
 rintro e w' ⟨rfl, hw⟩
 refine ⟨?_, hw⟩
 rw [wd_top n h0 h1]
 by_cases hn : n < 0
 ·simp [hn]
 ·simp [hn]
def zaX (n : Int) : Int := if n < 0 then -n else n
theorem absI_neg {n : Int} (h : n < 0) : zaX n = -n := by unfold zaX; rw [if_pos h]
theorem absI_pos {n : Int} (h : 0 ≤ n) : zaX n = n := by unfold zaX; rw [if_neg (by omega)]
set_option maxRecDepth 100000 in
set_option maxHeartbeats 1000000 in
theorem size_calls (w : World) (b : Nat) (n : Int) (bad : Bool) (h0 : -2 ^ 4800 ≤ n) (h1 : n < 2 ^ 4800) (hb : w.heap[b]? = some (.cells (zaJ (wds n) bad) 124 (0, 0))) :
  Calls Try.prog 92 #[.pointer (some ⟨b, 0, none⟩)] w fun e w' => e = .returned (.agg ((wds (zaX n)).map (Value.int .u64)).toArray) ∧ Below w.heap.size w w' := by
 have HB := am_ hb
 have H0 := am_ h0
 have H1 := am_ h1
 clear hb h0 h1
 go_enter Try.func92, Try.ntmps92
 go_wp2_with (first
  | ((with_reducible refine zk (N := 2) rfl ?_); refine box_event rfl (N := 2) rfl (cs := (List.replicate 76 (Value.int .u64 0)).toArray) (t := 122) ?hr ?_; (case hr => kernel_rfl); intro g2 hg2 w2 hw2 hb2; have B2 := am_ hb2; have K2 := am_ hw2; have N2 := am_ (show b ≠ g2 by have := zaa HB.out; omega); have L2 := am_ (show w.heap.size ≤ g2 by omega); clear hg2 hw2 hb2)
  | ((with_reducible refine zk (N := 9) rfl ?_); refine wpList_load_mid rfl 122 _ rfl b 0 rfl ((wds n).map (Value.int .u64)) _ ?hr Try.underlying122 rfl (info122l _ (zai n)) ?_; (case hr => exact cellsW_range w2 b _ bad ((B2.out.block b (zaa HB.out)).trans HB.out)); have T9 : True := trivial)
  | ((with_reducible refine zk (N := 3) rfl ?_); refine box_event rfl (N := 3) rfl (cs := (List.replicate 76 (Value.int .u64 0)).toArray) (t := 122) ?hr ?_; (case hr => kernel_rfl); intro g3 hg3 w3 hw3 hb3; have B3 := am_ (zb B2.out hb3); have J3 := am_ ((hb3.block g2 (zaa K2.out)).trans K2.out); have K3 := am_ hw3; have N3 := am_ (show b ≠ g3 ∧ g2 ≠ g3 by have := zaa K2.out; have := zaa HB.out; have := B2.out.size; omega); have L3 := am_ (show w.heap.size ≤ g3 by have := B2.out.size; omega); clear hg3 hw3 hb3)
  | ((with_reducible refine zr (t := 122) (p := 3) rfl ?_); refine zn rfl 122 rfl rfl g3 ((wds n).map (Value.int .u64)).toArray rfl rfl 122 _ K3.out (info122a _ (zai n)) (by simp [zai]) (words_one _) ?_; intro w4 hw4 hg4; have B4 := am_ (B3.out.grown hg4 B3.out.size (fun k hk => by cases hk; exact L3.out)); have K4 := am_ hw4; have J4 := am_ (zx hg4 J3.out (fun e => N3.out.2 (Option.some.inj e))); clear hw4 hg4)
  | fail)
 refine (neg_any w4 b _ n H0.out H1.out ((B4.out.block b (zaa HB.out)).trans HB.out) (cellsW_get _ _ 75 _ (wds_get n 75 (by decide)))).mono ?_
 rintro e w5 ⟨rfl, rfl⟩
 by_cases hn : n < 0
 ·have hd : decide (n < 0) = true := decide_eq_true hn
  have Hn := am_ hn
  clear hn
  go_wp2_with fail
  go_loopg [4, 12] 76 (fun m v4 v12 wr => ∃ k : Nat, v12 = .int .i64 k ∧ v4 = .int .u64 (cys 0 n k) ∧ Aside0 (m + k = 76) ∧ Aside0 (wr.heap[g3]? = some (.cells ((mixw (-n) n k).map (Value.int .u64)).toArray 122 (0, 0))) ∧ Aside0 (wr.heap[g2]? = some (.cells (List.replicate 76 (Value.int .u64 0)).toArray 122 (0, 0))) ∧ Aside0 (Below w.heap.size w wr))
  case atStart => exact ⟨0, rfl, by rw [cys_zero], ⟨rfl⟩, ⟨by rw [mixw_zero]; exact K4.out⟩, J4, B4⟩
  case round =>
   obtain ⟨k, rfl, rfl, hm, K5, J5, B5⟩ := hrel
   by_cases hk : k < 76
   ·have hdk : decide ((k : Int) < 76) = true := by simp; omega
    have hk0 : decide ((0 : Int) ≤ k) = true := by simp
    have hc : wr.cell? ⟨g3, k, none⟩ = some (.int .u64 (wd n k)) := (za K5.out k).trans (words_get _ _ _ (mixw_get _ _ _ hk))
    have hf : wr.frozen? ⟨g3, k, none⟩ = false := zd K5.out k
    have hs := sub_word 0 n k
    rw [wd_zero, Int.zero_sub] at hs
    have HK := am_ hk
    go_wp2_with fail
    go_roundg (gk - 1)
    case measure => have := hm.out; have := HK.out; omega
    case rel =>
     refine ⟨k + 1, by go_num, rfl, ⟨by have := hm.out; have := HK.out; omega⟩, ⟨?_⟩, ⟨?_⟩, ⟨zm B5.out L3.out⟩⟩
     ·rw [← mixw_set _ _ _ HK.out, ← words_set]
      exact zaD K5.out k _
     ·exact zW J5.out N3.out.2 _
   ·have hdk : decide ((k : Int) < 76) = false := by simp; omega
    obtain rfl : k = 76 := by have := hm.out; omega
    clear hk
    go_wp2_with (first
     | ((with_reducible refine zk (N := 26) rfl ?_); refine wpList_load_row rfl 122 _ rfl g3 rfl 122 _ (0, 0) _ K5.out Try.underlying122 rfl (info122a _ (zbf _ _ _)) ?_; have T26 : True := trivial)
     | ((with_reducible refine zr (t := 122) (p := 2) rfl ?_); refine zn rfl 122 rfl rfl g2 ((mixw (-n) n 76).map (Value.int .u64)).toArray rfl rfl 122 _ J5.out (info122a _ (zbf _ _ _)) (by simp [zbf]) (words_one _) ?_; intro w6 hw6 hg6; have B6 := am_ (B5.out.grown hg6 B5.out.size (fun k hk => by cases hk; exact L2.out)); have K6 := am_ hw6; clear hw6 hg6)
     | fail)
    refine bodyPost_ret (results_cell_row rfl _ _ g2 122 _ (0, 0) _ rfl K6.out Try.underlying122 rfl (info122a _ (zbf _ _ _))) rfl ?_
    exact ⟨by rw [absI_neg Hn.out, mixw_all], B6.out⟩
 ·have hd : decide (n < 0) = false := decide_eq_false hn
  have Hn := am_ (show 0 ≤ n by omega)
  clear hn
  go_wp2_with (first
   | ((with_reducible refine zk (N := 26) rfl ?_); refine wpList_load_row rfl 122 _ rfl g3 rfl 122 _ (0, 0) _ K4.out Try.underlying122 rfl (info122a _ (zai n)) ?_; have T26 : True := trivial)
   | ((with_reducible refine zr (t := 122) (p := 2) rfl ?_); refine zn rfl 122 rfl rfl g2 ((wds n).map (Value.int .u64)).toArray rfl rfl 122 _ J4.out (info122a _ (zai n)) (by simp [zai]) (words_one _) ?_; intro w6 hw6 hg6; have B6 := am_ (B4.out.grown hg6 B4.out.size (fun k hk => by cases hk; exact L2.out)); have K6 := am_ hw6; clear hw6 hg6)
   | fail)
  refine bodyPost_ret (results_cell_row rfl _ _ g2 122 _ (0, 0) _ rfl K6.out Try.underlying122 rfl (info122a _ (zai n))) rfl ?_
  exact ⟨by rw [absI_pos Hn.out], B6.out⟩
end Go.Proofs.Ytlidbaejhmamjaa.AC
namespace Go.Proofs.Ytlidbaejhmamjaa.AC
open Go.RowKit YtlidbaejhmamjaaW.PrintWords YtlidbaejhmamjaaW.PrintLast YtlidbaejhmamjaaW.PrintMore
/-- What fit leaves of a real. -/
def normA (n : Int) : Option Int := if zaX n < 2 ^ 4772 then some n else none
theorem absI_lo (n : Int) : 0 ≤ zaX n := by unfold zaX; split <;> omega
theorem absI_hi {n P : Int} (h0 : -P < n) (h1 : n < P) : zaX n < P := by unfold zaX; split <;> omega
theorem wd_75 (a : Int) (h0 : 0 ≤ a) (h1 : a < 2 ^ 4800) : wd a 75 = 0 := by
 unfold wd
 rw [show qd a 75 = 0 from Int.ediv_eq_zero_of_lt h0 h1]; rfl
theorem wd_74 (a : Int) (h0 : 0 ≤ a) (h1 : a < 2 ^ 4800) : (wd a 74 / 68719476736 = 0) = (a < 2 ^ 4772) := by
 have q : qd a 74 / 18446744073709551616 = 0 := by rw [← qd_succ]; exact Int.ediv_eq_zero_of_lt h0 h1
 have e : wd a 74 = qd a 74 := by unfold wd; omega
 have d : qd a 74 / 68719476736 = a / 2 ^ 4772 := by
  unfold qd
  rw [Int.ediv_ediv_of_nonneg (Int.le_of_lt (zab _)), show (2 : Int) ^ 4772 = 2 ^ (64 * 74) * 2 ^ 36 from by rw [← Int.pow_add]]
  rfl
 rw [e, d, eq_iff_iff]
 have hp := zab 4772
 constructor
 ·intro h
  generalize (2 : Int) ^ 4772 = P at *
  have := Int.mul_ediv_add_emod a P
  have := Int.emod_lt_of_pos a hp
  rw [h] at *
  omega
 ·exact fun h => Int.ediv_eq_zero_of_lt h0 h
theorem info124 : (Try.prog.info? 124).map (·.size) = some 77 := by kernel_rfl
theorem info124a (ws : List Int) (bad : Bool) (h : ws.length = 76) : (Try.prog.info? 124).map (·.size) = some (zaJ ws bad).size := by rw [info124, cellsW_size, h]
theorem cellsW_one (ws : List Int) (bad : Bool) : (zaJ ws bad).all (·.oneCell') = true := by
 simp [zaJ, Value.oneCell']
theorem below_grown {w w1 w2 : World} {row : Option Nat} (h : Below w.heap.size w w1) (hg : w1.grownBy w2 row) : w.grownBy w2 row :=
 ⟨hg.os.trans h.os, hg.tape.trans h.tape, hg.output.trans h.output, Nat.le_trans h.size hg.size, fun k hk hne => (hg.block k (Nat.lt_of_lt_of_le hk h.size) hne).trans (h.block k hk)⟩
theorem grown_grown {w w1 w2 : World} {row : Option Nat} (h : w.grownBy w1 row) (hg : w1.grownBy w2 row) : w.grownBy w2 row :=
 ⟨hg.os.trans h.os, hg.tape.trans h.tape, hg.output.trans h.output, Nat.le_trans h.size hg.size, fun k hk hne => (hg.block k (Nat.lt_of_lt_of_le hk h.size) hne).trans (h.block k hk hne)⟩
set_option maxRecDepth 100000 in
set_option maxHeartbeats 1000000 in
theorem fit_calls (w : World) (b : Nat) (n : Int) (h0 : -2 ^ 4800 < n) (h1 : n < 2 ^ 4800) (hb : w.heap[b]? = some (.cells (zaJ (wds n) false) 124 (0, 0))) :
  Calls Try.prog 85 #[.pointer (some ⟨b, 0, none⟩)] w fun e w' => e = .returned (.tuple #[]) ∧ w'.heap[b]? = some (.cells (zbb (normA n)) 124 (0, 0)) ∧ w.grownBy w' (some b) := by
 have HB := am_ hb
 have HA := am_ (absI_hi h0 h1)
 have A0 := am_ (absI_lo n)
 have H0 := am_ (show -2 ^ 4800 ≤ n by omega)
 have H1 := am_ h1
 clear hb h0 h1
 go_enter Try.func85, Try.ntmps85
 go_wp2_with fail
 refine (size_calls w b n false H0.out H1.out HB.out).mono ?_
 rintro e w1 ⟨rfl, hb1⟩
 have B1 := am_ hb1
 clear hb1
 generalize hq : zaX n = q at *
 have HQ := am_ hq
 clear hq
 go_wp2_with (first
  | ((with_reducible refine zk (N := 2) rfl ?_); refine box_event rfl (N := 2) rfl (cs := (List.replicate 76 (Value.int .u64 0)).toArray) (t := 122) ?hr ?_; (case hr => kernel_rfl); intro g2 hg2 w2 hw2 hb2; have B2 := am_ (zb B1.out hb2); have K2 := am_ hw2; have N2 := am_ (show b ≠ g2 by have := zaa HB.out; have := B1.out.size; omega); have L2 := am_ (show w.heap.size ≤ g2 by have := B1.out.size; omega); clear hg2 hw2 hb2)
  | ((with_reducible refine zr (t := 122) (p := 2) rfl ?_); refine zn rfl 122 rfl rfl g2 ((wds q).map (Value.int .u64)).toArray rfl rfl 122 _ K2.out (info122a _ (zai q)) (by simp [zai]) (words_one _) ?_; intro w3 hw3 hg3; have B3 := am_ (B2.out.grown hg3 B2.out.size (fun k hk => by cases hk; exact L2.out)); have K3 := am_ hw3; clear hw3 hg3)
  | fail)
 go_loopg [3] 2 (fun m v3 wr => ∃ k : Nat, v3 = .int .i64 k ∧ Aside0 (m + k = 76 ∧ 74 ≤ k) ∧ Aside0 (k = 74 ∨ q < 2 ^ 4772) ∧ w3 = wr)
 case atStart => exact ⟨74, rfl, ⟨rfl, by omega⟩, ⟨.inl rfl⟩, rfl⟩
 case round =>
  obtain ⟨k, rfl, hm, hq, rfl⟩ := hrel
  have hk3 : k = 74 ∨ k = 75 ∨ k = 76 := by have := hm.out; omega
  rcases hk3 with rfl | rfl | rfl
  ·have hc : w3.cell? ⟨g2, 74, none⟩ = some (.int .u64 (wd q 74)) := (za K3.out 74).trans (words_get _ _ _ (wds_get q 74 (by decide)))
   by_cases hlt : q < 2 ^ 4772
   ·have hz : (wd q 74 / 68719476736 != 0) = false := by rw [bne_eq_false_iff_eq, wd_74 q A0.out HA.out]; exact hlt
    have HL := am_ hlt
    clear hlt
    go_wp2_with fail
    go_roundg 1
    case measure => have := hm.out; omega
    case rel => exact ⟨75, rfl, ⟨rfl, by omega⟩, ⟨.inr HL.out⟩, rfl⟩
   ·have hz : (wd q 74 / 68719476736 != 0) = true := by rw [bne_iff_ne]; intro e; rw [wd_74 q A0.out HA.out] at e; exact hlt e
    have HL := am_ hlt
    clear hlt
    go_wp2_with (first
     | ((with_reducible refine zk (N := 21) rfl ?_); refine val_event rfl (v := .agg (zbb none)) (w1 := w3) ?hr ?_; (case hr => kernel_rfl); have T21 : True := trivial)
     | ((with_reducible refine zr (t := 124) (p := 22) rfl ?_); refine zn rfl 124 rfl rfl b (zbb none) rfl rfl 124 _ ((B3.out.block b (zaa HB.out)).trans HB.out) (info124a _ _ (by simp)) (by simp [zbb, cellsW_size, zai]) (cellsW_one _ _) ?_; intro w4 hw4 hg4; have K4 := am_ hw4; have G4 := am_ hg4; clear hw4 hg4)
     | fail)
    (try simp only [Exit.inBlock, Exit.then])
    refine bodyPost_ret (results_none rfl _ _ _) rfl ⟨rfl, ?_, below_grown B3.out G4.out⟩
    rw [show normA n = none from by unfold normA; rw [HQ.out, if_neg (by have := HL.out; omega)]]
    exact K4.out
  ·have hc : w3.cell? ⟨g2, 75, none⟩ = some (.int .u64 0) := (za K3.out 75).trans ((words_get _ _ _ (wds_get q 75 (by decide))).trans (by rw [wd_75 q A0.out HA.out]))
   go_wp2_with fail
   go_roundg 0
   case measure => have := hm.out; omega
   case rel => exact ⟨76, rfl, ⟨rfl, by omega⟩, ⟨by have := hq.out; omega⟩, rfl⟩
  ·go_wp2_with fail
   go_end0
   refine ⟨rfl, ?_, ⟨B3.out.os, B3.out.tape, B3.out.output, B3.out.size, fun k hk _ => B3.out.block k hk⟩⟩
   have hlt : q < 2 ^ 4772 := by have := hq.out; omega
   rw [show normA n = some n from by unfold normA; rw [HQ.out, if_pos hlt]]
   exact (B3.out.block b (zaa HB.out)).trans HB.out
/-- A number's sign, its significand, the power of 2 of that one's lowest bit. -/
def fnum (u : Nat) : Option (Bool × Nat × Int) :=
 if u / 4503599627370496 % 2048 = 2047 then none
 else if u / 4503599627370496 % 2048 = 0 then some (u / 9223372036854775808 == 1, u % 4503599627370496, -1074)
 else some (u / 9223372036854775808 == 1, u % 4503599627370496 + 4503599627370496, (u / 4503599627370496 % 2048 : Nat) - 1075)
def splitRes : Option (Bool × Nat × Int) → Value
 | none => .tuple #[.bool false, .int .u64 0, .int .i64 0, .bool false]
 | some (s, m, e) => .tuple #[.bool s, .int .u64 m, .int .i64 e, .bool true]
theorem f64bits (u : Nat) (w : World) : (callFunc 81 #[.float .f64 u]).run Try.prog w = .ok (.value (.int .u64 u)) w := by
 rw [run_callFunc_extern (fn := Try.f81) Try.func81 (by kernel_rfl) (by kernel_rfl) (by kernel_rfl) (e := Extern.MathFloatBits.float64bits) (by kernel_rfl)]
 rfl
theorem bits_calls (u : Nat) (w : World) : Calls Try.prog 56 #[.float .f64 u] w fun e w' => e = .returned (.int .u64 u) ∧ w = w' := by
 have hf := f64bits u
 go_enter Try.func56, Try.ntmps56
 go_wp2_with fail
 go_ret
 exact ⟨rfl, rfl⟩
theorem wraps_u64 (n : Int) (h0 : 0 ≤ n) (h1 : n < 2 ^ 64) : IntKind.u64.wrap n = n := by
 rw [IntKind.wrap_u64]; have : (2 : Int) ^ 64 = 18446744073709551616 := by decide
 omega
theorem and_2047 (x : Int) (h0 : 0 ≤ x) (h1 : x < 2 ^ 64) : bits .and .u64 x 2047 = x % 2048 := bits_mask .u64 64 (by decide) wraps_u64 11 (by decide) x h0 h1
theorem and_52 (x : Int) (h0 : 0 ≤ x) (h1 : x < 2 ^ 64) : bits .and .u64 x 4503599627370495 = x % 4503599627370496 := bits_mask .u64 64 (by decide) wraps_u64 52 (by decide) x h0 h1
theorem or_52 (y : Int) (h0 : 0 ≤ y) (h1 : y < 4503599627370496) : bits .or .u64 y 4503599627370496 = y + 4503599627370496 := by
 have hc : bits .or .u64 y 4503599627370496 = bits .or .u64 4503599627370496 y := by simp only [bits, BitVec.or_comm]
 have hp : (2 : Int) ^ 64 = 18446744073709551616 := by decide
 have hp' : (2 : Int) ^ 52 = 4503599627370496 := by decide
 rw [hc, bits_join .u64 64 (by decide) wraps_u64 52 _ _ (by decide) (by decide) (by decide) h0 (by omega) (by omega)]
 omega
theorem split_calls (u : Nat) (hu : u < 2 ^ 64) (w : World) : Calls Try.prog 64 #[.float .f64 u] w fun e w' => e = .returned (splitRes (fnum u)) ∧ w = w' := by
 have hu' : u < 18446744073709551616 := hu
 have hp : (2 : Int) ^ 64 = 18446744073709551616 := by decide
 have h1 : bits .and .u64 ((u : Int) / 4503599627370496) 2047 = ((u / 4503599627370496 % 2048 : Nat) : Int) := by rw [and_2047 _ (by omega) (by omega)]; omega
 have h2 : bits .and .u64 (u : Int) 4503599627370495 = ((u % 4503599627370496 : Nat) : Int) := by rw [and_52 _ (by omega) (by omega)]; omega
 have h3 : bits .or .u64 ((u % 4503599627370496 : Nat) : Int) 4503599627370496 = ((u % 4503599627370496 + 4503599627370496 : Nat) : Int) := by rw [or_52 _ (by omega) (by omega)]; omega
 have he : u / 4503599627370496 % 2048 < 2048 := by omega
 have hs : ((u : Int) / 9223372036854775808 == 1) = (u / 9223372036854775808 == 1) := by rw [Bool.eq_iff_iff]; simp only [beq_iff_eq]; omega
 have F : Aside0 (fnum u = (if u / 4503599627370496 % 2048 = 2047 then none else if u / 4503599627370496 % 2048 = 0 then some (u / 9223372036854775808 == 1, u % 4503599627370496, -1074) else some (u / 9223372036854775808 == 1, u % 4503599627370496 + 4503599627370496, (u / 4503599627370496 % 2048 : Nat) - 1075) : Option (Bool × Nat × Int))) := ⟨rfl⟩
 clear hp hu hu'
 generalize u / 4503599627370496 % 2048 = e at *
 generalize u % 4503599627370496 = m at *
 generalize (u / 9223372036854775808 == 1) = s at *
 generalize m + 4503599627370496 = m2 at *
 have W : wrap64 (e : Int) = e := by unfold wrap64; omega
 have R : Aside0 (fnum u = fnum u) := ⟨rfl⟩
 generalize fnum u = r at F ⊢
 have hout : Aside0 (splitRes r = splitRes r) := ⟨rfl⟩
 generalize hv : splitRes r = v at hout ⊢
 have HV := am_ hv
 clear hv hout R
 by_cases c1 : e = 2047
 ·have c1b : ((e : Int) == 2047) = true := by simp [c1]
  have hr : r = none := by rw [F.out, if_pos c1]
  have HE := am_ hr
  clear hr F c1
  go_enter Try.func64, Try.ntmps64
  go_wp2_with fail
  refine (bits_calls u _).mono ?_
  rintro e w' ⟨rfl, rfl⟩
  go_wp2_with fail
  refine bodyPost_ret (v := v) (by rw [← HV.out, HE.out]; simp [results, Try.results64, go_sem, splitRes]) rfl ⟨rfl, rfl⟩
 ·have c1b : ((e : Int) == 2047) = false := by simp; omega
  by_cases c2 : e = 0
  ·have c2b : ((e : Int) == 0) = true := by simp [c2]
   have hr : r = some (s, m, -1074) := by rw [F.out, if_neg c1, if_pos c2]
   have HE := am_ hr
   clear hr F c1 c2
   go_enter Try.func64, Try.ntmps64
   go_wp2_with fail
   refine (bits_calls u _).mono ?_
   rintro e w' ⟨rfl, rfl⟩
   go_wp2_with fail
   refine bodyPost_ret (v := v) (by rw [← HV.out, HE.out]; simp [results, Try.results64, go_sem, splitRes]) rfl ⟨rfl, rfl⟩
  ·have c2b : ((e : Int) == 0) = false := by simp; omega
   have hr : r = some (s, m2, (e : Int) - 1075) := by rw [F.out, if_neg c1, if_neg c2]
   have HE := am_ hr
   clear hr F c1 c2
   go_enter Try.func64, Try.ntmps64
   go_wp2_with fail
   refine (bits_calls u _).mono ?_
   rintro e w' ⟨rfl, rfl⟩
   go_wp2_with fail
   refine bodyPost_ret (v := v) (by rw [← HV.out, HE.out]; simp [results, Try.results64, go_sem, splitRes]) rfl ⟨rfl, rfl⟩
theorem mixw_below (Z X : Int) (i : Nat) (h : ∀ j, j < i → wd Z j = wd X j) : mixw Z X i = wds X := by
 unfold mixw wds
 refine List.map_congr_left fun j _ => ?_
 by_cases hj : j < i
 ·rw [if_pos hj, h j hj]
 ·rw [if_neg hj]
theorem mixw_above (Z X : Int) (i : Nat) (h : ∀ j, i ≤ j → wd Z j = wd X j) : mixw Z X i = wds Z := by
 unfold mixw wds
 refine List.map_congr_left fun j _ => ?_
 by_cases hj : j < i
 ·rw [if_pos hj]
 ·rw [if_neg hj, h j (by omega)]
theorem cellsW_set (ws : List Int) (bad : Bool) (k : Nat) (x : Int) (h : k < ws.length) : (zaJ ws bad).setIfInBounds k (.int .u64 x) = zaJ (ws.set k x) bad := by
 simp [zaJ, List.map_set, List.set_append_left, h]
theorem grown_set {w W : World} {b : Nat} (h : w.grownBy W (some b)) (j : Nat) (u : Value) : w.grownBy (W.setCell ⟨b, j, none⟩ u) (some b) :=
 ⟨h.os, h.tape, h.output, by have := h.size; simp only [World.setCell, Array.size_modify]; exact this, fun k hk hne => (Below.heap_setCell W ⟨b, j, none⟩ u k (fun e => hne (congrArg some e))).trans (h.block k hk hne)⟩
theorem za4 {a b : Nat} (h : a ≤ b) : (2 : Int) ^ a ≤ 2 ^ b := by
 have := Nat.pow_le_pow_right (n := 2) (by decide) h
 exact_mod_cast this
theorem put_bounds (n D Y : Int) (i : Nat) (hn : zaX n < 2 ^ 4772) (D0 : 0 ≤ D) (D3 : D < 2 ^ (64 * 3)) (hi : i ≤ 66) (hY : Y = D * 2 ^ (64 * i)) :
  -2 ^ 4772 < n ∧ n < 2 ^ 4772 ∧ 0 ≤ Y ∧ Y < 2 ^ 4772 ∧ (2 : Int) ^ 4800 = 2 ^ 28 * 2 ^ 4772 ∧ (0 : Int) < 2 ^ 4772 := by
 have hp := zab 4772
 have h1 : Y < 2 ^ 4772 := by
  have e : D * 2 ^ (64 * i) < 2 ^ (64 * 3) * 2 ^ (64 * i) := Int.mul_lt_mul_of_pos_right D3 (zab _)
  rw [← Int.pow_add] at e
  have : (2 : Int) ^ (64 * 3 + 64 * i) ≤ 2 ^ 4772 := za4 (by omega)
  rw [hY]; omega
 refine ⟨?_, ?_, by rw [hY]; exact Int.mul_nonneg D0 (Int.le_of_lt (zab _)), h1, Int.pow_add 2 28 4772, hp⟩
 ·unfold zaX at hn; split at hn <;> omega
 ·unfold zaX at hn; split at hn <;> omega
def putA.T12 : Bool × List (List Nat × List Nat) := (true, [([], []), ([], []), ([], []), ([1, 2], [1, 2]), ([], []), ([], []), ([], []), ([5, 6], [5, 6]), ([4], [4]), ([8], [8]), ([9, 7], [7, 9]), ([10], [10]), ([], []), ([], []), ([11, 12, 13], [11, 12, 13]), ([14], [14]), ([15], [15]), ([15], [15]), ([0], [0]), ([18], [18]), ([19, 3, 0, 1, 2, 3, 4, 5, 6, 7, 8, 9, 10, 11, 12, 13, 14, 15, 16], [3, 19]), ([20, 16, 14, 0, 1, 2, 3, 4, 5, 6, 7, 8, 9, 10, 11, 12, 13, 14, 15, 16], [16, 20]), ([17, 21, 0, 1, 2, 3, 4, 5, 6, 7, 8, 9, 10, 11, 12, 13, 14, 15, 16, 17, 18, 19, 20, 21], [13, 17])])
def putA.B12 : List Nat := [0, 0, 0, 6, 0, 0, 0, 96, 16, 272, 1008, 2032, 0, 0, 16368, 32752, 65520, 65520, 1, 262145, 917503, 1966079, 4194303]
theorem putA.tab12 : rtab .any (opsOf Try.f66 12) = putA.T12 := by kernel_rfl
theorem putA.bits12 : zat putA.T12.2 putA.B12 = true := by kernel_rfl
set_option maxRecDepth 100000 in
set_option maxHeartbeats 2000000 in
theorem putA_calls (w : World) (b : Nat) (n v0 v1 v2 at_ : Int) (i : Nat) (hn : zaX n < 2 ^ 4772) (a0 : 0 ≤ v0) (b0 : v0 < 18446744073709551616) (a1 : 0 ≤ v1) (b1 : v1 < 18446744073709551616) (a2 : 0 ≤ v2) (b2 : v2 < 18446744073709551616)
  (hat : at_ / 64 = i) (hat0 : 0 ≤ at_) (hat1 : at_ ≤ 4300) (hi : i ≤ 66) (hb : w.heap[b]? = some (.cells (zaJ (wds n) false) 124 (0, 0))) :
  Calls Try.prog 66 #[.pointer (some ⟨b, 0, none⟩), .agg #[.int .u64 v0, .int .u64 v1, .int .u64 v2], .int .i64 at_, .bool false] w fun e w' =>
   e = .returned (.tuple #[]) ∧ w'.heap[b]? = some (.cells (zbb (normA (n + (v0 + v1 * 18446744073709551616 + v2 * 340282366920938463463374607431768211456) * 2 ^ (64 * i)))) 124 (0, 0)) ∧ w.grownBy w' (some b) := by
 obtain ⟨d0, d1, d2, D0, D3⟩ := words3 v0 v1 v2 a0 b0 a1 b1 a2 b2
 generalize hD : v0 + v1 * 18446744073709551616 + v2 * 340282366920938463463374607431768211456 = D at *
 clear hD
 obtain ⟨Y, hY⟩ : ∃ Y, Y = D * 2 ^ (64 * i) := ⟨_, rfl⟩
 obtain ⟨Z, hZ⟩ : ∃ Z, Z = n + Y := ⟨_, rfl⟩
 rw [← hY, ← hZ]
 have y0 : wd Y i = v0 := by rw [hY]; exact (wd_from D i 0).trans d0
 have y1 : wd Y (i + 1) = v1 := by rw [hY]; exact (wd_from D i 1).trans d1
 have y2 : wd Y (i + 2) = v2 := by rw [hY]; exact (wd_from D i 2).trans d2
 have y3 : ∀ k, 3 ≤ k → qd Y (i + k) = 0 := fun k hk => by rw [hY, qd_from]; exact qd_small_after D 3 k D0 D3 hk
 have bel : ∀ j, j < i → wd Z j = wd n j := fun j hj => by rw [hZ, hY]; exact wd_add_below n D i j hj
 have c0 : cya n Y i = 0 := by rw [hY]; exact cya_at n D i
 have ZZ := put_bounds n D Y i hn D0 D3 hi hY
 have ZB : -2 ^ 4800 < Z ∧ Z < 2 ^ 4800 := by rw [hZ]; exact ⟨by omega, by omega⟩
 have P := am_ (And.intro y0 (And.intro y1 (And.intro y2 (And.intro y3 (And.intro bel (And.intro c0 (And.intro ZB hZ)))))))
 have HB := am_ hb
 have HI := am_ hi
 have HV := am_ (And.intro b0 (And.intro b1 b2))
 clear y0 y1 y2 y3 bel c0 ZZ ZB hZ hY D0 D3 d0 d1 d2 hb hn D b0 b1 b2
 have hq : at_ / 64 = (i : Int) := hat
 clear hat
 go_enter Try.func66, Try.ntmps66
 go_wp2_with (first
  | ((with_reducible refine zk (N := 5) rfl ?_); refine zaq 5 (cs := #[.int .u64 v0, .int .u64 v1, .int .u64 v2]) (t := 129) ?_; intro g5 hg5 w5 hw5 hb5; have B5 := am_ hb5; have K5 := am_ hw5; have N5 := am_ (show b ≠ g5 by have := zaa HB.out; omega); clear hg5 hw5 hb5)
  | fail)
 go_loopg [9, 10] (76 - i) (fun m v9 v10 wr => ∃ k : Nat, v10 = .int .i64 k ∧ v9 = .int .u64 (cya n Y (i + k)) ∧ Aside0 (m + (i + k) = 76) ∧ Aside0 (wr.heap[b]? = some (.cells (zaJ (mixw Z n (i + k)) false) 124 (0, 0))) ∧ Aside0 (wr.heap[g5]? = some (.cells #[.int .u64 v0, .int .u64 v1, .int .u64 v2] 129 (0, 0))) ∧ Aside0 (w.grownBy wr (some b)))
 case atStart =>
  obtain ⟨y0, y1, y2, y3, bel, c0, ZB, hZ⟩ := P.out
  refine ⟨0, rfl, by rw [Nat.add_zero, c0], ⟨by have := HI.out; omega⟩, ⟨?_⟩, K5, ⟨grown_of_below B5.out _⟩⟩
  rw [Nat.add_zero, mixw_below Z n i bel]
  exact (B5.out.block b (zaa HB.out)).trans HB.out
 case round =>
  obtain ⟨k, rfl, rfl, hm, K6, J6, G6⟩ := hrel
  by_cases hk : i + k < 76
  ·have hlt : decide ((i : Int) + (k : Int) < 76) = true := by simp; omega
   have hk0 : (0 : Int) ≤ (i : Int) + k := by omega
   have hk7 : (i : Int) + k ≤ 75 := by omega
   have HK := am_ hk
   clear hk
   go_upto_if 21 with (fail)
   go_cut [11] (fun v11 wc => v11 = .int .u64 (wd Y (i + k)) ∧ wr = wc)
   case first =>
    by_cases k3 : k < 3
    ·have hd3 : decide ((k : Int) < 3) = true := by simp; omega
     have hl3 : (k : Int) < 3 := by omega
     have hc : wr.cell? ⟨g5, k, none⟩ = some (.int .u64 (wd Y (i + k))) := by
      obtain ⟨y0, y1, y2, _⟩ := P.out
      refine (za J6.out k).trans ?_
      have hk : k = 0 ∨ k = 1 ∨ k = 2 := by omega
      rcases hk with rfl | rfl | rfl
      ·rw [Nat.add_zero, y0]; rfl
      ·rw [y1]; rfl
      ·rw [y2]; rfl
     clear k3
     rw [hd3]
     go_wp2_with fail
     go_meet
     case rel => exact ⟨rfl, rfl⟩
    ·have hd3 : decide ((k : Int) < 3) = false := by simp; omega
     have K3 := am_ (show 3 ≤ k by omega)
     clear k3
     rw [hd3]
     by_cases hc : cya n Y (i + k) = 0
     ·have hcb : (cya n Y (i + k) == 0) = true := by rw [hc]; rfl
      have C0 := am_ hc
      clear hc
      go_wp2_with fail
      have hm6 : mixw Z n (i + k) = wds Z := by
       obtain ⟨y0, y1, y2, y3, bel, c0, ZB, hZ⟩ := P.out
       refine mixw_above Z n (i + k) fun j hj => ?_
       unfold wd
       rw [hZ, qd_add_done n Y (i + k) j (y3 k (by have := K3.out; omega)) C0.out hj]
      refine (fit_calls wr b Z (P.out.2.2.2.2.2.2.1.1) (P.out.2.2.2.2.2.2.1.2) (by rw [← hm6]; exact K6.out)).mono ?_
      rintro e w7 ⟨rfl, h7, g7⟩
      go_wp2_with fail
      go_end0
      exact ⟨rfl, h7, grown_grown G6.out g7⟩
     ·have hcb : (cya n Y (i + k) == 0) = false := beq_eq_false_iff_ne.mpr hc
      clear hc
      go_wp2_with fail
      go_meet
      case rel =>
       refine ⟨?_, rfl⟩
       obtain ⟨y0, y1, y2, y3, bel, c0, ZB, hZ⟩ := P.out
       unfold wd
       rw [y3 k (by have := K3.out; omega)]
       rfl
   case rest =>
    obtain ⟨rfl, rfl⟩ := hcut
    have hw : ∀ w, (callFunc 84 #[.int .u64 (wd n (i + k)), .int .u64 (wd Y (i + k)), .int .u64 (cya n Y (i + k))]).run Try.prog w = .ok (.value (.tuple #[.int .u64 (wd Z (i + k)), .int .u64 (cya n Y (i + k + 1))])) w := by
     obtain ⟨y0, y1, y2, y3, bel, c0, ZB, hZ⟩ := P.out
     rw [hZ]
     exact add_word n Y (i + k)
    have hlt7 : (i : Int) + k < 76 := by omega
    have K7 := am_ (zi K6.out)
    have J7 := am_ (zi J6.out)
    have G7 := am_ (show w.grownBy wr.drew (some b) from ⟨G6.out.os, G6.out.tape, G6.out.output, G6.out.size, G6.out.block⟩)
    clear K6 J6 G6
    go_wp2_with fail
    have hcell : wr.drew.cell? ⟨b, i + k, none⟩ = some (.int .u64 (wd n (i + k))) := (za K7.out (i + k)).trans (cellsW_get _ _ _ _ (mixw_get _ _ _ HK.out))
    have hfro : wr.drew.frozen? ⟨b, i + k, none⟩ = false := zd K7.out (i + k)
    have hwr : IntKind.i64.wrap ((i : Int) + k) = (i : Int) + k := by rw [zaA]; unfold wrap64; omega
    have htn : ((i : Int) + (k : Int)).toNat = i + k := by omega
    refine zay (n := 23) (S := fun w' => w'.cell? ⟨b, i + k, none⟩ = some (.int .u64 (wd n (i + k)))) (ds := [21]) (bl_ 23 0) (by kernel_rfl) rfl rfl hcell (fun hHeld => ?_); refine zT putA.tab12 putA.bits12 (fun HT_ HW_ => ?_)
    generalize wr.drew = w9 at K7 J7 G7 hcell hfro hHeld ⊢
    refine pu_ HT_ 0 50 (bl_ 23 1) ?_
    refine pu_ HT_ 1 51 (bl_ 23 3) ?_
    refine pu_ HT_ 2 52 (bl_ 23 7) ?_
    refine pu_ HT_ 3 53 (bl_ 23 15) ?_
    refine pu_ HT_ 4 54 (bl_ 23 31) ?_
    refine pu_ HT_ 5 55 (bl_ 23 63) ?_
    refine pu_ HT_ 6 56 (bl_ 23 127) ?_
    refine pu_ HT_ 7 57 (bl_ 23 255) ?_
    refine pu_ HT_ 8 58 (bl_ 23 511) ?_
    refine pu_ HT_ 9 59 (bl_ 23 1023) ?_
    refine pu_ HT_ 10 60 (bl_ 23 2047) ?_
    refine pu_ HT_ 12 62 (bl_ 23 6143) ?_
    refine pu_ HT_ 13 63 (bl_ 23 14335) ?_
    refine pu_ HT_ 18 67 (bl_ 23 276479) ?_
    refine pu_ HT_ 19 68 (bl_ 23 800767) ?_
    refine tk_ HT_ HW_ hHeld 11 61 (bl_ 23 802815) ?_
    refine pu_ HT_ 14 64 (bl_ 23 819199) ?_
    refine pu_ HT_ 15 49 (bl_ 23 851967) ?_
    refine pu_ HT_ 16 65 (bl_ 23 917503) ?_
    refine pu_ HT_ 17 66 (bl_ 23 1048575) ?_
    refine pu_ HT_ 20 69 (bl_ 23 2097151) ?_
    refine last_ (i := 21) (N := none) (bl_ 23 4194303) rfl rfl (one_of HT_.out (by kernel_rfl)) (by decide) (fun K hK => ?_)
    refine skip_ (w1 := ?_) (by rfl) rfl ?_ ?_; rotate_left; (focus (go_simp; first | done | rfl))
    refine hK.out _ _ ?_; clear hK K
    refine pu_ HT_ 22 9 (bl_ 23 8388607) ?_
    refine zaP (zao HT_.out (by kernel_rfl)) ?_
    clear hwr htn
    go_wp2_with fail
    go_roundg (gk - 1)
    case measure => have := hm.out; have := HK.out; omega
    case rel =>
     refine ⟨k + 1, by go_num, rfl, ⟨by have := hm.out; have := HK.out; omega⟩, ⟨?_⟩, ⟨?_⟩, ⟨?_⟩⟩
     ·have hs := zaD K7.out (i + k) (.int .u64 (wd Z (i + k)))
      rw [cellsW_set _ _ _ _ (by rw [zbf]; exact HK.out), mixw_set _ _ _ HK.out] at hs
      exact hs
     ·exact zW J7.out (fun e => N5.out e.symm) _
     ·exact grown_set G7.out _ _
  ·have hlt : decide ((i : Int) + (k : Int) < 76) = false := by simp; omega
   have HK := am_ (show i + k = 76 by have := hm.out; omega)
   have hk7 : (i : Int) + k ≤ 76 := by have := HK.out; omega
   have hk8 : 76 ≤ (i : Int) + k := by omega
   clear hk
   have h76 := K6.out
   rw [HK.out, mixw_all] at h76
   have H76 := am_ h76
   clear h76
   go_wp2_with fail
   refine (fit_calls wr b Z (P.out.2.2.2.2.2.2.1.1) (P.out.2.2.2.2.2.2.1.2) H76.out).mono ?_
   rintro e w7 ⟨rfl, h7, g7⟩
   go_wp2_with fail
   go_end0
   exact ⟨rfl, h7, grown_grown G6.out g7⟩
def putS.T11 : Bool × List (List Nat × List Nat) := (true, [([], []), ([], []), ([], []), ([1, 2], [1, 2]), ([], []), ([], []), ([], []), ([5, 6], [5, 6]), ([4], [4]), ([8], [8]), ([9, 7], [7, 9]), ([10], [10]), ([], []), ([], []), ([11, 12, 13], [11, 12, 13]), ([14], [14]), ([15], [15]), ([15], [15]), ([0], [0]), ([18], [18]), ([19, 3, 0, 1, 2, 3, 4, 5, 6, 7, 8, 9, 10, 11, 12, 13, 14, 15, 16], [3, 19]), ([20, 16, 14, 0, 1, 2, 3, 4, 5, 6, 7, 8, 9, 10, 11, 12, 13, 14, 15, 16], [16, 20]), ([17, 21, 0, 1, 2, 3, 4, 5, 6, 7, 8, 9, 10, 11, 12, 13, 14, 15, 16, 17, 18, 19, 20, 21], [13, 17])])
def putS.B11 : List Nat := [0, 0, 0, 6, 0, 0, 0, 96, 16, 272, 1008, 2032, 0, 0, 16368, 32752, 65520, 65520, 1, 262145, 917503, 1966079, 4194303]
theorem putS.tab11 : rtab .any (opsOf Try.f66 11) = putS.T11 := by kernel_rfl
theorem putS.bits11 : zat putS.T11.2 putS.B11 = true := by kernel_rfl
set_option maxRecDepth 100000 in
set_option maxHeartbeats 2000000 in
theorem putS_calls (w : World) (b : Nat) (n v0 v1 v2 at_ : Int) (i : Nat) (hn : zaX n < 2 ^ 4772) (a0 : 0 ≤ v0) (b0 : v0 < 18446744073709551616) (a1 : 0 ≤ v1) (b1 : v1 < 18446744073709551616) (a2 : 0 ≤ v2) (b2 : v2 < 18446744073709551616)
  (hat : at_ / 64 = i) (hat0 : 0 ≤ at_) (hat1 : at_ ≤ 4300) (hi : i ≤ 66) (hb : w.heap[b]? = some (.cells (zaJ (wds n) false) 124 (0, 0))) :
  Calls Try.prog 66 #[.pointer (some ⟨b, 0, none⟩), .agg #[.int .u64 v0, .int .u64 v1, .int .u64 v2], .int .i64 at_, .bool true] w fun e w' =>
   e = .returned (.tuple #[]) ∧ w'.heap[b]? = some (.cells (zbb (normA (n - (v0 + v1 * 18446744073709551616 + v2 * 340282366920938463463374607431768211456) * 2 ^ (64 * i)))) 124 (0, 0)) ∧ w.grownBy w' (some b) := by
 obtain ⟨d0, d1, d2, D0, D3⟩ := words3 v0 v1 v2 a0 b0 a1 b1 a2 b2
 generalize hD : v0 + v1 * 18446744073709551616 + v2 * 340282366920938463463374607431768211456 = D at *
 clear hD
 obtain ⟨Y, hY⟩ : ∃ Y, Y = D * 2 ^ (64 * i) := ⟨_, rfl⟩
 obtain ⟨Z, hZ⟩ : ∃ Z, Z = n - Y := ⟨_, rfl⟩
 rw [← hY, ← hZ]
 have y0 : wd Y i = v0 := by rw [hY]; exact (wd_from D i 0).trans d0
 have y1 : wd Y (i + 1) = v1 := by rw [hY]; exact (wd_from D i 1).trans d1
 have y2 : wd Y (i + 2) = v2 := by rw [hY]; exact (wd_from D i 2).trans d2
 have y3 : ∀ k, 3 ≤ k → qd Y (i + k) = 0 := fun k hk => by rw [hY, qd_from]; exact qd_small_after D 3 k D0 D3 hk
 have bel : ∀ j, j < i → wd Z j = wd n j := fun j hj => by rw [hZ, hY]; exact wd_sub_below n D i j hj
 have c0 : cys n Y i = 0 := by rw [hY]; exact cys_at n D i
 have ZZ := put_bounds n D Y i hn D0 D3 hi hY
 have ZB : -2 ^ 4800 < Z ∧ Z < 2 ^ 4800 := by rw [hZ]; exact ⟨by omega, by omega⟩
 have P := am_ (And.intro y0 (And.intro y1 (And.intro y2 (And.intro y3 (And.intro bel (And.intro c0 (And.intro ZB hZ)))))))
 have HB := am_ hb
 have HI := am_ hi
 have HV := am_ (And.intro b0 (And.intro b1 b2))
 clear y0 y1 y2 y3 bel c0 ZZ ZB hZ hY D0 D3 d0 d1 d2 hb hn D b0 b1 b2
 have hq : at_ / 64 = (i : Int) := hat
 clear hat
 go_enter Try.func66, Try.ntmps66
 go_wp2_with (first
  | ((with_reducible refine zk (N := 5) rfl ?_); refine zaq 5 (cs := #[.int .u64 v0, .int .u64 v1, .int .u64 v2]) (t := 129) ?_; intro g5 hg5 w5 hw5 hb5; have B5 := am_ hb5; have K5 := am_ hw5; have N5 := am_ (show b ≠ g5 by have := zaa HB.out; omega); clear hg5 hw5 hb5)
  | fail)
 go_loopg [9, 10] (76 - i) (fun m v9 v10 wr => ∃ k : Nat, v10 = .int .i64 k ∧ v9 = .int .u64 (cys n Y (i + k)) ∧ Aside0 (m + (i + k) = 76) ∧ Aside0 (wr.heap[b]? = some (.cells (zaJ (mixw Z n (i + k)) false) 124 (0, 0))) ∧ Aside0 (wr.heap[g5]? = some (.cells #[.int .u64 v0, .int .u64 v1, .int .u64 v2] 129 (0, 0))) ∧ Aside0 (w.grownBy wr (some b)))
 case atStart =>
  obtain ⟨y0, y1, y2, y3, bel, c0, ZB, hZ⟩ := P.out
  refine ⟨0, rfl, by rw [Nat.add_zero, c0], ⟨by have := HI.out; omega⟩, ⟨?_⟩, K5, ⟨grown_of_below B5.out _⟩⟩
  rw [Nat.add_zero, mixw_below Z n i bel]
  exact (B5.out.block b (zaa HB.out)).trans HB.out
 case round =>
  obtain ⟨k, rfl, rfl, hm, K6, J6, G6⟩ := hrel
  by_cases hk : i + k < 76
  ·have hlt : decide ((i : Int) + (k : Int) < 76) = true := by simp; omega
   have hk0 : (0 : Int) ≤ (i : Int) + k := by omega
   have hk7 : (i : Int) + k ≤ 75 := by omega
   have HK := am_ hk
   clear hk
   go_upto_if 21 with (fail)
   go_cut [11] (fun v11 wc => v11 = .int .u64 (wd Y (i + k)) ∧ wr = wc)
   case first =>
    by_cases k3 : k < 3
    ·have hd3 : decide ((k : Int) < 3) = true := by simp; omega
     have hl3 : (k : Int) < 3 := by omega
     have hc : wr.cell? ⟨g5, k, none⟩ = some (.int .u64 (wd Y (i + k))) := by
      obtain ⟨y0, y1, y2, _⟩ := P.out
      refine (za J6.out k).trans ?_
      have hk : k = 0 ∨ k = 1 ∨ k = 2 := by omega
      rcases hk with rfl | rfl | rfl
      ·rw [Nat.add_zero, y0]; rfl
      ·rw [y1]; rfl
      ·rw [y2]; rfl
     clear k3
     rw [hd3]
     go_wp2_with fail
     go_meet
     case rel => exact ⟨rfl, rfl⟩
    ·have hd3 : decide ((k : Int) < 3) = false := by simp; omega
     have K3 := am_ (show 3 ≤ k by omega)
     clear k3
     rw [hd3]
     by_cases hc : cys n Y (i + k) = 0
     ·have hcb : (cys n Y (i + k) == 0) = true := by rw [hc]; rfl
      have C0 := am_ hc
      clear hc
      go_wp2_with fail
      have hm6 : mixw Z n (i + k) = wds Z := by
       obtain ⟨y0, y1, y2, y3, bel, c0, ZB, hZ⟩ := P.out
       refine mixw_above Z n (i + k) fun j hj => ?_
       unfold wd
       rw [hZ, qd_sub_done n Y (i + k) j (y3 k (by have := K3.out; omega)) C0.out hj]
      refine (fit_calls wr b Z (P.out.2.2.2.2.2.2.1.1) (P.out.2.2.2.2.2.2.1.2) (by rw [← hm6]; exact K6.out)).mono ?_
      rintro e w7 ⟨rfl, h7, g7⟩
      go_wp2_with fail
      go_end0
      exact ⟨rfl, h7, grown_grown G6.out g7⟩
     ·have hcb : (cys n Y (i + k) == 0) = false := beq_eq_false_iff_ne.mpr hc
      clear hc
      go_wp2_with fail
      go_meet
      case rel =>
       refine ⟨?_, rfl⟩
       obtain ⟨y0, y1, y2, y3, bel, c0, ZB, hZ⟩ := P.out
       unfold wd
       rw [y3 k (by have := K3.out; omega)]
       rfl
   case rest =>
    obtain ⟨rfl, rfl⟩ := hcut
    have hw : ∀ w, (callFunc 67 #[.int .u64 (wd n (i + k)), .int .u64 (wd Y (i + k)), .int .u64 (cys n Y (i + k))]).run Try.prog w = .ok (.value (.tuple #[.int .u64 (wd Z (i + k)), .int .u64 (cys n Y (i + k + 1))])) w := by
     obtain ⟨y0, y1, y2, y3, bel, c0, ZB, hZ⟩ := P.out
     rw [hZ]
     exact sub_word n Y (i + k)
    have hlt7 : (i : Int) + k < 76 := by omega
    have K7 := am_ (zi K6.out)
    have J7 := am_ (zi J6.out)
    have G7 := am_ (show w.grownBy wr.drew (some b) from ⟨G6.out.os, G6.out.tape, G6.out.output, G6.out.size, G6.out.block⟩)
    clear K6 J6 G6
    go_wp2_with fail
    have hcell : wr.drew.cell? ⟨b, i + k, none⟩ = some (.int .u64 (wd n (i + k))) := (za K7.out (i + k)).trans (cellsW_get _ _ _ _ (mixw_get _ _ _ HK.out))
    have hfro : wr.drew.frozen? ⟨b, i + k, none⟩ = false := zd K7.out (i + k)
    have hwr : IntKind.i64.wrap ((i : Int) + k) = (i : Int) + k := by rw [zaA]; unfold wrap64; omega
    have htn : ((i : Int) + (k : Int)).toNat = i + k := by omega
    refine zay (n := 23) (S := fun w' => w'.cell? ⟨b, i + k, none⟩ = some (.int .u64 (wd n (i + k)))) (ds := [21]) (bl_ 23 0) (by kernel_rfl) rfl rfl hcell (fun hHeld => ?_); refine zT putS.tab11 putS.bits11 (fun HT_ HW_ => ?_)
    generalize wr.drew = w9 at K7 J7 G7 hcell hfro hHeld ⊢
    refine pu_ HT_ 0 29 (bl_ 23 1) ?_
    refine pu_ HT_ 1 30 (bl_ 23 3) ?_
    refine pu_ HT_ 2 31 (bl_ 23 7) ?_
    refine pu_ HT_ 3 32 (bl_ 23 15) ?_
    refine pu_ HT_ 4 33 (bl_ 23 31) ?_
    refine pu_ HT_ 5 34 (bl_ 23 63) ?_
    refine pu_ HT_ 6 35 (bl_ 23 127) ?_
    refine pu_ HT_ 7 36 (bl_ 23 255) ?_
    refine pu_ HT_ 8 37 (bl_ 23 511) ?_
    refine pu_ HT_ 9 38 (bl_ 23 1023) ?_
    refine pu_ HT_ 10 39 (bl_ 23 2047) ?_
    refine pu_ HT_ 12 41 (bl_ 23 6143) ?_
    refine pu_ HT_ 13 42 (bl_ 23 14335) ?_
    refine pu_ HT_ 18 46 (bl_ 23 276479) ?_
    refine pu_ HT_ 19 47 (bl_ 23 800767) ?_
    refine tk_ HT_ HW_ hHeld 11 40 (bl_ 23 802815) ?_
    refine pu_ HT_ 14 43 (bl_ 23 819199) ?_
    refine pu_ HT_ 15 28 (bl_ 23 851967) ?_
    refine pu_ HT_ 16 44 (bl_ 23 917503) ?_
    refine pu_ HT_ 17 45 (bl_ 23 1048575) ?_
    refine pu_ HT_ 20 48 (bl_ 23 2097151) ?_
    refine last_ (i := 21) (N := none) (bl_ 23 4194303) rfl rfl (one_of HT_.out (by kernel_rfl)) (by decide) (fun K hK => ?_)
    refine skip_ (w1 := ?_) (by rfl) rfl ?_ ?_; rotate_left; (focus (go_simp; first | done | rfl))
    refine hK.out _ _ ?_; clear hK K
    refine pu_ HT_ 22 9 (bl_ 23 8388607) ?_
    refine zaP (zao HT_.out (by kernel_rfl)) ?_
    clear hwr htn
    go_wp2_with fail
    go_roundg (gk - 1)
    case measure => have := hm.out; have := HK.out; omega
    case rel =>
     refine ⟨k + 1, by go_num, rfl, ⟨by have := hm.out; have := HK.out; omega⟩, ⟨?_⟩, ⟨?_⟩, ⟨?_⟩⟩
     ·have hs := zaD K7.out (i + k) (.int .u64 (wd Z (i + k)))
      rw [cellsW_set _ _ _ _ (by rw [zbf]; exact HK.out), mixw_set _ _ _ HK.out] at hs
      exact hs
     ·exact zW J7.out (fun e => N5.out e.symm) _
     ·exact grown_set G7.out _ _
  ·have hlt : decide ((i : Int) + (k : Int) < 76) = false := by simp; omega
   have HK := am_ (show i + k = 76 by have := hm.out; omega)
   have hk7 : (i : Int) + k ≤ 76 := by have := HK.out; omega
   have hk8 : 76 ≤ (i : Int) + k := by omega
   clear hk
   have h76 := K6.out
   rw [HK.out, mixw_all] at h76
   have H76 := am_ h76
   clear h76
   go_wp2_with fail
   refine (fit_calls wr b Z (P.out.2.2.2.2.2.2.1.1) (P.out.2.2.2.2.2.2.1.2) H76.out).mono ?_
   rintro e w7 ⟨rfl, h7, g7⟩
   go_wp2_with fail
   go_end0
   exact ⟨rfl, h7, grown_grown G6.out g7⟩
end Go.Proofs.Ytlidbaejhmamjaa.AC
namespace Go.Proofs.Ytlidbaejhmamjaa.PB
open Go.RowKit YtlidbaejhmamjaaW.PrintWords YtlidbaejhmamjaaW.PrintLast YtlidbaejhmamjaaW.PrintMore
attribute [local go_sem] zak zam zaw zau zae zad zal zan   -- for this text's walks alone
def bits_Mul64.f (a0 : Int) (a1 : Int) : Option (Int × Int) := some (IntKind.u64.wrap ((IntKind.u64.wrap ((IntKind.u64.wrap ((a0 / 4294967296) * (a1 / 4294967296))) + ((IntKind.u64.wrap ((IntKind.u64.wrap ((a0 / 4294967296) * (Go.bits .and .u64 a1 4294967295))) + ((IntKind.u64.wrap ((Go.bits .and .u64 a0 4294967295) * (Go.bits .and .u64 a1 4294967295))) / 4294967296))) / 4294967296))) + ((IntKind.u64.wrap ((Go.bits .and .u64 (IntKind.u64.wrap ((IntKind.u64.wrap ((a0 / 4294967296) * (Go.bits .and .u64 a1 4294967295))) + ((IntKind.u64.wrap ((Go.bits .and .u64 a0 4294967295) * (Go.bits .and .u64 a1 4294967295))) / 4294967296))) 4294967295) + (IntKind.u64.wrap ((Go.bits .and .u64 a0 4294967295) * (a1 / 4294967296))))) / 4294967296)), IntKind.u64.wrap (a0 * a1))
set_option maxHeartbeats 8000000 in
set_option maxRecDepth 100000 in
theorem bits_Mul64.calls (a0 : Int) (a1 : Int) (r1 : Int) (r2 : Int) (w : World) (h : bits_Mul64.f a0 a1 = some (r1, r2)) :
  Calls Try.prog 65 #[.int .u64 a0, .int .u64 a1] w fun e w' => e = .returned (.tuple #[.int .u64 r1, .int .u64 r2]) ∧ zaz w w' := by
 have H : (some (IntKind.u64.wrap ((IntKind.u64.wrap ((IntKind.u64.wrap ((a0 / 4294967296) * (a1 / 4294967296))) + ((IntKind.u64.wrap ((IntKind.u64.wrap ((a0 / 4294967296) * (Go.bits .and .u64 a1 4294967295))) + ((IntKind.u64.wrap ((Go.bits .and .u64 a0 4294967295) * (Go.bits .and .u64 a1 4294967295))) / 4294967296))) / 4294967296))) + ((IntKind.u64.wrap ((Go.bits .and .u64 (IntKind.u64.wrap ((IntKind.u64.wrap ((a0 / 4294967296) * (Go.bits .and .u64 a1 4294967295))) + ((IntKind.u64.wrap ((Go.bits .and .u64 a0 4294967295) * (Go.bits .and .u64 a1 4294967295))) / 4294967296))) 4294967295) + (IntKind.u64.wrap ((Go.bits .and .u64 a0 4294967295) * (a1 / 4294967296))))) / 4294967296)), IntKind.u64.wrap (a0 * a1))) = some (r1, r2) := h
 clear h
 simp only [Option.some.injEq, Prod.mk.injEq] at H
 obtain ⟨rfl, rfl⟩ := H
 go_enter Try.func65, Try.ntmps65
 go_wp2
 go_ret2
 exact ⟨by first | rfl | (simp; done) | (simp [*]; done), by repeat (first | exact zaz.refl _ | apply zaz.step)⟩
end Go.Proofs.Ytlidbaejhmamjaa.PB
namespace Go.Proofs.Ytlidbaejhmamjaa.AC
open Go.RowKit YtlidbaejhmamjaaW.PrintWords YtlidbaejhmamjaaW.PrintLast YtlidbaejhmamjaaW.PrintMore
theorem mul_parts (p q r s : Int) (hp : 0 ≤ p) (hq : 0 ≤ q) (hr : 0 ≤ r) (hs : 0 ≤ s) (hp' : p ≤ 18446744065119617025) (hq' : q ≤ 18446744065119617025) (hr' : r ≤ 18446744065119617025) (hs' : s ≤ 18446744065119617025) :
  (((s % 18446744073709551616) + (((q % 18446744073709551616) + (p % 18446744073709551616) / 4294967296) % 18446744073709551616) / 4294967296) % 18446744073709551616
   + ((((((q % 18446744073709551616) + (p % 18446744073709551616) / 4294967296) % 18446744073709551616) % 4294967296) + r % 18446744073709551616) % 18446744073709551616) / 4294967296) % 18446744073709551616
  = (s * 18446744073709551616 + (q + r) * 4294967296 + p) / 18446744073709551616 := by omega
theorem and_32 (x : Int) (h0 : 0 ≤ x) (h1 : x < 2 ^ 64) : bits .and .u64 x 4294967295 = x % 4294967296 := bits_mask .u64 64 (by decide) wraps_u64 32 (by decide) x h0 h1
theorem half_mul {a b : Int} (a0 : 0 ≤ a) (a1 : a ≤ 4294967295) (b0 : 0 ≤ b) (b1 : b ≤ 4294967295) : 0 ≤ a * b ∧ a * b ≤ 18446744065119617025 :=
 ⟨Int.mul_nonneg a0 b0, Int.le_trans (Int.mul_le_mul a1 b1 b0 (by decide)) (by decide)⟩
theorem mul64 (a b : Int) (a0 : 0 ≤ a) (a1 : a < 18446744073709551616) (b0 : 0 ≤ b) (b1 : b < 18446744073709551616) :
  PB.bits_Mul64.f a b = some (a * b / 18446744073709551616, a * b % 18446744073709551616) := by
 have hp : (2 : Int) ^ 64 = 18446744073709551616 := by decide
 unfold PB.bits_Mul64.f
 rw [and_32 a a0 (by omega), and_32 b b0 (by omega)]
 simp only [IntKind.wrap_u64]
 obtain ⟨x1, x0, hx1, hx0, ea⟩ : ∃ x1 x0 : Int, x1 = a / 4294967296 ∧ x0 = a % 4294967296 ∧ a = x1 * 4294967296 + x0 := ⟨_, _, rfl, rfl, by omega⟩
 obtain ⟨y1, y0, hy1, hy0, eb⟩ : ∃ y1 y0 : Int, y1 = b / 4294967296 ∧ y0 = b % 4294967296 ∧ b = y1 * 4294967296 + y0 := ⟨_, _, rfl, rfl, by omega⟩
 have p := half_mul (a := x0) (b := y0) (by omega) (by omega) (by omega) (by omega)
 have q := half_mul (a := x1) (b := y0) (by omega) (by omega) (by omega) (by omega)
 have r := half_mul (a := x0) (b := y1) (by omega) (by omega) (by omega) (by omega)
 have s := half_mul (a := x1) (b := y1) (by omega) (by omega) (by omega) (by omega)
 rw [← hx1, ← hx0, ← hy1, ← hy0]
 have eab : a * b = x1 * y1 * 18446744073709551616 + (x1 * y0 + x0 * y1) * 4294967296 + x0 * y0 := by
  rw [ea, eb]
  simp only [Int.add_mul, Int.mul_add]
  rw [show x1 * 4294967296 * (y1 * 4294967296) = x1 * y1 * 18446744073709551616 from by
   rw [Int.mul_assoc, Int.mul_left_comm 4294967296, ← Int.mul_assoc]; rfl, show x1 * 4294967296 * y0 = x1 * y0 * 4294967296 from by rw [Int.mul_right_comm], ← Int.mul_assoc x0 y1]
  omega
 have h := mul_parts (x0 * y0) (x1 * y0) (x0 * y1) (x1 * y1) p.1 q.1 r.1 s.1 p.2 q.2 r.2 s.2
 rw [eab, ← h, and_32 _ (by omega) (by omega)]
def fo (u : Nat) : Bool := (fnum u).isSome
def fs (u : Nat) : Bool := match fnum u with | some (s, _, _) => s | none => false
def fm (u : Nat) : Nat := match fnum u with | some (_, m, _) => m | none => 0
def fe (u : Nat) : Int := match fnum u with | some (_, _, e) => e | none => 0
theorem splitRes_parts (u : Nat) : splitRes (fnum u) = .tuple #[.bool (fs u), .int .u64 (fm u), .int .i64 (fe u), .bool (fo u)] := by
 unfold fo fs fm fe
 cases fnum u with
 | none => rfl
 | some r => obtain ⟨s, m, e⟩ := r; rfl
theorem fm_hi (u : Nat) : fm u < 9007199254740992 := by
 unfold fm fnum
 split
 ·rename_i h
  split at h
  ·cases h
  ·split at h <;> (cases h; omega)
 ·decide
theorem fe_in (u : Nat) : -1074 ≤ fe u ∧ fe u ≤ 971 := by
 unfold fe fnum
 split
 ·rename_i h
  split at h
  ·cases h
  ·split at h <;> (cases h; omega)
 ·decide
theorem zaS (u : Nat) (hu : u < 2 ^ 64) (w : World) : Calls Try.prog 64 #[.float .f64 u] w fun e w' => e = .returned (.tuple #[.bool (fs u), .int .u64 (fm u), .int .i64 (fe u), .bool (fo u)]) ∧ w = w' :=
 (split_calls u hu w).mono fun e w' h => ⟨by rw [h.1, splitRes_parts], h.2⟩
def prodV (v : Option Int) (x y : Nat) (n : Int) : Option Int :=
 match v with
 | none => none
 | some a => if (fo x && fo y && decide (-64 ≤ n) && decide (n ≤ 64)) = true then
   normA (if (fs x != fs y) = true then a - (fm x : Int) * fm y * 2 ^ (fe x + fe y + n + 2212).toNat else a + (fm x : Int) * fm y * 2 ^ (fe x + fe y + n + 2212).toNat) else none
def accOk : Option Int → Prop
 | none => True
 | some a => zaX a < 2 ^ 4772
theorem normA_ok (n : Int) : accOk (normA n) := by
 unfold normA
 split
 ·assumption
 ·trivial
theorem prodV_ok (v : Option Int) (x y : Nat) (n : Int) : accOk (prodV v x y n) := by
 unfold prodV
 split
 ·trivial
 ·split
  ·exact normA_ok _
  ·trivial
theorem zba (v : Option Int) : (zbb v)[76]? = some (.bool v.isNone) := by
 cases v with
 | none => exact cellsW_bad _ _ (by simp)
 | some n => exact cellsW_bad _ _ (zai n)
theorem zaN (v : Option Int) : (zbb v).size = 77 := by
 cases v with
 | none => unfold zbb; rw [cellsW_size]; rfl
 | some n => unfold zbb; rw [cellsW_size, zai]
theorem info124v (v : Option Int) : (Try.prog.info? 124).map (·.size) = some (zbb v).size := by rw [info124, zaN]
theorem accW_one (v : Option Int) : (zbb v).all (·.oneCell') = true := by
 cases v with
 | none => exact cellsW_one _ _
 | some n => exact cellsW_one _ _
theorem prodV_good (a : Int) (x y : Nat) (n : Int) (h2 : fo x = true) (h3 : fo y = true) (m0 : -64 ≤ n) (m1 : n ≤ 64) :
  prodV (some a) x y n = normA (if (fs x != fs y) = true then a - (fm x : Int) * fm y * 2 ^ (fe x + fe y + n + 2212).toNat else a + (fm x : Int) * fm y * 2 ^ (fe x + fe y + n + 2212).toNat) := by
 have e : (fo x && fo y && decide (-64 ≤ n) && decide (n ≤ 64)) = true := by simp [h2, h3, m0, m1]
 show (if (fo x && fo y && decide (-64 ≤ n) && decide (n ≤ 64)) = true then _ else _) = _
 rw [if_pos e]
/-- A word, moved up by less than a word: what stays and what goes over. -/
theorem shift_one (x P Q : Int) (hP : 0 < P) (hQ : 0 < Q) (hPQ : P * Q = 18446744073709551616) (h0 : 0 ≤ x) :
  x * P % 18446744073709551616 = x % Q * P ∧ x * P / 18446744073709551616 = x / Q := by
 have e1 : Q * (x / Q) + x % Q = x := Int.mul_ediv_add_emod x Q
 have e2 := Int.emod_nonneg x (show Q ≠ 0 by omega)
 have e3 := Int.emod_lt_of_pos x hQ
 have e4 : x * P = 18446744073709551616 * (x / Q) + x % Q * P := by
  rw [← hPQ]
  calc x * P = (Q * (x / Q) + x % Q) * P := by rw [e1]
   _ = _ := by rw [Int.add_mul, Int.mul_comm (Q * (x / Q)), ← Int.mul_assoc]
 have e5 : 0 ≤ x % Q * P := Int.mul_nonneg e2 (Int.le_of_lt hP)
 have e6 : x % Q * P < 18446744073709551616 := by
  rw [← hPQ, Int.mul_comm P Q]; exact Int.mul_lt_mul_of_pos_right e3 hP
 generalize x % Q * P = m at *
 generalize x / Q = d at *
 generalize x * P = z at *
 omega
theorem shift_all (mx my : Nat) (at_ r hi lo v0 p1 q1 v1 v2 : Int) (hx : mx < 9007199254740992) (hy : my < 9007199254740992) (r0 : 0 ≤ r) (r1 : r ≤ 63) (at0 : 0 ≤ at_) (hr : at_ % 64 = r)
  (hhi : (mx : Int) * my / 18446744073709551616 = hi) (hlo : (mx : Int) * my % 18446744073709551616 = lo)
  (hV : IntKind.u64.wrap (lo * 2 ^ r.toNat) = v0 ∧ IntKind.u64.wrap (hi * 2 ^ r.toNat) = p1 ∧ lo / 2 ^ (64 - r).toNat = q1 ∧ bits .or .u64 p1 q1 = v1 ∧ hi / 2 ^ (64 - r).toNat = v2) :
  0 ≤ v0 ∧ v0 < 18446744073709551616 ∧ 0 ≤ v1 ∧ v1 < 18446744073709551616 ∧ 0 ≤ v2 ∧ v2 < 18446744073709551616 ∧
   (v0 + v1 * 18446744073709551616 + v2 * 340282366920938463463374607431768211456) * 2 ^ (64 * (at_ / 64).toNat) = (mx : Int) * my * 2 ^ at_.toNat := by
 obtain ⟨hv0, hp1, hq1, hv1, hv2⟩ := hV
 have hp64 : (2 : Int) ^ 64 = 18446744073709551616 := by decide
 have hprod : 0 ≤ (mx : Int) * my ∧ (mx : Int) * my < 81129638414606681695789005144064 := by
  refine ⟨Int.mul_nonneg (by omega) (by omega), ?_⟩
  have := Int.mul_le_mul (show (mx : Int) ≤ 9007199254740991 by omega) (show (my : Int) ≤ 9007199254740991 by omega) (by omega) (by decide)
  omega
 generalize (mx : Int) * my = M at *
 have lo0 : 0 ≤ lo := by omega
 have lo1 : lo < 18446744073709551616 := by omega
 have hi0 : 0 ≤ hi := by omega
 have hM : M = hi * 18446744073709551616 + lo := by omega
 obtain ⟨P, hP⟩ : ∃ P, P = (2 : Int) ^ r.toNat := ⟨_, rfl⟩
 obtain ⟨Q, hQ⟩ : ∃ Q, Q = (2 : Int) ^ (64 - r).toNat := ⟨_, rfl⟩
 have hP0 : 0 < P := by rw [hP]; exact zab _
 have hQ0 : 0 < Q := by rw [hQ]; exact zab _
 have hPQ : P * Q = 18446744073709551616 := by
  rw [hP, hQ, ← Int.pow_add, show r.toNat + (64 - r).toNat = 64 from by omega]
  exact hp64
 obtain ⟨a1, a2⟩ := shift_one lo P Q hP0 hQ0 hPQ lo0
 obtain ⟨c1, c2⟩ := shift_one hi P Q hP0 hQ0 hPQ hi0
 rw [IntKind.wrap_u64, ← hP] at hv0 hp1
 rw [← hQ] at hq1 hv2
 have l1 := Int.emod_nonneg hi (show Q ≠ 0 by omega)
 have l2 := Int.emod_lt_of_pos hi hQ0
 have l3 := Int.mul_ediv_add_emod hi Q
 have q10 : 0 ≤ q1 := by rw [← hq1]; exact Int.ediv_nonneg lo0 (Int.le_of_lt hQ0)
 have q11 : q1 < P := by
  rw [← hq1]
  refine Int.ediv_lt_of_lt_mul hQ0 ?_
  rw [hPQ]; exact lo1
 have p10 : 0 ≤ p1 := by rw [← hp1]; exact Int.emod_nonneg _ (by decide)
 have p11 : p1 < 18446744073709551616 := by rw [← hp1]; exact Int.emod_lt_of_pos _ (by decide)
 have p12 : p1 % P = 0 := by rw [← hp1, c1]; exact Int.mul_emod_left _ _
 have hle : P ≤ 18446744073709551616 := by
  have h1 : P * 1 ≤ P * Q := Int.mul_le_mul_of_nonneg_left (by omega) (Int.le_of_lt hP0)
  omega
 have ev1 : v1 = p1 + q1 := by
  rw [← hv1]
  exact bits_join .u64 64 (by decide) wraps_u64 r.toNat p1 q1 p10 (by rw [← hP]; exact p12) (by rw [hp64]; exact p11) q10 (by rw [← hP]; exact q11) (by rw [hp64]; omega)
 have v11 : v1 < 18446744073709551616 := by
  have h1 : p1 + P ≤ 18446744073709551616 := by
   rw [← hp1, c1, ← hPQ, Int.mul_comm P Q]
   have : hi % Q * P + P = (hi % Q + 1) * P := by rw [Int.add_mul, Int.one_mul]
   rw [this]
   exact Int.mul_le_mul_of_nonneg_right (by omega) (Int.le_of_lt hP0)
  omega
 have v20 : 0 ≤ v2 := by rw [← hv2]; exact Int.ediv_nonneg hi0 (Int.le_of_lt hQ0)
 have v21 : v2 < 18446744073709551616 := by
  rw [← hv2]
  exact Int.lt_of_le_of_lt (Int.ediv_le_self _ hi0) (by omega)
 refine ⟨by rw [← hv0]; exact Int.emod_nonneg _ (by decide), by rw [← hv0]; exact Int.emod_lt_of_pos _ (by decide), by omega, v11, v20, v21, ?_⟩
 have eD : v0 + v1 * 18446744073709551616 + v2 * 340282366920938463463374607431768211456 = M * P := by
  have f1 : lo * P = 18446744073709551616 * q1 + v0 := by
   have := Int.mul_ediv_add_emod (lo * P) 18446744073709551616
   rw [a2, hq1, hv0] at this; omega
  have f2 : hi * P = 18446744073709551616 * v2 + p1 := by
   have := Int.mul_ediv_add_emod (hi * P) 18446744073709551616
   rw [c2, hv2, hp1] at this; omega
  have f3 : M * P = hi * P * 18446744073709551616 + lo * P := by
   rw [hM, Int.add_mul, Int.mul_right_comm]
  rw [f3, f1, f2, ev1]
  omega
 rw [eD, hP, Int.mul_assoc, ← Int.pow_add]
 congr 2
 omega
set_option maxRecDepth 100000 in
set_option maxHeartbeats 1000000 in
theorem prod_bad_v (w : World) (b : Nat) (v : Option Int) (x y : Nat) (n : Int) (hx : x < 2 ^ 64) (hy : y < 2 ^ 64) (hb : w.heap[b]? = some (.cells (zbb v) 124 (0, 0))) (h1 : v.isNone = true) :
  Calls Try.prog 43 #[.pointer (some ⟨b, 0, none⟩), .float .f64 x, .float .f64 y, .int .i64 n] w fun e w' => e = .returned (.tuple #[]) ∧ w'.heap[b]? = some (.cells (zbb none) 124 (0, 0)) ∧ w.grownBy w' (some b) := by
 have hc : w.cell? ⟨b, 76, none⟩ = some (.bool v.isNone) := (za hb 76).trans (zba v)
 have HB := am_ hb
 clear hb
 go_enter Try.func43, Try.ntmps43
 go_wp2_with fail
 refine (zaS x hx w).mono ?_
 rintro e w1 ⟨rfl, rfl⟩
 go_wp2_with fail
 refine (zaS y hy w).mono ?_
 rintro e w1 ⟨rfl, rfl⟩
 go_wp2_with (first
  | ((with_reducible refine zk (N := 56) rfl ?_); refine val_event rfl (v := .agg (zbb none)) (w1 := w) ?hr ?_; (case hr => kernel_rfl); have T56 : True := trivial)
  | ((with_reducible refine zr (t := 124) (p := 57) rfl ?_); refine zn rfl 124 rfl rfl b (zbb none) rfl rfl 124 _ HB.out (info124v _) (by rw [zaN, zaN]) (accW_one _) ?_; intro w4 hw4 hg4; have K4 := am_ hw4; have G4 := am_ hg4; clear hw4 hg4)
  | fail)
 (try simp only [Exit.inBlock, Exit.then])
 exact bodyPost_ret (results_none rfl _ _ _) rfl ⟨rfl, K4.out, G4.out⟩
set_option maxRecDepth 100000 in
set_option maxHeartbeats 1000000 in
theorem prod_bad_x (w : World) (b : Nat) (v : Option Int) (x y : Nat) (n : Int) (hx : x < 2 ^ 64) (hy : y < 2 ^ 64) (hb : w.heap[b]? = some (.cells (zbb v) 124 (0, 0))) (h1 : v.isNone = false) (h2 : fo x = false) :
  Calls Try.prog 43 #[.pointer (some ⟨b, 0, none⟩), .float .f64 x, .float .f64 y, .int .i64 n] w fun e w' => e = .returned (.tuple #[]) ∧ w'.heap[b]? = some (.cells (zbb none) 124 (0, 0)) ∧ w.grownBy w' (some b) := by
 have hc : w.cell? ⟨b, 76, none⟩ = some (.bool v.isNone) := (za hb 76).trans (zba v)
 have HB := am_ hb
 clear hb
 go_enter Try.func43, Try.ntmps43
 go_wp2_with fail
 refine (zaS x hx w).mono ?_
 rintro e w1 ⟨rfl, rfl⟩
 go_wp2_with fail
 refine (zaS y hy w).mono ?_
 rintro e w1 ⟨rfl, rfl⟩
 go_wp2_with (first
  | ((with_reducible refine zk (N := 56) rfl ?_); refine val_event rfl (v := .agg (zbb none)) (w1 := w) ?hr ?_; (case hr => kernel_rfl); have T56 : True := trivial)
  | ((with_reducible refine zr (t := 124) (p := 57) rfl ?_); refine zn rfl 124 rfl rfl b (zbb none) rfl rfl 124 _ HB.out (info124v _) (by rw [zaN, zaN]) (accW_one _) ?_; intro w4 hw4 hg4; have K4 := am_ hw4; have G4 := am_ hg4; clear hw4 hg4)
  | fail)
 (try simp only [Exit.inBlock, Exit.then])
 exact bodyPost_ret (results_none rfl _ _ _) rfl ⟨rfl, K4.out, G4.out⟩
set_option maxRecDepth 100000 in
set_option maxHeartbeats 1000000 in
theorem prod_bad_y (w : World) (b : Nat) (v : Option Int) (x y : Nat) (n : Int) (hx : x < 2 ^ 64) (hy : y < 2 ^ 64) (hb : w.heap[b]? = some (.cells (zbb v) 124 (0, 0))) (h1 : v.isNone = false) (h2 : fo x = true) (h3 : fo y = false) :
  Calls Try.prog 43 #[.pointer (some ⟨b, 0, none⟩), .float .f64 x, .float .f64 y, .int .i64 n] w fun e w' => e = .returned (.tuple #[]) ∧ w'.heap[b]? = some (.cells (zbb none) 124 (0, 0)) ∧ w.grownBy w' (some b) := by
 have hc : w.cell? ⟨b, 76, none⟩ = some (.bool v.isNone) := (za hb 76).trans (zba v)
 have HB := am_ hb
 clear hb
 go_enter Try.func43, Try.ntmps43
 go_wp2_with fail
 refine (zaS x hx w).mono ?_
 rintro e w1 ⟨rfl, rfl⟩
 go_wp2_with fail
 refine (zaS y hy w).mono ?_
 rintro e w1 ⟨rfl, rfl⟩
 go_wp2_with (first
  | ((with_reducible refine zk (N := 56) rfl ?_); refine val_event rfl (v := .agg (zbb none)) (w1 := w) ?hr ?_; (case hr => kernel_rfl); have T56 : True := trivial)
  | ((with_reducible refine zr (t := 124) (p := 57) rfl ?_); refine zn rfl 124 rfl rfl b (zbb none) rfl rfl 124 _ HB.out (info124v _) (by rw [zaN, zaN]) (accW_one _) ?_; intro w4 hw4 hg4; have K4 := am_ hw4; have G4 := am_ hg4; clear hw4 hg4)
  | fail)
 (try simp only [Exit.inBlock, Exit.then])
 exact bodyPost_ret (results_none rfl _ _ _) rfl ⟨rfl, K4.out, G4.out⟩
set_option maxRecDepth 100000 in
set_option maxHeartbeats 1000000 in
theorem prod_bad_lo (w : World) (b : Nat) (v : Option Int) (x y : Nat) (n : Int) (hx : x < 2 ^ 64) (hy : y < 2 ^ 64) (hb : w.heap[b]? = some (.cells (zbb v) 124 (0, 0))) (h1 : v.isNone = false) (h2 : fo x = true) (h3 : fo y = true) (h4 : decide (n < -64) = true) :
  Calls Try.prog 43 #[.pointer (some ⟨b, 0, none⟩), .float .f64 x, .float .f64 y, .int .i64 n] w fun e w' => e = .returned (.tuple #[]) ∧ w'.heap[b]? = some (.cells (zbb none) 124 (0, 0)) ∧ w.grownBy w' (some b) := by
 have hc : w.cell? ⟨b, 76, none⟩ = some (.bool v.isNone) := (za hb 76).trans (zba v)
 have HB := am_ hb
 clear hb
 go_enter Try.func43, Try.ntmps43
 go_wp2_with fail
 refine (zaS x hx w).mono ?_
 rintro e w1 ⟨rfl, rfl⟩
 go_wp2_with fail
 refine (zaS y hy w).mono ?_
 rintro e w1 ⟨rfl, rfl⟩
 go_wp2_with (first
  | ((with_reducible refine zk (N := 56) rfl ?_); refine val_event rfl (v := .agg (zbb none)) (w1 := w) ?hr ?_; (case hr => kernel_rfl); have T56 : True := trivial)
  | ((with_reducible refine zr (t := 124) (p := 57) rfl ?_); refine zn rfl 124 rfl rfl b (zbb none) rfl rfl 124 _ HB.out (info124v _) (by rw [zaN, zaN]) (accW_one _) ?_; intro w4 hw4 hg4; have K4 := am_ hw4; have G4 := am_ hg4; clear hw4 hg4)
  | fail)
 (try simp only [Exit.inBlock, Exit.then])
 exact bodyPost_ret (results_none rfl _ _ _) rfl ⟨rfl, K4.out, G4.out⟩
set_option maxRecDepth 100000 in
set_option maxHeartbeats 1000000 in
theorem prod_bad_hi (w : World) (b : Nat) (v : Option Int) (x y : Nat) (n : Int) (hx : x < 2 ^ 64) (hy : y < 2 ^ 64) (hb : w.heap[b]? = some (.cells (zbb v) 124 (0, 0))) (h1 : v.isNone = false) (h2 : fo x = true) (h3 : fo y = true) (h4 : decide (n < -64) = false) (h5 : decide (64 < n) = true) :
  Calls Try.prog 43 #[.pointer (some ⟨b, 0, none⟩), .float .f64 x, .float .f64 y, .int .i64 n] w fun e w' => e = .returned (.tuple #[]) ∧ w'.heap[b]? = some (.cells (zbb none) 124 (0, 0)) ∧ w.grownBy w' (some b) := by
 have hc : w.cell? ⟨b, 76, none⟩ = some (.bool v.isNone) := (za hb 76).trans (zba v)
 have HB := am_ hb
 clear hb
 go_enter Try.func43, Try.ntmps43
 go_wp2_with fail
 refine (zaS x hx w).mono ?_
 rintro e w1 ⟨rfl, rfl⟩
 go_wp2_with fail
 refine (zaS y hy w).mono ?_
 rintro e w1 ⟨rfl, rfl⟩
 go_wp2_with (first
  | ((with_reducible refine zk (N := 56) rfl ?_); refine val_event rfl (v := .agg (zbb none)) (w1 := w) ?hr ?_; (case hr => kernel_rfl); have T56 : True := trivial)
  | ((with_reducible refine zr (t := 124) (p := 57) rfl ?_); refine zn rfl 124 rfl rfl b (zbb none) rfl rfl 124 _ HB.out (info124v _) (by rw [zaN, zaN]) (accW_one _) ?_; intro w4 hw4 hg4; have K4 := am_ hw4; have G4 := am_ hg4; clear hw4 hg4)
  | fail)
 (try simp only [Exit.inBlock, Exit.then])
 exact bodyPost_ret (results_none rfl _ _ _) rfl ⟨rfl, K4.out, G4.out⟩
def prod.T7 : Bool × List (List Nat × List Nat) := (true, [([], []), ([], []), ([0, 1], [0, 1]), ([], []), ([], []), ([3, 4], [3, 4]), ([], []), ([], []), ([7], [7]), ([6, 8], [6, 8]), ([5, 9], [5, 9]), ([], []), ([], []), ([12], [12]), ([11, 13], [11, 13]), ([2, 10, 14], [2, 10, 14]), ([], []), ([16, 15, 0, 1, 2, 3, 4, 5, 6, 7, 8, 9, 10, 11, 12, 13, 14, 15, 16], [15, 16])])
def prod.B7 : List Nat := [0, 0, 3, 0, 0, 24, 0, 0, 128, 448, 1016, 0, 0, 4096, 14336, 32767, 0, 131071]
theorem prod.tab7 : rtab .any (opsOf Try.f43 7) = prod.T7 := by kernel_rfl
theorem prod.bits7 : zat prod.T7.2 prod.B7 = true := by kernel_rfl
set_option maxRecDepth 100000 in
set_option maxHeartbeats 2000000 in
theorem prod_good (w : World) (b : Nat) (a : Int) (x y : Nat) (n : Int) (hx : x < 2 ^ 64) (hy : y < 2 ^ 64) (hb : w.heap[b]? = some (.cells (zbb (some a)) 124 (0, 0))) (ha : zaX a < 2 ^ 4772) (h2 : fo x = true) (h3 : fo y = true) (h4 : decide (n < -64) = false) (h5 : decide (64 < n) = false) (m0 : -64 ≤ n) (m1 : n ≤ 64) :
  Calls Try.prog 43 #[.pointer (some ⟨b, 0, none⟩), .float .f64 x, .float .f64 y, .int .i64 n] w fun e w' => e = .returned (.tuple #[]) ∧ w'.heap[b]? = some (.cells (zbb (prodV (some a) x y n)) 124 (0, 0)) ∧ w.grownBy w' (some b) := by
 have hc : w.cell? ⟨b, 76, none⟩ = some (.bool false) := (za hb 76).trans (zba (some a))
 have HB := am_ hb
 have HA := am_ ha
 clear hb ha
 obtain ⟨e0, e1⟩ := fe_in x
 obtain ⟨f0, f1⟩ := fe_in y
 have mx := am_ (fm_hi x)
 have my := am_ (fm_hi y)
 have hm := am_ (mul64 (fm x) (fm y) (by omega) (by have := mx.out; omega) (by omega) (by have := my.out; omega))
 go_enter Try.func43, Try.ntmps43
 go_wp2_with fail
 refine (zaS x hx w).mono ?_
 rintro e w1 ⟨rfl, rfl⟩
 go_wp2_with fail
 refine (zaS y hy w).mono ?_
 rintro e w1 ⟨rfl, rfl⟩
 go_wp2_with fail
 refine (PB.bits_Mul64.calls _ _ _ _ w hm.out).mono ?_
 rintro e w1 ⟨rfl, hd1⟩
 have D1 := am_ hd1
 clear hd1
 go_wp2_with fail
 generalize hat : fe x + fe y + n + 2212 = at_
 generalize hr : at_ % 64 = r
 generalize hhi : (fm x : Int) * (fm y : Int) / 18446744073709551616 = hi
 generalize hlo : (fm x : Int) * (fm y : Int) % 18446744073709551616 = lo
 have E := am_ (And.intro hat (And.intro hr (And.intro hhi hlo)))
 have r0 : 0 ≤ r := by omega
 have r1 : r ≤ 63 := by omega
 have hr64 : IntKind.i64.wrap (64 - r) = 64 - r := by rw [zaA]; unfold wrap64; omega
 have hr65 : 0 ≤ 64 - r := by omega
 clear hat hr hhi hlo
 obtain ⟨v0, hv0⟩ : ∃ v, IntKind.u64.wrap (lo * 2 ^ r.toNat) = v := ⟨_, rfl⟩
 obtain ⟨p1, hp1⟩ : ∃ v, IntKind.u64.wrap (hi * 2 ^ r.toNat) = v := ⟨_, rfl⟩
 obtain ⟨q1, hq1⟩ : ∃ v, lo / 2 ^ (64 - r).toNat = v := ⟨_, rfl⟩
 obtain ⟨v1, hv1⟩ : ∃ v, bits .or .u64 p1 q1 = v := ⟨_, rfl⟩
 obtain ⟨v2, hv2⟩ : ∃ v, hi / 2 ^ (64 - r).toNat = v := ⟨_, rfl⟩
 have V := am_ (And.intro hv0 (And.intro hp1 (And.intro hq1 (And.intro hv1 hv2))))
 have B9 := am_ (zl D1.out.below)
 refine zay (n := 18) (S := fun w' => True) (ds := [17]) (bl_ 18 0) (by kernel_rfl) rfl rfl trivial (fun hHeld => ?_); refine zT prod.tab7 prod.bits7 (fun HT_ HW_ => ?_)
 generalize w1.drew = w9 at hHeld B9 ⊢
 refine pu_ HT_ 0 72 (bl_ 18 1) ?_
 refine pu_ HT_ 1 73 (bl_ 18 3) ?_
 refine pu_ HT_ 2 74 (bl_ 18 7) ?_
 refine pu_ HT_ 3 75 (bl_ 18 15) ?_
 refine pu_ HT_ 4 76 (bl_ 18 31) ?_
 refine pu_ HT_ 5 77 (bl_ 18 63) ?_
 refine pu_ HT_ 6 78 (bl_ 18 127) ?_
 refine pu_ HT_ 7 79 (bl_ 18 255) ?_
 refine pu_ HT_ 8 80 (bl_ 18 511) ?_
 refine pu_ HT_ 9 81 (bl_ 18 1023) ?_
 refine pu_ HT_ 10 82 (bl_ 18 2047) ?_
 refine pu_ HT_ 11 83 (bl_ 18 4095) ?_
 refine pu_ HT_ 12 84 (bl_ 18 8191) ?_
 refine pu_ HT_ 13 85 (bl_ 18 16383) ?_
 refine pu_ HT_ 14 86 (bl_ 18 32767) ?_
 refine pu_ HT_ 15 87 (bl_ 18 65535) ?_
 refine on_ HT_ 16 (some 20) (bl_ 18 131071) fun K hK => ?_
 refine box_step ?hg (N := 20) ?hd (cs := #[.int .u64 0, .int .u64 0, .int .u64 0]) (t := 129) ?hr ?_; (case hd => rfl); (case hg => rfl); (case hr => first | (go_simp; done) | (go_simp; rfl)); intro g20 hg w20 hbox hb; have K20 := am_ hbox; have B20 := am_ (zb B9.out hb); have G20 := am_ (show w.heap.size ≤ g20 by rw [hg]; exact B9.out.size); have hz0 : w20.cell? ⟨g20, 0, none⟩ = some (.int .u64 0) := (za hbox 0).trans rfl; have hz1 : w20.cell? ⟨g20, 1, none⟩ = some (.int .u64 0) := (za hbox 1).trans rfl; have hz2 : w20.cell? ⟨g20, 2, none⟩ = some (.int .u64 0) := (za hbox 2).trans rfl; have hf0 := zd hbox 0; have hf1 := zd hbox 1; have hf2 := zd hbox 2; clear hg hbox hb
 refine hK.out _ _ trivial (fun hHeld => ?_); clear hK K
 refine nm_ ?_
 refine last_ (i := 17) (N := none) (bl_ 18 262143) rfl rfl (one_of HT_.out (by kernel_rfl)) (by decide) (fun K hK => ?_)
 refine skip_ (w1 := ?_) (by rfl) rfl ?_ ?_; rotate_left; (focus (go_simp; first | done | rfl))
 refine hK.out _ _ ?_; clear hK K
 refine zaP (zao HT_.out (by kernel_rfl)) ?_
 clear hr64 hr65 hv0 hp1 hq1 hv1 hv2 hHeld
 have K21 := zO (zO (zO K20.out 0 (.int .u64 v0) rfl) 1 (.int .u64 v1) rfl) 2 (.int .u64 v2) rfl
 have B21 := am_ (zm (j := 2) (v := .int .u64 v2) (zm (j := 1) (v := .int .u64 v1) (zm (j := 0) (v := .int .u64 v0) B20.out G20.out) G20.out) G20.out)
 generalize (((w20.setCell ⟨g20, 0, none⟩ (.int .u64 v0)).setCell ⟨g20, 1, none⟩ (.int .u64 v1)).setCell ⟨g20, 2, none⟩ (.int .u64 v2)) = w21 at K21 B21 ⊢
 clear hz0 hz1 hz2 hf0 hf1 hf2 K20 B20
 have k0 : w21.cell? ⟨g20, 0, none⟩ = some (.int .u64 v0) := (za K21 0).trans rfl
 have k1 : w21.cell? ⟨g20, 1, none⟩ = some (.int .u64 v1) := (za K21 1).trans rfl
 have k2 : w21.cell? ⟨g20, 2, none⟩ = some (.int .u64 v2) := (za K21 2).trans rfl
 clear K21
 have S := am_ (shift_all (fm x) (fm y) at_ r hi lo v0 p1 q1 v1 v2 mx.out my.out r0 r1 (by have := E.out.1; omega) E.out.2.1 E.out.2.2.1 E.out.2.2.2 V.out)
 have hb21 := (B21.out.block b (zaa HB.out)).trans HB.out
 simp only [zbb] at hb21
 have HB21 := am_ hb21
 clear hb21
 have at0 : 0 ≤ at_ := by have := E.out.1; omega
 have at1 : at_ ≤ 4218 := by have := E.out.1; omega
 have PV := am_ (prodV_good a x y n h2 h3 m0 m1)
 clear e0 e1 f0 f1
 by_cases hs : (fs x == fs y) = false
 ·have HS := am_ (show (fs x != fs y) = true by simp only [bne, hs]; rfl)
  go_wp2_with fail
  obtain ⟨s0, s1, s2, s3, s4, s5, sD⟩ := S.out
  with_reducible refine (putS_calls w21 b a v0 v1 v2 at_ (at_ / 64).toNat HA.out s0 s1 s2 s3 s4 s5 (by omega) at0 (by omega) (by omega) HB21.out).mono ?_
  rintro e w7 ⟨rfl, h7, g7⟩
  go_wp2_with fail
  go_end0
  refine ⟨rfl, ?_, below_grown B21.out g7⟩
  rw [PV.out, if_pos HS.out, E.out.1, ← sD]
  exact h7
 ·have hs : (fs x == fs y) = true := by simpa using hs
  have HS := am_ (show (fs x != fs y) = false by simp only [bne, hs]; rfl)
  go_wp2_with fail
  obtain ⟨s0, s1, s2, s3, s4, s5, sD⟩ := S.out
  with_reducible refine (putA_calls w21 b a v0 v1 v2 at_ (at_ / 64).toNat HA.out s0 s1 s2 s3 s4 s5 (by omega) at0 (by omega) (by omega) HB21.out).mono ?_
  rintro e w7 ⟨rfl, h7, g7⟩
  go_wp2_with fail
  go_end0
  refine ⟨rfl, ?_, below_grown B21.out g7⟩
  rw [PV.out, if_neg (by rw [HS.out]; decide), E.out.1, ← sD]
  exact h7
theorem prod_calls (w : World) (b : Nat) (v : Option Int) (x y : Nat) (n : Int) (hx : x < 2 ^ 64) (hy : y < 2 ^ 64) (hv : accOk v) (hb : w.heap[b]? = some (.cells (zbb v) 124 (0, 0))) :
  Calls Try.prog 43 #[.pointer (some ⟨b, 0, none⟩), .float .f64 x, .float .f64 y, .int .i64 n] w fun e w' => e = .returned (.tuple #[]) ∧ w'.heap[b]? = some (.cells (zbb (prodV v x y n)) 124 (0, 0)) ∧ w.grownBy w' (some b) := by
 cases v with
 | none => exact prod_bad_v w b none x y n hx hy hb rfl
 | some a =>
  have bad : (fo x && fo y && decide (-64 ≤ n) && decide (n ≤ 64)) = false → prodV (some a) x y n = none := fun h => by
   show (if (fo x && fo y && decide (-64 ≤ n) && decide (n ≤ 64)) = true then _ else _) = _
   rw [h]; rfl
  cases h2 : fo x with
  | false => rw [bad (by simp [h2])]; exact prod_bad_x w b _ x y n hx hy hb rfl h2
  | true =>
   cases h3 : fo y with
   | false => rw [bad (by simp [h3])]; exact prod_bad_y w b _ x y n hx hy hb rfl h2 h3
   | true =>
    by_cases h4 : n < -64
    ·rw [bad (by simp [h2, h3]; omega)]; exact prod_bad_lo w b _ x y n hx hy hb rfl h2 h3 (decide_eq_true h4)
    ·by_cases h5 : 64 < n
     ·rw [bad (by simp [h2, h3]; omega)]; exact prod_bad_hi w b _ x y n hx hy hb rfl h2 h3 (decide_eq_false h4) (decide_eq_true h5)
     ·exact prod_good w b a x y n hx hy hb hv h2 h3 (decide_eq_false h4) (decide_eq_false h5) (by omega) (by omega)
/-- 1 as a number. -/
def oneF : Nat := 4607182418800017408
theorem add_calls (w : World) (b : Nat) (v : Option Int) (x : Nat) (hx : x < 2 ^ 64) (hv : accOk v) (hb : w.heap[b]? = some (.cells (zbb v) 124 (0, 0))) :
  Calls Try.prog 44 #[.pointer (some ⟨b, 0, none⟩), .float .f64 x] w fun e w' => e = .returned (.tuple #[]) ∧ w'.heap[b]? = some (.cells (zbb (prodV v x oneF 0)) 124 (0, 0)) ∧ w.grownBy w' (some b) := by
 have HB := am_ hb
 clear hb
 go_enter Try.func44, Try.ntmps44
 go_wp2_with fail
 refine (prod_calls w b v x oneF 0 hx (by decide) hv HB.out).mono ?_
 rintro e w1 ⟨rfl, h1, g1⟩
 go_wp2_with fail
 go_end0
 exact ⟨rfl, h1, g1⟩
theorem run_eqItems_words (ws zs : List Int) (w : World) : ∀ (is : List Nat), (∀ i ∈ is, i < ws.length ∧ i < zs.length) →
  (Op.eqItems 9999 114 (Try.prog.cellsOf 114) (ws.map (Value.int .u64)).toArray (zs.map (Value.int .u64)).toArray is).run Try.prog w = .ok (is.all fun i => ws.getD i 0 == zs.getD i 0) w
 | [], _ => by simp [Op.eqItems]
 | i :: is, h => by
  obtain ⟨h1, h2⟩ := h i (by simp)
  have hc : Try.prog.cellsOf 114 = 1 := by kernel_rfl
  have p1 := run_part_plain (P := Try.prog) (w := w) (e := 114) (by kernel_rfl) (xs := (ws.map (Value.int .u64)).toArray) (off := i) (v := .int .u64 (ws.getD i 0)) (by simp [h1])
  have p2 := run_part_plain (P := Try.prog) (w := w) (e := 114) (by kernel_rfl) (xs := (zs.map (Value.int .u64)).toArray) (off := i) (v := .int .u64 (zs.getD i 0)) (by simp [h2])
  have ih := run_eqItems_words ws zs w is (fun j hj => h j (by simp [hj]))
  rw [hc] at ih ⊢
  simp only [Op.eqItems, Nat.mul_one, Sem.run_bind, p1, p2, Result.andThen_ok, run_equalIn_int w 9998 114 .u64 .u64 _ _ Try.underlying114]
  cases hq : ws.getD i 0 == zs.getD i 0 with
  | false => simp only [Bool.not_false, if_true, List.all_cons, hq, Bool.false_and, Sem.run_pure]
  | true => simp only [Bool.not_true, Bool.false_eq_true, if_false, ih, List.all_cons, hq, Bool.true_and]
def zerosA : Array Value := (List.replicate 76 (Value.int .u64 0)).toArray
theorem wds_inj0 (n : Int) (h0 : -2 ^ 4800 < n) (h1 : n < 2 ^ 4800) (h : ∀ i, i < 76 → wd n i = 0) : n = 0 := by
 have key : ∀ i, i ≤ 75 → n = qd n i * 2 ^ (64 * i) := by
  intro i
  induction i with
  | zero => intro _; rw [qd_zero]; simp
  | succ i ih =>
   intro hi
   have e1 := ih (by omega)
   have e2 := h i (by omega)
   unfold wd at e2
   have e3 : qd n i = qd n (i + 1) * 18446744073709551616 := by rw [qd_succ]; omega
   rw [e3, Int.mul_assoc] at e1
   rw [show (2 : Int) ^ (64 * (i + 1)) = 18446744073709551616 * 2 ^ (64 * i) from by rw [pow_word (i + 1) (by omega)]; rfl]
   exact e1
 have e := key 75 (Nat.le_refl _)
 have hp : (2 : Int) ^ (64 * 75) = 2 ^ 4800 := rfl
 rw [hp] at e
 have hp0 := zab 4800
 generalize (2 : Int) ^ 4800 = P at *
 generalize qd n 75 = q at *
 have hq : q = 0 := by
  rcases Int.lt_trichotomy q 0 with hq | hq | hq
  ·have : q * P ≤ -1 * P := Int.mul_le_mul_of_nonneg_right (by omega) (Int.le_of_lt hp0)
   omega
  ·exact hq
  ·have : 1 * P ≤ q * P := Int.mul_le_mul_of_nonneg_right (by omega) (Int.le_of_lt hp0)
   omega
 rw [e, hq, Int.zero_mul]
set_option maxRecDepth 100000 in
theorem eq122 (n : Int) (h0 : -2 ^ 4800 < n) (h1 : n < 2 ^ 4800) (w : World) : (Op.equalIn 10000 122 (.agg ((wds n).map (Value.int .u64)).toArray) (.agg zerosA)).run Try.prog w = .ok (n == 0) w := by
 obtain ⟨i114, hi⟩ : ∃ i, Try.prog.info? 114 = some i := by
  cases h : Try.prog.info? 114 with
  | some i => exact ⟨i, rfl⟩
  | none => exact absurd (show (Try.prog.info? 114).isSome = true by kernel_rfl) (by rw [h]; decide)
 have hz : zerosA = ((List.replicate 76 (0 : Int)).map (Value.int .u64)).toArray := by kernel_rfl
 rw [hz]
 refine (run_equalIn_array w 9999 _ _ Try.underlying122 hi).trans ?_
 rw [run_eqItems_words (wds n) (List.replicate 76 0) w (List.range 76) (fun i hi => by rw [zai, List.length_replicate]; exact ⟨List.mem_range.1 hi, List.mem_range.1 hi⟩)]
 congr 1
 rw [Bool.eq_iff_iff, List.all_eq_true, beq_iff_eq]
 constructor
 ·intro h
  refine wds_inj0 n h0 h1 fun i hi => ?_
  have := h i (List.mem_range.2 hi)
  rw [List.getD_eq_getElem?_getD, wds_get n i hi, List.getD_eq_getElem?_getD, List.getElem?_replicate, if_pos hi] at this
  exact beq_iff_eq.mp this
 ·rintro rfl i hi
  have hi := List.mem_range.1 hi
  rw [List.getD_eq_getElem?_getD, wds_get 0 i hi, wd_zero, List.getD_eq_getElem?_getD, List.getElem?_replicate, if_pos hi]
  rfl
def sgnI (n : Int) : Int := if n = 0 then 0 else if n < 0 then -1 else 1
theorem sgnI_zero {n : Int} (h : n = 0) : sgnI n = 0 := by unfold sgnI; rw [if_pos h]
theorem sgnI_neg {n : Int} (h : n < 0) : sgnI n = -1 := by unfold sgnI; rw [if_neg (by omega), if_pos h]
theorem sgnI_pos {n : Int} (h : 0 < n) : sgnI n = 1 := by unfold sgnI; rw [if_neg (by omega), if_neg (by omega)]
set_option maxRecDepth 100000 in
set_option maxHeartbeats 1000000 in
theorem sign_calls (w : World) (b : Nat) (n : Int) (h0 : -2 ^ 4800 < n) (h1 : n < 2 ^ 4800) (hb : w.heap[b]? = some (.cells (zaJ (wds n) false) 124 (0, 0))) :
  Calls Try.prog 68 #[.pointer (some ⟨b, 0, none⟩)] w fun e w' => e = .returned (.int .i64 (sgnI n)) ∧ w = w' := by
 have hc : w.cell? ⟨b, 76, none⟩ = some (.bool false) := (za hb 76).trans (cellsW_bad _ _ (zai n))
 have heq := eq122 n h0 h1
 have HB := am_ hb
 have H0 := am_ (show -2 ^ 4800 ≤ n by omega)
 have H1 := am_ h1
 clear hb h0 h1
 generalize hs : sgnI n = s
 have HS := am_ hs
 clear hs
 by_cases hz : n = 0
 ·have hzb : (n == 0) = true := beq_iff_eq.mpr hz
  have HZ := am_ hz
  clear hz
  go_enter Try.func68, Try.ntmps68
  go_wp2_with (first
  | ((with_reducible refine zk (N := 12) rfl ?_); refine zZ rfl ?_; refine wpList_load_mid rfl 122 _ rfl b 0 rfl ((wds n).map (Value.int .u64)) _ ?hr Try.underlying122 rfl (info122l _ (zai n)) ?_; (case hr => exact cellsW_range w b _ false HB.out); have T12 : True := trivial)
  | ((with_reducible refine zk (N := 13) rfl ?_); refine zZ rfl ?_; refine val_event rfl (v := .agg zerosA) (w1 := w) ?hr ?_; (case hr => kernel_rfl); have T13 : True := trivial)
  | fail)
  go_ret
  exact ⟨by rw [← HS.out, sgnI_zero HZ.out]; rfl, rfl⟩
 ·have hzb : (n == 0) = false := beq_eq_false_iff_ne.mpr hz
  have HZ := am_ hz
  clear hz
  go_enter Try.func68, Try.ntmps68
  go_wp2_with (first
  | ((with_reducible refine zk (N := 12) rfl ?_); refine zZ rfl ?_; refine wpList_load_mid rfl 122 _ rfl b 0 rfl ((wds n).map (Value.int .u64)) _ ?hr Try.underlying122 rfl (info122l _ (zai n)) ?_; (case hr => exact cellsW_range w b _ false HB.out); have T12 : True := trivial)
  | ((with_reducible refine zk (N := 13) rfl ?_); refine zZ rfl ?_; refine val_event rfl (v := .agg zerosA) (w1 := w) ?hr ?_; (case hr => kernel_rfl); have T13 : True := trivial)
  | fail)
  refine (neg_any w b _ n H0.out H1.out HB.out (cellsW_get _ _ 75 _ (wds_get n 75 (by decide)))).mono ?_
  rintro e w5 ⟨rfl, rfl⟩
  by_cases hn : n < 0
  ·have hd : decide (n < 0) = true := decide_eq_true hn
   have HN := am_ hn
   clear hn
   go_wp2_with fail
   go_ret
   exact ⟨by rw [← HS.out, sgnI_neg HN.out]; rfl, rfl⟩
  ·have hd : decide (n < 0) = false := decide_eq_false hn
   have HN := am_ (show 0 < n by have := HZ.out; omega)
   clear hn
   go_wp2_with fail
   go_ret
   exact ⟨by rw [← HS.out, sgnI_pos HN.out]; rfl, rfl⟩
def cmpR (v u : Option Int) : Value :=
 match v, u with
 | some a, some b => .tuple #[.int .i64 (sgnI (a - b)), .bool true]
 | _, _ => .tuple #[.int .i64 0, .bool false]
theorem cmpR_none (v u : Option Int) (h : v = none ∨ u = none) : cmpR v u = .tuple #[.int .i64 0, .bool false] := by
 rcases h with rfl | rfl
 ·rfl
 ·cases v <;> rfl
theorem accOk_bounds {a b : Int} (ha : accOk (some a)) (hb : accOk (some b)) : (-2 ^ 4800 < a - b ∧ a - b < 2 ^ 4800) := by
 have ha : zaX a < 2 ^ 4772 := ha
 have hb : zaX b < 2 ^ 4772 := hb
 have h8 : (2 : Int) ^ 4800 = 2 ^ 28 * 2 ^ 4772 := Int.pow_add 2 28 4772
 have hp := zab 4772
 unfold zaX at ha hb
 rw [h8]
 generalize (2 : Int) ^ 4772 = P at *
 constructor <;> (split at ha <;> split at hb <;> omega)
def cmp.T8 : Bool × List (List Nat × List Nat) := (true, [([], []), ([], []), ([], []), ([2, 1], [1, 2]), ([3], [3]), ([], []), ([], []), ([5], [5]), ([7], [7]), ([8, 6], [6, 8]), ([9], [9]), ([], []), ([4, 10, 11], [4, 10, 11]), ([12], [12]), ([13], [13]), ([13], [13]), ([], []), ([16, 0, 0, 1, 2, 3, 4, 5, 6, 7, 8, 9, 10, 11, 12, 13, 14], [0, 16]), ([17, 14, 12, 0, 1, 2, 3, 4, 5, 6, 7, 8, 9, 10, 11, 12, 13, 14], [14, 17]), ([15, 18, 0, 1, 2, 3, 4, 5, 6, 7, 8, 9, 10, 11, 12, 13, 14, 15, 16, 17, 18], [11, 15])])
def cmp.B8 : List Nat := [0, 0, 0, 6, 14, 0, 0, 32, 160, 480, 992, 0, 4094, 8190, 16382, 16382, 0, 98303, 229375, 524287]
theorem cmp.tab8 : rtab .any (opsOf Try.f45 8) = cmp.T8 := by kernel_rfl
theorem cmp.bits8 : zat cmp.T8.2 cmp.B8 = true := by kernel_rfl
theorem cmp_bad_l (w : World) (b c : Nat) (v u : Option Int) (hb : w.heap[b]? = some (.cells (zbb v) 124 (0, 0))) (h : v = none) :
  Calls Try.prog 45 #[.pointer (some ⟨b, 0, none⟩), .pointer (some ⟨c, 0, none⟩)] w fun e w' => e = .returned (cmpR v u) ∧ w = w' := by
 have h1 : w.cell? ⟨b, 76, none⟩ = some (.bool true) := (za hb 76).trans (by rw [zba v, h]; rfl)
 have HR := am_ (cmpR_none v u (.inl h))
 clear hb h
 go_enter Try.func45, Try.ntmps45
 go_wp2_with fail
 exact bodyPost_ret (v := .tuple #[.int .i64 0, .bool false]) (by simp [results, Try.results45, go_sem]) rfl ⟨by rw [HR.out], rfl⟩
theorem cmp_bad_r (w : World) (b c : Nat) (v u : Option Int) (hb : w.heap[b]? = some (.cells (zbb v) 124 (0, 0))) (hc : w.heap[c]? = some (.cells (zbb u) 124 (0, 0))) (hv : v.isNone = false) (h : u = none) :
  Calls Try.prog 45 #[.pointer (some ⟨b, 0, none⟩), .pointer (some ⟨c, 0, none⟩)] w fun e w' => e = .returned (cmpR v u) ∧ w = w' := by
 have h1 : w.cell? ⟨b, 76, none⟩ = some (.bool false) := (za hb 76).trans (by rw [zba v, hv])
 have h2 : w.cell? ⟨c, 76, none⟩ = some (.bool true) := (za hc 76).trans (by rw [zba u, h]; rfl)
 have HR := am_ (cmpR_none v u (.inr h))
 clear hb hc h hv
 go_enter Try.func45, Try.ntmps45
 go_wp2_with fail
 exact bodyPost_ret (v := .tuple #[.int .i64 0, .bool false]) (by simp [results, Try.results45, go_sem]) rfl ⟨by rw [HR.out], rfl⟩
set_option maxRecDepth 100000 in
set_option maxHeartbeats 2000000 in
theorem cmp_good (w : World) (b c : Nat) (x y : Int) (hx : accOk (some x)) (hy : accOk (some y)) (hb : w.heap[b]? = some (.cells (zbb (some x)) 124 (0, 0))) (hc : w.heap[c]? = some (.cells (zbb (some y)) 124 (0, 0))) :
  Calls Try.prog 45 #[.pointer (some ⟨b, 0, none⟩), .pointer (some ⟨c, 0, none⟩)] w fun e w' => e = .returned (.tuple #[.int .i64 (sgnI (x - y)), .bool true]) ∧ Below w.heap.size w w' := by
 obtain ⟨z0, z1⟩ := accOk_bounds hx hy
 have Z0 := am_ z0
 have Z1 := am_ z1
 have h1 : w.cell? ⟨b, 76, none⟩ = some (.bool false) := (za hb 76).trans (zba (some x))
 have h2 : w.cell? ⟨c, 76, none⟩ = some (.bool false) := (za hc 76).trans (zba (some y))
 have HB := am_ (show w.heap[b]? = some (.cells (zaJ (wds x) false) 124 (0, 0)) from hb)
 have HC := am_ (show w.heap[c]? = some (.cells (zaJ (wds y) false) 124 (0, 0)) from hc)
 clear hb hc hx hy z0 z1
 go_enter Try.func45, Try.ntmps45
 go_wp2_with (first
  | ((with_reducible refine zk (N := 25) rfl ?_); refine zZ rfl ?_; refine wpList_load_row rfl 124 _ rfl b rfl 124 _ (0, 0) _ HB.out Try.underlying124 rfl (info124a _ _ (zai x)) ?_; have T25 : True := trivial)
  | ((with_reducible refine zk (N := 6) rfl ?_); refine box_event rfl (N := 6) rfl (cs := zbb (some 0)) (t := 124) ?hr ?_; (case hr => kernel_rfl); intro g6 hg6 w6 hw6 hb6; have B6 := am_ hb6; have K6 := am_ hw6; have L6 := am_ (show w.heap.size ≤ g6 by omega); have N6 := am_ (show b ≠ g6 ∧ c ≠ g6 by have := zaa HB.out; have := zaa HC.out; omega); clear hg6 hw6 hb6)
  | ((with_reducible refine zr (t := 124) (p := 6) rfl ?_); refine zn rfl 124 rfl rfl g6 (zaJ (wds x) false) rfl rfl 124 _ K6.out (info124a _ _ (zai x)) (by rw [cellsW_size, zai, zaN]) (cellsW_one _ _) ?_; intro w7 hw7 hg7; have B7 := am_ (B6.out.grown hg7 B6.out.size (fun k hk => by cases hk; exact L6.out)); have K7 := am_ hw7; clear hw7 hg7)
  | fail)
 go_loopg [7, 8, 26] 76 (fun m v7 v8 v26 wr => ∃ k : Nat, v26 = .int .i64 k ∧ v7 = .int .u64 (cys x y k) ∧ Aside0 (m + k = 76) ∧ Aside0 (wr.heap[g6]? = some (.cells (zaJ (mixw (x - y) x k) false) 124 (0, 0))) ∧ Aside0 (Below w.heap.size w wr))
 case atStart => exact ⟨0, rfl, by rw [cys_zero], ⟨rfl⟩, ⟨by rw [mixw_zero]; exact K7.out⟩, B7⟩
 case round =>
  obtain ⟨k, rfl, rfl, hm, K8, B8⟩ := hrel
  by_cases hk : k < 76
  ·have hlt : decide ((k : Int) < 76) = true := by simp; omega
   have hk0 : (0 : Int) ≤ k := by omega
   have hlt7 : (k : Int) < 76 := by omega
   have HK := am_ hk
   clear hk
   have hw : ∀ w, (callFunc 67 #[.int .u64 (wd x k), .int .u64 (wd y k), .int .u64 (cys x y k)]).run Try.prog w = .ok (.value (.tuple #[.int .u64 (wd (x - y) k), .int .u64 (cys x y (k + 1))])) w := sub_word x y k
   have K9 := am_ (zi K8.out)
   have B9 := am_ (zR B8.out)
   clear K8 B8
   go_wp2_with fail
   have hcell : wr.drew.cell? ⟨g6, k, none⟩ = some (.int .u64 (wd x k)) := (za K9.out k).trans (cellsW_get _ _ _ _ (mixw_get _ _ _ HK.out))
   have hfro : wr.drew.frozen? ⟨g6, k, none⟩ = false := zd K9.out k
   have hcely : wr.drew.cell? ⟨c, k, none⟩ = some (.int .u64 (wd y k)) := (za ((B9.out.block c (zaa HC.out)).trans HC.out) k).trans (cellsW_get _ _ _ _ (wds_get y k HK.out))
   have hwr : IntKind.i64.wrap (k : Int) = k := by rw [zaA]; unfold wrap64; omega
   have htn : ((k : Int)).toNat = k := by omega
   refine zay (n := 20) (S := fun w' => w'.cell? ⟨g6, k, none⟩ = some (.int .u64 (wd x k)) ∧ w'.cell? ⟨c, k, none⟩ = some (.int .u64 (wd y k))) (ds := [18]) (bl_ 20 0) (by kernel_rfl) rfl rfl ⟨hcell, hcely⟩ (fun hHeld => ?_); refine zT cmp.tab8 cmp.bits8 (fun HT_ HW_ => ?_)
   generalize wr.drew = w9 at K9 B9 hcell hfro hcely hHeld ⊢
   refine pu_ HT_ 0 30 (bl_ 20 1) ?_
   refine pu_ HT_ 1 31 (bl_ 20 3) ?_
   refine pu_ HT_ 2 32 (bl_ 20 7) ?_
   refine pu_ HT_ 3 33 (bl_ 20 15) ?_
   refine pu_ HT_ 5 35 (bl_ 20 47) ?_
   refine pu_ HT_ 6 36 (bl_ 20 111) ?_
   refine pu_ HT_ 7 37 (bl_ 20 239) ?_
   refine pu_ HT_ 8 38 (bl_ 20 495) ?_
   refine pu_ HT_ 9 39 (bl_ 20 1007) ?_
   refine pu_ HT_ 11 41 (bl_ 20 3055) ?_
   refine pu_ HT_ 16 45 (bl_ 20 68591) ?_
   refine tk_ HT_ HW_ hHeld 4 34 (bl_ 20 68607) ?_
   refine tk_ HT_ HW_ hHeld 10 40 (bl_ 20 69631) ?_
   refine pu_ HT_ 12 42 (bl_ 20 73727) ?_
   refine pu_ HT_ 13 29 (bl_ 20 81919) ?_
   refine pu_ HT_ 14 43 (bl_ 20 98303) ?_
   refine pu_ HT_ 15 44 (bl_ 20 131071) ?_
   refine pu_ HT_ 17 46 (bl_ 20 262143) ?_
   refine last_ (i := 18) (N := none) (bl_ 20 524287) rfl rfl (one_of HT_.out (by kernel_rfl)) (by decide) (fun K hK => ?_)
   refine skip_ (w1 := ?_) (by rfl) rfl ?_ ?_; rotate_left; (focus (go_simp; first | done | rfl))
   refine hK.out _ _ ?_; clear hK K
   refine pu_ HT_ 19 7 (bl_ 20 1048575) ?_
   refine zaP (zao HT_.out (by kernel_rfl)) ?_
   clear hwr htn
   go_wp2_with fail
   go_roundg (gk - 1)
   case measure => have := hm.out; have := HK.out; omega
   case rel =>
    refine ⟨k + 1, by go_num, rfl, ⟨by have := hm.out; have := HK.out; omega⟩, ⟨?_⟩, ⟨zm B9.out L6.out⟩⟩
    have hs := zaD K9.out k (.int .u64 (wd (x - y) k))
    rw [cellsW_set _ _ _ _ (by rw [zbf]; exact HK.out), mixw_set _ _ _ HK.out] at hs
    exact hs
  ·have hlt : decide ((k : Int) < 76) = false := by simp; omega
   obtain rfl : k = 76 := by have := hm.out; omega
   clear hk
   have h76 := K8.out
   rw [mixw_all] at h76
   have H76 := am_ h76
   clear h76
   go_wp2_with fail
   refine (sign_calls wr g6 (x - y) Z0.out Z1.out H76.out).mono ?_
   rintro e w7 ⟨rfl, rfl⟩
   go_wp2_with fail
   refine bodyPost_ret (v := .tuple #[.int .i64 (sgnI (x - y)), .bool true]) (by simp [results, Try.results45, go_sem]) rfl ⟨rfl, B8.out⟩
theorem cmp_calls (w : World) (b c : Nat) (v u : Option Int) (hv : accOk v) (hu : accOk u) (hb : w.heap[b]? = some (.cells (zbb v) 124 (0, 0))) (hc : w.heap[c]? = some (.cells (zbb u) 124 (0, 0))) :
  Calls Try.prog 45 #[.pointer (some ⟨b, 0, none⟩), .pointer (some ⟨c, 0, none⟩)] w fun e w' => e = .returned (cmpR v u) ∧ Below w.heap.size w w' := by
 cases v with
 | none => exact (cmp_bad_l w b c none u hb rfl).mono (fun e w' h => ⟨h.1, by rw [← h.2]; exact Below.refl _ _⟩)
 | some x =>
  cases u with
  | none => exact (cmp_bad_r w b c (some x) none hb hc rfl rfl).mono (fun e w' h => ⟨h.1, by rw [← h.2]; exact Below.refl _ _⟩)
  | some y => exact cmp_good w b c x y hv hu hb hc
def flt (n : Int) : Nat := FloatKind.f64.nearest n
theorem flt_lt (n : Int) : flt n < 2 ^ 64 := Ieee.Format.write_lt Ieee.double (.number (n < 0) n.natAbs 0)
theorem flt_bits (n : Int) (h0 : n ≠ 0) (h1 : n.natAbs < 9007199254740992) : ∃ L : Nat, L ≤ 52 ∧ 2 ^ L ≤ n.natAbs ∧ n.natAbs < 2 ^ (L + 1) ∧
  flt n = (if n < 0 then 9223372036854775808 else 0) + ((L + 1022) * 4503599627370496 + n.natAbs * 2 ^ (52 - L)) := by
 have hm : n.natAbs ≠ 0 := by omega
 obtain ⟨L, hL⟩ : ∃ L, n.natAbs.log2 = L := ⟨_, rfl⟩
 have l0 : 2 ^ L ≤ n.natAbs := by rw [← hL]; exact Nat.log2_self_le hm
 have l1 : n.natAbs < 2 ^ (L + 1) := by rw [← hL]; exact Nat.lt_log2_self
 have l2 : L ≤ 52 := by
  rw [← hL]
  have := (Nat.log2_lt (k := 53) hm).2 h1
  omega
 refine ⟨L, l2, l0, l1, ?_⟩
 show Ieee.double.nearest (decide (n < 0)) n.natAbs 0 = _
 unfold Ieee.Format.nearest
 rw [if_neg hm]
 have e1 : Ieee.double.leastPlace = -1074 := by decide
 have e2 : max (0 + (n.natAbs.log2 : Int) - (Ieee.double.fractionBits : Nat)) (-1074) = (L : Int) - 52 := by
  rw [hL]
  show max (0 + (L : Int) - 52) (-1074) = _
  omega
 simp only [e1]
 simp only [e2]
 have e3 : (0 - ((L : Int) - 52)).toNat = 52 - L := by omega
 have e4 : ((L : Int) - 52 - 0).toNat = 0 := by omega
 have e5 : ((L : Int) - 52 - -1074).toNat = L + 1022 := by omega
 rw [e3, e4, e5]
 have e6 : Ieee.Toward.even.cut (decide (n < 0)) (n.natAbs <<< (52 - L)) 0 = n.natAbs * 2 ^ (52 - L) := by
  unfold Ieee.Toward.cut
  simp [Nat.shiftLeft_eq, Nat.mod_one]
 rw [e6]
 have hb : Ieee.double.binade = 4503599627370496 := by decide
 have hi : Ieee.double.infRung = 9218868437227405312 := by decide
 have hs : Ieee.double.signWeight = 9223372036854775808 := by decide
 have hk : n.natAbs * 2 ^ (52 - L) < 9007199254740992 := by
  have := Nat.mul_lt_mul_of_pos_right l1 (Nat.two_pow_pos (52 - L))
  rw [← Nat.pow_add, show L + 1 + (52 - L) = 53 by omega] at this
  simpa using this
 rw [hb, hi, Nat.min_eq_left (by omega)]
 unfold Ieee.Format.word
 rw [hs]
 by_cases hn : n < 0
 ·simp [hn]
 ·simp [hn]
theorem flt_num (n : Int) (h0 : n ≠ 0) (h1 : n.natAbs < 9007199254740992) : ∃ L : Nat, L ≤ 52 ∧ fnum (flt n) = some (decide (n < 0), n.natAbs * 2 ^ (52 - L), (L : Int) - 52) := by
 obtain ⟨L, l2, l0, l1, hf⟩ := flt_bits n h0 h1
 refine ⟨L, l2, ?_⟩
 have hk : n.natAbs * 2 ^ (52 - L) < 9007199254740992 := by
  have := Nat.mul_lt_mul_of_pos_right l1 (Nat.two_pow_pos (52 - L))
  rw [← Nat.pow_add, show L + 1 + (52 - L) = 53 by omega] at this
  simpa using this
 have hk0 : 4503599627370496 ≤ n.natAbs * 2 ^ (52 - L) := by
  have := Nat.mul_le_mul_right (2 ^ (52 - L)) l0
  rw [← Nat.pow_add, show L + (52 - L) = 52 by omega] at this
  simpa using this
 generalize n.natAbs * 2 ^ (52 - L) = q at *
 have e1 : flt n / 4503599627370496 % 2048 = L + 1023 := by
  rw [hf]; split <;> omega
 have e2 : flt n % 4503599627370496 = q - 4503599627370496 := by
  rw [hf]; split <;> omega
 have e3 : (flt n / 9223372036854775808 == 1) = decide (n < 0) := by
  rw [hf]
  by_cases hn : n < 0
  ·rw [if_pos hn, decide_eq_true hn, beq_iff_eq]; omega
  ·rw [if_neg hn, decide_eq_false hn, beq_eq_false_iff_ne]; omega
 unfold fnum
 rw [if_neg (by omega), if_neg (by omega), e1, e2, e3, Nat.sub_add_cancel hk0, show (((L + 1023 : Nat) : Int) - 1075) = (L : Int) - 52 by omega]
theorem flt_zero : flt 0 = 0 := by decide
theorem fnum_zero : fnum 0 = some (false, 0, -1074) := by decide
def powF (j : Nat) : Nat := 4503599627370496 * (j + 1023)
theorem powF_eq (j : Nat) : powF j = (j + 1023) * 4503599627370496 := by unfold powF; exact Nat.mul_comm _ _
theorem fnum_pow (j : Nat) (hj : j ≤ 1000) : fnum (powF j) = some (false, 4503599627370496, (j : Int) - 52) := by
 rw [powF_eq]
 unfold fnum
 rw [Nat.mul_div_cancel _ (by decide), if_neg (by omega), if_neg (by omega), Nat.mul_mod_left]
 rw [show ((j + 1023) * 4503599627370496 / 9223372036854775808 == 1) = false from by rw [beq_eq_false_iff_ne]; omega]
 rw [show (j + 1023) % 2048 = j + 1023 from Nat.mod_eq_of_lt (by omega), Nat.zero_add, show (((j + 1023 : Nat) : Int) - 1075) = (j : Int) - 52 by omega]
theorem normA_some (n : Int) (h0 : -2 ^ 4772 < n) (h1 : n < 2 ^ 4772) : normA n = some n := by
 unfold normA
 rw [if_pos (absI_hi h0 h1)]
theorem zaE (a b : Nat) : (2 : Int) ^ (a + b) = 2 ^ a * 2 ^ b := Int.pow_add 2 a b
theorem of_fnum {u : Nat} {s : Bool} {m : Nat} {e : Int} (h : fnum u = some (s, m, e)) : fo u = true ∧ fs u = s ∧ fm u = m ∧ fe u = e := by
 unfold fo fs fm fe
 rw [h]
 exact ⟨rfl, rfl, rfl, rfl⟩
theorem pow_parts (j : Nat) (hj : j ≤ 1000) : fo (powF j) = true ∧ fs (powF j) = false ∧ fm (powF j) = 4503599627370496 ∧ fe (powF j) = (j : Int) - 52 := of_fnum (fnum_pow j hj)
theorem zero_parts : fo 0 = true ∧ fs 0 = false ∧ fm 0 = 0 := ⟨(of_fnum fnum_zero).1, (of_fnum fnum_zero).2.1, (of_fnum fnum_zero).2.2.1⟩
theorem flt_parts (n : Int) (h0 : n ≠ 0) (hn : n.natAbs < 9007199254740992) : ∃ L : Nat, L ≤ 52 ∧ fo (flt n) = true ∧ fs (flt n) = decide (n < 0) ∧ fm (flt n) = n.natAbs * 2 ^ (52 - L) ∧ fe (flt n) = (L : Int) - 52 := by
 obtain ⟨L, hL, hf⟩ := flt_num n h0 hn
 exact ⟨L, hL, of_fnum hf⟩
/-- 2^(2212+n). -/
def P22 (n : Int) : Int := 2 ^ (n + 2212).toNat
theorem prod_key (m L j : Nat) (d : Int) (hL : L ≤ 52) (hj : j ≤ 64) (d0 : -64 ≤ d) (d1 : d ≤ 64) :
  ((m * 2 ^ (52 - L) : Nat) : Int) * ((4503599627370496 : Nat) : Int) * P22 ((L : Int) - 52 + ((j : Int) - 52) + d) = m * P22 ((j : Int) + d) := by
 unfold P22
 obtain ⟨e, he⟩ : ∃ e : Nat, ((L : Int) - 52 + ((j : Int) - 52) + d + 2212).toNat = e := ⟨_, rfl⟩
 have he2 : ((j : Int) + d + 2212).toNat = (52 - L) + 52 + e := by omega
 rw [he, he2, zaE, zaE, Int.natCast_mul, Int.natCast_pow, show (((4503599627370496 : Nat)) : Int) = 2 ^ 52 from by decide, show ((2 : Nat) : Int) = 2 from rfl]
 generalize (2 : Int) ^ (52 - L) = A
 generalize (2 : Int) ^ e = B
 generalize (2 : Int) ^ 52 = C
 rw [Int.mul_assoc _ A C, Int.mul_assoc _ (A * C) B]
theorem prodV_P (a : Int) (x y : Nat) (n : Int) (hx : fo x = true) (hy : fo y = true) (d0 : -64 ≤ n) (d1 : n ≤ 64) : prodV (some a) x y n =
  normA (if (fs x != fs y) = true then a - (fm x : Int) * fm y * P22 (fe x + fe y + n) else a + (fm x : Int) * fm y * P22 (fe x + fe y + n)) := by
 show (if (fo x && fo y && decide (-64 ≤ n) && decide (n ≤ 64)) = true then _ else _) = _
 rw [hx, hy, decide_eq_true d0, decide_eq_true d1]
 rfl
/-- What Prod adds: a whole number times a power of 2. -/
theorem prod_flt (a n d : Int) (j : Nat) (hn : n.natAbs < 9007199254740992) (hj : j ≤ 64) (d0 : -64 ≤ d) (d1 : d ≤ 64) :
  prodV (some a) (flt n) (powF j) d = normA (a + n * P22 ((j : Int) + d)) := by
 obtain ⟨p0, p1, p2, p3⟩ := pow_parts j (by omega)
 by_cases h0 : n = 0
 ·obtain ⟨q0, q1, q2⟩ := zero_parts
  rw [h0, flt_zero, prodV_P a _ _ d q0 p0 d0 d1, p1, q1, q2]
  rw [if_neg (show ¬ ((false != false) = true) by decide), Int.natCast_zero, Int.zero_mul, Int.zero_mul, Int.zero_mul]
 ·obtain ⟨L, hL, q0, q1, q2, q3⟩ := flt_parts n h0 hn
  rw [prodV_P a _ _ d q0 p0 d0 d1, p1, p2, p3, q1, q2, q3, prod_key _ L j d hL hj d0 d1]
  by_cases hn0 : n < 0
  ·rw [decide_eq_true hn0, if_pos (show (true != false) = true from rfl), show ((n.natAbs : Nat) : Int) = -n by omega, Int.neg_mul, Int.sub_neg]
  ·rw [decide_eq_false hn0, if_neg (show ¬ ((false != false) = true) by decide), show ((n.natAbs : Nat) : Int) = n by omega]
theorem oneF_pow : oneF = powF 0 := by decide
theorem f32_pow : 4751297606875873280 = powF 32 := by decide
theorem neg_flt : 13830554455654793216 = flt (-1) := by decide
end Go.Proofs.Ytlidbaejhmamjaa.AC
namespace Go.Proofs.Ytlidbaejhmamjaa.PB
open Go.RowKit YtlidbaejhmamjaaW.PrintWords YtlidbaejhmamjaaW.PrintLast YtlidbaejhmamjaaW.PrintMore
attribute [local go_sem] zak zam zaw zau zae zad zal zan   -- for this text's walks alone
def zy.l0 : Nat → List (S90) → Int → Int → List Int → List Int → Option (List Int × List Int)
 | 0, _, _, _, _, _ => none
 | k + 1, x13, x14, x15, x109000, x109001 => if x15 < x14 then (if 0 ≤ x15 then (if x15 < (x13.length : Int) then (if x15 < (x109000.length : Int) then (if x15 < (x109001.length : Int) then (zy.l0 k x13 x14 (wrap64 (x15 + 1)) (x109000.set (x15 : Int).toNat ((zt x13 x15).f0)) (x109001.set (x15 : Int).toNat ((zt x13 x15).f1))) else (none)) else (none)) else (none)) else (none)) else (some (x109000, x109001))
def zy.f (k : Nat) (l0 : List (S90)) : Option (List Int × List Int) := if 0 ≤ (l0.length : Int) then (if ((l0.length : Int) : Int).toNat ≤ 35184372088832 then (zy.l0 k l0 (l0.length : Int) 0 (List.replicate ((l0.length : Int) : Int).toNat 0) (List.replicate ((l0.length : Int) : Int).toNat 0)) else (none)) else (none)
def zy.T1 : Bool × List (List Nat × List Nat) := (true, [([], []), ([0], [0]), ([1, 1], [1]), ([], []), ([3], [3]), ([4, 4], [4]), ([2, 5], [2, 5]), ([], []), ([7, 6, 0, 1, 2, 3, 4, 5, 6, 7], [6, 7])])
def zy.B1 : List Nat := [0, 1, 3, 0, 8, 24, 63, 0, 255]
theorem zy.tab1 : rtab .any (opsOf Try.f37 1) = zy.T1 := by kernel_rfl
theorem zy.bits1 : zat zy.T1.2 zy.B1 = true := by kernel_rfl
def zy.T5 : Bool × List (List Nat × List Nat) := (true, [([], []), ([0], [0]), ([], []), ([], []), ([3], [3]), ([], []), ([], []), ([6], [6]), ([], []), ([8], [8]), ([1, 2, 0, 1, 2, 6, 7], [1, 2]), ([10, 7, 0, 1, 2, 6, 7], [7, 10]), ([4, 5, 0, 1, 2, 3, 4, 5, 6, 7, 8, 9, 10, 11], [4, 5]), ([12, 9, 11, 0, 1, 2, 3, 4, 5, 6, 7, 8, 9, 10, 11], [9, 12])])
def zy.B5 : List Nat := [0, 1, 0, 0, 8, 0, 0, 64, 0, 256, 199, 1223, 4095, 8191]
theorem zy.tab5 : rtab .any (opsOf Try.f37 5) = zy.T5 := by kernel_rfl
theorem zy.bits5 : zat zy.T5.2 zy.B5 = true := by kernel_rfl
set_option maxHeartbeats 8000000 in
set_option maxRecDepth 100000 in
theorem zy.calls (k : Nat) (A0 : Option Addr) (c0 : Nat) (l0 : List (S90)) (r1 : List Int) (r2 : List Int) (w : World) (hr0 : Kd.C k90 w A0 l0.length l0) (hc0 : l0.length ≤ c0) (h : zy.f k l0 = some (r1, r2)) :
  Calls Try.prog 37 #[.slice A0 l0.length c0] w fun e w' => ∃ v0_ v1_ : Value, e = .returned (.agg #[v0_, v1_]) ∧ Kd.R (Kd.int .i64) 3 w' w.heap.size (fun k_ => some k_ ≠ (v1_ : Value).ownBlock) v0_ r1 ∧ Kd.R (Kd.int .i64) 3 w' w.heap.size (fun k_ => some k_ ≠ (v0_ : Value).ownBlock) v1_ r2 ∧ Below w.heap.size w w' := by
 have hu24 := Try.underlying24
 have hu90 := Try.underlying90
 have HR0 := am_ hr0
 have HC0 := am_ hc0
 clear hr0 hc0
 have HB := am_ (Below.refl w.heap.size w)
 have H : (if 0 ≤ (l0.length : Int) then (if ((l0.length : Int) : Int).toNat ≤ 35184372088832 then (zy.l0 k l0 (l0.length : Int) 0 (List.replicate ((l0.length : Int) : Int).toNat 0) (List.replicate ((l0.length : Int) : Int).toNat 0)) else (none)) else (none)) = some (r1, r2) := h
 clear h
 by_cases c2 : 0 ≤ (l0.length : Int)
 ·rw [if_pos c2] at H
  have c2b0 := eq_true c2
  have c2b1 : decide (0 ≤ (l0.length : Int)) = true := decide_eq_true c2
  clear c2
  by_cases c3 : ((l0.length : Int) : Int).toNat ≤ 35184372088832
  ·rw [if_pos c3] at H
   have c3b0 := eq_true c3
   have c3b1 : decide (((l0.length : Int) : Int).toNat ≤ 35184372088832) = true := decide_eq_true c3
   clear c3
   obtain ⟨y102, hy102⟩ : ∃ y_ : List Int, y_ = (List.replicate ((l0.length : Int) : Int).toNat 0) := ⟨_, rfl⟩
   replace H : (zy.l0 k l0 (l0.length : Int) 0 y102 (List.replicate ((l0.length : Int) : Int).toNat 0)) = some (r1, r2) := by first | (rw [hy102]; with_reducible exact H) | (have H2_ := (Option.bind_some _ _).symm.trans H; rw [hy102]; with_reducible exact H2_) | (have H2_ := (Option.bind_some _ _).symm.trans H; with_reducible exact H2_) | with_reducible exact H | (rw [hy102]; exact H) | exact H
   have Ny102 := am_ hy102
   clear hy102
   obtain ⟨y105, hy105⟩ : ∃ y_ : List Int, y_ = (List.replicate ((l0.length : Int) : Int).toNat 0) := ⟨_, rfl⟩
   replace H : (zy.l0 k l0 (l0.length : Int) 0 y102 y105) = some (r1, r2) := by first | (rw [hy105]; with_reducible exact H) | (have H2_ := (Option.bind_some _ _).symm.trans H; rw [hy105]; with_reducible exact H2_) | (have H2_ := (Option.bind_some _ _).symm.trans H; with_reducible exact H2_) | with_reducible exact H | (rw [hy105]; exact H) | exact H
   have Ny105 := am_ hy105
   clear hy105
   have H' := am_ H
   clear H
   go_enter Try.func37, Try.ntmps37
   try go_wp2_with (first | ((with_reducible refine zk (N := 2) rfl ?_); refine zaq 2 (cs := #[.slice none 0 0, .slice none 0 0]) (t := 24) ?_; intro gb101 hg w4 hbox hb; have BK101 := am_ (hbox); have GW101 := am_ ((by rw [hg]; exact (zo bw_) : w.heap.size ≤ gb101)); replace HB := am_ (zb bw_ hb); have GE101 := GW101; clear hb hbox hg))
   have n0_ := am_ (zi BK101.out)
   have n1_ := am_ (zl HB.out)
   clear BK101
   clear HB
   have BK101 := n0_
   have HB := n1_
   clear n0_ n1_
   refine zay (n := 9) (S := fun w' => True) (ds := []) (bl_ 9 0) (by kernel_rfl) rfl rfl trivial (fun hHeld => ?_); refine zT zy.tab1 zy.bits1 (fun HT_ HW_ => ?_)
   generalize w4.drew = w5 at BK101 HB hHeld ⊢
   refine pu_ HT_ 0 6 (bl_ 9 1) ?_
   refine pu_ HT_ 1 7 (bl_ 9 3) ?_
   refine pu_ HT_ 3 9 (bl_ 9 11) ?_
   refine pu_ HT_ 4 10 (bl_ 9 27) ?_
   refine join_ (σ := Value × Value × Nat) 1 (bl_ 9 255) (fun s_ => [(8, s_.1), (11, s_.2.1), (3, .pointer (some ⟨s_.2.2, 0, none⟩)), (12, .agg #[s_.1, s_.2.1])]) (fun s_ w' => (Kd.R (Kd.int .i64) 3 w' w.heap.size (fun k_ => some k_ ≠ (s_.2.1 : Value).ownBlock) s_.1 y102) ∧ (Kd.R (Kd.int .i64) 3 w' w.heap.size (fun k_ => some k_ ≠ (s_.1 : Value).ownBlock) s_.2.1 y105) ∧ (w'.heap[gb101]? = some (.cells #[.slice none 0 0, .slice none 0 0] 24 (0, 0))) ∧ (w'.heap[s_.2.2]? = some (.cells #[.slice none 0 0, .slice none 0 0] 24 (0, 0))) ∧ (w.heap.size ≤ s_.2.2) ∧ (w.heap.size ≤ s_.2.2) ∧ (gb101 ≠ s_.2.2) ∧ (s_.2.2 ≠ gb101) ∧ (Below w.heap.size w w')) ?_ ?_
   rotate_left
   ·intro hJ2_5_7
    refine join_ (σ := Value × Value) 2 (bl_ 9 127) (fun s_ => [(8, s_.1), (11, s_.2), (12, .agg #[s_.1, s_.2])]) (fun s_ w' => (Kd.R (Kd.int .i64) 3 w' w.heap.size (fun k_ => some k_ ≠ (s_.2 : Value).ownBlock) s_.1 y102) ∧ (Kd.R (Kd.int .i64) 3 w' w.heap.size (fun k_ => some k_ ≠ (s_.1 : Value).ownBlock) s_.2 y105) ∧ (w'.heap[gb101]? = some (.cells #[.slice none 0 0, .slice none 0 0] 24 (0, 0))) ∧ (Below w.heap.size w w')) ?_ ?_
    rotate_left
    ·intro hJ2_5
     refine join_ (σ := Value × Nat) 3 (bl_ 9 159) (fun s_ => [(8, s_.1), (3, .pointer (some ⟨s_.2, 0, none⟩))]) (fun s_ w' => (Kd.R (Kd.int .i64) 3 w' w.heap.size (fun _ => True) s_.1 y102) ∧ (w'.heap[gb101]? = some (.cells #[.slice none 0 0, .slice none 0 0] 24 (0, 0))) ∧ (w'.heap[s_.2]? = some (.cells #[.slice none 0 0, .slice none 0 0] 24 (0, 0))) ∧ (w.heap.size ≤ s_.2) ∧ (w.heap.size ≤ s_.2) ∧ (gb101 ≠ s_.2) ∧ (s_.2 ≠ gb101) ∧ (Below w.heap.size w w')) ?_ ?_
     rotate_left
     ·intro hJ2_7
      refine join_ (σ := Value × Nat) 3 (bl_ 9 187) (fun s_ => [(11, s_.1), (3, .pointer (some ⟨s_.2, 0, none⟩))]) (fun s_ w' => (Kd.R (Kd.int .i64) 3 w' w.heap.size (fun _ => True) s_.1 y105) ∧ (w'.heap[gb101]? = some (.cells #[.slice none 0 0, .slice none 0 0] 24 (0, 0))) ∧ (w'.heap[s_.2]? = some (.cells #[.slice none 0 0, .slice none 0 0] 24 (0, 0))) ∧ (w.heap.size ≤ s_.2) ∧ (w.heap.size ≤ s_.2) ∧ (gb101 ≠ s_.2) ∧ (s_.2 ≠ gb101) ∧ (Below w.heap.size w w')) ?_ ?_
      rotate_left
      ·intro hJ5_7
       refine join_ (σ := Value) 4 (bl_ 9 31) (fun s_ => [(8, s_)]) (fun s_ w' => (Kd.R (Kd.int .i64) 3 w' w.heap.size (fun _ => True) s_ y102) ∧ (w'.heap[gb101]? = some (.cells #[.slice none 0 0, .slice none 0 0] 24 (0, 0))) ∧ (Below w.heap.size w w')) ?_ ?_
       rotate_left
       ·intro hJ2
        refine join_ (σ := Value) 4 (bl_ 9 59) (fun s_ => [(11, s_)]) (fun s_ w' => (Kd.R (Kd.int .i64) 3 w' w.heap.size (fun _ => True) s_ y105) ∧ (w'.heap[gb101]? = some (.cells #[.slice none 0 0, .slice none 0 0] 24 (0, 0))) ∧ (Below w.heap.size w w')) ?_ ?_
        rotate_left
        ·intro hJ5
         refine join_ (σ := Nat) 4 (bl_ 9 155) (fun s_ => [(3, .pointer (some ⟨s_, 0, none⟩))]) (fun s_ w' => (w'.heap[gb101]? = some (.cells #[.slice none 0 0, .slice none 0 0] 24 (0, 0))) ∧ (w'.heap[s_]? = some (.cells #[.slice none 0 0, .slice none 0 0] 24 (0, 0))) ∧ (w.heap.size ≤ s_) ∧ (w.heap.size ≤ s_) ∧ (gb101 ≠ s_) ∧ (s_ ≠ gb101) ∧ (Below w.heap.size w w')) ?_ ?_
         rotate_left
         ·intro hJ7
          refine three_ (i := 2) (j := 5) (k := 7) (Ni := some 8) (Nj := some 11) (Nk := some 3) (bl_ 9 31) (bl_ 9 59) (bl_ 9 155) rfl rfl rfl rfl rfl rfl (three_of HT_.out (by kernel_rfl)) (by decide) (by decide) (by decide) (fun K hK => ?_) (fun K hK => ?_) (fun K hK => ?_)
          ·skip
           refine Kd.za3 (Kd.int .i64) _ 3 (by rfl) (N := 8) rfl 22 _ _ rfl (l0.length : Int) rfl rfl Try.underlying22 (.int .i64 0) 8 info3 rfl (by decide) (by omega) 0 (ok := fun _ => True) (okp := fun _ => True) rfl (fun _ hk => hk) trivial (of_decide_eq_true (by first | (with_reducible assumption) | assumption)) (Nat.le_trans (Nat.mul_le_mul_right _ (of_decide_eq_true (by first | (with_reducible assumption) | assumption) : (l0.length : Int).toNat ≤ 35184372088832)) (by omega)) (Below.refl _ _) (Nat.le_refl _) ?_
           intro v103 w6 ho7 hb hg_ hnew_
           clear hg_ hnew_
           (first | rw [← Ny102.out] at ho7 | (simp only [Int.reduceToNat] at ho7; rw [← Ny102.out] at ho7))
           have n0_ := am_ (Kd.zag ho7 (zo bw_))
           have n1_ := am_ (fr_ BK101.out hb)
           have n2_ := am_ (zb bw_ hb)
           clear BK101
           clear HB
           have HO104 := n0_
           have BK101 := n1_
           have HB := n2_
           clear n0_ n1_ n2_
           clear hb ho7
           refine hK.out _ _ trivial (fun hHeld => ?_)
           clear hK K
           refine norm_ (a' := ?_) ?_ ?_
           rotate_left
           ·show Act.put _ (some 8) _ = _
            simp only [Act.put, sI_, s0_, s1_, zaA, zaR]
            rfl
           exact np_ (hJ2 (v103) _ ⟨(pk_ HO104.out), (pe_ BK101.out), bw_⟩)
          ·skip
           refine Kd.za3 (Kd.int .i64) _ 3 (by rfl) (N := 11) rfl 22 _ _ rfl (l0.length : Int) rfl rfl Try.underlying22 (.int .i64 0) 8 info3 rfl (by decide) (by omega) 0 (ok := fun _ => True) (okp := fun _ => True) rfl (fun _ hk => hk) trivial (of_decide_eq_true (by first | (with_reducible assumption) | assumption)) (Nat.le_trans (Nat.mul_le_mul_right _ (of_decide_eq_true (by first | (with_reducible assumption) | assumption) : (l0.length : Int).toNat ≤ 35184372088832)) (by omega)) (Below.refl _ _) (Nat.le_refl _) ?_
           intro v106 w6 ho7 hb hg_ hnew_
           clear hg_ hnew_
           (first | rw [← Ny105.out] at ho7 | (simp only [Int.reduceToNat] at ho7; rw [← Ny105.out] at ho7))
           have n0_ := am_ (Kd.zag ho7 (zo bw_))
           have n1_ := am_ (fr_ BK101.out hb)
           have n2_ := am_ (zb bw_ hb)
           clear BK101
           clear HB
           have HO107 := n0_
           have BK101 := n1_
           have HB := n2_
           clear n0_ n1_ n2_
           clear hb ho7
           refine hK.out _ _ trivial (fun hHeld => ?_)
           clear hK K
           refine norm_ (a' := ?_) ?_ ?_
           rotate_left
           ·show Act.put _ (some 11) _ = _
            simp only [Act.put, sI_, s0_, s1_, zaA, zaR]
            rfl
           exact np_ (hJ5 (v106) _ ⟨(pk_ HO107.out), (pe_ BK101.out), bw_⟩)
          ·skip
           refine box_step ?hg (N := 3) ?hd (cs := #[.slice none 0 0, .slice none 0 0]) (t := 24) ?hr ?_; (case hd => rfl); (case hg => rfl); (case hr => first | (go_simp; done) | (go_simp; rfl))
           intro gb108 hg w6 hbox hb
           have n0_ := am_ (fr_ BK101.out hb)
           have n1_ := am_ (zb bw_ hb)
           have n2_ := am_ (hbox)
           have n3_ := am_ ((by rw [hg]; exact (zo bw_) : w.heap.size ≤ gb108))
           have n4_ := am_ ((by rw [hg]; exact (zo bw_) : w.heap.size ≤ gb108))
           have n5_ := am_ ((by rw [hg]; exact Nat.ne_of_lt (fl_ BK101.out) : gb101 ≠ gb108))
           have n6_ := am_ ((by rw [hg]; exact Nat.ne_of_gt (fl_ BK101.out) : gb108 ≠ gb101))
           clear BK101
           clear HB
           have BK101 := n0_
           have HB := n1_
           have BK108 := n2_
           have GW108 := n3_
           have GE108 := n4_
           have NB101_108 := n5_
           have NB108_101 := n6_
           clear n0_ n1_ n2_ n3_ n4_ n5_ n6_
           clear hb hbox hg
           refine hK.out _ _ trivial (fun hHeld => ?_)
           clear hK K
           refine norm_ (a' := ?_) ?_ ?_
           rotate_left
           ·show Act.put _ (some 3) _ = _
            simp only [Act.put, sI_, s0_, s1_, zaA, zaR]
            rfl
           exact np_ (hJ7 (gb108) _ ⟨(pe_ BK101.out), (pe_ BK108.out), GW108.out, GE108.out, NB101_108.out, NB108_101.out, bw_⟩)
         ·skip
          rintro gb108 w7 ⟨h0_, h1_, h2_, h3_, h4_, h5_, h6_⟩
          have n0_ : Aside0 (w7.heap[gb101]? = some (.cells #[.slice none 0 0, .slice none 0 0] 24 (0, 0))) := ⟨h0_⟩
          have n1_ : Aside0 (w7.heap[gb108]? = some (.cells #[.slice none 0 0, .slice none 0 0] 24 (0, 0))) := ⟨h1_⟩
          have n2_ : Aside0 (w.heap.size ≤ gb108) := ⟨h2_⟩
          have n3_ : Aside0 (w.heap.size ≤ gb108) := ⟨h3_⟩
          have n4_ : Aside0 (gb101 ≠ gb108) := ⟨h4_⟩
          have n5_ : Aside0 (gb108 ≠ gb101) := ⟨h5_⟩
          have n6_ : Aside0 (Below w.heap.size w w7) := ⟨h6_⟩
          clear BK101
          clear HB
          clear h0_ h1_ h2_ h3_ h4_ h5_ h6_
          have BK101 := n0_
          have BK108 := n1_
          have GW108 := n2_
          have GE108 := n3_
          have NB101_108 := n4_
          have NB108_101 := n5_
          have HB := n6_
          clear n0_ n1_ n2_ n3_ n4_ n5_ n6_
          have hHeld := trivial
          refine norm_ (a' := ?_) ?_ ?_
          rotate_left
          ·simp only [putAll, Act.put, sI_, s0_, s1_]
           rfl
          refine two_ (i := 2) (j := 5) (Ni := some 8) (Nj := some 11) (bl_ 9 159) (bl_ 9 187) rfl rfl rfl rfl (two_of HT_.out (by kernel_rfl)) (by decide) (by decide) (fun K hK => ?_) (fun K hK => ?_)
          ·skip
           refine Kd.za3 (Kd.int .i64) _ 3 (by rfl) (N := 8) rfl 22 _ _ rfl (l0.length : Int) rfl rfl Try.underlying22 (.int .i64 0) 8 info3 rfl (by decide) (by omega) 0 (ok := fun _ => True) (okp := fun _ => True) rfl (fun _ hk => hk) trivial (of_decide_eq_true (by first | (with_reducible assumption) | assumption)) (Nat.le_trans (Nat.mul_le_mul_right _ (of_decide_eq_true (by first | (with_reducible assumption) | assumption) : (l0.length : Int).toNat ≤ 35184372088832)) (by omega)) (Below.refl _ _) (Nat.le_refl _) ?_
           intro v103 w8 ho9 hb hg_ hnew_
           clear hg_ hnew_
           (first | rw [← Ny102.out] at ho9 | (simp only [Int.reduceToNat] at ho9; rw [← Ny102.out] at ho9))
           have n0_ := am_ (Kd.zag ho9 (zo bw_))
           have n1_ := am_ (fr_ BK101.out hb)
           have n2_ := am_ (fr_ BK108.out hb)
           have n3_ := am_ (zb bw_ hb)
           clear BK101
           clear BK108
           clear HB
           have HO104 := n0_
           have BK101 := n1_
           have BK108 := n2_
           have HB := n3_
           clear n0_ n1_ n2_ n3_
           clear hb ho9
           refine hK.out _ _ trivial (fun hHeld => ?_)
           clear hK K
           refine norm_ (a' := ?_) ?_ ?_
           rotate_left
           ·show Act.put _ (some 8) _ = _
            simp only [Act.put, sI_, s0_, s1_, zaA, zaR]
            rfl
           exact np_ (hJ2_7 (v103, gb108) _ ⟨(pk_ HO104.out), (pe_ BK101.out), (pe_ BK108.out), GW108.out, GE108.out, NB101_108.out, NB108_101.out, bw_⟩)
          ·skip
           refine Kd.za3 (Kd.int .i64) _ 3 (by rfl) (N := 11) rfl 22 _ _ rfl (l0.length : Int) rfl rfl Try.underlying22 (.int .i64 0) 8 info3 rfl (by decide) (by omega) 0 (ok := fun _ => True) (okp := fun _ => True) rfl (fun _ hk => hk) trivial (of_decide_eq_true (by first | (with_reducible assumption) | assumption)) (Nat.le_trans (Nat.mul_le_mul_right _ (of_decide_eq_true (by first | (with_reducible assumption) | assumption) : (l0.length : Int).toNat ≤ 35184372088832)) (by omega)) (Below.refl _ _) (Nat.le_refl _) ?_
           intro v106 w8 ho9 hb hg_ hnew_
           clear hg_ hnew_
           (first | rw [← Ny105.out] at ho9 | (simp only [Int.reduceToNat] at ho9; rw [← Ny105.out] at ho9))
           have n0_ := am_ (Kd.zag ho9 (zo bw_))
           have n1_ := am_ (fr_ BK101.out hb)
           have n2_ := am_ (fr_ BK108.out hb)
           have n3_ := am_ (zb bw_ hb)
           clear BK101
           clear BK108
           clear HB
           have HO107 := n0_
           have BK101 := n1_
           have BK108 := n2_
           have HB := n3_
           clear n0_ n1_ n2_ n3_
           clear hb ho9
           refine hK.out _ _ trivial (fun hHeld => ?_)
           clear hK K
           refine norm_ (a' := ?_) ?_ ?_
           rotate_left
           ·show Act.put _ (some 11) _ = _
            simp only [Act.put, sI_, s0_, s1_, zaA, zaR]
            rfl
           exact np_ (hJ5_7 (v106, gb108) _ ⟨(pk_ HO107.out), (pe_ BK101.out), (pe_ BK108.out), GW108.out, GE108.out, NB101_108.out, NB108_101.out, bw_⟩)
        ·skip
         rintro v106 w8 ⟨h0_, h1_, h2_⟩
         have n0_ : Aside0 (Kd.R (Kd.int .i64) 3 w8 w.heap.size (fun _ => True) v106 y105) := ⟨h0_⟩
         have n1_ : Aside0 (w8.heap[gb101]? = some (.cells #[.slice none 0 0, .slice none 0 0] 24 (0, 0))) := ⟨h1_⟩
         have n2_ : Aside0 (Below w.heap.size w w8) := ⟨h2_⟩
         clear BK101
         clear HB
         clear h0_ h1_ h2_
         have HO107 := n0_
         have BK101 := n1_
         have HB := n2_
         clear n0_ n1_ n2_
         have hHeld := trivial
         refine norm_ (a' := ?_) ?_ ?_
         rotate_left
         ·simp only [putAll, Act.put, sI_, s0_, s1_]
          rfl
         refine two_ (i := 2) (j := 7) (Ni := some 8) (Nj := some 3) (bl_ 9 63) (bl_ 9 187) rfl rfl rfl rfl (two_of HT_.out (by kernel_rfl)) (by decide) (by decide) (fun K hK => ?_) (fun K hK => ?_)
         ·skip
          refine Kd.za3 (Kd.int .i64) _ 3 (by rfl) (N := 8) rfl 22 _ _ rfl (l0.length : Int) rfl rfl Try.underlying22 (.int .i64 0) 8 info3 rfl (by decide) (by omega) 0 (ok := fun _ => True) (okp := fun _ => True) rfl (fun _ hk => hk) trivial (of_decide_eq_true (by first | (with_reducible assumption) | assumption)) (Nat.le_trans (Nat.mul_le_mul_right _ (of_decide_eq_true (by first | (with_reducible assumption) | assumption) : (l0.length : Int).toNat ≤ 35184372088832)) (by omega)) (Below.refl _ _) (Nat.le_refl _) ?_
          intro v103 w9 ho10 hb hg_ hnew_
          clear hg_ hnew_
          (first | rw [← Ny102.out] at ho10 | (simp only [Int.reduceToNat] at ho10; rw [← Ny102.out] at ho10))
          have n0_ := am_ (Kd.R_elder' (pk_ HO107.out) (Kd.R_base ho10) hb)
          have n1_ := am_ (Kd.zag (Kd.R_new' ho10 (Kd.R_lt (pk_ HO107.out))) (zo bw_))
          have n2_ := am_ (fr_ BK101.out hb)
          have n3_ := am_ (zb bw_ hb)
          clear HO107
          clear BK101
          clear HB
          have HO107 := n0_
          have HO104 := n1_
          have BK101 := n2_
          have HB := n3_
          clear n0_ n1_ n2_ n3_
          clear hb ho10
          obtain ⟨Ao11, co11, eo11⟩ := Kd.zY HO107.out
          (first | subst eo11 | (injection eo11 with f1_ f2_ f3_; have f4_ := f1_.symm; have f5_ := f3_.symm; clear f1_ f2_ f3_; subst f4_; subst f5_))
          obtain ⟨Ao12, co12, eo12⟩ := Kd.zY HO104.out
          (first | subst eo12 | (injection eo12 with f1_ f2_ f3_; have f4_ := f1_.symm; have f5_ := f3_.symm; clear f1_ f2_ f3_; subst f4_; subst f5_))
          refine hK.out _ _ trivial (fun hHeld => ?_)
          clear hK K
          refine norm_ (a' := ?_) ?_ ?_
          rotate_left
          ·show Act.put _ (some 8) _ = _
           simp only [Act.put, sI_, s0_, s1_, zaA, zaR]
           rfl
          refine pu_ HT_ 6 12 (bl_ 9 127) ?_
          exact np_ (hJ2_5 (.slice Ao12 y102.length co12, .slice Ao11 y105.length co11) _ ⟨(by (with_reducible repeat (first | apply Kd.zL | apply Kd.zH | apply Kd.zP)); exact Kd.zS HO104.out (fun _ hk => hk.2)), (by (with_reducible repeat (first | apply Kd.zL | apply Kd.zH | apply Kd.zP)); exact Kd.zS HO107.out (fun _ hk => hk.2)), (pe_ BK101.out), bw_⟩)
         ·skip
          refine box_step ?hg (N := 3) ?hd (cs := #[.slice none 0 0, .slice none 0 0]) (t := 24) ?hr ?_; (case hd => rfl); (case hg => rfl); (case hr => first | (go_simp; done) | (go_simp; rfl))
          intro gb108 hg w9 hbox hb
          have n0_ := am_ (Kd.zI (pk_ HO107.out) hb)
          have n1_ := am_ (fr_ BK101.out hb)
          have n2_ := am_ (zb bw_ hb)
          have n3_ := am_ (hbox)
          have n4_ := am_ ((by rw [hg]; exact (zo bw_) : w.heap.size ≤ gb108))
          have n5_ := am_ ((by rw [hg]; exact (zo bw_) : w.heap.size ≤ gb108))
          have n6_ := am_ ((by rw [hg]; exact Nat.ne_of_lt (fl_ BK101.out) : gb101 ≠ gb108))
          have n7_ := am_ ((by rw [hg]; exact Nat.ne_of_gt (fl_ BK101.out) : gb108 ≠ gb101))
          clear HO107
          clear BK101
          clear HB
          have HO107 := n0_
          have BK101 := n1_
          have HB := n2_
          have BK108 := n3_
          have GW108 := n4_
          have GE108 := n5_
          have NB101_108 := n6_
          have NB108_101 := n7_
          clear n0_ n1_ n2_ n3_ n4_ n5_ n6_ n7_
          clear hb hbox hg
          refine hK.out _ _ trivial (fun hHeld => ?_)
          clear hK K
          refine norm_ (a' := ?_) ?_ ?_
          rotate_left
          ·show Act.put _ (some 3) _ = _
           simp only [Act.put, sI_, s0_, s1_, zaA, zaR]
           rfl
          exact np_ (hJ5_7 (v106, gb108) _ ⟨(pk_ HO107.out), (pe_ BK101.out), (pe_ BK108.out), GW108.out, GE108.out, NB101_108.out, NB108_101.out, bw_⟩)
       ·skip
        rintro v103 w8 ⟨h0_, h1_, h2_⟩
        have n0_ : Aside0 (Kd.R (Kd.int .i64) 3 w8 w.heap.size (fun _ => True) v103 y102) := ⟨h0_⟩
        have n1_ : Aside0 (w8.heap[gb101]? = some (.cells #[.slice none 0 0, .slice none 0 0] 24 (0, 0))) := ⟨h1_⟩
        have n2_ : Aside0 (Below w.heap.size w w8) := ⟨h2_⟩
        clear BK101
        clear HB
        clear h0_ h1_ h2_
        have HO104 := n0_
        have BK101 := n1_
        have HB := n2_
        clear n0_ n1_ n2_
        have hHeld := trivial
        refine norm_ (a' := ?_) ?_ ?_
        rotate_left
        ·simp only [putAll, Act.put, sI_, s0_, s1_]
         rfl
        refine two_ (i := 5) (j := 7) (Ni := some 11) (Nj := some 3) (bl_ 9 63) (bl_ 9 159) rfl rfl rfl rfl (two_of HT_.out (by kernel_rfl)) (by decide) (by decide) (fun K hK => ?_) (fun K hK => ?_)
        ·skip
         refine Kd.za3 (Kd.int .i64) _ 3 (by rfl) (N := 11) rfl 22 _ _ rfl (l0.length : Int) rfl rfl Try.underlying22 (.int .i64 0) 8 info3 rfl (by decide) (by omega) 0 (ok := fun _ => True) (okp := fun _ => True) rfl (fun _ hk => hk) trivial (of_decide_eq_true (by first | (with_reducible assumption) | assumption)) (Nat.le_trans (Nat.mul_le_mul_right _ (of_decide_eq_true (by first | (with_reducible assumption) | assumption) : (l0.length : Int).toNat ≤ 35184372088832)) (by omega)) (Below.refl _ _) (Nat.le_refl _) ?_
         intro v106 w9 ho10 hb hg_ hnew_
         clear hg_ hnew_
         (first | rw [← Ny105.out] at ho10 | (simp only [Int.reduceToNat] at ho10; rw [← Ny105.out] at ho10))
         have n0_ := am_ (Kd.R_elder' (pk_ HO104.out) (Kd.R_base ho10) hb)
         have n1_ := am_ (Kd.zag (Kd.R_new' ho10 (Kd.R_lt (pk_ HO104.out))) (zo bw_))
         have n2_ := am_ (fr_ BK101.out hb)
         have n3_ := am_ (zb bw_ hb)
         clear HO104
         clear BK101
         clear HB
         have HO104 := n0_
         have HO107 := n1_
         have BK101 := n2_
         have HB := n3_
         clear n0_ n1_ n2_ n3_
         clear hb ho10
         obtain ⟨Ao11, co11, eo11⟩ := Kd.zY HO107.out
         (first | subst eo11 | (injection eo11 with f1_ f2_ f3_; have f4_ := f1_.symm; have f5_ := f3_.symm; clear f1_ f2_ f3_; subst f4_; subst f5_))
         obtain ⟨Ao12, co12, eo12⟩ := Kd.zY HO104.out
         (first | subst eo12 | (injection eo12 with f1_ f2_ f3_; have f4_ := f1_.symm; have f5_ := f3_.symm; clear f1_ f2_ f3_; subst f4_; subst f5_))
         refine hK.out _ _ trivial (fun hHeld => ?_)
         clear hK K
         refine norm_ (a' := ?_) ?_ ?_
         rotate_left
         ·show Act.put _ (some 11) _ = _
          simp only [Act.put, sI_, s0_, s1_, zaA, zaR]
          rfl
         refine pu_ HT_ 6 12 (bl_ 9 127) ?_
         exact np_ (hJ2_5 (.slice Ao12 y102.length co12, .slice Ao11 y105.length co11) _ ⟨(by (with_reducible repeat (first | apply Kd.zL | apply Kd.zH | apply Kd.zP)); exact Kd.zS HO104.out (fun _ hk => hk.2)), (by (with_reducible repeat (first | apply Kd.zL | apply Kd.zH | apply Kd.zP)); exact Kd.zS HO107.out (fun _ hk => hk.2)), (pe_ BK101.out), bw_⟩)
        ·skip
         refine box_step ?hg (N := 3) ?hd (cs := #[.slice none 0 0, .slice none 0 0]) (t := 24) ?hr ?_; (case hd => rfl); (case hg => rfl); (case hr => first | (go_simp; done) | (go_simp; rfl))
         intro gb108 hg w9 hbox hb
         have n0_ := am_ (Kd.zI (pk_ HO104.out) hb)
         have n1_ := am_ (fr_ BK101.out hb)
         have n2_ := am_ (zb bw_ hb)
         have n3_ := am_ (hbox)
         have n4_ := am_ ((by rw [hg]; exact (zo bw_) : w.heap.size ≤ gb108))
         have n5_ := am_ ((by rw [hg]; exact (zo bw_) : w.heap.size ≤ gb108))
         have n6_ := am_ ((by rw [hg]; exact Nat.ne_of_lt (fl_ BK101.out) : gb101 ≠ gb108))
         have n7_ := am_ ((by rw [hg]; exact Nat.ne_of_gt (fl_ BK101.out) : gb108 ≠ gb101))
         clear HO104
         clear BK101
         clear HB
         have HO104 := n0_
         have BK101 := n1_
         have HB := n2_
         have BK108 := n3_
         have GW108 := n4_
         have GE108 := n5_
         have NB101_108 := n6_
         have NB108_101 := n7_
         clear n0_ n1_ n2_ n3_ n4_ n5_ n6_ n7_
         clear hb hbox hg
         refine hK.out _ _ trivial (fun hHeld => ?_)
         clear hK K
         refine norm_ (a' := ?_) ?_ ?_
         rotate_left
         ·show Act.put _ (some 3) _ = _
          simp only [Act.put, sI_, s0_, s1_, zaA, zaR]
          rfl
         exact np_ (hJ2_7 (v103, gb108) _ ⟨(pk_ HO104.out), (pe_ BK101.out), (pe_ BK108.out), GW108.out, GE108.out, NB101_108.out, NB108_101.out, bw_⟩)
      ·skip
       rintro ⟨v106, gb108⟩ w9 ⟨h0_, h1_, h2_, h3_, h4_, h5_, h6_, h7_⟩
       have n0_ : Aside0 (Kd.R (Kd.int .i64) 3 w9 w.heap.size (fun _ => True) v106 y105) := ⟨h0_⟩
       have n1_ : Aside0 (w9.heap[gb101]? = some (.cells #[.slice none 0 0, .slice none 0 0] 24 (0, 0))) := ⟨h1_⟩
       have n2_ : Aside0 (w9.heap[gb108]? = some (.cells #[.slice none 0 0, .slice none 0 0] 24 (0, 0))) := ⟨h2_⟩
       have n3_ : Aside0 (w.heap.size ≤ gb108) := ⟨h3_⟩
       have n4_ : Aside0 (w.heap.size ≤ gb108) := ⟨h4_⟩
       have n5_ : Aside0 (gb101 ≠ gb108) := ⟨h5_⟩
       have n6_ : Aside0 (gb108 ≠ gb101) := ⟨h6_⟩
       have n7_ : Aside0 (Below w.heap.size w w9) := ⟨h7_⟩
       clear BK101
       clear HB
       clear h0_ h1_ h2_ h3_ h4_ h5_ h6_ h7_
       have HO107 := n0_
       have BK101 := n1_
       have BK108 := n2_
       have GW108 := n3_
       have GE108 := n4_
       have NB101_108 := n5_
       have NB108_101 := n6_
       have HB := n7_
       clear n0_ n1_ n2_ n3_ n4_ n5_ n6_ n7_
       have hHeld := trivial
       refine norm_ (a' := ?_) ?_ ?_
       rotate_left
       ·simp only [putAll, Act.put, sI_, s0_, s1_]
        rfl
       refine on_ HT_ 2 (some 8) (bl_ 9 191) fun K hK => ?_
       refine Kd.za3 (Kd.int .i64) _ 3 (by rfl) (N := 8) rfl 22 _ _ rfl (l0.length : Int) rfl rfl Try.underlying22 (.int .i64 0) 8 info3 rfl (by decide) (by omega) 0 (ok := fun _ => True) (okp := fun _ => True) rfl (fun _ hk => hk) trivial (of_decide_eq_true (by first | (with_reducible assumption) | assumption)) (Nat.le_trans (Nat.mul_le_mul_right _ (of_decide_eq_true (by first | (with_reducible assumption) | assumption) : (l0.length : Int).toNat ≤ 35184372088832)) (by omega)) (Below.refl _ _) (Nat.le_refl _) ?_
       intro v103 w10 ho11 hb hg_ hnew_
       clear hg_ hnew_
       (first | rw [← Ny102.out] at ho11 | (simp only [Int.reduceToNat] at ho11; rw [← Ny102.out] at ho11))
       have n0_ := am_ (Kd.R_elder' (pk_ HO107.out) (Kd.R_base ho11) hb)
       have n1_ := am_ (Kd.zag (Kd.R_new' ho11 (Kd.R_lt (pk_ HO107.out))) (zo bw_))
       have n2_ := am_ (fr_ BK101.out hb)
       have n3_ := am_ (fr_ BK108.out hb)
       have n4_ := am_ (zb bw_ hb)
       clear HO107
       clear BK101
       clear BK108
       clear HB
       have HO107 := n0_
       have HO104 := n1_
       have BK101 := n2_
       have BK108 := n3_
       have HB := n4_
       clear n0_ n1_ n2_ n3_ n4_
       clear hb ho11
       obtain ⟨Ao12, co12, eo12⟩ := Kd.zY HO107.out
       (first | subst eo12 | (injection eo12 with f1_ f2_ f3_; have f4_ := f1_.symm; have f5_ := f3_.symm; clear f1_ f2_ f3_; subst f4_; subst f5_))
       obtain ⟨Ao13, co13, eo13⟩ := Kd.zY HO104.out
       (first | subst eo13 | (injection eo13 with f1_ f2_ f3_; have f4_ := f1_.symm; have f5_ := f3_.symm; clear f1_ f2_ f3_; subst f4_; subst f5_))
       refine hK.out _ _ trivial (fun hHeld => ?_)
       clear hK K
       refine norm_ (a' := ?_) ?_ ?_
       rotate_left
       ·show Act.put _ (some 8) _ = _
        simp only [Act.put, sI_, s0_, s1_, zaA, zaR]
        rfl
       refine pu_ HT_ 6 12 (bl_ 9 255) ?_
       exact np_ (hJ2_5_7 (.slice Ao13 y102.length co13, .slice Ao12 y105.length co12, gb108) _ ⟨(by (with_reducible repeat (first | apply Kd.zL | apply Kd.zH | apply Kd.zP)); exact Kd.zS HO104.out (fun _ hk => hk.2)), (by (with_reducible repeat (first | apply Kd.zL | apply Kd.zH | apply Kd.zP)); exact Kd.zS HO107.out (fun _ hk => hk.2)), (pe_ BK101.out), (pe_ BK108.out), GW108.out, GE108.out, NB101_108.out, NB108_101.out, bw_⟩)
     ·skip
      rintro ⟨v103, gb108⟩ w9 ⟨h0_, h1_, h2_, h3_, h4_, h5_, h6_, h7_⟩
      have n0_ : Aside0 (Kd.R (Kd.int .i64) 3 w9 w.heap.size (fun _ => True) v103 y102) := ⟨h0_⟩
      have n1_ : Aside0 (w9.heap[gb101]? = some (.cells #[.slice none 0 0, .slice none 0 0] 24 (0, 0))) := ⟨h1_⟩
      have n2_ : Aside0 (w9.heap[gb108]? = some (.cells #[.slice none 0 0, .slice none 0 0] 24 (0, 0))) := ⟨h2_⟩
      have n3_ : Aside0 (w.heap.size ≤ gb108) := ⟨h3_⟩
      have n4_ : Aside0 (w.heap.size ≤ gb108) := ⟨h4_⟩
      have n5_ : Aside0 (gb101 ≠ gb108) := ⟨h5_⟩
      have n6_ : Aside0 (gb108 ≠ gb101) := ⟨h6_⟩
      have n7_ : Aside0 (Below w.heap.size w w9) := ⟨h7_⟩
      clear BK101
      clear HB
      clear h0_ h1_ h2_ h3_ h4_ h5_ h6_ h7_
      have HO104 := n0_
      have BK101 := n1_
      have BK108 := n2_
      have GW108 := n3_
      have GE108 := n4_
      have NB101_108 := n5_
      have NB108_101 := n6_
      have HB := n7_
      clear n0_ n1_ n2_ n3_ n4_ n5_ n6_ n7_
      have hHeld := trivial
      refine norm_ (a' := ?_) ?_ ?_
      rotate_left
      ·simp only [putAll, Act.put, sI_, s0_, s1_]
       rfl
      refine on_ HT_ 5 (some 11) (bl_ 9 191) fun K hK => ?_
      refine Kd.za3 (Kd.int .i64) _ 3 (by rfl) (N := 11) rfl 22 _ _ rfl (l0.length : Int) rfl rfl Try.underlying22 (.int .i64 0) 8 info3 rfl (by decide) (by omega) 0 (ok := fun _ => True) (okp := fun _ => True) rfl (fun _ hk => hk) trivial (of_decide_eq_true (by first | (with_reducible assumption) | assumption)) (Nat.le_trans (Nat.mul_le_mul_right _ (of_decide_eq_true (by first | (with_reducible assumption) | assumption) : (l0.length : Int).toNat ≤ 35184372088832)) (by omega)) (Below.refl _ _) (Nat.le_refl _) ?_
      intro v106 w10 ho11 hb hg_ hnew_
      clear hg_ hnew_
      (first | rw [← Ny105.out] at ho11 | (simp only [Int.reduceToNat] at ho11; rw [← Ny105.out] at ho11))
      have n0_ := am_ (Kd.R_elder' (pk_ HO104.out) (Kd.R_base ho11) hb)
      have n1_ := am_ (Kd.zag (Kd.R_new' ho11 (Kd.R_lt (pk_ HO104.out))) (zo bw_))
      have n2_ := am_ (fr_ BK101.out hb)
      have n3_ := am_ (fr_ BK108.out hb)
      have n4_ := am_ (zb bw_ hb)
      clear HO104
      clear BK101
      clear BK108
      clear HB
      have HO104 := n0_
      have HO107 := n1_
      have BK101 := n2_
      have BK108 := n3_
      have HB := n4_
      clear n0_ n1_ n2_ n3_ n4_
      clear hb ho11
      obtain ⟨Ao12, co12, eo12⟩ := Kd.zY HO107.out
      (first | subst eo12 | (injection eo12 with f1_ f2_ f3_; have f4_ := f1_.symm; have f5_ := f3_.symm; clear f1_ f2_ f3_; subst f4_; subst f5_))
      obtain ⟨Ao13, co13, eo13⟩ := Kd.zY HO104.out
      (first | subst eo13 | (injection eo13 with f1_ f2_ f3_; have f4_ := f1_.symm; have f5_ := f3_.symm; clear f1_ f2_ f3_; subst f4_; subst f5_))
      refine hK.out _ _ trivial (fun hHeld => ?_)
      clear hK K
      refine norm_ (a' := ?_) ?_ ?_
      rotate_left
      ·show Act.put _ (some 11) _ = _
       simp only [Act.put, sI_, s0_, s1_, zaA, zaR]
       rfl
      refine pu_ HT_ 6 12 (bl_ 9 255) ?_
      exact np_ (hJ2_5_7 (.slice Ao13 y102.length co13, .slice Ao12 y105.length co12, gb108) _ ⟨(by (with_reducible repeat (first | apply Kd.zL | apply Kd.zH | apply Kd.zP)); exact Kd.zS HO104.out (fun _ hk => hk.2)), (by (with_reducible repeat (first | apply Kd.zL | apply Kd.zH | apply Kd.zP)); exact Kd.zS HO107.out (fun _ hk => hk.2)), (pe_ BK101.out), (pe_ BK108.out), GW108.out, GE108.out, NB101_108.out, NB108_101.out, bw_⟩)
    ·skip
     rintro ⟨v103, v106⟩ w12 ⟨h0_, h1_, h2_, h3_⟩
     have n0_ : Aside0 (Kd.R (Kd.int .i64) 3 w12 w.heap.size (fun k_ => some k_ ≠ (v106 : Value).ownBlock) v103 y102) := ⟨h0_⟩
     have n1_ : Aside0 (Kd.R (Kd.int .i64) 3 w12 w.heap.size (fun k_ => some k_ ≠ (v103 : Value).ownBlock) v106 y105) := ⟨h1_⟩
     have n2_ : Aside0 (w12.heap[gb101]? = some (.cells #[.slice none 0 0, .slice none 0 0] 24 (0, 0))) := ⟨h2_⟩
     have n3_ : Aside0 (Below w.heap.size w w12) := ⟨h3_⟩
     clear BK101
     clear HB
     clear h0_ h1_ h2_ h3_
     have HO104 := n0_
     have HO107 := n1_
     have BK101 := n2_
     have HB := n3_
     clear n0_ n1_ n2_ n3_
     have hHeld := trivial
     obtain ⟨Ao13, co13, eo13⟩ := Kd.zY HO107.out
     (first | subst eo13 | (injection eo13 with f1_ f2_ f3_; have f4_ := f1_.symm; have f5_ := f3_.symm; clear f1_ f2_ f3_; subst f4_; subst f5_))
     obtain ⟨Ao14, co14, eo14⟩ := Kd.zY HO104.out
     (first | subst eo14 | (injection eo14 with f1_ f2_ f3_; have f4_ := f1_.symm; have f5_ := f3_.symm; clear f1_ f2_ f3_; subst f4_; subst f5_))
     refine norm_ (a' := ?_) ?_ ?_
     rotate_left
     ·simp only [putAll, Act.put, sI_, s0_, s1_]
      rfl
     refine on_ HT_ 7 (some 3) (bl_ 9 255) fun K hK => ?_
     refine box_step ?hg (N := 3) ?hd (cs := #[.slice none 0 0, .slice none 0 0]) (t := 24) ?hr ?_; (case hd => rfl); (case hg => rfl); (case hr => first | (go_simp; done) | (go_simp; rfl))
     intro gb108 hg w15 hbox hb
     have n0_ := am_ (Kd.zI (pk_ HO104.out) hb)
     have n1_ := am_ (Kd.zI (pk_ HO107.out) hb)
     have n2_ := am_ (fr_ BK101.out hb)
     have n3_ := am_ (zb bw_ hb)
     have n4_ := am_ (hbox)
     have n5_ := am_ ((by rw [hg]; exact (zo bw_) : w.heap.size ≤ gb108))
     have n6_ := am_ ((by rw [hg]; exact (zo bw_) : w.heap.size ≤ gb108))
     have n7_ := am_ ((by rw [hg]; exact Nat.ne_of_lt (fl_ BK101.out) : gb101 ≠ gb108))
     have n8_ := am_ ((by rw [hg]; exact Nat.ne_of_gt (fl_ BK101.out) : gb108 ≠ gb101))
     clear HO104
     clear HO107
     clear BK101
     clear HB
     have HO104 := n0_
     have HO107 := n1_
     have BK101 := n2_
     have HB := n3_
     have BK108 := n4_
     have GW108 := n5_
     have GE108 := n6_
     have NB101_108 := n7_
     have NB108_101 := n8_
     clear n0_ n1_ n2_ n3_ n4_ n5_ n6_ n7_ n8_
     clear hb hbox hg
     refine hK.out _ _ trivial (fun hHeld => ?_)
     clear hK K
     refine norm_ (a' := ?_) ?_ ?_
     rotate_left
     ·show Act.put _ (some 3) _ = _
      simp only [Act.put, sI_, s0_, s1_, zaA, zaR]
      rfl
     exact np_ (hJ2_5_7 (.slice Ao14 y102.length co14, .slice Ao13 y105.length co13, gb108) _ ⟨(pk_ HO104.out), (pk_ HO107.out), (pe_ BK101.out), (pe_ BK108.out), GW108.out, GE108.out, NB101_108.out, NB108_101.out, bw_⟩)
   rintro ⟨v103, v106, gb108⟩ w13 ⟨h0_, h1_, h2_, h3_, h4_, h5_, h6_, h7_, h8_⟩
   have n0_ : Aside0 (Kd.R (Kd.int .i64) 3 w13 w.heap.size (fun k_ => some k_ ≠ (v106 : Value).ownBlock) v103 y102) := ⟨h0_⟩
   have n1_ : Aside0 (Kd.R (Kd.int .i64) 3 w13 w.heap.size (fun k_ => some k_ ≠ (v103 : Value).ownBlock) v106 y105) := ⟨h1_⟩
   have n2_ : Aside0 (w13.heap[gb101]? = some (.cells #[.slice none 0 0, .slice none 0 0] 24 (0, 0))) := ⟨h2_⟩
   have n3_ : Aside0 (w13.heap[gb108]? = some (.cells #[.slice none 0 0, .slice none 0 0] 24 (0, 0))) := ⟨h3_⟩
   have n4_ : Aside0 (w.heap.size ≤ gb108) := ⟨h4_⟩
   have n5_ : Aside0 (w.heap.size ≤ gb108) := ⟨h5_⟩
   have n6_ : Aside0 (gb101 ≠ gb108) := ⟨h6_⟩
   have n7_ : Aside0 (gb108 ≠ gb101) := ⟨h7_⟩
   have n8_ : Aside0 (Below w.heap.size w w13) := ⟨h8_⟩
   clear BK101
   clear HB
   clear h0_ h1_ h2_ h3_ h4_ h5_ h6_ h7_ h8_
   have HO104 := n0_
   have HO107 := n1_
   have BK101 := n2_
   have BK108 := n3_
   have GW108 := n4_
   have GE108 := n5_
   have NB101_108 := n6_
   have NB108_101 := n7_
   have HB := n8_
   clear n0_ n1_ n2_ n3_ n4_ n5_ n6_ n7_ n8_
   have hHeld := trivial
   obtain ⟨Ao14, co14, eo14⟩ := Kd.zY HO107.out
   (first | subst eo14 | (injection eo14 with f1_ f2_ f3_; have f4_ := f1_.symm; have f5_ := f3_.symm; clear f1_ f2_ f3_; subst f4_; subst f5_))
   obtain ⟨Ao15, co15, eo15⟩ := Kd.zY HO104.out
   (first | subst eo15 | (injection eo15 with f1_ f2_ f3_; have f4_ := f1_.symm; have f5_ := f3_.symm; clear f1_ f2_ f3_; subst f4_; subst f5_))
   refine norm_ (a' := ?_) ?_ ?_
   rotate_left
   ·simp only [putAll, Act.put, sI_, s0_, s1_]
    rfl
   refine on_ HT_ 8 none (bl_ 9 511) fun K hK => ?_
   have hs16 : w13.cell? ⟨gb108, 0, none⟩ = some (.slice none 0 0) := (za BK108.out 0).trans rfl
   have hfs16 := zd BK108.out 0
   have hns16_0 := NB101_108.out
   have hms16_0 := NB108_101.out
   have hs17 : w13.cell? ⟨gb108, 1, none⟩ = some (.slice none 0 0) := (za BK108.out 1).trans rfl
   have hfs17 := zd BK108.out 1
   have hns17_0 := NB101_108.out
   have hms17_0 := NB108_101.out
   refine skip_ (w1 := ?_) (by rfl) rfl ?_ ?_
   rotate_left
   ·go_simp
    rfl
   refine hK.out _ _ trivial (fun hHeld => ?_)
   clear hK K
   refine zaP (zao HT_.out (by kernel_rfl)) ?_
   try go_wp2
   go_loopg [15] k (fun kq v15 w' => ∃ (x15_1 : Int) (x109000_1 : List Int) (x109001_1 : List Int) (u109000 : Value) (u109001 : Value), v15 = .int .i64 x15_1 ∧ Aside0 (zy.l0 kq l0 (l0.length : Int) x15_1 x109000_1 x109001_1 = some (r1, r2)) ∧ Aside0 (kq ≤ k) ∧ Aside0 (Kd.R (Kd.int .i64) 3 w' w.heap.size (fun k_ => some k_ ≠ (u109001 : Value).ownBlock) u109000 x109000_1) ∧ Aside0 (Kd.R (Kd.int .i64) 3 w' w.heap.size (fun k_ => some k_ ≠ (u109000 : Value).ownBlock) u109001 x109001_1) ∧ Aside0 (w'.heap[gb101]? = some (.cells #[(.slice none 0 0), (.slice none 0 0)] 24 (0, 0))) ∧ Aside0 (w'.heap[gb108]? = some (.cells #[u109000, u109001] 24 (0, 0))) ∧ Aside0 (Below w.heap.size w w'))
   case atStart => exact ⟨(0), (y102), (y105), (.slice Ao15 y102.length co15), (.slice Ao14 y105.length co14), (by first | rfl | (simp; done) | (simp [*]; done)), H', ⟨Nat.le_refl _⟩, ⟨by (with_reducible repeat (first | apply Kd.zL | apply Kd.zH | apply Kd.zP)); exact Kd.zS (Kd.zap (p := ⟨gb108, 1, none⟩) (Kd.zap (p := ⟨gb108, 0, none⟩) (Kd.zar HO104.out BK108.out (by decide)) (fun _ hk => hk.2) (.slice Ao15 y102.length co15)) (fun _ hk => hk.2) (.slice Ao14 y105.length co14)) (fun _ hk => hk.1)⟩, ⟨by (with_reducible repeat (first | apply Kd.zL | apply Kd.zH | apply Kd.zP)); exact Kd.zS (Kd.zap (p := ⟨gb108, 1, none⟩) (Kd.zap (p := ⟨gb108, 0, none⟩) (Kd.zar HO107.out BK108.out (by decide)) (fun _ hk => hk.2) (.slice Ao15 y102.length co15)) (fun _ hk => hk.2) (.slice Ao14 y105.length co14)) (fun _ hk => hk.1)⟩, ⟨by (with_reducible repeat (first | refine zg ?_ _ | refine zi ?_ | refine zf ?_ _)); refine zW ?_ NB101_108.out _; (with_reducible repeat (first | refine zg ?_ _ | refine zi ?_ | refine zf ?_ _)); refine zW ?_ NB101_108.out _; (with_reducible repeat (first | refine zg ?_ _ | refine zi ?_ | refine zf ?_ _)); exact BK101.out⟩, ⟨by (with_reducible repeat (first | refine zg ?_ _ | refine zi ?_ | refine zf ?_ _)); refine zO (cs := #[.slice Ao15 y102.length co15, .slice none 0 0]) ?_ 1 _ rfl; (with_reducible repeat (first | refine zg ?_ _ | refine zi ?_ | refine zf ?_ _)); refine zO (cs := #[.slice none 0 0, .slice none 0 0]) ?_ 0 _ rfl; (with_reducible repeat (first | refine zg ?_ _ | refine zi ?_ | refine zf ?_ _)); exact BK108.out⟩, ⟨by repeat (first | (with_reducible first | exact HB.out | apply zj | apply ze | apply zl | refine zm ?_ GE101.out | refine zm ?_ GE108.out) | exact HB.out)⟩⟩
   case round =>
    clear H'
    try clear p2
    obtain ⟨x15_1, x109000_1, x109001_1, u109000, u109001, rfl, HA, HK1, HO_109000, HO_109001, BK101, BK108, HB⟩ := hrel
    cases gk with
    | zero => exact absurd HA.out (by simp [zy.l0])
    | succ k1 =>
     have H := HA.out
     clear HA
     simp only [zy.l0] at H
     by_cases c18 : x15_1 < (l0.length : Int)
     ·rw [if_pos c18] at H
      have c18b0 : decide (x15_1 < (l0.length : Int)) = true := decide_eq_true c18
      clear c18
      by_cases c19 : 0 ≤ x15_1
      ·rw [if_pos c19] at H
       have c19b0 : decide (0 ≤ x15_1) = true := decide_eq_true c19
       clear c19
       by_cases c20 : x15_1 < (l0.length : Int)
       ·rw [if_pos c20] at H
        have c20b0 : decide (x15_1 < (l0.length : Int)) = true := decide_eq_true c20
        clear c20
        by_cases c21 : x15_1 < (x109000_1.length : Int)
        ·rw [if_pos c21] at H
         have c21b0 : decide (x15_1 < (x109000_1.length : Int)) = true := decide_eq_true c21
         clear c21
         obtain ⟨y111, hy111⟩ : ∃ y_ : List Int, y_ = (x109000_1.set (x15_1 : Int).toNat ((zt l0 x15_1).f0)) := ⟨_, rfl⟩
         replace H : (if x15_1 < (x109001_1.length : Int) then (zy.l0 k1 l0 (l0.length : Int) (wrap64 (x15_1 + 1)) y111 (x109001_1.set (x15_1 : Int).toNat ((zt l0 x15_1).f1))) else (none)) = some (r1, r2) := by first | (rw [hy111]; with_reducible exact H) | (have H2_ := (Option.bind_some _ _).symm.trans H; rw [hy111]; with_reducible exact H2_) | (have H2_ := (Option.bind_some _ _).symm.trans H; with_reducible exact H2_) | with_reducible exact H | (rw [hy111]; exact H) | exact H
         have Ny111 := am_ hy111
         clear hy111
         by_cases c23 : x15_1 < (x109001_1.length : Int)
         ·rw [if_pos c23] at H
          have c23b0 : decide (x15_1 < (x109001_1.length : Int)) = true := decide_eq_true c23
          clear c23
          obtain ⟨y112, hy112⟩ : ∃ y_ : List Int, y_ = (x109001_1.set (x15_1 : Int).toNat ((zt l0 x15_1).f1)) := ⟨_, rfl⟩
          replace H : (zy.l0 k1 l0 (l0.length : Int) (wrap64 (x15_1 + 1)) y111 y112) = some (r1, r2) := by first | (rw [hy112]; with_reducible exact H) | (have H2_ := (Option.bind_some _ _).symm.trans H; rw [hy112]; with_reducible exact H2_) | (have H2_ := (Option.bind_some _ _).symm.trans H; with_reducible exact H2_) | with_reducible exact H | (rw [hy112]; exact H) | exact H
          have Ny112 := am_ hy112
          clear hy112
          have H' := am_ H
          clear H
          have p109 : 0 ≤ (x15_1 : Int) := of_decide_eq_true (by first | (with_reducible assumption) | assumption)
          have q109 : x15_1 < (l0.length : Int) := of_decide_eq_true (by first | (with_reducible assumption) | assumption)
          obtain ⟨ad109, e109, hx109_0, hx109_1⟩ := at_T90 HR0.out x15_1 p109 q109
          cases e109
          replace hx109_0 := (HB.out.cell (World.block_lt_of_cell? w _ hx109_0)).trans hx109_0
          replace hx109_1 := (HB.out.cell (World.block_lt_of_cell? w _ hx109_1)).trans hx109_1
          replace p109 := eq_true p109
          replace q109 := eq_true q109
          try go_wp2_with (first | ((with_reducible refine zk (N := 5) rfl ?_); refine zaq 5 (cs := #[.int .i64 0, .int .i64 0]) (t := 90) ?_; intro gb110 hg w25 hbox hb; replace HO_109000 := am_ (Kd.zI (pk_ HO_109000.out) hb); replace HO_109001 := am_ (Kd.zI (pk_ HO_109001.out) hb); have BK110 := am_ (hbox); have GW110 := am_ ((by rw [hg]; exact (zo bw_) : w.heap.size ≤ gb110)); replace HB := am_ (zb bw_ hb); have GE110 := GW110; have NB101_110 := am_ ((by rw [hg]; exact Nat.ne_of_lt (fl_ BK101.out) : gb101 ≠ gb110)); replace BK101 := am_ (fr_ BK101.out hb); have NB110_101 := am_ NB101_110.out.symm; have NB108_110 := am_ ((by rw [hg]; exact Nat.ne_of_lt (fl_ BK108.out) : gb108 ≠ gb110)); replace BK108 := am_ (fr_ BK108.out hb); have NB110_108 := am_ NB108_110.out.symm; clear hb hbox hg; have hnb26 := NB110_101.out; have hnc26 := NB101_110.out; have hnb27 := NB110_108.out; have hnc27 := NB108_110.out; have hcz28_0 : w25.cell? ⟨gb110, 0, none⟩ = some (.int .i64 0) := (za BK110.out 0).trans rfl; have hcz28_1 : w25.cell? ⟨gb110, 1, none⟩ = some (.int .i64 0) := (za BK110.out 1).trans rfl; have hfz28_0 := zd BK110.out 0; have hfz28_1 := zd BK110.out 1))
          have n0_ : Aside0 (Kd.R (Kd.int .i64) 3 ((w25.setCell ⟨gb110, 0, none⟩ (.int .i64 ((zt l0 x15_1).f0))).setCell ⟨gb110, 1, none⟩ (.int .i64 ((zt l0 x15_1).f1))) w.heap.size (fun k_ => some k_ ≠ (u109001 : Value).ownBlock) u109000 x109000_1) := ⟨by (with_reducible repeat (first | apply Kd.zL | apply Kd.zH | apply Kd.zP)); exact Kd.zS (Kd.zap (p := ⟨gb110, 1, none⟩) (Kd.zap (p := ⟨gb110, 0, none⟩) (Kd.zar HO_109000.out BK110.out (by decide)) (fun _ hk => hk.2) (.int .i64 ((zt l0 x15_1).f0))) (fun _ hk => hk.2) (.int .i64 ((zt l0 x15_1).f1))) (fun _ hk => hk.1)⟩
          have n1_ : Aside0 (Kd.R (Kd.int .i64) 3 ((w25.setCell ⟨gb110, 0, none⟩ (.int .i64 ((zt l0 x15_1).f0))).setCell ⟨gb110, 1, none⟩ (.int .i64 ((zt l0 x15_1).f1))) w.heap.size (fun k_ => some k_ ≠ (u109000 : Value).ownBlock) u109001 x109001_1) := ⟨by (with_reducible repeat (first | apply Kd.zL | apply Kd.zH | apply Kd.zP)); exact Kd.zS (Kd.zap (p := ⟨gb110, 1, none⟩) (Kd.zap (p := ⟨gb110, 0, none⟩) (Kd.zar HO_109001.out BK110.out (by decide)) (fun _ hk => hk.2) (.int .i64 ((zt l0 x15_1).f0))) (fun _ hk => hk.2) (.int .i64 ((zt l0 x15_1).f1))) (fun _ hk => hk.1)⟩
          have n2_ : Aside0 (((w25.setCell ⟨gb110, 0, none⟩ (.int .i64 ((zt l0 x15_1).f0))).setCell ⟨gb110, 1, none⟩ (.int .i64 ((zt l0 x15_1).f1))).heap[gb101]? = some (.cells #[.slice none 0 0, .slice none 0 0] 24 (0, 0))) := ⟨by (with_reducible repeat (first | refine zg ?_ _ | refine zi ?_ | refine zf ?_ _)); refine zW ?_ NB101_110.out _; (with_reducible repeat (first | refine zg ?_ _ | refine zi ?_ | refine zf ?_ _)); refine zW ?_ NB101_110.out _; (with_reducible repeat (first | refine zg ?_ _ | refine zi ?_ | refine zf ?_ _)); exact BK101.out⟩
          have n3_ : Aside0 (((w25.setCell ⟨gb110, 0, none⟩ (.int .i64 ((zt l0 x15_1).f0))).setCell ⟨gb110, 1, none⟩ (.int .i64 ((zt l0 x15_1).f1))).heap[gb108]? = some (.cells #[u109000, u109001] 24 (0, 0))) := ⟨by (with_reducible repeat (first | refine zg ?_ _ | refine zi ?_ | refine zf ?_ _)); refine zW ?_ NB108_110.out _; (with_reducible repeat (first | refine zg ?_ _ | refine zi ?_ | refine zf ?_ _)); refine zW ?_ NB108_110.out _; (with_reducible repeat (first | refine zg ?_ _ | refine zi ?_ | refine zf ?_ _)); exact BK108.out⟩
          have n4_ : Aside0 (((w25.setCell ⟨gb110, 0, none⟩ (.int .i64 ((zt l0 x15_1).f0))).setCell ⟨gb110, 1, none⟩ (.int .i64 ((zt l0 x15_1).f1))).heap[gb110]? = some (.cells #[.int .i64 ((zt l0 x15_1).f0), .int .i64 ((zt l0 x15_1).f1)] 90 (0, 0))) := ⟨by (with_reducible repeat (first | refine zg ?_ _ | refine zi ?_ | refine zf ?_ _)); refine zO (cs := #[.int .i64 ((zt l0 x15_1).f0), .int .i64 0]) ?_ 1 _ rfl; (with_reducible repeat (first | refine zg ?_ _ | refine zi ?_ | refine zf ?_ _)); refine zO (cs := #[.int .i64 0, .int .i64 0]) ?_ 0 _ rfl; (with_reducible repeat (first | refine zg ?_ _ | refine zi ?_ | refine zf ?_ _)); exact BK110.out⟩
          have n5_ : Aside0 (Below w.heap.size w ((w25.setCell ⟨gb110, 0, none⟩ (.int .i64 ((zt l0 x15_1).f0))).setCell ⟨gb110, 1, none⟩ (.int .i64 ((zt l0 x15_1).f1)))) := ⟨by repeat (first | (with_reducible first | exact HB.out | apply zj | apply ze | apply zl | refine zm ?_ GE101.out | refine zm ?_ GE108.out | refine zm ?_ GE110.out) | exact HB.out)⟩
          (try clear HO_109000)
          (try clear HO_109001)
          (try clear BK101)
          (try clear BK108)
          (try clear BK110)
          (try clear HB)
          generalize ((w25.setCell ⟨gb110, 0, none⟩ (.int .i64 ((zt l0 x15_1).f0))).setCell ⟨gb110, 1, none⟩ (.int .i64 ((zt l0 x15_1).f1))) = w29 at n0_ n1_ n2_ n3_ n4_ n5_ ⊢
          have HO_109000 := n0_
          have HO_109001 := n1_
          have BK101 := n2_
          have BK108 := n3_
          have BK110 := n4_
          have HB := n5_
          clear n0_ n1_ n2_ n3_ n4_ n5_
          have n0_ := am_ (Kd.zP HO_109000.out)
          have n1_ := am_ (Kd.zP HO_109001.out)
          have n2_ := am_ (zi BK101.out)
          have n3_ := am_ (zi BK108.out)
          have n4_ := am_ (zi BK110.out)
          have n5_ := am_ (zl HB.out)
          clear HO_109000
          clear HO_109001
          clear BK101
          clear BK108
          clear BK110
          clear HB
          have HO_109000 := n0_
          have HO_109001 := n1_
          have BK101 := n2_
          have BK108 := n3_
          have BK110 := n4_
          have HB := n5_
          clear n0_ n1_ n2_ n3_ n4_ n5_
          have p22 : 0 ≤ (x15_1 : Int) := of_decide_eq_true (by first | (with_reducible assumption) | assumption)
          have q22 : (x15_1 : Int) < ((x109000_1.length : Int) : Int) := of_decide_eq_true (by first | (with_reducible assumption) | assumption)
          obtain ⟨go22, co22, eo22, gb22, gl22, cl22, HG22⟩ := Kd.R_form HO_109000.out (by omega)
          (first | cases eo22 | (injection eo22 with ea_ en_ ec_; (first | subst ea_ | (injection ea_ with ea_; subst ea_)); subst ec_; clear en_))
          have GB22 := am_ gb22
          have GG22 := am_ HG22
          clear gb22 gl22 HG22
          obtain ⟨hx22_0, hf22_0⟩ := Kd.zbe 0 HO_109000.out (x15_1 : Int) p22 q22
          replace p22 := eq_true p22
          replace q22 := eq_true q22
          have HP31 := Kd.R_putn HO_109000.out (x15_1 : Int) ((zt l0 x15_1).f0)
          rw [← Ny111.out] at HP31
          have HQ31 := am_ HP31
          clear HP31
          have p24 : 0 ≤ (x15_1 : Int) := of_decide_eq_true (by first | (with_reducible assumption) | assumption)
          have q24 : (x15_1 : Int) < ((x109001_1.length : Int) : Int) := of_decide_eq_true (by first | (with_reducible assumption) | assumption)
          obtain ⟨go24, co24, eo24, gb24, gl24, cl24, HG24⟩ := Kd.R_form HO_109001.out (by omega)
          (first | cases eo24 | (injection eo24 with ea_ en_ ec_; (first | subst ea_ | (injection ea_ with ea_; subst ea_)); subst ec_; clear en_))
          have GB24 := am_ gb24
          have GG24 := am_ HG24
          clear gb24 gl24 HG24
          obtain ⟨hx24_0, hf24_0⟩ := Kd.zbe 0 (Kd.zap (p := ⟨go22, (x15_1 : Int).toNat, none⟩) (Kd.zS HO_109001.out (fun k_ hk => (⟨hk, fun e_ => hk (by rw [e_]; rfl)⟩ : _ ∧ k_ ≠ go22))) (fun _ hk => hk.2) (.int .i64 ((zt l0 x15_1).f0))) (x15_1 : Int) p24 q24
          replace p24 := eq_true p24
          replace q24 := eq_true q24
          have HP32 := Kd.R_putn (Kd.zap (p := ⟨go22, (x15_1 : Int).toNat, none⟩) (Kd.zS HO_109001.out (fun k_ hk => (⟨hk, fun e_ => hk (by rw [e_]; rfl)⟩ : _ ∧ k_ ≠ go22))) (fun _ hk => hk.2) (.int .i64 ((zt l0 x15_1).f0))) (x15_1 : Int) ((zt l0 x15_1).f1)
          rw [← Ny112.out] at HP32
          have HQ32 := am_ HP32
          clear HP32
          refine zay (n := 14) (S := fun w' => w'.cell? ⟨gb108, 0, none⟩ = some (.slice (some ⟨go22, 0, none⟩) x109000_1.length co22) ∧ w'.cell? ⟨gb108, 1, none⟩ = some (.slice (some ⟨go24, 0, none⟩) x109001_1.length co24) ∧ w'.cell? ⟨gb110, 0, none⟩ = some (.int .i64 ((zt l0 x15_1).f0)) ∧ w'.cell? ⟨gb110, 1, none⟩ = some (.int .i64 ((zt l0 x15_1).f1))) (ds := [13]) (bl_ 14 0) (by kernel_rfl) rfl rfl ⟨(za BK108.out 0).trans rfl, (za BK108.out 1).trans rfl, (za BK110.out 0).trans rfl, (za BK110.out 1).trans rfl⟩ (fun hHeld => ?_); refine zT zy.tab5 zy.bits5 (fun HT_ HW_ => ?_)
          generalize w29.drew = w30 at HO_109000 HO_109001 BK101 BK108 BK110 HB GG22 GG24 HQ31 HQ32 hf22_0 hf24_0 hx22_0 hx24_0 hHeld ⊢
          refine pu_ HT_ 0 20 (bl_ 14 1) ?_
          refine pu_ HT_ 2 22 (bl_ 14 5) ?_
          refine pu_ HT_ 3 23 (bl_ 14 13) ?_
          refine pu_ HT_ 5 25 (bl_ 14 45) ?_
          refine pu_ HT_ 6 26 (bl_ 14 109) ?_
          refine pu_ HT_ 8 28 (bl_ 14 365) ?_
          refine tk_ HT_ HW_ hHeld 1 21 (bl_ 14 367) ?_
          refine tk_ HT_ HW_ hHeld 4 24 (bl_ 14 383) ?_
          refine tk_ HT_ HW_ hHeld 7 27 (bl_ 14 511) ?_
          refine tk_ HT_ HW_ hHeld 9 29 (bl_ 14 1023) ?_
          refine pu_ HT_ 10 30 (bl_ 14 2047) ?_
          refine on_ HT_ 11 none (bl_ 14 4095) fun K hK => ?_
          refine skip_ (w1 := ?_) (by rfl) rfl ?_ ?_
          rotate_left
          ·go_simp
           rfl
          refine hK.out _ _ ⟨(cell_far (by have h_ := Kd.R_ne HO_109000.out BK108.out (by decide); intro e_; exact h_ ((congrArg some e_).trans rfl)) _).trans ((za BK108.out 0).trans rfl), (cell_far (by have h_ := Kd.R_ne HO_109000.out BK108.out (by decide); intro e_; exact h_ ((congrArg some e_).trans rfl)) _).trans ((za BK108.out 1).trans rfl), (cell_far (by have h_ := Kd.R_ne HO_109000.out BK110.out (by decide); intro e_; exact h_ ((congrArg some e_).trans rfl)) _).trans ((za BK110.out 0).trans rfl), (cell_far (by have h_ := Kd.R_ne HO_109000.out BK110.out (by decide); intro e_; exact h_ ((congrArg some e_).trans rfl)) _).trans ((za BK110.out 1).trans rfl)⟩ (fun hHeld => ?_)
          clear hK K
          refine pu_ HT_ 12 31 (bl_ 14 8191) ?_
          refine last_ (i := 13) (N := none) (bl_ 14 16383) rfl rfl (one_of HT_.out (by kernel_rfl)) (by decide) (fun K hK => ?_)
          refine skip_ (w1 := ?_) (by rfl) rfl ?_ ?_
          rotate_left
          ·go_simp
           rfl
          refine hK.out _ _ ?_
          clear hK K
          refine zaP (zao HT_.out (by kernel_rfl)) ?_
          try go_wp2
          go_roundg k1
          case measure => have := HK1.out; omega
          case rel => exact ⟨(wrap64 (x15_1 + 1)), (y111), (y112), (.slice (some ⟨go22, 0, none⟩) x109000_1.length co22), (.slice (some ⟨go24, 0, none⟩) x109001_1.length co24), (by first | rfl | (simp; done) | (simp [*]; done)), H', ⟨by have := HK1.out; omega⟩, ⟨by (with_reducible repeat (first | apply Kd.zL | apply Kd.zH | apply Kd.zP)); exact Kd.zS (Kd.zap (p := ⟨go24, (x15_1 : Int).toNat, none⟩) (Kd.zS HQ31.out (fun k_ hk => (⟨hk, fun e_ => hk (by rw [e_]; rfl)⟩ : _ ∧ k_ ≠ go24))) (fun _ hk => hk.2) (.int .i64 ((zt l0 x15_1).f1))) (fun _ hk => hk.1)⟩, ⟨by (with_reducible repeat (first | apply Kd.zL | apply Kd.zH | apply Kd.zP)); exact Kd.zS HQ32.out (fun _ hk => hk.1)⟩, ⟨by (with_reducible repeat (first | refine zg ?_ _ | refine zi ?_ | refine zf ?_ _)); refine zW ?_ (by have h_ := Kd.R_ne HO_109001.out BK101.out (by decide); intro e_; exact h_ (by rw [e_]; rfl)) _; (with_reducible repeat (first | refine zg ?_ _ | refine zi ?_ | refine zf ?_ _)); refine zW ?_ (by have h_ := Kd.R_ne HO_109000.out BK101.out (by decide); intro e_; exact h_ (by rw [e_]; rfl)) _; (with_reducible repeat (first | refine zg ?_ _ | refine zi ?_ | refine zf ?_ _)); exact BK101.out⟩, ⟨by (with_reducible repeat (first | refine zg ?_ _ | refine zi ?_ | refine zf ?_ _)); refine zW ?_ (by have h_ := Kd.R_ne HO_109001.out BK108.out (by decide); intro e_; exact h_ (by rw [e_]; rfl)) _; (with_reducible repeat (first | refine zg ?_ _ | refine zi ?_ | refine zf ?_ _)); refine zW ?_ (by have h_ := Kd.R_ne HO_109000.out BK108.out (by decide); intro e_; exact h_ (by rw [e_]; rfl)) _; (with_reducible repeat (first | refine zg ?_ _ | refine zi ?_ | refine zf ?_ _)); exact BK108.out⟩, ⟨by repeat (first | (with_reducible first | exact HB.out | apply zj | apply ze | apply zl | refine zm ?_ GB22.out | refine zm ?_ GB24.out | refine zm ?_ GE101.out | refine zm ?_ GE108.out | refine zm ?_ GE110.out) | exact HB.out)⟩⟩
         ·rw [if_neg c23] at H
          exact absurd H (by simp)
        ·rw [if_neg c21] at H
         exact absurd H (by simp)
       ·rw [if_neg c20] at H
        exact absurd H (by simp)
      ·rw [if_neg c19] at H
       exact absurd H (by simp)
     ·rw [if_neg c18] at H
      have c18b0 : decide (x15_1 < (l0.length : Int)) = false := decide_eq_false c18
      clear c18
      simp only [Option.some.injEq, Prod.mk.injEq] at H
      obtain ⟨rfl, rfl⟩ := H
      have hnb33 := NB108_101.out
      have hnc33 := NB101_108.out
      have hcz34_0 : wr.cell? ⟨gb108, 0, none⟩ = some (u109000) := (za BK108.out 0).trans rfl
      have hcz34_1 : wr.cell? ⟨gb108, 1, none⟩ = some (u109001) := (za BK108.out 1).trans rfl
      have hfz34_0 := zd BK108.out 0
      have hfz34_1 := zd BK108.out 1
      obtain ⟨Ao35, co35, eo35⟩ := Kd.zY HO_109000.out
      subst eo35
      have hcz36_0 : wr.cell? ⟨gb101, 0, none⟩ = some (.slice none 0 0) := (za BK101.out 0).trans rfl
      have hcz36_1 : wr.cell? ⟨gb101, 1, none⟩ = some (.slice none 0 0) := (za BK101.out 1).trans rfl
      have hfz36_0 := zd BK101.out 0
      have hfz36_1 := zd BK101.out 1
      obtain ⟨Ao37, co37, eo37⟩ := Kd.zY HO_109001.out
      subst eo37
      go_wp2
      refine bodyPost_ret (results_cell_row rfl _ _ gb101 24 #[.slice Ao35 x109000_1.length co35, .slice Ao37 x109001_1.length co37] (0, 0) _ rfl (by (with_reducible repeat (first | refine zg ?_ _ | refine zi ?_ | refine zf ?_ _)); refine zO (cs := #[.slice Ao35 x109000_1.length co35, .slice none 0 0]) ?_ 1 _ rfl; (with_reducible repeat (first | refine zg ?_ _ | refine zi ?_ | refine zf ?_ _)); refine zO (cs := #[.slice none 0 0, .slice none 0 0]) ?_ 0 _ rfl; (with_reducible repeat (first | refine zg ?_ _ | refine zi ?_ | refine zf ?_ _)); exact BK101.out) Try.underlying24 rfl (by kernel_rfl)) rfl ?_
      exact ⟨_, _, by first | rfl | (simp [zp, zq] <;> rfl) | (simp [*, zp, zq] <;> rfl), by (with_reducible repeat (first | apply Kd.zL | apply Kd.zH | apply Kd.zP)); exact Kd.zS (Kd.zap (p := ⟨gb101, 1, none⟩) (Kd.zap (p := ⟨gb101, 0, none⟩) (Kd.zar HO_109000.out BK101.out (by decide)) (fun _ hk => hk.2) (.slice Ao35 x109000_1.length co35)) (fun _ hk => hk.2) (.slice Ao37 x109001_1.length co37)) (fun _ hk => hk.1), by (with_reducible repeat (first | apply Kd.zL | apply Kd.zH | apply Kd.zP)); exact Kd.zS (Kd.zap (p := ⟨gb101, 1, none⟩) (Kd.zap (p := ⟨gb101, 0, none⟩) (Kd.zar HO_109001.out BK101.out (by decide)) (fun _ hk => hk.2) (.slice Ao35 x109000_1.length co35)) (fun _ hk => hk.2) (.slice Ao37 x109001_1.length co37)) (fun _ hk => hk.1), by repeat (first | (with_reducible first | exact HB.out | apply zj | apply ze | apply zl | refine zm ?_ GE101.out | refine zm ?_ GE108.out) | exact HB.out)⟩
  ·rw [if_neg c3] at H
   exact absurd H (by simp)
 ·rw [if_neg c2] at H
  exact absurd H (by simp)
end Go.Proofs.Ytlidbaejhmamjaa.PB
namespace Go.Proofs.Ytlidbaejhmamjaa.PB
open Go.RowKit YtlidbaejhmamjaaW.PrintWords YtlidbaejhmamjaaW.PrintLast YtlidbaejhmamjaaW.PrintMore
attribute [local go_sem] zak zam zaw zau zae zad zal zan   -- for this text's walks alone
def split_Whole.f (k : Nat) (a0 : Int) : Option (List Int × List Int × Int) := if a0 < 0 then (some (([] : List Int), ([] : List Int), 1)) else (if a0 > 256 then (some (([] : List Int), ([] : List Int), 1)) else (if 0 ≤ a0 then (if (a0 : Int).toNat ≤ 17592186044416 then ((zy.f k (List.replicate (a0 : Int).toNat z90)).bind fun bt117 => (some (bt117.1, bt117.2, 0))) else (none)) else (none)))
set_option maxHeartbeats 8000000 in
set_option maxRecDepth 100000 in
theorem split_Whole.calls (k : Nat) (a0 : Int) (r1 : List Int) (r2 : List Int) (r3 : Int) (w : World) (h : split_Whole.f k a0 = some (r1, r2, r3)) :
  Calls Try.prog 11 #[.int .i64 a0] w fun e w' => ∃ v0_ v1_ : Value, e = .returned (.tuple #[.agg #[v0_, v1_], .int .i64 r3]) ∧ Kd.R (Kd.int .i64) 3 w' w.heap.size (fun k_ => some k_ ≠ (v1_ : Value).ownBlock) v0_ r1 ∧ Kd.R (Kd.int .i64) 3 w' w.heap.size (fun k_ => some k_ ≠ (v0_ : Value).ownBlock) v1_ r2 ∧ Below w.heap.size w w' := by
 have hu24 := Try.underlying24
 have HB := am_ (Below.refl w.heap.size w)
 have H : (if a0 < 0 then (some (([] : List Int), ([] : List Int), 1)) else (if a0 > 256 then (some (([] : List Int), ([] : List Int), 1)) else (if 0 ≤ a0 then (if (a0 : Int).toNat ≤ 17592186044416 then ((zy.f k (List.replicate (a0 : Int).toNat z90)).bind fun bt117 => (some (bt117.1, bt117.2, 0))) else (none)) else (none)))) = some (r1, r2, r3) := h
 clear h
 by_cases c2 : a0 < 0
 ·rw [if_pos c2] at H
  have c2b0 : decide (a0 < 0) = true := decide_eq_true c2
  clear c2
  simp only [Option.some.injEq, Prod.mk.injEq] at H
  obtain ⟨rfl, rfl, rfl⟩ := H
  go_enter Try.func11, Try.ntmps11
  go_wp2_with (first | ((with_reducible refine zk (N := 2) rfl ?_); refine zaq 2 (cs := #[.slice none 0 0, .slice none 0 0]) (t := 24) ?_; intro gb113 hg w3 hbox hb; have BK113 := am_ (hbox); have GW113 := am_ ((by rw [hg]; exact (zo bw_) : w.heap.size ≤ gb113)); replace HB := am_ (zb bw_ hb); have GE113 := GW113; clear hb hbox hg; have hcz4_0 : w3.cell? ⟨gb113, 0, none⟩ = some (.slice none 0 0) := (za BK113.out 0).trans rfl; have hcz4_1 : w3.cell? ⟨gb113, 1, none⟩ = some (.slice none 0 0) := (za BK113.out 1).trans rfl; have hfz4_0 := zd BK113.out 0; have hfz4_1 := zd BK113.out 1))
  refine bodyPost_ret (zaj rfl _ _ gb113 24 #[.slice none 0 0, .slice none 0 0] (0, 0) _ rfl (by (with_reducible repeat (first | refine zg ?_ _ | refine zi ?_ | refine zf ?_ _)); refine zO (cs := #[.slice none 0 0, .slice none 0 0]) ?_ 1 _ rfl; (with_reducible repeat (first | refine zg ?_ _ | refine zi ?_ | refine zf ?_ _)); refine zO (cs := #[.slice none 0 0, .slice none 0 0]) ?_ 0 _ rfl; (with_reducible repeat (first | refine zg ?_ _ | refine zi ?_ | refine zf ?_ _)); exact BK113.out) Try.underlying24 rfl (by kernel_rfl)) rfl ?_
  exact ⟨_, _, by first | rfl | (simp [zp, zq] <;> rfl) | (simp [*, zp, zq] <;> rfl), by first | exact Kd.zaY _ _ _ _ _ | exact Kd.N_nil _ _ _ _ _ | exact Kd.V_nil _ _ _ _ _ | exact Kd.Q_nil _ _ _ _ _ | exact Kd.S_nil _ _ _ _ _, by first | exact Kd.zaY _ _ _ _ _ | exact Kd.N_nil _ _ _ _ _ | exact Kd.V_nil _ _ _ _ _ | exact Kd.Q_nil _ _ _ _ _ | exact Kd.S_nil _ _ _ _ _, by repeat (first | (with_reducible first | exact HB.out | apply zj | apply ze | apply zl | refine zm ?_ GE113.out) | exact HB.out)⟩
 ·rw [if_neg c2] at H
  have c2b0 : decide (a0 < 0) = false := decide_eq_false c2
  clear c2
  by_cases c5 : a0 > 256
  ·rw [if_pos c5] at H
   have c5b0 : decide (256 < a0) = true := decide_eq_true c5
   clear c5
   simp only [Option.some.injEq, Prod.mk.injEq] at H
   obtain ⟨rfl, rfl, rfl⟩ := H
   go_enter Try.func11, Try.ntmps11
   go_wp2_with (first | ((with_reducible refine zk (N := 2) rfl ?_); refine zaq 2 (cs := #[.slice none 0 0, .slice none 0 0]) (t := 24) ?_; intro gb113 hg w6 hbox hb; have BK113 := am_ (hbox); have GW113 := am_ ((by rw [hg]; exact (zo bw_) : w.heap.size ≤ gb113)); replace HB := am_ (zb bw_ hb); have GE113 := GW113; clear hb hbox hg; have hcz7_0 : w6.cell? ⟨gb113, 0, none⟩ = some (.slice none 0 0) := (za BK113.out 0).trans rfl; have hcz7_1 : w6.cell? ⟨gb113, 1, none⟩ = some (.slice none 0 0) := (za BK113.out 1).trans rfl; have hfz7_0 := zd BK113.out 0; have hfz7_1 := zd BK113.out 1))
   refine bodyPost_ret (zaj rfl _ _ gb113 24 #[.slice none 0 0, .slice none 0 0] (0, 0) _ rfl (by (with_reducible repeat (first | refine zg ?_ _ | refine zi ?_ | refine zf ?_ _)); refine zO (cs := #[.slice none 0 0, .slice none 0 0]) ?_ 1 _ rfl; (with_reducible repeat (first | refine zg ?_ _ | refine zi ?_ | refine zf ?_ _)); refine zO (cs := #[.slice none 0 0, .slice none 0 0]) ?_ 0 _ rfl; (with_reducible repeat (first | refine zg ?_ _ | refine zi ?_ | refine zf ?_ _)); exact BK113.out) Try.underlying24 rfl (by kernel_rfl)) rfl ?_
   exact ⟨_, _, by first | rfl | (simp [zp, zq] <;> rfl) | (simp [*, zp, zq] <;> rfl), by first | exact Kd.zaY _ _ _ _ _ | exact Kd.N_nil _ _ _ _ _ | exact Kd.V_nil _ _ _ _ _ | exact Kd.Q_nil _ _ _ _ _ | exact Kd.S_nil _ _ _ _ _, by first | exact Kd.zaY _ _ _ _ _ | exact Kd.N_nil _ _ _ _ _ | exact Kd.V_nil _ _ _ _ _ | exact Kd.Q_nil _ _ _ _ _ | exact Kd.S_nil _ _ _ _ _, by repeat (first | (with_reducible first | exact HB.out | apply zj | apply ze | apply zl | refine zm ?_ GE113.out) | exact HB.out)⟩
  ·rw [if_neg c5] at H
   have c5b0 : decide (256 < a0) = false := decide_eq_false c5
   clear c5
   by_cases c8 : 0 ≤ a0
   ·rw [if_pos c8] at H
    have c8b0 := eq_true c8
    have c8b1 : decide (0 ≤ a0) = true := decide_eq_true c8
    clear c8
    by_cases c9 : (a0 : Int).toNat ≤ 17592186044416
    ·rw [if_pos c9] at H
     have c9b0 := eq_true c9
     have c9b1 : decide ((a0 : Int).toNat ≤ 17592186044416) = true := decide_eq_true c9
     clear c9
     obtain ⟨y114, hy114⟩ : ∃ y_ : List (S90), y_ = (List.replicate (a0 : Int).toNat z90) := ⟨_, rfl⟩
     replace H : ((zy.f k y114).bind fun bt117 => (some (bt117.1, bt117.2, 0))) = some (r1, r2, r3) := by first | (rw [hy114]; with_reducible exact H) | (have H2_ := (Option.bind_some _ _).symm.trans H; rw [hy114]; with_reducible exact H2_) | (have H2_ := (Option.bind_some _ _).symm.trans H; with_reducible exact H2_) | with_reducible exact H | (rw [hy114]; exact H) | exact H
     have Ny114 := am_ hy114
     clear hy114
     replace H := Option.bind_eq_some_iff.mp H
     obtain ⟨⟨t117, t120⟩, A100, H⟩ := H
     replace H : (some (t117, t120, 0)) = some (r1, r2, r3) := H
     have A10 := am_ A100
     clear A100
     simp only [Option.some.injEq, Prod.mk.injEq] at H
     obtain ⟨rfl, rfl, rfl⟩ := H
     go_enter Try.func11, Try.ntmps11
     go_wp2_with (first | ((with_reducible refine zk (N := 2) rfl ?_); refine zaq 2 (cs := #[.slice none 0 0, .slice none 0 0]) (t := 24) ?_; intro gb113 hg w11 hbox hb; have BK113 := am_ (hbox); have GW113 := am_ ((by rw [hg]; exact (zo bw_) : w.heap.size ≤ gb113)); replace HB := am_ (zb bw_ hb); have GE113 := GW113; clear hb hbox hg) | ((with_reducible refine zk (N := 12) rfl ?_); refine Kd.R_make k90 _ 90 rfl (N := 12) rfl 86 _ _ rfl a0 rfl rfl Try.underlying86 (.agg #[(.int .i64 0), (.int .i64 0)]) 16 info90 rfl (by decide) (by omega) z90 (ok := fun _ => True) (okp := fun _ => True) (k90_mkM _ _ _ z90 ) (fun _ hk => hk) trivial (of_decide_eq_true (by first | (with_reducible assumption) | assumption)) (Nat.le_trans (Nat.mul_le_mul_right _ (of_decide_eq_true (by first | (with_reducible assumption) | assumption) : a0.toNat ≤ 17592186044416)) (by omega)) (Below.refl _ _) (Nat.le_refl _) ?_; intro v115 w12 ho13 hb hg_ hnew_; clear hg_ hnew_; (first | rw [← Ny114.out] at ho13 | (simp only [Int.reduceToNat] at ho13; rw [← Ny114.out] at ho13)); have HO116 := am_ (Kd.zag ho13 (zo bw_)); replace BK113 := am_ (fr_ BK113.out hb); replace HB := am_ (zb bw_ hb); clear hb ho13; obtain ⟨Ao14, co14, eo14⟩ := Kd.zY HO116.out; subst eo14) | ((with_reducible refine zac (f := 37) rfl ?_); refine zaZ (some 13) rfl rfl Try.func37 (by kernel_rfl) rfl #[.slice Ao14 y114.length co14] rfl (by (try simp only [List.map_toArray, List.map_cons, List.map_nil]); first | done | rfl | (simp only [List.length_drop, List.length_take]; rfl)) ?_; (with_reducible refine (zy.calls k _ _ y114 t117 t120 _ ?side1 ?side2 A10.out).mono ?_); (case side1 => repeat (first | exact (Kd.zQ HO116.out).2.2 | (with_reducible refine Kd.zaG ?_ _) | (with_reducible refine Kd.zaF ?_ _) | (with_reducible refine Kd.zaQ ?_))); (case side2 => exact (Kd.zQ HO116.out).2.1); rintro e w15 ⟨v118, v121, rfl, ho0, ho1, hb⟩; refine ⟨_, rfl, ?_⟩; replace HO116 := am_ (Kd.zI (pk_ HO116.out) hb); have HO119 := am_ (Kd.zag ho0 (zo bw_)); have HO122 := am_ (Kd.zag ho1 (zo bw_)); replace BK113 := am_ (fr_ BK113.out hb); replace HB := am_ (zb bw_ hb); (try clear hb); (try clear hb2); (try clear hk); (try clear hi); (try clear ho0); (try clear ho1); obtain ⟨Ao16, co16, eo16⟩ := Kd.zY HO119.out; subst eo16; have hcz17_0 : w15.cell? ⟨gb113, 0, none⟩ = some (.slice none 0 0) := (za BK113.out 0).trans rfl; have hcz17_1 : w15.cell? ⟨gb113, 1, none⟩ = some (.slice none 0 0) := (za BK113.out 1).trans rfl; have hfz17_0 := zd BK113.out 0; have hfz17_1 := zd BK113.out 1; obtain ⟨Ao18, co18, eo18⟩ := Kd.zY HO122.out; subst eo18))
     refine bodyPost_ret (zaj rfl _ _ gb113 24 #[.slice Ao16 t117.length co16, .slice Ao18 t120.length co18] (0, 0) _ rfl (by (with_reducible repeat (first | refine zg ?_ _ | refine zi ?_ | refine zf ?_ _)); refine zO (cs := #[.slice Ao16 t117.length co16, .slice none 0 0]) ?_ 1 _ rfl; (with_reducible repeat (first | refine zg ?_ _ | refine zi ?_ | refine zf ?_ _)); refine zO (cs := #[.slice none 0 0, .slice none 0 0]) ?_ 0 _ rfl; (with_reducible repeat (first | refine zg ?_ _ | refine zi ?_ | refine zf ?_ _)); exact BK113.out) Try.underlying24 rfl (by kernel_rfl)) rfl ?_
     exact ⟨_, _, by first | rfl | (simp [zp, zq] <;> rfl) | (simp [*, zp, zq] <;> rfl), by (with_reducible repeat (first | apply Kd.zL | apply Kd.zH | apply Kd.zP)); exact Kd.zS (Kd.zap (p := ⟨gb113, 1, none⟩) (Kd.zap (p := ⟨gb113, 0, none⟩) (Kd.zar HO119.out BK113.out (by decide)) (fun _ hk => hk.2) (.slice Ao16 t117.length co16)) (fun _ hk => hk.2) (.slice Ao18 t120.length co18)) (fun _ hk => hk.1), by (with_reducible repeat (first | apply Kd.zL | apply Kd.zH | apply Kd.zP)); exact Kd.zS (Kd.zap (p := ⟨gb113, 1, none⟩) (Kd.zap (p := ⟨gb113, 0, none⟩) (Kd.zar HO122.out BK113.out (by decide)) (fun _ hk => hk.2) (.slice Ao16 t117.length co16)) (fun _ hk => hk.2) (.slice Ao18 t120.length co18)) (fun _ hk => hk.1), by repeat (first | (with_reducible first | exact HB.out | apply zj | apply ze | apply zl | refine zm ?_ GE113.out) | exact HB.out)⟩
    ·rw [if_neg c9] at H
     exact absurd H (by simp)
   ·rw [if_neg c8] at H
    exact absurd H (by simp)
end Go.Proofs.Ytlidbaejhmamjaa.PB
namespace Go.Proofs.Ytlidbaejhmamjaa.PB
open Go.RowKit YtlidbaejhmamjaaW.PrintWords YtlidbaejhmamjaaW.PrintLast YtlidbaejhmamjaaW.PrintMore
attribute [local go_sem] zak zam zaw zau zae zad zal zan   -- for this text's walks alone
def zM.l0 : Nat → List (S90) → Int → Int → List Int → List Int → Option ((List (S90)))
 | 0, _, _, _, _, _ => none
 | k + 1, x3, x7, x8, x140000, x140001 => if x8 < x7 then (if 0 ≤ x8 then (if x8 < (x140000.length : Int) then (if x8 < (x140001.length : Int) then (if x3.length < 8796093022208 then (zM.l0 k (x3 ++ [(⟨rd x140000 x8, rd x140001 x8⟩ : S90)]) x7 (wrap64 (x8 + 1)) x140000 x140001) else (none)) else (none)) else (none)) else (none)) else (some x3)
def zM.f (k : Nat) (l0_0 : List Int) (l0_1 : List Int) : Option ((List (S90))) := zM.l0 k ([] : List (S90)) (l0_0.length : Int) 0 l0_0 l0_1
def zM.T5 : Bool × List (List Nat × List Nat) := (true, [([], []), ([], []), ([1], [1]), ([], []), ([2, 3], [2, 3]), ([4], [4]), ([], []), ([6], [6]), ([], []), ([7, 8], [7, 8]), ([9], [9]), ([5, 10], [5, 10]), ([11], [11]), ([0, 12], [0, 12]), ([13, 13, 0, 1, 2, 3, 4, 5, 6, 7, 8, 9, 10, 11, 12, 13], [0, 13])])
def zM.B5 : List Nat := [0, 0, 2, 0, 14, 30, 0, 64, 0, 448, 960, 2046, 4094, 8191, 16383]
theorem zM.tab5 : rtab .any (opsOf Try.f39 5) = zM.T5 := by kernel_rfl
theorem zM.bits5 : zat zM.T5.2 zM.B5 = true := by kernel_rfl
set_option maxHeartbeats 8000000 in
set_option maxRecDepth 100000 in
theorem zM.calls (k : Nat) (A0_0 : Option Addr) (c0_0 : Nat) (l0_0 : List Int) (A0_1 : Option Addr) (c0_1 : Nat) (l0_1 : List Int) (r : List (S90)) (w : World) (hr0_0 : Kd.C (Kd.int .i64) w A0_0 l0_0.length l0_0) (hc0_0 : l0_0.length ≤ c0_0) (hr0_1 : Kd.C (Kd.int .i64) w A0_1 l0_1.length l0_1) (hc0_1 : l0_1.length ≤ c0_1) (h : zM.f k l0_0 l0_1 = some r) :
  Calls Try.prog 39 #[.agg #[.slice A0_0 l0_0.length c0_0, .slice A0_1 l0_1.length c0_1]] w fun e w' => ∃ v0_ : Value, e = .returned (v0_) ∧ Kd.R k90 90 w' w.heap.size (fun _ => True) v0_ r ∧ Below w.heap.size w w' := by
 have hu24 := Try.underlying24
 have hu90 := Try.underlying90
 have HR0_0 := am_ hr0_0
 have HC0_0 := am_ hc0_0
 clear hr0_0 hc0_0
 have HR0_1 := am_ hr0_1
 have HC0_1 := am_ hc0_1
 clear hr0_1 hc0_1
 have HB := am_ (Below.refl w.heap.size w)
 have H : (zM.l0 k ([] : List (S90)) (l0_0.length : Int) 0 l0_0 l0_1) = some r := h
 clear h
 have H' := am_ H
 clear H
 go_enter Try.func39, Try.ntmps39
 go_wp2_with (first | ((with_reducible refine zk (N := 1) rfl ?_); refine zaq 1 (cs := #[.slice A0_0 l0_0.length c0_0, .slice A0_1 l0_1.length c0_1]) (t := 24) ?_; intro gb139 hg w2 hbox hb; have BK139 := am_ (hbox); have GW139 := am_ ((by rw [hg]; exact (zo bw_) : w.heap.size ≤ gb139)); replace HB := am_ (zb bw_ hb); have GE139 := GW139; clear hb hbox hg; have hcz3_0 : w2.cell? ⟨gb139, 0, none⟩ = some (.slice A0_0 l0_0.length c0_0) := (za BK139.out 0).trans rfl; have hcz3_1 : w2.cell? ⟨gb139, 1, none⟩ = some (.slice A0_1 l0_1.length c0_1) := (za BK139.out 1).trans rfl; have hfz3_0 := zd BK139.out 0; have hfz3_1 := zd BK139.out 1))
 go_loopg [3, 8] k (fun kq v3 v8 w' => ∃ (x3_1 : List (S90)) (x8_1 : Int), v8 = .int .i64 x8_1 ∧ Aside0 (zM.l0 kq x3_1 (l0_0.length : Int) x8_1 l0_0 l0_1 = some r) ∧ Aside0 (kq ≤ k) ∧ Aside0 (Kd.R k90 90 w' w.heap.size (fun _ => True) v3 x3_1) ∧ Aside0 (w'.heap[gb139]? = some (.cells #[(.slice A0_0 l0_0.length c0_0), (.slice A0_1 l0_1.length c0_1)] 24 (0, 0))) ∧ Aside0 (Below w.heap.size w w'))
 case atStart => exact ⟨(([] : List (S90))), (0), (by first | rfl | (simp; done) | (simp [*]; done)), H', ⟨Nat.le_refl _⟩, ⟨by first | exact Kd.zaY _ _ _ _ _ | exact Kd.N_nil _ _ _ _ _ | exact Kd.V_nil _ _ _ _ _ | exact Kd.Q_nil _ _ _ _ _ | exact Kd.S_nil _ _ _ _ _⟩, ⟨by (with_reducible repeat (first | refine zg ?_ _ | refine zi ?_ | refine zf ?_ _)); exact BK139.out⟩, ⟨by repeat (first | (with_reducible first | exact HB.out | apply zj | apply ze | apply zl | refine zm ?_ GE139.out) | exact HB.out)⟩⟩
 case round =>
  clear H'
  try clear p2
  try clear c3
  try clear hcz3_0
  try clear hcz3_1
  try clear hfz3_0
  try clear hfz3_1
  obtain ⟨x3_1, x8_1, rfl, HA, HK1, HO_3, BK139, HB⟩ := hrel
  cases gk with
  | zero => exact absurd HA.out (by simp [zM.l0])
  | succ k1 =>
   have H := HA.out
   clear HA
   simp only [zM.l0] at H
   by_cases c4 : x8_1 < (l0_0.length : Int)
   ·rw [if_pos c4] at H
    have c4b0 : decide (x8_1 < (l0_0.length : Int)) = true := decide_eq_true c4
    clear c4
    by_cases c5 : 0 ≤ x8_1
    ·rw [if_pos c5] at H
     have c5b0 : decide (0 ≤ x8_1) = true := decide_eq_true c5
     clear c5
     by_cases c6 : x8_1 < (l0_0.length : Int)
     ·rw [if_pos c6] at H
      have c6b0 : decide (x8_1 < (l0_0.length : Int)) = true := decide_eq_true c6
      clear c6
      by_cases c7 : x8_1 < (l0_1.length : Int)
      ·rw [if_pos c7] at H
       have c7b0 : decide (x8_1 < (l0_1.length : Int)) = true := decide_eq_true c7
       clear c7
       by_cases c8 : x3_1.length < 8796093022208
       ·rw [if_pos c8] at H
        have LMc8 := am_ c8
        clear c8
        obtain ⟨y142, hy142⟩ : ∃ y_ : List (S90), y_ = (x3_1 ++ [(⟨rd l0_0 x8_1, rd l0_1 x8_1⟩ : S90)]) := ⟨_, rfl⟩
        replace H : (zM.l0 k1 y142 (l0_0.length : Int) (wrap64 (x8_1 + 1)) l0_0 l0_1) = some r := by first | (rw [hy142]; with_reducible exact H) | (have H2_ := (Option.bind_some _ _).symm.trans H; rw [hy142]; with_reducible exact H2_) | (have H2_ := (Option.bind_some _ _).symm.trans H; with_reducible exact H2_) | with_reducible exact H | (rw [hy142]; exact H) | exact H
        have Ny142 := am_ hy142
        clear hy142
        have H' := am_ H
        clear H
        try go_wp2
        have n0_ := am_ (Kd.zP HO_3.out)
        have n1_ := am_ (zi BK139.out)
        have n2_ := am_ (zl HB.out)
        clear HO_3
        clear BK139
        clear HB
        have HO_3 := n0_
        have BK139 := n1_
        have HB := n2_
        clear n0_ n1_ n2_
        have p140 : 0 ≤ (x8_1 : Int) := of_decide_eq_true (by first | (with_reducible assumption) | assumption)
        have q140 : x8_1 < (l0_0.length : Int) := of_decide_eq_true (by first | (with_reducible assumption) | assumption)
        obtain ⟨ad140, e140, hx140_0⟩ := Kd.z8 HR0_0.out x8_1 p140 q140
        have hw140_0 := hx140_0
        cases e140
        replace hx140_0 := (HB.out.cell (World.block_lt_of_cell? w _ hx140_0)).trans hx140_0
        replace p140 := eq_true p140
        replace q140 := eq_true q140
        have p141 : 0 ≤ (x8_1 : Int) := of_decide_eq_true (by first | (with_reducible assumption) | assumption)
        have q141 : x8_1 < (l0_1.length : Int) := of_decide_eq_true (by first | (with_reducible assumption) | assumption)
        obtain ⟨ad141, e141, hx141_0⟩ := Kd.z8 HR0_1.out x8_1 p141 q141
        have hw141_0 := hx141_0
        cases e141
        replace hx141_0 := (HB.out.cell (World.block_lt_of_cell? w _ hx141_0)).trans hx141_0
        replace p141 := eq_true p141
        replace q141 := eq_true q141
        refine zay (n := 15) (S := fun w' => w'.cell? ⟨gb139, 0, none⟩ = some (.slice (some ad140) l0_0.length c0_0) ∧ w'.cell? ⟨gb139, 1, none⟩ = some (.slice (some ad141) l0_1.length c0_1) ∧ w'.cell? (ad140.add (x8_1).toNat) = some (.int .i64 (rd l0_0 x8_1)) ∧ w'.cell? (ad141.add (x8_1).toNat) = some (.int .i64 (rd l0_1 x8_1))) (ds := []) (bl_ 15 0) (by kernel_rfl) rfl rfl ⟨(za BK139.out 0).trans rfl, (za BK139.out 1).trans rfl, ((HB.out.cell (World.block_lt_of_cell? w _ hw140_0)).trans hw140_0), ((HB.out.cell (World.block_lt_of_cell? w _ hw141_0)).trans hw141_0)⟩ (fun hHeld => ?_); refine zT zM.tab5 zM.bits5 (fun HT_ HW_ => ?_)
        generalize wr.drew = w9 at HO_3 BK139 HB hx140_0 hx141_0 hHeld ⊢
        refine pu_ HT_ 0 11 (bl_ 15 1) ?_
        refine pu_ HT_ 1 12 (bl_ 15 3) ?_
        refine pu_ HT_ 3 14 (bl_ 15 11) ?_
        refine pu_ HT_ 6 17 (bl_ 15 75) ?_
        refine pu_ HT_ 8 19 (bl_ 15 331) ?_
        refine tk_ HT_ HW_ hHeld 2 13 (bl_ 15 335) ?_
        refine pu_ HT_ 4 15 (bl_ 15 351) ?_
        refine tk_ HT_ HW_ hHeld 5 16 (bl_ 15 383) ?_
        refine tk_ HT_ HW_ hHeld 7 18 (bl_ 15 511) ?_
        refine pu_ HT_ 9 20 (bl_ 15 1023) ?_
        refine tk_ HT_ HW_ hHeld 10 21 (bl_ 15 2047) ?_
        refine pu_ HT_ 11 22 (bl_ 15 4095) ?_
        refine on_ HT_ 12 (some 23) (bl_ 15 8191) fun K hK => ?_
        refine value_ (w1 := ?_) (v := ?_) (by rfl) rfl ?_ ?_
        rotate_left 2
        ·go_simp
         constructor
         ·rfl
         ·rfl
        refine hK.out _ _ ⟨(za (zf BK139.out _) 0).trans rfl, (za (zf BK139.out _) 1).trans rfl, (World.cell?_alloc_lt _ _ _ (World.block_lt_of_cell? _ _ (((HB.out.cell (World.block_lt_of_cell? w _ hw140_0)).trans hw140_0)))).trans (((HB.out.cell (World.block_lt_of_cell? w _ hw140_0)).trans hw140_0)), (World.cell?_alloc_lt _ _ _ (World.block_lt_of_cell? _ _ (((HB.out.cell (World.block_lt_of_cell? w _ hw141_0)).trans hw141_0)))).trans (((HB.out.cell (World.block_lt_of_cell? w _ hw141_0)).trans hw141_0))⟩ (fun hHeld => ?_)
        clear hK K
        refine norm_ (a' := ?_) ?_ ?_
        rotate_left
        ·show Act.put _ (some 23) _ = _
         simp only [Act.put, sI_, s0_, s1_, zaA, zaR]
         rfl
        refine on_ HT_ 13 (some 24) (bl_ 15 16383) fun K hK => ?_
        refine Kd.R_append_step k90 (w0 := w) w.heap.size (by rfl) (.tmp 11) (.tmp 23) 86 90 (.agg #[(.int .i64 0), (.int .i64 0)]) 16 rfl Try.underlying86 info90 rfl (by decide) (by omega) u3 x3_1 (⟨rd l0_0 x8_1, rd l0_1 x8_1⟩ : S90) [.int .i64 (rd l0_0 x8_1), .int .i64 (rd l0_1 x8_1)] (fun _ => True) (fun _ => False) rfl rfl ?aP (fun _ hk => hk.elim) ?aF ?aO ?aB ?aS ?aL ?_
        (case aP => exact k90_mkM _ _ _ (⟨rd l0_0 x8_1, rd l0_1 x8_1⟩ : S90))
        (case aB => exact bw_)
        (case aF => exact (fun _ _ => trivial))
        (case aO => exact (pk_ HO_3.out))
        (case aS => exact (zo bw_))
        (case aL => have := LMc8.out; omega)
        intro v143 w10 ho hb hg hat
        rw [← Ny142.out] at ho
        have n0_ := am_ (zaV (g := gb139) (o := .cells #[.slice (some ad140) l0_0.length c0_0, .slice (some ad141) l0_1.length c0_1] 24 (0, 0)) (pe_ BK139.out) hg (Kd.R_ne HO_3.out BK139.out (by decide)))
        have n1_ := am_ (hb)
        have n2_ := am_ (ho)
        clear BK139
        clear HB
        clear HO_3
        have BK139 := n0_
        have HB := n1_
        have HO144 := n2_
        clear n0_ n1_ n2_
        clear ho hb hg hat
        refine hK.out _ _ ⟨(za BK139.out 0).trans rfl, (za BK139.out 1).trans rfl, ((HB.out.cell (World.block_lt_of_cell? w _ hw140_0)).trans hw140_0), ((HB.out.cell (World.block_lt_of_cell? w _ hw141_0)).trans hw141_0)⟩ (fun hHeld => ?_)
        clear hK K
        refine norm_ (a' := ?_) ?_ ?_
        rotate_left
        ·show Act.put _ (some 24) _ = _
         simp only [Act.put, sI_, s0_, s1_, zaA, zaR]
         rfl
        refine pu_ HT_ 14 3 (bl_ 15 32767) ?_
        refine zaP (zao HT_.out (by kernel_rfl)) ?_
        try go_wp2
        go_roundg k1
        case measure => have := HK1.out; omega
        case rel => exact ⟨(y142), (wrap64 (x8_1 + 1)), (by first | rfl | (simp; done) | (simp [*]; done)), H', ⟨by have := HK1.out; omega⟩, ⟨by (with_reducible repeat (first | apply Kd.zL | apply Kd.zH | apply Kd.zP)); exact HO144.out⟩, ⟨by (with_reducible repeat (first | refine zg ?_ _ | refine zi ?_ | refine zf ?_ _)); exact BK139.out⟩, ⟨by repeat (first | (with_reducible first | exact HB.out | apply zj | apply ze | apply zl | refine zm ?_ GE139.out) | exact HB.out)⟩⟩
       ·rw [if_neg c8] at H
        exact absurd H (by simp)
      ·rw [if_neg c7] at H
       exact absurd H (by simp)
     ·rw [if_neg c6] at H
      exact absurd H (by simp)
    ·rw [if_neg c5] at H
     exact absurd H (by simp)
   ·rw [if_neg c4] at H
    have c4b0 : decide (x8_1 < (l0_0.length : Int)) = false := decide_eq_false c4
    clear c4
    obtain rfl := Option.some.inj H
    go_wp2
    go_ret
    exact ⟨_, by first | rfl | (simp [zp, zq] <;> rfl) | (simp [*, zp, zq] <;> rfl), by (with_reducible repeat (first | apply Kd.zL | apply Kd.zH | apply Kd.zP)); exact HO_3.out, by repeat (first | (with_reducible first | exact HB.out | apply zj | apply ze | apply zl | refine zm ?_ GE139.out) | exact HB.out)⟩
end Go.Proofs.Ytlidbaejhmamjaa.PB
namespace Go.Proofs.Ytlidbaejhmamjaa.PB
open Go.RowKit YtlidbaejhmamjaaW.PrintWords YtlidbaejhmamjaaW.PrintLast YtlidbaejhmamjaaW.PrintMore
attribute [local go_sem] zak zam zaw zau zae zad zal zan   -- for this text's walks alone
def zaI.f (a0_0 : Int) (a0_1 : Int) : Option (Bool) := if a0_0 ≥ 0 then (if a0_0 ≤ 8 then (if a0_1 ≥ 0 then (if 0 ≤ a0_0 then (some (decide (a0_1 < (shl .i64 1 a0_0)))) else (none)) else (some false)) else (some false)) else (some false)
set_option maxHeartbeats 8000000 in
set_option maxRecDepth 100000 in
theorem zaI.calls (a0_0 : Int) (a0_1 : Int) (r : Bool) (w : World) (h : zaI.f a0_0 a0_1 = some r) :
  Calls Try.prog 40 #[.agg #[.int .i64 a0_0, .int .i64 a0_1]] w fun e w' => e = .returned (.bool r) ∧ Below w.heap.size w w' := by
 have hu90 := Try.underlying90
 have HB := am_ (Below.refl w.heap.size w)
 have H : (if a0_0 ≥ 0 then (if a0_0 ≤ 8 then (if a0_1 ≥ 0 then (if 0 ≤ a0_0 then (some (decide (a0_1 < (shl .i64 1 a0_0)))) else (none)) else (some false)) else (some false)) else (some false)) = some r := h
 clear h
 by_cases c2 : a0_0 ≥ 0
 ·rw [if_pos c2] at H
  have c2b0 : decide (0 ≤ a0_0) = true := decide_eq_true c2
  clear c2
  by_cases c3 : a0_0 ≤ 8
  ·rw [if_pos c3] at H
   have c3b0 : decide (a0_0 ≤ 8) = true := decide_eq_true c3
   clear c3
   by_cases c4 : a0_1 ≥ 0
   ·rw [if_pos c4] at H
    have c4b0 : decide (0 ≤ a0_1) = true := decide_eq_true c4
    clear c4
    by_cases c5 : 0 ≤ a0_0
    ·rw [if_pos c5] at H
     have c5b0 := eq_true c5
     have c5b1 : decide (0 ≤ a0_0) = true := decide_eq_true c5
     clear c5
     obtain ⟨ji6, hji6⟩ : ∃ j_ : Int, (shl .i64 1 a0_0) = j_ := ⟨_, rfl⟩
     replace H : (some (decide (a0_1 < (ji6)))) = some r := by first | (rw [hji6] at H; exact H) | (simp only [hji6] at H ⊢; exact H)
     have hji6_ : (IntKind.i64.wrap (1 * 2 ^ min a0_0.toNat 64)) = ji6 := hji6
     have hji6z : a0_0 ≤ 64 → (IntKind.i64.wrap (1 * 2 ^ a0_0.toNat)) = ji6 := shl_small hji6
     have hji6u : (IntKind.i64.wrap (2 ^ min a0_0.toNat 64)) = ji6 := by have h_ := hji6_; rw [Int.one_mul] at h_; exact h_
     have hji6v : a0_0 ≤ 64 → (IntKind.i64.wrap (2 ^ a0_0.toNat)) = ji6 := fun hle_ => by have h_ := hji6z hle_; rw [Int.one_mul] at h_; exact h_
     have hji6y : (wrap64 (1 * 2 ^ min a0_0.toNat 64)) = ji6 := (zaA _).symm.trans hji6_
     have hji6x : a0_0 ≤ 64 → (wrap64 (1 * 2 ^ a0_0.toNat)) = ji6 := fun h_ => (zaA _).symm.trans (hji6z h_)
     obtain rfl := Option.some.inj H
     go_enter Try.func40, Try.ntmps40
     go_wp2_with (first | ((with_reducible refine zk (N := 1) rfl ?_); refine zaq 1 (cs := #[.int .i64 a0_0, .int .i64 a0_1]) (t := 90) ?_; intro gb145 hg w7 hbox hb; have BK145 := am_ (hbox); have GW145 := am_ ((by rw [hg]; exact (zo bw_) : w.heap.size ≤ gb145)); replace HB := am_ (zb bw_ hb); have GE145 := GW145; clear hb hbox hg; have hcz8_0 : w7.cell? ⟨gb145, 0, none⟩ = some (.int .i64 a0_0) := (za BK145.out 0).trans rfl; have hcz8_1 : w7.cell? ⟨gb145, 1, none⟩ = some (.int .i64 a0_1) := (za BK145.out 1).trans rfl; have hfz8_0 := zd BK145.out 0; have hfz8_1 := zd BK145.out 1))
     repeat (go_quiet (first | ((with_reducible refine zk (N := 1) rfl ?_); refine zaq 1 (cs := #[.int .i64 a0_0, .int .i64 a0_1]) (t := 90) ?_; intro gb145 hg w7 hbox hb; have BK145 := am_ (hbox); have GW145 := am_ ((by rw [hg]; exact (zo bw_) : w.heap.size ≤ gb145)); replace HB := am_ (zb bw_ hb); have GE145 := GW145; clear hb hbox hg; have hcz8_0 : w7.cell? ⟨gb145, 0, none⟩ = some (.int .i64 a0_0) := (za BK145.out 0).trans rfl; have hcz8_1 : w7.cell? ⟨gb145, 1, none⟩ = some (.int .i64 a0_1) := (za BK145.out 1).trans rfl; have hfz8_0 := zd BK145.out 0; have hfz8_1 := zd BK145.out 1)); try go_wp2_with (first | ((with_reducible refine zk (N := 1) rfl ?_); refine zaq 1 (cs := #[.int .i64 a0_0, .int .i64 a0_1]) (t := 90) ?_; intro gb145 hg w7 hbox hb; have BK145 := am_ (hbox); have GW145 := am_ ((by rw [hg]; exact (zo bw_) : w.heap.size ≤ gb145)); replace HB := am_ (zb bw_ hb); have GE145 := GW145; clear hb hbox hg; have hcz8_0 : w7.cell? ⟨gb145, 0, none⟩ = some (.int .i64 a0_0) := (za BK145.out 0).trans rfl; have hcz8_1 : w7.cell? ⟨gb145, 1, none⟩ = some (.int .i64 a0_1) := (za BK145.out 1).trans rfl; have hfz8_0 := zd BK145.out 0; have hfz8_1 := zd BK145.out 1)))
     go_ret
     exact ⟨by first | rfl | (simp [zp, zq] <;> rfl) | (simp only [← hji6]; first | rfl | (simp [zp, zq] <;> rfl)) | (simp [*, zp, zq] <;> rfl), by repeat (first | (with_reducible first | exact HB.out | apply zj | apply ze | apply zl | refine zm ?_ GE145.out) | exact HB.out)⟩
    ·rw [if_neg c5] at H
     exact absurd H (by simp)
   ·rw [if_neg c4] at H
    have c4b0 : decide (0 ≤ a0_1) = false := decide_eq_false c4
    clear c4
    obtain rfl := Option.some.inj H
    go_enter Try.func40, Try.ntmps40
    go_wp2_with (first | ((with_reducible refine zk (N := 1) rfl ?_); refine zaq 1 (cs := #[.int .i64 a0_0, .int .i64 a0_1]) (t := 90) ?_; intro gb145 hg w9 hbox hb; have BK145 := am_ (hbox); have GW145 := am_ ((by rw [hg]; exact (zo bw_) : w.heap.size ≤ gb145)); replace HB := am_ (zb bw_ hb); have GE145 := GW145; clear hb hbox hg; have hcz10_0 : w9.cell? ⟨gb145, 0, none⟩ = some (.int .i64 a0_0) := (za BK145.out 0).trans rfl; have hcz10_1 : w9.cell? ⟨gb145, 1, none⟩ = some (.int .i64 a0_1) := (za BK145.out 1).trans rfl; have hfz10_0 := zd BK145.out 0; have hfz10_1 := zd BK145.out 1))
    repeat (go_quiet (first | ((with_reducible refine zk (N := 1) rfl ?_); refine zaq 1 (cs := #[.int .i64 a0_0, .int .i64 a0_1]) (t := 90) ?_; intro gb145 hg w9 hbox hb; have BK145 := am_ (hbox); have GW145 := am_ ((by rw [hg]; exact (zo bw_) : w.heap.size ≤ gb145)); replace HB := am_ (zb bw_ hb); have GE145 := GW145; clear hb hbox hg; have hcz10_0 : w9.cell? ⟨gb145, 0, none⟩ = some (.int .i64 a0_0) := (za BK145.out 0).trans rfl; have hcz10_1 : w9.cell? ⟨gb145, 1, none⟩ = some (.int .i64 a0_1) := (za BK145.out 1).trans rfl; have hfz10_0 := zd BK145.out 0; have hfz10_1 := zd BK145.out 1)); try go_wp2_with (first | ((with_reducible refine zk (N := 1) rfl ?_); refine zaq 1 (cs := #[.int .i64 a0_0, .int .i64 a0_1]) (t := 90) ?_; intro gb145 hg w9 hbox hb; have BK145 := am_ (hbox); have GW145 := am_ ((by rw [hg]; exact (zo bw_) : w.heap.size ≤ gb145)); replace HB := am_ (zb bw_ hb); have GE145 := GW145; clear hb hbox hg; have hcz10_0 : w9.cell? ⟨gb145, 0, none⟩ = some (.int .i64 a0_0) := (za BK145.out 0).trans rfl; have hcz10_1 : w9.cell? ⟨gb145, 1, none⟩ = some (.int .i64 a0_1) := (za BK145.out 1).trans rfl; have hfz10_0 := zd BK145.out 0; have hfz10_1 := zd BK145.out 1)))
    go_ret
    exact ⟨by first | rfl | (simp [zp, zq] <;> rfl) | (simp [*, zp, zq] <;> rfl), by repeat (first | (with_reducible first | exact HB.out | apply zj | apply ze | apply zl | refine zm ?_ GE145.out) | exact HB.out)⟩
  ·rw [if_neg c3] at H
   have c3b0 : decide (a0_0 ≤ 8) = false := decide_eq_false c3
   clear c3
   obtain rfl := Option.some.inj H
   go_enter Try.func40, Try.ntmps40
   go_wp2_with (first | ((with_reducible refine zk (N := 1) rfl ?_); refine zaq 1 (cs := #[.int .i64 a0_0, .int .i64 a0_1]) (t := 90) ?_; intro gb145 hg w11 hbox hb; have BK145 := am_ (hbox); have GW145 := am_ ((by rw [hg]; exact (zo bw_) : w.heap.size ≤ gb145)); replace HB := am_ (zb bw_ hb); have GE145 := GW145; clear hb hbox hg; have hcz12_0 : w11.cell? ⟨gb145, 0, none⟩ = some (.int .i64 a0_0) := (za BK145.out 0).trans rfl; have hcz12_1 : w11.cell? ⟨gb145, 1, none⟩ = some (.int .i64 a0_1) := (za BK145.out 1).trans rfl; have hfz12_0 := zd BK145.out 0; have hfz12_1 := zd BK145.out 1))
   repeat (go_quiet (first | ((with_reducible refine zk (N := 1) rfl ?_); refine zaq 1 (cs := #[.int .i64 a0_0, .int .i64 a0_1]) (t := 90) ?_; intro gb145 hg w11 hbox hb; have BK145 := am_ (hbox); have GW145 := am_ ((by rw [hg]; exact (zo bw_) : w.heap.size ≤ gb145)); replace HB := am_ (zb bw_ hb); have GE145 := GW145; clear hb hbox hg; have hcz12_0 : w11.cell? ⟨gb145, 0, none⟩ = some (.int .i64 a0_0) := (za BK145.out 0).trans rfl; have hcz12_1 : w11.cell? ⟨gb145, 1, none⟩ = some (.int .i64 a0_1) := (za BK145.out 1).trans rfl; have hfz12_0 := zd BK145.out 0; have hfz12_1 := zd BK145.out 1)); try go_wp2_with (first | ((with_reducible refine zk (N := 1) rfl ?_); refine zaq 1 (cs := #[.int .i64 a0_0, .int .i64 a0_1]) (t := 90) ?_; intro gb145 hg w11 hbox hb; have BK145 := am_ (hbox); have GW145 := am_ ((by rw [hg]; exact (zo bw_) : w.heap.size ≤ gb145)); replace HB := am_ (zb bw_ hb); have GE145 := GW145; clear hb hbox hg; have hcz12_0 : w11.cell? ⟨gb145, 0, none⟩ = some (.int .i64 a0_0) := (za BK145.out 0).trans rfl; have hcz12_1 : w11.cell? ⟨gb145, 1, none⟩ = some (.int .i64 a0_1) := (za BK145.out 1).trans rfl; have hfz12_0 := zd BK145.out 0; have hfz12_1 := zd BK145.out 1)))
   go_ret
   exact ⟨by first | rfl | (simp [zp, zq] <;> rfl) | (simp [*, zp, zq] <;> rfl), by repeat (first | (with_reducible first | exact HB.out | apply zj | apply ze | apply zl | refine zm ?_ GE145.out) | exact HB.out)⟩
 ·rw [if_neg c2] at H
  have c2b0 : decide (0 ≤ a0_0) = false := decide_eq_false c2
  clear c2
  obtain rfl := Option.some.inj H
  go_enter Try.func40, Try.ntmps40
  go_wp2_with (first | ((with_reducible refine zk (N := 1) rfl ?_); refine zaq 1 (cs := #[.int .i64 a0_0, .int .i64 a0_1]) (t := 90) ?_; intro gb145 hg w13 hbox hb; have BK145 := am_ (hbox); have GW145 := am_ ((by rw [hg]; exact (zo bw_) : w.heap.size ≤ gb145)); replace HB := am_ (zb bw_ hb); have GE145 := GW145; clear hb hbox hg; have hcz14_0 : w13.cell? ⟨gb145, 0, none⟩ = some (.int .i64 a0_0) := (za BK145.out 0).trans rfl; have hcz14_1 : w13.cell? ⟨gb145, 1, none⟩ = some (.int .i64 a0_1) := (za BK145.out 1).trans rfl; have hfz14_0 := zd BK145.out 0; have hfz14_1 := zd BK145.out 1))
  repeat (go_quiet (first | ((with_reducible refine zk (N := 1) rfl ?_); refine zaq 1 (cs := #[.int .i64 a0_0, .int .i64 a0_1]) (t := 90) ?_; intro gb145 hg w13 hbox hb; have BK145 := am_ (hbox); have GW145 := am_ ((by rw [hg]; exact (zo bw_) : w.heap.size ≤ gb145)); replace HB := am_ (zb bw_ hb); have GE145 := GW145; clear hb hbox hg; have hcz14_0 : w13.cell? ⟨gb145, 0, none⟩ = some (.int .i64 a0_0) := (za BK145.out 0).trans rfl; have hcz14_1 : w13.cell? ⟨gb145, 1, none⟩ = some (.int .i64 a0_1) := (za BK145.out 1).trans rfl; have hfz14_0 := zd BK145.out 0; have hfz14_1 := zd BK145.out 1)); try go_wp2_with (first | ((with_reducible refine zk (N := 1) rfl ?_); refine zaq 1 (cs := #[.int .i64 a0_0, .int .i64 a0_1]) (t := 90) ?_; intro gb145 hg w13 hbox hb; have BK145 := am_ (hbox); have GW145 := am_ ((by rw [hg]; exact (zo bw_) : w.heap.size ≤ gb145)); replace HB := am_ (zb bw_ hb); have GE145 := GW145; clear hb hbox hg; have hcz14_0 : w13.cell? ⟨gb145, 0, none⟩ = some (.int .i64 a0_0) := (za BK145.out 0).trans rfl; have hcz14_1 : w13.cell? ⟨gb145, 1, none⟩ = some (.int .i64 a0_1) := (za BK145.out 1).trans rfl; have hfz14_0 := zd BK145.out 0; have hfz14_1 := zd BK145.out 1)))
  go_ret
  exact ⟨by first | rfl | (simp [zp, zq] <;> rfl) | (simp [*, zp, zq] <;> rfl), by repeat (first | (with_reducible first | exact HB.out | apply zj | apply ze | apply zl | refine zm ?_ GE145.out) | exact HB.out)⟩
end Go.Proofs.Ytlidbaejhmamjaa.PB
namespace Go.Proofs.Ytlidbaejhmamjaa.PB
open Go.RowKit YtlidbaejhmamjaaW.PrintWords YtlidbaejhmamjaaW.PrintLast YtlidbaejhmamjaaW.PrintMore
attribute [local go_sem] zak zam zaw zau zae zad zal zan   -- for this text's walks alone
mutual
def zz.j0 : Nat → Bool → List Int → List Int → Option (Int)
 | 0, _, _, _ => none
 | k + 1, x26, x147000, x147001 => if x26 = true then (some 180) else ((zM.f k x147000 x147001).bind fun t147 => (zz.l0 k t147 (t147.length : Int) 0))
def zz.l0 : Nat → List (S90) → Int → Int → Option (Int)
 | 0, _, _, _ => none
 | k + 1, x28, x29, x30 => if x30 < x29 then (if 0 ≤ x30 then (if x30 < (x28.length : Int) then ((zaI.f ((zt x28 x30).f0) ((zt x28 x30).f1)).bind fun t152 => (if t152 = true then (zz.l0 k x28 x29 (wrap64 (x30 + 1))) else (some 180))) else (none)) else (none)) else (some 0)
end
def zz.f (k : Nat) (l0_0 : List Int) (l0_1 : List Int) (a1 : Int) : Option (Int) := if a1 < 0 then (zz.j0 k true l0_0 l0_1) else (if a1 > 256 then (zz.j0 k true l0_0 l0_1) else (if (l0_0.length : Int) = a1 then (zz.j0 k ((l0_1.length : Int) != a1) l0_0 l0_1) else (zz.j0 k true l0_0 l0_1)))
set_option maxHeartbeats 8000000 in
set_option maxRecDepth 100000 in
theorem zz.calls (k : Nat) (A0_0 : Option Addr) (c0_0 : Nat) (l0_0 : List Int) (A0_1 : Option Addr) (c0_1 : Nat) (l0_1 : List Int) (a1 : Int) (r : Int) (w : World) (hr0_0 : Kd.C (Kd.int .i64) w A0_0 l0_0.length l0_0) (hc0_0 : l0_0.length ≤ c0_0) (hr0_1 : Kd.C (Kd.int .i64) w A0_1 l0_1.length l0_1) (hc0_1 : l0_1.length ≤ c0_1) (h : zz.f k l0_0 l0_1 a1 = some r) :
  Calls Try.prog 17 #[.agg #[.slice A0_0 l0_0.length c0_0, .slice A0_1 l0_1.length c0_1], .int .i64 a1] w fun e w' => e = .returned (.int .i64 r) ∧ Below w.heap.size w w' := by
 have hu24 := Try.underlying24
 have hu90 := Try.underlying90
 have HR0_0 := am_ hr0_0
 have HC0_0 := am_ hc0_0
 clear hr0_0 hc0_0
 have HR0_1 := am_ hr0_1
 have HC0_1 := am_ hc0_1
 clear hr0_1 hc0_1
 have HB := am_ (Below.refl w.heap.size w)
 have H : (if a1 < 0 then (zz.j0 k true l0_0 l0_1) else (if a1 > 256 then (zz.j0 k true l0_0 l0_1) else (if (l0_0.length : Int) = a1 then (zz.j0 k ((l0_1.length : Int) != a1) l0_0 l0_1) else (zz.j0 k true l0_0 l0_1)))) = some r := h
 clear h
 have HC3 := am_ H
 clear H
 go_enter Try.func17, Try.ntmps17
 go_upto_region 1 with (first | ((with_reducible refine zk (N := 2) rfl ?_); (try (refine zZ (by rfl) ?_; dsimp only)); refine zaq 2 (cs := #[.slice A0_0 l0_0.length c0_0, .slice A0_1 l0_1.length c0_1]) (t := 24) ?_; intro gb146 hg w4 hbox hb; have BK146 := am_ (hbox); have GW146 := am_ ((by rw [hg]; exact (zo bw_) : w.heap.size ≤ gb146)); replace HB := am_ (zb bw_ hb); have GE146 := GW146; clear hb hbox hg))
 (try simp only [Act.put, sI_, s0_, s1_])
 go_cut [26] (fun v26 wc => ∃ (kq : Nat) (x26_2 : Bool), v26 = .bool x26_2 ∧ Aside0 (zz.j0 kq x26_2 l0_0 l0_1 = some r) ∧ Aside0 (kq ≤ k) ∧ Aside0 (wc.heap[gb146]? = some (.cells #[(.slice A0_0 l0_0.length c0_0), (.slice A0_1 l0_1.length c0_1)] 24 (0, 0))) ∧ Aside0 (Below w.heap.size w wc))
 case first =>
  have H := HC3.out
  clear HC3
  by_cases c5 : a1 < 0
  ·rw [if_pos c5] at H
   have c5b0 : decide (a1 < 0) = true := decide_eq_true c5
   clear c5
   (first | rw [c5b0] | (simp only [zaA, zaR]; rw [c5b0]) | skip)
   have H' := am_ H
   clear H
   go_wp2
   go_meet
   case rel => exact ⟨_, (true), (by first | rfl | (simp; done) | (simp [*]; done)), H', ⟨by first | omega | exact Nat.le_refl _⟩, ⟨by (with_reducible repeat (first | refine zg ?_ _ | refine zi ?_ | refine zf ?_ _)); exact BK146.out⟩, ⟨by repeat (first | (with_reducible first | exact HB.out | apply zj | apply ze | apply zl | refine zm ?_ GE146.out) | exact HB.out)⟩⟩
  ·rw [if_neg c5] at H
   have c5b0 : decide (a1 < 0) = false := decide_eq_false c5
   clear c5
   (first | rw [c5b0] | (simp only [zaA, zaR]; rw [c5b0]) | skip)
   by_cases c6 : a1 > 256
   ·rw [if_pos c6] at H
    have c6b0 : decide (256 < a1) = true := decide_eq_true c6
    clear c6
    have H' := am_ H
    clear H
    go_wp2
    go_meet
    case rel => exact ⟨_, (true), (by first | rfl | (simp; done) | (simp [*]; done)), H', ⟨by first | omega | exact Nat.le_refl _⟩, ⟨by (with_reducible repeat (first | refine zg ?_ _ | refine zi ?_ | refine zf ?_ _)); exact BK146.out⟩, ⟨by repeat (first | (with_reducible first | exact HB.out | apply zj | apply ze | apply zl | refine zm ?_ GE146.out) | exact HB.out)⟩⟩
   ·rw [if_neg c6] at H
    have c6b0 : decide (256 < a1) = false := decide_eq_false c6
    clear c6
    by_cases c7 : (l0_0.length : Int) = a1
    ·rw [if_pos c7] at H
     have c7b0 : ((l0_0.length : Int) == a1) = true := beq_iff_eq.mpr c7
     have c7b1 : ((l0_0.length : Int) != a1) = false := bne_eq_false_iff_eq.mpr c7
     clear c7
     have H' := am_ H
     clear H
     have hcz8_0 : w4.cell? ⟨gb146, 0, none⟩ = some (.slice A0_0 l0_0.length c0_0) := (za BK146.out 0).trans rfl
     have hcz8_1 : w4.cell? ⟨gb146, 1, none⟩ = some (.slice A0_1 l0_1.length c0_1) := (za BK146.out 1).trans rfl
     have hfz8_0 := zd BK146.out 0
     have hfz8_1 := zd BK146.out 1
     go_wp2
     go_meet
     case rel => exact ⟨_, (((l0_1.length : Int) != a1)), (by first | rfl | (simp; done) | (simp [*]; done)), H', ⟨by first | omega | exact Nat.le_refl _⟩, ⟨by (with_reducible repeat (first | refine zg ?_ _ | refine zi ?_ | refine zf ?_ _)); exact BK146.out⟩, ⟨by repeat (first | (with_reducible first | exact HB.out | apply zj | apply ze | apply zl | refine zm ?_ GE146.out) | exact HB.out)⟩⟩
    ·rw [if_neg c7] at H
     have c7b0 : ((l0_0.length : Int) == a1) = false := beq_eq_false_iff_ne.mpr c7
     have c7b1 : ((l0_0.length : Int) != a1) = true := bne_iff_ne.mpr c7
     have H' := am_ H
     clear H
     have hcz9_0 : w4.cell? ⟨gb146, 0, none⟩ = some (.slice A0_0 l0_0.length c0_0) := (za BK146.out 0).trans rfl
     have hcz9_1 : w4.cell? ⟨gb146, 1, none⟩ = some (.slice A0_1 l0_1.length c0_1) := (za BK146.out 1).trans rfl
     have hfz9_0 := zd BK146.out 0
     have hfz9_1 := zd BK146.out 1
     go_wp2
     go_meet
     case rel => exact ⟨_, (true), (by first | rfl | (simp; done) | (simp [*]; done)), H', ⟨by first | omega | exact Nat.le_refl _⟩, ⟨by (with_reducible repeat (first | refine zg ?_ _ | refine zi ?_ | refine zf ?_ _)); exact BK146.out⟩, ⟨by repeat (first | (with_reducible first | exact HB.out | apply zj | apply ze | apply zl | refine zm ?_ GE146.out) | exact HB.out)⟩⟩
 case rest =>
  clear HC3
  try clear c1
  try clear p2
  try clear c5
  try clear c5b0
  try clear c6
  try clear c6b0
  try clear c7
  try clear c7b0
  try clear c7b1
  try clear hcz8_0
  try clear hcz8_1
  try clear hcz9_0
  try clear hcz9_1
  try clear hfz8_0
  try clear hfz8_1
  try clear hfz9_0
  try clear hfz9_1
  obtain ⟨kq, x26_2, rfl, HA, HJ2, BK146, HB⟩ := hcut
  cases kq with
  | zero => exact absurd HA.out (by simp [zz.j0])
  | succ kj2 =>
   have H := HA.out
   clear HA
   simp only [zz.j0] at H
   by_cases c10 : x26_2 = true
   ·subst c10
    have H1 : (some 180) = some r := by rw [if_pos rfl] at H; exact H
    clear H
    have H := H1
    clear H1
    obtain rfl := Option.some.inj H
    go_wp2
    go_ret
    exact ⟨by first | rfl | (simp [zp, zq] <;> rfl) | (simp [*, zp, zq] <;> rfl), by repeat (first | (with_reducible first | exact HB.out | apply zj | apply ze | apply zl | refine zm ?_ GE146.out) | exact HB.out)⟩
   ·replace c10 := Bool.eq_false_iff.mpr c10
    subst c10
    have H1 : ((zM.f kj2 l0_0 l0_1).bind fun t147 => (zz.l0 kj2 t147 (t147.length : Int) 0)) = some r := by rw [if_neg (show ¬ (false = true) by decide)] at H; exact H
    clear H
    have H := H1
    clear H1
    replace H := Option.bind_eq_some_iff.mp H
    obtain ⟨t147, A110, H⟩ := H
    replace H : (zz.l0 kj2 t147 (t147.length : Int) 0) = some r := H
    have A11 := am_ A110
    clear A110
    have H' := am_ H
    clear H
    have hcz12_0 : wc.cell? ⟨gb146, 0, none⟩ = some (.slice A0_0 l0_0.length c0_0) := (za BK146.out 0).trans rfl
    have hcz12_1 : wc.cell? ⟨gb146, 1, none⟩ = some (.slice A0_1 l0_1.length c0_1) := (za BK146.out 1).trans rfl
    have hfz12_0 := zd BK146.out 0
    have hfz12_1 := zd BK146.out 1
    go_wp2_with (first | ((with_reducible refine zac (f := 39) rfl ?_); refine zaZ (some 28) rfl rfl Try.func39 (by kernel_rfl) rfl #[.agg #[.slice A0_0 l0_0.length c0_0, .slice A0_1 l0_1.length c0_1]] rfl (by (try simp only [List.map_toArray, List.map_cons, List.map_nil]); first | done | rfl | (simp only [List.length_drop, List.length_take]; rfl)) ?_; (with_reducible refine (zM.calls kj2 _ _ l0_0 _ _ l0_1 t147 _ ?side1 ?side2 ?side3 ?side4 A11.out).mono ?_); (case side1 => repeat (first | exact (Kd.zB HR0_0.out HB.out) | (with_reducible refine Kd.zaG ?_ _) | (with_reducible refine Kd.zaF ?_ _) | (with_reducible refine Kd.zaQ ?_))); (case side2 => exact HC0_0.out); (case side3 => repeat (first | exact (Kd.zB HR0_1.out HB.out) | (with_reducible refine Kd.zaG ?_ _) | (with_reducible refine Kd.zaF ?_ _) | (with_reducible refine Kd.zaQ ?_))); (case side4 => exact HC0_1.out); rintro e w13 ⟨v148, rfl, ho0, hb⟩; refine ⟨_, rfl, ?_⟩; have HO149 := am_ (Kd.zag ho0 (zo bw_)); replace BK146 := am_ (fr_ BK146.out hb); replace HB := am_ (zb bw_ hb); (try clear hb); (try clear hb2); (try clear hk); (try clear hi); (try clear ho0); obtain ⟨Ao14, co14, eo14⟩ := Kd.zY HO149.out; subst eo14))
    go_loopg [30] kj2 (fun kq v30 w' => ∃ (x30_2 : Int), v30 = .int .i64 x30_2 ∧ Aside0 (zz.l0 kq t147 (t147.length : Int) x30_2 = some r) ∧ Aside0 (kq ≤ kj2) ∧ Aside0 (Kd.R k90 90 w' w.heap.size (fun _ => True) (.slice Ao14 t147.length co14) t147) ∧ Aside0 (w'.heap[gb146]? = some (.cells #[(.slice A0_0 l0_0.length c0_0), (.slice A0_1 l0_1.length c0_1)] 24 (0, 0))) ∧ Aside0 (Below w.heap.size w w'))
    case atStart => exact ⟨(0), (by first | rfl | (simp; done) | (simp [*]; done)), H', ⟨Nat.le_refl _⟩, ⟨by (with_reducible repeat (first | apply Kd.zL | apply Kd.zH | apply Kd.zP)); exact HO149.out⟩, ⟨by (with_reducible repeat (first | refine zg ?_ _ | refine zi ?_ | refine zf ?_ _)); exact BK146.out⟩, ⟨by repeat (first | (with_reducible first | exact HB.out | apply zj | apply ze | apply zl | refine zm ?_ GE146.out) | exact HB.out)⟩⟩
    case round =>
     clear H'
     try clear c1
     try clear p2
     try clear c3
     try clear c5
     try clear c5b0
     try clear c6
     try clear c6b0
     try clear c7
     try clear c7b0
     try clear c7b1
     try clear c10
     try clear hcz12_0
     try clear hcz12_1
     try clear hcz8_0
     try clear hcz8_1
     try clear hcz9_0
     try clear hcz9_1
     try clear hfz12_0
     try clear hfz12_1
     try clear hfz8_0
     try clear hfz8_1
     try clear hfz9_0
     try clear hfz9_1
     try clear p2
     obtain ⟨x30_2, rfl, HA, HK2, HO_28, BK146, HB⟩ := hrel
     cases gk with
     | zero => exact absurd HA.out (by simp [zz.l0])
     | succ k2 =>
      have H := HA.out
      clear HA
      simp only [zz.l0] at H
      by_cases c15 : x30_2 < (t147.length : Int)
      ·rw [if_pos c15] at H
       have c15b0 : decide (x30_2 < (t147.length : Int)) = true := decide_eq_true c15
       clear c15
       by_cases c16 : 0 ≤ x30_2
       ·rw [if_pos c16] at H
        have c16b0 : decide (0 ≤ x30_2) = true := decide_eq_true c16
        clear c16
        by_cases c17 : x30_2 < (t147.length : Int)
        ·rw [if_pos c17] at H
         have c17b0 : decide (x30_2 < (t147.length : Int)) = true := decide_eq_true c17
         clear c17
         replace H := Option.bind_eq_some_iff.mp H
         obtain ⟨t152, A180, H⟩ := H
         replace H : (if t152 = true then (zz.l0 k2 t147 (t147.length : Int) (wrap64 (x30_2 + 1))) else (some 180)) = some r := H
         have A18 := am_ A180
         clear A180
         by_cases c19 : t152 = true
         ·subst c19
          have H1 : (zz.l0 k2 t147 (t147.length : Int) (wrap64 (x30_2 + 1))) = some r := by rw [if_pos rfl] at H; exact H
          clear H
          have H := H1
          clear H1
          have H' := am_ H
          clear H
          have p150 : 0 ≤ (x30_2 : Int) := of_decide_eq_true (by first | (with_reducible assumption) | assumption)
          have q150 : x30_2 < (t147.length : Int) := of_decide_eq_true (by first | (with_reducible assumption) | assumption)
          obtain ⟨ad150, e150, hx150_0, hx150_1⟩ := at_T90 (Kd.zQ HO_28.out).2.2 x30_2 p150 q150
          cases e150
          replace p150 := eq_true p150
          replace q150 := eq_true q150
          go_wp2_with (first | ((with_reducible refine zk (N := 6) rfl ?_); (try (refine zZ (by rfl) ?_; dsimp only)); refine zaq 6 (cs := #[.int .i64 0, .int .i64 0]) (t := 90) ?_; intro gb151 hg w20 hbox hb; replace HO_28 := am_ (Kd.zI (Kd.R_elderB (pk_ HO_28.out) gb151 (Nat.le_of_eq hg.symm)) hb); have BK151 := am_ (hbox); have GW151 := am_ ((by rw [hg]; exact (zo bw_) : w.heap.size ≤ gb151)); replace HB := am_ (zb bw_ hb); have GE151 := GW151; have NB146_151 := am_ ((by rw [hg]; exact Nat.ne_of_lt (fl_ BK146.out) : gb146 ≠ gb151)); replace BK146 := am_ (fr_ BK146.out hb); have NB151_146 := am_ NB146_151.out.symm; clear hb hbox hg; have hnb21 := NB151_146.out; have hnc21 := NB146_151.out; have hcz22_0 : w20.cell? ⟨gb151, 0, none⟩ = some (.int .i64 0) := (za BK151.out 0).trans rfl; have hcz22_1 : w20.cell? ⟨gb151, 1, none⟩ = some (.int .i64 0) := (za BK151.out 1).trans rfl; have hfz22_0 := zd BK151.out 0; have hfz22_1 := zd BK151.out 1) | ((with_reducible refine zac (f := 40) rfl ?_); refine zaZ (some 35) rfl rfl Try.func40 (by kernel_rfl) rfl #[.agg #[.int .i64 ((zt t147 x30_2).f0), .int .i64 ((zt t147 x30_2).f1)]] rfl (by (try simp only [List.map_toArray, List.map_cons, List.map_nil]); first | done | rfl | (simp only [List.length_drop, List.length_take]; rfl)) ?_; (with_reducible refine (zaI.calls ((zt t147 x30_2).f0) ((zt t147 x30_2).f1) true _ A18.out).mono ?_); rintro e w23 ⟨rfl, hb⟩; refine ⟨_, rfl, ?_⟩; replace HO_28 := am_ (Kd.zI (by (with_reducible repeat (first | apply Kd.zL | apply Kd.zH | apply Kd.zP)); exact (Kd.zS (Kd.zap (p := ⟨gb151, 1, none⟩) (Kd.zap (p := ⟨gb151, 0, none⟩) (Kd.zS HO_28.out (fun k_ hk => (⟨hk, hk.2⟩ : _ ∧ k_ ≠ gb151))) (fun _ hk => hk.2) (.int .i64 ((zt t147 x30_2).f0))) (fun _ hk => hk.2) (.int .i64 ((zt t147 x30_2).f1))) (fun _ h_ => h_.1))) hb); replace BK146 := am_ (zh (g := gb146) (o := .cells #[.slice A0_0 l0_0.length c0_0, .slice A0_1 l0_1.length c0_1] 24 (0, 0)) (by (with_reducible repeat (first | refine zg ?_ _ | refine zi ?_ | refine zf ?_ _)); refine zW ?_ NB146_151.out _; (with_reducible repeat (first | refine zg ?_ _ | refine zi ?_ | refine zf ?_ _)); refine zW ?_ NB146_151.out _; (with_reducible repeat (first | refine zg ?_ _ | refine zi ?_ | refine zf ?_ _)); exact BK146.out) hb); replace BK151 := am_ (zh (g := gb151) (o := .cells #[.int .i64 ((zt t147 x30_2).f0), .int .i64 ((zt t147 x30_2).f1)] 90 (0, 0)) (by (with_reducible repeat (first | refine zg ?_ _ | refine zi ?_ | refine zf ?_ _)); refine zO (cs := #[.int .i64 ((zt t147 x30_2).f0), .int .i64 0]) ?_ 1 _ rfl; (with_reducible repeat (first | refine zg ?_ _ | refine zi ?_ | refine zf ?_ _)); refine zO (cs := #[.int .i64 0, .int .i64 0]) ?_ 0 _ rfl; (with_reducible repeat (first | refine zg ?_ _ | refine zi ?_ | refine zf ?_ _)); exact BK151.out) hb); replace HB := am_ (zb bw_ hb); (try clear hb); (try clear hb2); (try clear hk); (try clear hi)))
          go_roundg k2
          case measure => have := HJ2.out; have := HK2.out; omega
          case rel => exact ⟨(wrap64 (x30_2 + 1)), (by first | rfl | (simp; done) | (simp [*]; done)), H', ⟨by have := HJ2.out; have := HK2.out; omega⟩, ⟨by (with_reducible repeat (first | apply Kd.zL | apply Kd.zH | apply Kd.zP)); exact Kd.zS HO_28.out (fun _ hk => trivial)⟩, ⟨by (with_reducible repeat (first | refine zg ?_ _ | refine zi ?_ | refine zf ?_ _)); exact BK146.out⟩, ⟨by repeat (first | (with_reducible first | exact HB.out | apply zj | apply ze | apply zl | refine zm ?_ GE146.out | refine zm ?_ GE151.out) | exact HB.out)⟩⟩
         ·replace c19 := Bool.eq_false_iff.mpr c19
          subst c19
          have H1 : (some 180) = some r := by rw [if_neg (show ¬ (false = true) by decide)] at H; exact H
          clear H
          have H := H1
          clear H1
          obtain rfl := Option.some.inj H
          have p150 : 0 ≤ (x30_2 : Int) := of_decide_eq_true (by first | (with_reducible assumption) | assumption)
          have q150 : x30_2 < (t147.length : Int) := of_decide_eq_true (by first | (with_reducible assumption) | assumption)
          obtain ⟨ad150, e150, hx150_0, hx150_1⟩ := at_T90 (Kd.zQ HO_28.out).2.2 x30_2 p150 q150
          cases e150
          replace p150 := eq_true p150
          replace q150 := eq_true q150
          go_wp2_with (first | ((with_reducible refine zk (N := 6) rfl ?_); (try (refine zZ (by rfl) ?_; dsimp only)); refine zaq 6 (cs := #[.int .i64 0, .int .i64 0]) (t := 90) ?_; intro gb151 hg w24 hbox hb; replace HO_28 := am_ (Kd.zI (Kd.R_elderB (pk_ HO_28.out) gb151 (Nat.le_of_eq hg.symm)) hb); have BK151 := am_ (hbox); have GW151 := am_ ((by rw [hg]; exact (zo bw_) : w.heap.size ≤ gb151)); replace HB := am_ (zb bw_ hb); have GE151 := GW151; have NB146_151 := am_ ((by rw [hg]; exact Nat.ne_of_lt (fl_ BK146.out) : gb146 ≠ gb151)); replace BK146 := am_ (fr_ BK146.out hb); have NB151_146 := am_ NB146_151.out.symm; clear hb hbox hg; have hnb25 := NB151_146.out; have hnc25 := NB146_151.out; have hcz26_0 : w24.cell? ⟨gb151, 0, none⟩ = some (.int .i64 0) := (za BK151.out 0).trans rfl; have hcz26_1 : w24.cell? ⟨gb151, 1, none⟩ = some (.int .i64 0) := (za BK151.out 1).trans rfl; have hfz26_0 := zd BK151.out 0; have hfz26_1 := zd BK151.out 1) | ((with_reducible refine zac (f := 40) rfl ?_); refine zaZ (some 35) rfl rfl Try.func40 (by kernel_rfl) rfl #[.agg #[.int .i64 ((zt t147 x30_2).f0), .int .i64 ((zt t147 x30_2).f1)]] rfl (by (try simp only [List.map_toArray, List.map_cons, List.map_nil]); first | done | rfl | (simp only [List.length_drop, List.length_take]; rfl)) ?_; (with_reducible refine (zaI.calls ((zt t147 x30_2).f0) ((zt t147 x30_2).f1) false _ A18.out).mono ?_); rintro e w27 ⟨rfl, hb⟩; refine ⟨_, rfl, ?_⟩; replace HO_28 := am_ (Kd.zI (by (with_reducible repeat (first | apply Kd.zL | apply Kd.zH | apply Kd.zP)); exact (Kd.zS (Kd.zap (p := ⟨gb151, 1, none⟩) (Kd.zap (p := ⟨gb151, 0, none⟩) (Kd.zS HO_28.out (fun k_ hk => (⟨hk, hk.2⟩ : _ ∧ k_ ≠ gb151))) (fun _ hk => hk.2) (.int .i64 ((zt t147 x30_2).f0))) (fun _ hk => hk.2) (.int .i64 ((zt t147 x30_2).f1))) (fun _ h_ => h_.1))) hb); replace BK146 := am_ (zh (g := gb146) (o := .cells #[.slice A0_0 l0_0.length c0_0, .slice A0_1 l0_1.length c0_1] 24 (0, 0)) (by (with_reducible repeat (first | refine zg ?_ _ | refine zi ?_ | refine zf ?_ _)); refine zW ?_ NB146_151.out _; (with_reducible repeat (first | refine zg ?_ _ | refine zi ?_ | refine zf ?_ _)); refine zW ?_ NB146_151.out _; (with_reducible repeat (first | refine zg ?_ _ | refine zi ?_ | refine zf ?_ _)); exact BK146.out) hb); replace BK151 := am_ (zh (g := gb151) (o := .cells #[.int .i64 ((zt t147 x30_2).f0), .int .i64 ((zt t147 x30_2).f1)] 90 (0, 0)) (by (with_reducible repeat (first | refine zg ?_ _ | refine zi ?_ | refine zf ?_ _)); refine zO (cs := #[.int .i64 ((zt t147 x30_2).f0), .int .i64 0]) ?_ 1 _ rfl; (with_reducible repeat (first | refine zg ?_ _ | refine zi ?_ | refine zf ?_ _)); refine zO (cs := #[.int .i64 0, .int .i64 0]) ?_ 0 _ rfl; (with_reducible repeat (first | refine zg ?_ _ | refine zi ?_ | refine zf ?_ _)); exact BK151.out) hb); replace HB := am_ (zb bw_ hb); (try clear hb); (try clear hb2); (try clear hk); (try clear hi)))
          go_ret
          exact ⟨by first | rfl | (simp [zp, zq] <;> rfl) | (simp [*, zp, zq] <;> rfl), by repeat (first | (with_reducible first | exact HB.out | apply zj | apply ze | apply zl | refine zm ?_ GE146.out | refine zm ?_ GE151.out) | exact HB.out)⟩
        ·rw [if_neg c17] at H
         exact absurd H (by simp)
       ·rw [if_neg c16] at H
        exact absurd H (by simp)
      ·rw [if_neg c15] at H
       have c15b0 : decide (x30_2 < (t147.length : Int)) = false := decide_eq_false c15
       clear c15
       obtain rfl := Option.some.inj H
       go_wp2
       go_ret
       exact ⟨by first | rfl | (simp [zp, zq] <;> rfl) | (simp [*, zp, zq] <;> rfl), by repeat (first | (with_reducible first | exact HB.out | apply zj | apply ze | apply zl | refine zm ?_ GE146.out) | exact HB.out)⟩
end Go.Proofs.Ytlidbaejhmamjaa.PB
namespace Go.Proofs.Ytlidbaejhmamjaa.LA
open Go.RowKit YtlidbaejhmamjaaW.PrintWords YtlidbaejhmamjaaW.PrintLast YtlidbaejhmamjaaW.PrintMore PB
/-- From some fuel on, the value. -/
def EvS {α : Type} (F : Nat → Option α) (v : α) : Prop := ∃ K, ∀ k, K ≤ k → F k = some v
theorem EvS.succ {α : Type} {F G : Nat → Option α} {v : α} (h : ∀ k, F (k + 1) = G k) (hg : EvS G v) : EvS F v := by
 obtain ⟨K, hK⟩ := hg
 refine ⟨K + 1, fun k hk => ?_⟩
 obtain ⟨j, rfl⟩ : ∃ j, k = j + 1 := ⟨k - 1, by omega⟩
 rw [h j]; exact hK j (by omega)
theorem EvS.of {α : Type} {F G : Nat → Option α} {v : α} (h : ∀ k, F k = G k) (hg : EvS G v) : EvS F v := by
 obtain ⟨K, hK⟩ := hg
 exact ⟨K, fun k hk => by rw [h k]; exact hK k hk⟩
theorem EvS.pure {α : Type} (v : α) : EvS (fun _ => some v) v := ⟨0, fun _ _ => rfl⟩
theorem EvS.done {α : Type} {F : Nat → Option α} {v : α} (h : ∀ k, F (k + 1) = some v) : EvS F v := EvS.succ h (EvS.pure v)
theorem EvS.bind {α β : Type} {F : Nat → Option α} {G : Nat → α → Option β} {u : α} {v : β} (hf : EvS F u) (hg : EvS (fun k => G k u) v) : EvS (fun k => (F k).bind (G k)) v := by
 obtain ⟨K, hK⟩ := hf
 obtain ⟨J, hJ⟩ := hg
 exact ⟨max K J, fun k hk => by show (F k).bind _ = _; rw [hK k (by omega)]; exact hJ k (by omega)⟩
theorem EvS.get {α : Type} {F : Nat → Option α} {v : α} (h : EvS F v) : ∃ k, F k = some v := ⟨_, h.choose_spec _ (Nat.le_refl _)⟩
theorem w64 (x : Int) (h0 : -9223372036854775808 ≤ x) (h1 : x < 9223372036854775808) : wrap64 x = x := by unfold wrap64; omega
theorem wnext (i : Nat) (h : i < 1000000000000) : wrap64 ((i : Int) + 1) = ((i + 1 : Nat) : Int) := by rw [w64] <;> omega
/-- The parts of a region. -/
def pz (lv at_ : List Int) : List S90 := List.zipWith S90.mk lv at_
theorem pz_length (lv at_ : List Int) (h : at_.length = lv.length) : (pz lv at_).length = lv.length := by simp [pz, h]
theorem pz_get (lv at_ : List Int) (i : Nat) (h0 : i < lv.length) (h1 : i < at_.length) : (pz lv at_)[i]? = some ⟨lv[i], at_[i]⟩ := by
 simp [pz, List.getElem?_zipWith, h0, h1]
theorem pz_rd (lv at_ : List Int) (i : Nat) (h0 : i < lv.length) (h1 : i < at_.length) : zt (pz lv at_) (i : Int) = ⟨rd lv (i : Int), rd at_ (i : Int)⟩ := by
 simp [zt, List.getD_eq_getElem?_getD, pz_get lv at_ i h0 h1, rd, h0, h1]
theorem parts_ev (lv at_ : List Int) (h : at_.length = lv.length) (hn : lv.length ≤ 256) : EvS (fun k => zM.f k lv at_) (pz lv at_) := by
 have key : ∀ m i : Nat, m + i = lv.length → EvS (fun k => zM.l0 k ((pz lv at_).take i) (lv.length : Int) (i : Int) lv at_) (pz lv at_) := by
  intro m
  induction m with
  | zero =>
   intro i hi
   rw [List.take_of_length_le (by rw [pz_length lv at_ h]; omega)]
   exact EvS.done fun k => by simp only [zM.l0]; rw [if_neg (by omega)]
  | succ m ih =>
   intro i hi
   refine EvS.succ (fun k => ?_) (ih (i + 1) (by omega))
   have hg := pz_get lv at_ i (by omega) (by omega)
   simp only [zM.l0]
   rw [if_pos (by omega), if_pos (by omega), if_pos (by omega), if_pos (by omega), if_pos (by rw [List.length_take]; omega), wnext i (by omega), List.take_add_one, hg]
   simp [rd, show i < lv.length by omega, show i < at_.length by omega]
 exact key lv.length 0 (by omega)
theorem ite_cong {c d : Prop} [Decidable c] [Decidable d] (h : c ↔ d) (x y : Int) : (if c then x else y) = (if d then x else y) := by
 by_cases hc : c
 ·rw [if_pos hc, if_pos (h.mp hc)]
 ·rw [if_neg hc, if_neg (fun hd => hc (h.mpr hd))]
def Fit (l a : Int) : Prop := 0 ≤ l ∧ l ≤ 8 ∧ 0 ≤ a ∧ a < 2 ^ l.toNat
instance (l a : Int) : Decidable (Fit l a) := by unfold Fit; infer_instance
def Reg (lv at_ : List Int) : Prop := lv.length ≤ 256 ∧ at_.length = lv.length ∧ ∀ i, i < lv.length → Fit (rd lv (i : Nat)) (rd at_ (i : Nat))
instance (lv at_ : List Int) : Decidable (Reg lv at_) := by unfold Reg; infer_instance
def chkE (lv at_ : List Int) (k : Int) : Int := if (lv.length : Int) = k ∧ Reg lv at_ then 0 else 180
theorem shl_one (l : Int) (h0 : 0 ≤ l) (h8 : l ≤ 62) : shl .i64 1 l = 2 ^ l.toNat := by
 obtain ⟨n, rfl⟩ : ∃ n : Nat, l = n := ⟨l.toNat, by omega⟩
 show IntKind.i64.wrap (1 * 2 ^ min (n : Int).toNat 64) = _
 rw [Int.toNat_natCast, Nat.min_eq_left (by omega), Int.one_mul, zaA, w64]
 ·have : (0 : Int) < 2 ^ n := Int.pow_pos (by decide)
  omega
 ·have h : (2 : Int) ^ n ≤ 2 ^ 62 := by
   have := Nat.pow_le_pow_right (n := 2) (by decide) (show n ≤ 62 by omega)
   exact Int.ofNat_le.mpr this |> fun h => by simpa using h
  have e : (2 : Int) ^ 62 = 4611686018427387904 := by decide
  omega
theorem fits_some (l a : Int) : zaI.f l a = some (decide (Fit l a)) := by
 unfold zaI.f
 by_cases h0 : l ≥ 0
 ·by_cases h1 : l ≤ 8
  ·by_cases h2 : a ≥ 0
   ·rw [if_pos h0, if_pos h1, if_pos h2, if_pos h0, shl_one l h0 (by omega)]
    congr 1
    rw [decide_eq_decide]
    exact ⟨fun h => ⟨h0, h1, h2, h⟩, fun h => h.2.2.2⟩
   ·rw [if_pos h0, if_pos h1, if_neg h2, decide_eq_false (fun h : Fit l a => h2 h.2.2.1)]
  ·rw [if_pos h0, if_neg h1, decide_eq_false (fun h : Fit l a => h1 h.2.1)]
 ·rw [if_neg h0, decide_eq_false (fun h : Fit l a => h0 h.1)]
theorem Check_ev (lv at_ : List Int) (k : Int) : EvS (fun f => zz.f f lv at_ k) (chkE lv at_ k) := by
 unfold zz.f
 have bad : (¬ ((lv.length : Int) = k ∧ Reg lv at_)) → chkE lv at_ k = 180 := fun h => if_neg h
 have stop : EvS (fun f => zz.j0 f true lv at_) 180 := EvS.done fun f => by simp only [zz.j0]; rfl
 by_cases h0 : k < 0
 ·simp only [if_pos h0]; rw [bad (by omega)]; exact stop
 ·by_cases h1 : k > 256
  ·simp only [if_neg h0, if_pos h1]; rw [bad (by rintro ⟨h2, h3⟩; have := h3.1; omega)]; exact stop
  ·by_cases h2 : (lv.length : Int) = k
   ·by_cases h3 : (at_.length : Int) = k
    ·simp only [if_neg h0, if_neg h1, if_pos h2]
     rw [show ((at_.length : Int) != k) = false by simp [h3]]
     refine EvS.succ (fun f => by simp only [zz.j0]; rfl) ?_
     simp only [Bool.false_eq_true, if_false]
     have hl : at_.length = lv.length := by omega
     refine EvS.bind (parts_ev lv at_ hl (by omega)) ?_
     rw [pz_length lv at_ hl]
     have key : ∀ m i : Nat, m + i = lv.length → EvS (fun f => zz.l0 f (pz lv at_) (lv.length : Int) (i : Int)) (if ∀ j, j < lv.length → i ≤ j → Fit (rd lv (j : Nat)) (rd at_ (j : Nat)) then 0 else 180) := by
      intro m
      induction m with
      | zero =>
       intro i hi
       rw [if_pos (fun j h1 h2 => by omega)]
       exact EvS.done fun f => by simp only [zz.l0]; rw [if_neg (by omega)]
      | succ m ih =>
       intro i hi
       have hr := pz_rd lv at_ i (by omega) (by omega)
       by_cases hf : Fit (rd lv (i : Int)) (rd at_ (i : Int))
       ·have := ih (i + 1) (by omega)
        rw [ite_cong (show (∀ j, j < lv.length → i ≤ j → Fit (rd lv (j : Nat)) (rd at_ (j : Nat))) ↔ (∀ j, j < lv.length → i + 1 ≤ j → Fit (rd lv (j : Nat)) (rd at_ (j : Nat))) from ⟨fun h j h1 h2 => h j h1 (by omega), fun h j h1 h2 => by
         by_cases hj : i = j
         ·subst hj; exact hf
         ·exact h j h1 (by omega)⟩)]
        refine EvS.succ (fun f => ?_) this
        simp only [zz.l0]
        rw [if_pos (by omega), if_pos (by omega), if_pos (by rw [pz_length lv at_ hl]; omega), hr, fits_some, decide_eq_true hf]
        simp only [Option.bind_some, if_true, wnext i (by omega)]
       ·rw [if_neg (fun h => hf (h i (by omega) (Nat.le_refl _)))]
        refine EvS.done fun f => ?_
        simp only [zz.l0]
        rw [if_pos (by omega), if_pos (by omega), if_pos (by rw [pz_length lv at_ hl]; omega), hr, fits_some, decide_eq_false hf]
        rfl
     have := key lv.length 0 (by omega)
     rw [show chkE lv at_ k = (if ∀ j, j < lv.length → 0 ≤ j → Fit (rd lv (j : Nat)) (rd at_ (j : Nat)) then 0 else 180) from by
      unfold chkE
      exact ite_cong ⟨fun h j h1 _ => h.2.2.2 j h1, fun h => ⟨h2, by omega, hl, fun j h1 => h j h1 (Nat.zero_le _)⟩⟩ _ _]
     exact this
    ·simp only [if_neg h0, if_neg h1, if_pos h2]
     rw [show ((at_.length : Int) != k) = true by simp [h3], bad (by rintro ⟨_, h4⟩; have := h4.2.1; omega)]; exact stop
   ·simp only [if_neg h0, if_neg h1, if_neg h2]; rw [bad (fun h => h2 h.1)]; exact stop
end Go.Proofs.Ytlidbaejhmamjaa.LA
namespace Go.Proofs.Ytlidbaejhmamjaa.AC
open Go.RowKit YtlidbaejhmamjaaW.PrintWords YtlidbaejhmamjaaW.PrintLast YtlidbaejhmamjaaW.PrintMore PB LA
/-- A point's place in one symbol's part, in parts of 2^-62. -/
def InP (d x l a : Int) : Prop := (2 * a - 2 ^ l.toNat) * 2 ^ (62 - l.toNat) ≤ x * 2 ^ (62 - d.toNat) ∧ x * 2 ^ (62 - d.toNat) ≤ (2 * a + 2 - 2 ^ l.toNat) * 2 ^ (62 - l.toNat)
instance (d x l a : Int) : Decidable (InP d x l a) := by unfold InP; infer_instance
def Win (lv at_ es : List Int) (d : Int) : Prop := Reg lv at_ ∧ es.length = lv.length ∧ 0 ≤ d ∧ d ≤ 62 ∧ ∀ i, i < lv.length → InP d (rd es (i : Nat)) (rd lv (i : Nat)) (rd at_ (i : Nat))
instance (lv at_ es : List Int) (d : Int) : Decidable (Win lv at_ es d) := by unfold Win; infer_instance
def I64 (es : List Int) : Prop := ∀ x, x ∈ es → -9223372036854775808 ≤ x ∧ x < 9223372036854775808
theorem i64_rd {es : List Int} (h : I64 es) (i : Nat) (hi : i < es.length) : -9223372036854775808 ≤ rd es (i : Int) ∧ rd es (i : Int) < 9223372036854775808 := by
 have : rd es (i : Int) = es[i] := by simp [rd, hi]
 rw [this]
 exact h _ (List.getElem_mem hi)
theorem chk_ok {lv at_ : List Int} (h : chkE lv at_ lv.length = 0) : Reg lv at_ := by
 unfold chkE at h
 split at h
 ·rename_i h'; exact h'.2
 ·exact absurd h (by decide)
theorem chk_bad {lv at_ : List Int} (h : ¬ chkE lv at_ lv.length = 0) : ¬ Reg lv at_ := fun hr => h (by unfold chkE; rw [if_pos ⟨rfl, hr⟩])
/-- The round's memory: the part, three sums. -/
structure St (w3 wc : World) (g b c e : Nat) (l a : Int) (v u t : Option Int) : Prop where
 below : Below w3.heap.size w3 wc
 part : wc.heap[g]? = some (.cells #[.int .i64 l, .int .i64 a] 90 (0, 0))
 lo : wc.heap[b]? = some (.cells (zbb v) 124 (0, 0))
 hi : wc.heap[c]? = some (.cells (zbb u) 124 (0, 0))
 pt : wc.heap[e]? = some (.cells (zbb t) 124 (0, 0))
 far : b ≠ c ∧ b ≠ e ∧ c ≠ e ∧ g ≠ b ∧ g ≠ c ∧ g ≠ e ∧ w3.heap.size ≤ b ∧ w3.heap.size ≤ c ∧ w3.heap.size ≤ e
theorem some_ne {a b : Nat} (h : a ≠ b) : some a ≠ some b := fun e => h (Option.some.inj e)
theorem St.putLo {w3 wc w' : World} {g b c e : Nat} {l a : Int} {v u t v' : Option Int} (h : St w3 wc g b c e l a v u t) (hk : w'.heap[b]? = some (.cells (zbb v') 124 (0, 0))) (hg : wc.grownBy w' (some b)) : St w3 w' g b c e l a v' u t := by
 obtain ⟨f0, f1, f2, f3, f4, f5, f6, f7, f8⟩ := h.far
 exact ⟨h.below.grown hg h.below.size (fun k hk => by cases hk; exact f6), zx hg h.part (some_ne f3), hk, zx hg h.hi (some_ne (Ne.symm f0)), zx hg h.pt (some_ne (Ne.symm f1)), h.far⟩
theorem St.putHi {w3 wc w' : World} {g b c e : Nat} {l a : Int} {v u t v' : Option Int} (h : St w3 wc g b c e l a v u t) (hk : w'.heap[c]? = some (.cells (zbb v') 124 (0, 0))) (hg : wc.grownBy w' (some c)) : St w3 w' g b c e l a v v' t := by
 obtain ⟨f0, f1, f2, f3, f4, f5, f6, f7, f8⟩ := h.far
 exact ⟨h.below.grown hg h.below.size (fun k hk => by cases hk; exact f7), zx hg h.part (some_ne f4), zx hg h.lo (some_ne f0), hk, zx hg h.pt (some_ne (Ne.symm f2)), h.far⟩
theorem St.putPt {w3 wc w' : World} {g b c e : Nat} {l a : Int} {v u t v' : Option Int} (h : St w3 wc g b c e l a v u t) (hk : w'.heap[e]? = some (.cells (zbb v') 124 (0, 0))) (hg : wc.grownBy w' (some e)) : St w3 w' g b c e l a v u v' := by
 obtain ⟨f0, f1, f2, f3, f4, f5, f6, f7, f8⟩ := h.far
 exact ⟨h.below.grown hg h.below.size (fun k hk => by cases hk; exact f8), zx hg h.part (some_ne f5), zx hg h.lo (some_ne f1), zx hg h.hi (some_ne f2), hk, h.far⟩
theorem St.step {w3 wc w' : World} {g b c e : Nat} {l a : Int} {v u t : Option Int} (h : St w3 wc g b c e l a v u t) (hb : Below wc.heap.size wc w') : St w3 w' g b c e l a v u t :=
 ⟨zb h.below hb, zh h.part hb, zh h.lo hb, zh h.hi hb, zh h.pt hb, h.far⟩
theorem St.p0 {w3 wc : World} {g b c e : Nat} {l a : Int} {v u t : Option Int} (h : St w3 wc g b c e l a v u t) : wc.cell? ⟨g, 0, none⟩ = some (.int .i64 l) := (za h.part 0).trans rfl
theorem St.p1 {w3 wc : World} {g b c e : Nat} {l a : Int} {v u t : Option Int} (h : St w3 wc g b c e l a v u t) : wc.cell? ⟨g, 1, none⟩ = some (.int .i64 a) := (za h.part 1).trans rfl
theorem info90 : (Try.prog.info? 90).map (·.size) = some 2 := by kernel_rfl
theorem acc_zero : accOk (some 0) := by
 show zaX 0 < 2 ^ 4772
 rw [absI_pos (Int.le_refl 0)]
 exact zab 4772
def cmpN (v u : Option Int) : Int := match v, u with
 | some a, some b => sgnI (a - b)
 | _, _ => 0
def cmpK (v u : Option Int) : Bool := match v, u with
 | some _, some _ => true
 | _, _ => false
theorem cmpR_eq (v u : Option Int) : cmpR v u = .tuple #[.int .i64 (cmpN v u), .bool (cmpK v u)] := by
 cases v <;> cases u <;> rfl
theorem pow62 (L : Nat) (h : L ≤ 62) : (2 : Int) ^ 62 = 2 ^ L * 2 ^ (62 - L) := by rw [← zaE, show L + (62 - L) = 62 by omega]
theorem named_prod (v : Option Int) (x y : Nat) (n : Int) : ∃ t, prodV v x y n = t ∧ accOk t := ⟨_, rfl, prodV_ok v x y n⟩
theorem and_low (z : Int) : bits .and .i64 z 4294967295 = z % 4294967296 := by
 show IntKind.i64.wrap ((BitVec.ofInt 64 z &&& BitVec.ofInt 64 4294967295).toNat : Int) = _
 have h2 : (BitVec.ofInt 64 4294967295).toNat = 2 ^ 32 - 1 := by decide
 rw [BitVec.toNat_and, BitVec.toNat_ofInt, h2, Nat.and_two_pow_sub_one_eq_mod, IntKind.wrap_i64]
 have e : ((2 ^ 64 : Nat) : Int) = 18446744073709551616 := by decide
 rw [e]
 have e2 : (2 ^ 32 : Nat) = 4294967296 := by decide
 rw [e2]
 have h3 := Int.emod_nonneg z (show (18446744073709551616 : Int) ≠ 0 by decide)
 omega
theorem fit_256 {l a : Int} (h : Fit l a) : 0 ≤ a ∧ a < 256 := by
 obtain ⟨h0, h1, h2, h3⟩ := h
 have : (2 : Int) ^ l.toNat ≤ 2 ^ 8 := za4 (by omega)
 have e : (2 : Int) ^ 8 = 256 := by decide
 omega
theorem round_law (d z l a : Int) (d0 : 0 ≤ d) (d1 : d ≤ 62) (hz : -9223372036854775808 ≤ z ∧ z < 9223372036854775808) (hf : Fit l a) :
  (¬ cmpN (prodV (prodV (some 0) (flt (z / 4294967296)) 4751297606875873280 (-d)) (flt (z % 4294967296)) 4607182418800017408 (-d)) (prodV (prodV (some 0) 13830554455654793216 oneF 0) (flt (2 * a)) 4607182418800017408 (-l)) < 0 ↔ (2 * a - 2 ^ l.toNat) * 2 ^ (62 - l.toNat) ≤ z * 2 ^ (62 - d.toNat)) ∧
  (¬ 0 < cmpN (prodV (prodV (some 0) (flt (z / 4294967296)) 4751297606875873280 (-d)) (flt (z % 4294967296)) 4607182418800017408 (-d)) (prodV (prodV (some 0) 13830554455654793216 oneF 0) (flt (2 * a + 2)) 4607182418800017408 (-l)) ↔ z * 2 ^ (62 - d.toNat) ≤ (2 * a + 2 - 2 ^ l.toNat) * 2 ^ (62 - l.toNat)) := by
 obtain ⟨l0, l1, a0, a1⟩ := hf
 have a8 := (fit_256 ⟨l0, l1, a0, a1⟩).2
 rw [f32_pow, neg_flt, oneF_pow, show (4607182418800017408 : Nat) = powF 0 from oneF_pow]
 obtain ⟨D, hD⟩ : ∃ D : Nat, d = D := ⟨d.toNat, by omega⟩
 obtain ⟨L, hL⟩ : ∃ L : Nat, l = L := ⟨l.toNat, by omega⟩
 have P0 : (0 : Int) < P22 0 := zab _
 -- everything is in units of 2^(2212-62)
 obtain ⟨U, hU⟩ : ∃ U : Int, U = 2 ^ 2150 := ⟨_, rfl⟩
 have U0 : 0 < U := by rw [hU]; exact zab _
 have big : ∀ n : Nat, n ≤ 4000 → (2 : Int) ^ n < 2 ^ 4772 := fun n hn => by
  have h1 : (2 : Int) ^ n < 2 ^ (n + 1) := by rw [Int.pow_succ]; have := zab n; omega
  exact Int.lt_of_lt_of_le h1 (za4 (by omega))
 have pd : ∀ j : Nat, j ≤ 32 → P22 ((j : Int) + -d) = 2 ^ j * (2 ^ (62 - D) * U) := fun j hj => by
  unfold P22
  rw [show ((j : Int) + -d + 2212).toNat = j + ((62 - D) + 2150) by omega, zaE, zaE, hU]
 have pl : P22 (((0 : Nat) : Int) + -l) = 2 ^ (62 - L) * U := by
  unfold P22
  rw [show (((0 : Nat) : Int) + -l + 2212).toNat = (62 - L) + 2150 by omega, zaE, hU]
 have pz : P22 (((0 : Nat) : Int) + 0) = 2 ^ 62 * U := by
  unfold P22
  rw [show (((0 : Nat) : Int) + 0 + 2212).toNat = 62 + 2150 by omega, zaE, hU]
 have W : (0 : Int) < 2 ^ 62 * U := Int.mul_pos (zab _) U0
 -- a product of a number of at most 64 bits and 2^62 U is small
 have small : ∀ (n : Int) (m : Nat), -18446744073709551616 ≤ n → n ≤ 18446744073709551616 → m ≤ 62 → (-2 ^ 4772 < n * (2 ^ m * U) ∧ n * (2 ^ m * U) < 2 ^ 4772) := fun n m h0 h1 hm => by
  have hx : (2 : Int) ^ 64 * (2 ^ m * U) < 2 ^ 4772 := by
   rw [hU, ← zaE, ← zaE]
   exact big _ (by omega)
  have hy : (0 : Int) < 2 ^ m * U := Int.mul_pos (zab _) U0
  rw [show (2 : Int) ^ 64 = 18446744073709551616 by decide] at hx
  generalize (2 : Int) ^ m * U = V at *
  have g0 := Int.mul_le_mul_of_nonneg_right h1 (Int.le_of_lt hy)
  have g1 := Int.mul_le_mul_of_nonneg_right h0 (Int.le_of_lt hy)
  rw [Int.neg_mul] at g1
  constructor <;> omega
 have e1 : prodV (some 0) (flt (z / 4294967296)) (powF 32) (-d) = some (z / 4294967296 * 4294967296 * (2 ^ (62 - D) * U)) := by
  rw [prod_flt 0 (z / 4294967296) (-d) 32 (by omega) (by omega) (by omega) (by omega), pd 32 (by omega), Int.zero_add, ← Int.mul_assoc, show (2 : Int) ^ 32 = 4294967296 by decide]
  exact normA_some _ (small _ _ (by omega) (by omega) (by omega)).1 (small _ _ (by omega) (by omega) (by omega)).2
 have e2 : prodV (some (z / 4294967296 * 4294967296 * (2 ^ (62 - D) * U))) (flt (z % 4294967296)) (powF 0) (-d) = some (z * (2 ^ (62 - D) * U)) := by
  rw [prod_flt _ (z % 4294967296) (-d) 0 (by omega) (by omega) (by omega) (by omega), pd 0 (by omega), Int.pow_zero, Int.one_mul, ← Int.add_mul, show z / 4294967296 * 4294967296 + z % 4294967296 = z by omega]
  exact normA_some _ (small _ _ (by omega) (by omega) (by omega)).1 (small _ _ (by omega) (by omega) (by omega)).2
 have e3 : prodV (some 0) (flt (-1)) (powF 0) 0 = some (-1 * (2 ^ 62 * U)) := by
  rw [prod_flt 0 (-1) 0 0 (by decide) (by omega) (by omega) (by omega), pz, Int.zero_add]
  exact normA_some _ (small _ _ (by omega) (by omega) (by omega)).1 (small _ _ (by omega) (by omega) (by omega)).2
 have two := pow62 L (by omega)
 have pL8 : (2 : Int) ^ L ≤ 256 := by
  have := za4 (show L ≤ 8 by omega)
  rwa [show (2 : Int) ^ 8 = 256 by decide] at this
 have pL0 := zab L
 have e4 : ∀ n : Int, 0 ≤ n → n ≤ 1000 → prodV (some (-1 * (2 ^ 62 * U))) (flt n) (powF 0) (-l) = some ((n - 2 ^ L) * (2 ^ (62 - L) * U)) := fun n n0 n1 => by
  rw [prod_flt _ n (-l) 0 (by omega) (by omega) (by omega) (by omega), pl, two, Int.mul_assoc (2 ^ L), show -1 * (2 ^ L * (2 ^ (62 - L) * U)) + n * (2 ^ (62 - L) * U) = (n - 2 ^ L) * (2 ^ (62 - L) * U) by rw [Int.sub_mul]; omega]
  exact normA_some _ (small _ _ (by omega) (by omega) (by omega)).1 (small _ _ (by omega) (by omega) (by omega)).2
 rw [e1, e2, e3, e4 (2 * a) (by omega) (by omega), e4 (2 * a + 2) (by omega) (by omega)]
 have lL : l.toNat = L := by omega
 have dD : d.toNat = D := by omega
 rw [lL, dD]
 have cmpL : ∀ p q : Int, (¬ sgnI (p * U - q * U) < 0 ↔ q ≤ p) ∧ (¬ 0 < sgnI (p * U - q * U) ↔ p ≤ q) := fun p q => by
  rw [← Int.sub_mul]
  rcases Int.lt_trichotomy p q with h | h | h
  ·have : (p - q) * U < 0 := Int.mul_neg_of_neg_of_pos (by omega) U0
   rw [sgnI_neg this]
   constructor <;> omega
  ·rw [h, Int.sub_self, Int.zero_mul, sgnI_zero rfl]
   constructor <;> omega
  ·have : 0 < (p - q) * U := Int.mul_pos (by omega) U0
   rw [sgnI_pos this]
   constructor <;> omega
 rw [← Int.mul_assoc z, ← Int.mul_assoc (2 * a - 2 ^ L), ← Int.mul_assoc (2 * a + 2 - 2 ^ L)]
 exact ⟨(cmpL _ _).1, (cmpL _ _).2⟩
set_option maxRecDepth 100000 in
set_option maxHeartbeats 4000000 in
theorem within_calls (A0 : Option Addr) (c0 : Nat) (lv : List Int) (A1 : Option Addr) (c1 : Nat) (at_ : List Int) (A2 : Option Addr) (c2 : Nat) (es : List Int) (d : Int) (w : World)
  (hr0 : Kd.C (Kd.int .i64) w A0 lv.length lv) (hk0 : lv.length ≤ c0) (hr1 : Kd.C (Kd.int .i64) w A1 at_.length at_) (hk1 : at_.length ≤ c1) (hr2 : Kd.C (Kd.int .i64) w A2 es.length es) (hk2 : es.length ≤ c2) (hes : I64 es) :
  Calls Try.prog 24 #[.agg #[.slice A0 lv.length c0, .slice A1 at_.length c1], .slice A2 es.length c2, .int .i64 d] w fun e w' => e = .returned (.bool (decide (Win lv at_ es d))) ∧ Below w.heap.size w w' := by
 have hu24 := Try.underlying24
 have hu90 := Try.underlying90
 have HR0 := am_ hr0
 have HR1 := am_ hr1
 have HR2 := am_ hr2
 have HK0 := am_ hk0
 have HK1 := am_ hk1
 have HK2 := am_ hk2
 have HES := am_ hes
 clear hr0 hr1 hr2 hk0 hk1 hk2 hes
 obtain ⟨k, hk⟩ := (Check_ev lv at_ lv.length).get
 have HF := am_ hk
 clear hk
 generalize hbn : decide (Win lv at_ es d) = bb
 have HBN := am_ hbn
 clear hbn
 generalize hcr : chkE lv at_ lv.length = cr at *
 have HCR := am_ hcr
 clear hcr
 go_enter Try.func24, Try.ntmps24
 go_wp2_with (first
  | ((with_reducible refine zk (N := 3) rfl ?_); refine zaq 3 (cs := #[.slice A0 lv.length c0, .slice A1 at_.length c1]) (t := 24) ?_; intro g3 hg3 w1 hw1 hb1; have B1 := am_ hb1; have K1 := am_ hw1; have L1 := am_ (show w.heap.size ≤ g3 by omega); clear hg3 hw1 hb1; have hc0 : w1.cell? ⟨g3, 0, none⟩ = some (.slice A0 lv.length c0) := (za K1.out 0).trans rfl; have hc1 : w1.cell? ⟨g3, 1, none⟩ = some (.slice A1 at_.length c1) := (za K1.out 1).trans rfl)
  | fail)
 refine (zz.calls k A0 c0 lv A1 c1 at_ lv.length cr w1 (Kd.zB HR0.out B1.out) HK0.out (Kd.zB HR1.out B1.out) HK1.out HF.out).mono ?_
 rintro e w2 ⟨rfl, hb2⟩
 have B2 := am_ (zb B1.out hb2)
 have K2 := am_ (zh K1.out hb2)
 have hc0' : w2.cell? ⟨g3, 0, none⟩ = some (.slice A0 lv.length c0) := (za K2.out 0).trans rfl
 have hc1' : w2.cell? ⟨g3, 1, none⟩ = some (.slice A1 at_.length c1) := (za K2.out 1).trans rfl
 clear hb2 hc0 hc1
 by_cases hz : cr = 0
 ·have hzb : (cr != 0) = false := by rw [hz]; rfl
  have HREG := am_ (chk_ok (HCR.out.trans hz))
  clear hz
  by_cases hl : es.length = lv.length
  ·have hlb : ((es.length : Int) != (lv.length : Int)) = false := by rw [hl]; exact bne_self_eq_false _
   have HLE := am_ hl
   clear hl
   by_cases hd0 : d < 0
   ·have hdb : decide (d < 0) = true := decide_eq_true hd0
    have HN := am_ (show ¬ Win lv at_ es d from fun h => by have := h.2.2.1; omega)
    clear hd0
    go_wp2_with fail
    go_ret
    exact ⟨by rw [← HBN.out, decide_eq_false HN.out]; first | done | rfl, B2.out⟩
   ·have hdb : decide (d < 0) = false := decide_eq_false hd0
    by_cases hd6 : 62 < d
    ·have hde : decide (62 < d) = true := decide_eq_true hd6
     have HN := am_ (show ¬ Win lv at_ es d from fun h => by have := h.2.2.2.1; omega)
     clear hd0 hd6
     go_wp2_with fail
     go_ret
     exact ⟨by rw [← HBN.out, decide_eq_false HN.out]; first | done | rfl, B2.out⟩
    ·have hde : decide (62 < d) = false := decide_eq_false hd6
     have HD := am_ (show 0 ≤ d ∧ d ≤ 62 by omega)
     clear hd0 hd6
     go_wp2_with fail
     obtain ⟨kp, hkp⟩ := (parts_ev lv at_ HREG.out.2.1 HREG.out.1).get
     refine (zM.calls kp A0 c0 lv A1 c1 at_ (pz lv at_) w2 (Kd.zB HR0.out B2.out) HK0.out (Kd.zB HR1.out B2.out) HK1.out hkp).mono ?_
     rintro e w3 ⟨v39, rfl, ho, hb3⟩
     obtain ⟨Ap, cp, e39⟩ := Kd.zY ho
     have HP := am_ ((Kd.zQ (e39 ▸ ho)).2.2)
     rw [pz_length lv at_ HREG.out.2.1] at e39
     subst e39
     have B3 := am_ (zb B2.out hb3)
     have HE := am_ (Kd.zB HR2.out B3.out)
     clear hb3 ho hkp
     go_wp2_with fail
     go_loopg [41] lv.length (fun m v41 wr => ∃ x : Int, v41 = .int .i64 x ∧ Aside0 (0 ≤ x ∧ x + m = lv.length) ∧ Aside0 (∀ j : Nat, (j : Int) < x → InP d (rd es (j : Nat)) (rd lv (j : Nat)) (rd at_ (j : Nat))) ∧ Aside0 (Below w3.heap.size w3 wr))
     case atStart => exact ⟨0, rfl, ⟨by omega⟩, ⟨fun j hj => by omega⟩, ⟨Below.refl _ _⟩⟩
     case round =>
      obtain ⟨x, rfl, hm, hall, BL⟩ := hrel
      by_cases hx : x < (lv.length : Int)
      ·have hxb : decide (x < (lv.length : Int)) = true := decide_eq_true hx
       have p0 : 0 ≤ x := hm.out.1
       obtain ⟨j, rfl⟩ : ∃ j : Nat, x = j := ⟨x.toNat, by omega⟩
       have hj : j < lv.length := by omega
       have hfit := HREG.out.2.2 j hj
       have hee := i64_rd HES.out j (by have := HLE.out; omega)
       have hpz := pz_rd lv at_ j hj (by have := HREG.out.2.1; omega)
       obtain ⟨ad, e44, hx0, hx1⟩ := at_T90 (Kd.zB HP.out BL.out) (j : Int) p0 (by rw [pz_length lv at_ HREG.out.2.1]; exact hx)
       rw [hpz] at hx0 hx1
       obtain ⟨ae, e52, hx2⟩ := Kd.z8 (Kd.zB HE.out BL.out) (j : Int) p0 (by have := HLE.out; omega)
       cases e44
       cases e52
       have hzz : ∀ W : World, Below w3.heap.size w3 W → W.cell? (ae.add j) = some (.int .i64 (rd es (j : Int))) := by
        intro W hW
        obtain ⟨ad', e', h'⟩ := Kd.z8 (Kd.zB HE.out hW) (j : Int) p0 (by have := HLE.out; omega)
        cases e'
        rw [Int.toNat_natCast] at h'
        exact h'
       have HZ := am_ hzz
       clear hzz
       have HW := am_ (show Win lv at_ es d → InP d (rd es (j : Int)) (rd lv (j : Int)) (rd at_ (j : Int)) from fun h => h.2.2.2.2 j hj)
       have HQ := am_ (show InP d (rd es (j : Int)) (rd lv (j : Int)) (rd at_ (j : Int)) → ∀ i : Nat, (i : Int) < (j : Int) + 1 → InP d (rd es (i : Nat)) (rd lv (i : Nat)) (rd at_ (i : Nat)) from fun h i hi => by
        by_cases hij : i = j
        ·subst hij; exact h
        ·exact hall.out i (by omega))
       dsimp only at hx0 hx1
       rw [Int.toNat_natCast] at hx0 hx1 hx2
       have hq : (j : Int) < (es.length : Int) := by have := HLE.out; omega
       have hj1 : j < es.length := by have := HLE.out; omega
       have hj0 := eq_true hj
       replace hj1 := eq_true hj1
       replace p0 := eq_true p0
       replace hq := eq_true hq
       have HJ := am_ hj
       have HEE := am_ hee
       have HFIT := am_ hfit
       clear hx hj hpz hee hfit
       generalize rd lv (j : Int) = l at *
       generalize rd at_ (j : Int) = a at *
       generalize rd es (j : Int) = z at *
       go_wp2_with (first
        | ((with_reducible refine zk (N := 8) rfl ?_); refine zaq 8 (cs := #[.int .i64 0, .int .i64 0]) (t := 90) ?_; intro g8 hg8 w8 hw8 hb8; have B8 := am_ (zb BL.out hb8); have K8 := am_ hw8; have L8 := am_ (show w3.heap.size ≤ g8 by have := BL.out.size; omega); clear hg8 hw8 hb8)
        | ((with_reducible refine zr (t := 90) (p := 8) rfl ?_); refine zn rfl 90 rfl rfl g8 #[.int .i64 l, .int .i64 a] rfl rfl 90 _ K8.out (info90.trans rfl) rfl (by simp [Value.oneCell']) ?_; intro w9 hw9 hg9; have B9 := am_ (B8.out.grown hg9 B8.out.size (fun k hk => by cases hk; exact L8.out)); have K9 := am_ hw9; clear hw9 hg9)
        | fail)
       refine (new_calls w9).mono ?_
       rintro e w10 ⟨b, rfl, hgb, hkb, hbb⟩
       have B10 := am_ (zb B9.out hbb)
       have K10 := am_ (zh K9.out hbb)
       have Kb := am_ hkb
       have Nb := am_ (show g8 ≠ b ∧ w3.heap.size ≤ b by have := zaa K9.out; have := B9.out.size; omega)
       clear hgb hkb hbb hx0 hx1 hx2
       go_wp2_with fail
       refine (new_calls w10).mono ?_
       rintro e w11 ⟨c, rfl, hgb, hkb, hbb⟩
       have B11 := am_ (zb B10.out hbb)
       have K11 := am_ (zh K10.out hbb)
       have Kb1 := am_ (zh Kb.out hbb)
       have Kc := am_ hkb
       have Nc := am_ (show g8 ≠ c ∧ b ≠ c ∧ w3.heap.size ≤ c by have := zaa K10.out; have := zaa Kb.out; have := B10.out.size; omega)
       clear hgb hkb hbb
       go_wp2_with fail
       refine (new_calls w11).mono ?_
       rintro e w12 ⟨e, rfl, hgb, hkb, hbb⟩
       have S0 := am_ (show St w3 w12 g8 b c e l a (some 0) (some 0) (some 0) from ⟨zb B11.out hbb, zh K11.out hbb, zh Kb1.out hbb, zh Kc.out hbb, hkb, by have := zaa K11.out; have := zaa Kb1.out; have := zaa Kc.out; have := B11.out.size; have := Nb.out; have := Nc.out; omega⟩)
       have hz12 := HZ.out w12 S0.out.below
       clear hgb hkb hbb
       have hnd : wrap64 (-d) = -d := w64 _ (by have := HD.out; omega) (by have := HD.out; omega)
       have hnl : wrap64 (-l) = -l := w64 _ (by have := HFIT.out.2.1; omega) (by have := HFIT.out.1; omega)
       have ha8 : 0 ≤ a ∧ a < 256 := fit_256 HFIT.out
       have hw2 : wrap64 (2 * a) = 2 * a := w64 _ (by omega) (by omega)
       have hw3 : wrap64 (2 * a + 2) = 2 * a + 2 := w64 _ (by omega) (by omega)
       clear ha8
       have hba := and_low z
       obtain ⟨x1, hx1⟩ : ∃ x, floatOfInt .f64 (z / 4294967296) = x := ⟨_, rfl⟩
       obtain ⟨x2, hx2⟩ : ∃ x, floatOfInt .f64 (z % 4294967296) = x := ⟨_, rfl⟩
       obtain ⟨x3, hx3⟩ : ∃ x, floatOfInt .f64 (2 * a) = x := ⟨_, rfl⟩
       obtain ⟨x4, hx4⟩ : ∃ x, floatOfInt .f64 (2 * a + 2) = x := ⟨_, rfl⟩
       have X1 := am_ (show flt (z / 4294967296) = x1 from hx1)
       have X2 := am_ (show flt (z % 4294967296) = x2 from hx2)
       have X3 := am_ (show flt (2 * a) = x3 from hx3)
       have X4 := am_ (show flt (2 * a + 2) = x4 from hx4)
       go_wp2_with fail
       refine (prod_calls w12 e (some 0) x1 4751297606875873280 (-d) (by rw [← X1.out]; exact flt_lt _) (by decide) acc_zero S0.out.pt).mono ?_
       rintro e' w13 ⟨rfl, hk, hg⟩
       generalize ht : prodV (some 0) x1 4751297606875873280 (-d) = t1 at *
       have T1 := am_ ht
       have O1 := am_ (show accOk t1 from by rw [← ht]; exact prodV_ok _ _ _ _)
       have S1 := am_ (S0.out.putPt hk hg)
       clear ht hk hg
       have hz13 := HZ.out w13 S1.out.below
       clear hz12
       go_wp2_with fail
       refine (prod_calls w13 e t1 x2 4607182418800017408 (-d) (by rw [← X2.out]; exact flt_lt _) (by decide) O1.out S1.out.pt).mono ?_
       rintro e' w14 ⟨rfl, hk, hg⟩
       generalize ht : prodV t1 x2 4607182418800017408 (-d) = t2 at *
       have T2 := am_ ht
       have O2 := am_ (show accOk t2 from by rw [← ht]; exact prodV_ok _ _ _ _)
       have S2 := am_ (S1.out.putPt hk hg)
       clear ht hk hg
       clear hz13
       go_wp2_with fail
       refine (add_calls w14 b (some 0) 13830554455654793216 (by decide) acc_zero S2.out.lo).mono ?_
       rintro e' w15 ⟨rfl, hk, hg⟩
       obtain ⟨t3, ht, ho⟩ := named_prod (some 0) 13830554455654793216 oneF 0
       rw [ht] at hk
       have T3 := am_ ht
       have O3 := am_ ho
       have S3 := am_ (S2.out.putLo hk hg)
       clear ht hk hg ho
       have hp0 := S3.out.p0
       have hp1 := S3.out.p1
       go_wp2_with fail
       refine (prod_calls w15 b t3 x3 4607182418800017408 (-l) (by rw [← X3.out]; exact flt_lt _) (by decide) O3.out S3.out.lo).mono ?_
       rintro e' w16 ⟨rfl, hk, hg⟩
       generalize ht : prodV t3 x3 4607182418800017408 (-l) = t4 at *
       have T4 := am_ ht
       have O4 := am_ (show accOk t4 from by rw [← ht]; exact prodV_ok _ _ _ _)
       have S4 := am_ (S3.out.putLo hk hg)
       clear ht hk hg
       clear hp0 hp1
       go_wp2_with fail
       refine (add_calls w16 c (some 0) 13830554455654793216 (by decide) acc_zero S4.out.hi).mono ?_
       rintro e' w17 ⟨rfl, hk, hg⟩
       obtain ⟨t5, ht, ho⟩ := named_prod (some 0) 13830554455654793216 oneF 0
       rw [ht] at hk
       have T5 := am_ ht
       have O5 := am_ ho
       have S5 := am_ (S4.out.putHi hk hg)
       clear ht hk hg ho
       have hp0 := S5.out.p0
       have hp1 := S5.out.p1
       go_wp2_with fail
       refine (prod_calls w17 c t5 x4 4607182418800017408 (-l) (by rw [← X4.out]; exact flt_lt _) (by decide) O5.out S5.out.hi).mono ?_
       rintro e' w18 ⟨rfl, hk, hg⟩
       generalize ht : prodV t5 x4 4607182418800017408 (-l) = t6 at *
       have T6 := am_ ht
       have O6 := am_ (show accOk t6 from by rw [← ht]; exact prodV_ok _ _ _ _)
       have S6 := am_ (S5.out.putHi hk hg)
       clear ht hk hg
       clear hp0 hp1
       go_wp2_with fail
       refine (cmp_calls w18 e b t2 t4 O2.out O4.out S6.out.pt S6.out.lo).mono ?_
       rintro e' w19 ⟨rfl, hb⟩
       have S7 := am_ (S6.out.step hb)
       clear hb
       rw [cmpR_eq t2 t4]
       go_wp2_with fail
       refine (cmp_calls w19 e c t2 t6 O2.out O6.out S7.out.pt S7.out.hi).mono ?_
       rintro e' w20 ⟨rfl, hb⟩
       have S8 := am_ (S7.out.step hb)
       clear hb
       rw [cmpR_eq t2 t6]
       obtain ⟨q1, q2⟩ := round_law d z l a HD.out.1 HD.out.2 HEE.out HFIT.out
       rw [X1.out, X2.out, T1.out, T2.out, X3.out, T3.out, T4.out] at q1
       rw [X1.out, X2.out, T1.out, T2.out, X4.out, T5.out, T6.out] at q2
       have HQ1 := am_ q1
       have HQ2 := am_ q2
       clear q1 q2
       by_cases hn1 : cmpN t2 t4 < 0
       ·have hn1b : decide (cmpN t2 t4 < 0) = true := decide_eq_true hn1
        have HN1 := am_ hn1
        clear hn1
        go_wp2_with fail
        go_ret
        exact ⟨by rw [← HBN.out, decide_eq_false (fun h => by have := HQ1.out.mpr (HW.out h).1; have := HN1.out; omega)]; first | done | rfl, zb B3.out S8.out.below⟩
       ·have hn1b : decide (cmpN t2 t4 < 0) = false := decide_eq_false hn1
        by_cases hn2 : 0 < cmpN t2 t6
        ·have hn2b : decide (0 < cmpN t2 t6) = true := decide_eq_true hn2
         have HN2 := am_ hn2
         clear hn1 hn2
         go_wp2_with fail
         go_ret
         exact ⟨by rw [← HBN.out, decide_eq_false (fun h => by have := HQ2.out.mpr (HW.out h).2; have := HN2.out; omega)]; first | done | rfl, zb B3.out S8.out.below⟩
        ·have hn2b : decide (0 < cmpN t2 t6) = false := decide_eq_false hn2
         have HN := am_ (show InP d z l a from ⟨HQ1.out.mp (by omega), HQ2.out.mp (by omega)⟩)
         clear hn1 hn2
         go_wp2_with fail
         go_roundg (gk - 1)
         case measure => have := hm.out; have := HJ.out; omega
         case rel => exact ⟨(j : Int) + 1, by rw [show wrap64 ((j : Int) + 1) = (j : Int) + 1 from w64 _ (by omega) (by have := HJ.out; have := HREG.out.1; omega)], ⟨by have := hm.out; have := HJ.out; omega⟩, ⟨HQ.out HN.out⟩, ⟨S8.out.below⟩⟩
      ·have hxb : decide (x < (lv.length : Int)) = false := decide_eq_false hx
       have HX := am_ (show x = lv.length by have := hm.out; omega)
       clear hx
       go_wp2_with fail
       go_ret
       exact ⟨by rw [← HBN.out, decide_eq_true ⟨HREG.out, HLE.out, HD.out.1, HD.out.2, fun i hi => hall.out i (by have := HX.out; omega)⟩]; first | done | rfl, zb B3.out BL.out⟩
  ·have hlb : ((es.length : Int) != (lv.length : Int)) = true := by rw [bne_iff_ne]; omega
   have HN := am_ (show ¬ Win lv at_ es d from fun h => hl h.2.1)
   clear hl
   go_wp2_with fail
   go_ret
   exact ⟨by rw [← HBN.out, decide_eq_false HN.out]; first | done | rfl, B2.out⟩
 ·have hzb : (cr != 0) = true := by rw [bne_iff_ne]; exact hz
  have HN := am_ (show ¬ Win lv at_ es d from fun h => chk_bad (by rw [HCR.out]; exact hz) h.1)
  clear hz
  go_wp2_with fail
  go_ret
  exact ⟨by rw [← HBN.out, decide_eq_false HN.out]; first | done | rfl, B2.out⟩
end Go.Proofs.Ytlidbaejhmamjaa.AC
