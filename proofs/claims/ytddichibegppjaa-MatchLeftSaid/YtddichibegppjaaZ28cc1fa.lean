/- Machines of expressions: machine, awake, small; no machine. -/
import Derived.Test.YtddichibegppjaaZfc088f9
import Derived.Test.YtddichibegppjaaZb891866
import Derived.Test.YtddichibegppjaaVs
set_option linter.unusedSimpArgs false
set_option linter.unusedVariables false
set_option maxRecDepth 100000
set_option maxHeartbeats 8000000
attribute [local irreducible] Go.VC.OpV Go.VC.CallV Go.VC.Wp Go.VC.post
namespace Go.Proofs.Ytddichibegppjaa
open Go Go.VC

theorem len5 {e : Re} (hg : Good e) (hsz : size3 e ≤ 2000) (hwt : wt e ≤ 2001) : (new4 e).1.length ≤ 100000000 := by
  have h := (new_builds [] e hg).len
  have hns := nst_le 2500 (by omega) e hg hsz (by omega)
  have h2 : 2500 * size3 e ≤ 2500 * 2000 := Int.mul_le_mul_of_nonneg_left hsz (by omega)
  have h3 : (new4 e).1.length = 1 + nst e := h
  omega
/-- A machine of a tree, or none. -/
def MachOf (w : World) (l : List UInt8) (v : Value) : Prop :=
  ((parse3 l).2 = 0 ∧ ∃ D, (∀ b, D b → b < w.heap.size) ∧ IsMach w D (new4 (parse3 l).1).1 (new4 (parse3 l).1).2 v) ∨ ((parse3 l).2 ≠ 0 ∧ v = .pointer none)
def matchI (l t : List UInt8) (i : Int) : Option (Nat × Nat) := if (parse3 l).2 = 0 then findI (parse3 l).1 t i else none
def matchW (l t : List UInt8) : Bool := if (parse3 l).2 = 0 then whole3 (parse3 l).1 t else false

section
variable {w w0 : World} {l t : List UInt8} {v : Value}
theorem machine_any (hl : l.length ≤ 600) (hM : MaxL w) : Calls Try.prog 32 #[.string (B l)] w fun e w' => ∃ v, e = .returned v ∧ MachOf w' l v ∧ Kp (fun _ => False) w w' := by
  refine enter (n := 14) (args := [.string (B l)]) Try.func32 rfl rfl rfl (by simp) ?_
  repeat (first | refine qS ?_ | refine qB ?_ | refine qT rfl ?_ | refine qF rfl ?_ | ((first | refine qR rfl ?_ | refine qK ?_ | refine qE ?_ | refine qW ?_ | refine qM ?_); try simp -dsimp (maxSteps := 2000000) (disch := first | omega | (simp only [qZ] <;> omega) | fail) only [push_cast, ↓qP, ↓reduceIte, Nat.reduceEqDiff, Nat.reduceAdd, Nat.reduceMul, Nat.reduceSub, Nat.reduceLeDiff, Int.reduceToNat, reduceCtorEq]) | (refine qA ?_ ?_; (first | omega | (simp only [qL]; omega) | (simp only [qD] at *; omega))))
  refine CallV.of isCall_63 (ere_any l (by omega) w hM) ?_
  rintro _ W ⟨cs, f, rfl, hre, k1, hf⟩
  obtain ⟨o', se, A, m, c', lo, hi', rfl⟩ := hre.form
  obtain ⟨q, hq⟩ : ∃ q, q = W.heap.size := ⟨_, rfl⟩
  refine Sm.out ?_
  repeat (first | ((fail_if_success (first | refine qY (n := 2) ?_ | refine qV (n := 2) ?_)); refine qS ?_) | refine qB ?_ | refine qT rfl ?_ | refine qF rfl ?_ | ((first | refine qR rfl ?_ | refine qK ?_ | refine qE ?_ | refine qW ?_ | refine qM ?_); try simp -dsimp (maxSteps := 2000000) (disch := first | omega | (simp only [qZ] <;> omega) | fail) only [push_cast, ↓qP, ↓reduceIte, Nat.reduceEqDiff, Nat.reduceAdd, Nat.reduceMul, Nat.reduceSub, Nat.reduceLeDiff, Int.reduceToNat, reduceCtorEq]) | (refine qA ?_ ?_; (first | omega | (simp only [qL]; omega) | (simp only [qD] at *; omega))))
  rw [← hq]
  refine Wp.gen (w := (W.alloc (.cells zRe.toArray 33)).setCells q 0 [.string (B o'), .string (B se), .slice A m c', .int .i64 lo, .int .i64 hi']) (A := fun W2 => Kp (fun _ => False) W W2 ∧ Blk W2 q 33 [.string (B o'), .string (B se), .slice A m c', .int .i64 lo, .int .i64 hi']) ?_ ?_
  · rw [hq]
    exact ⟨Kp.setCells ((Kp.refl _ W).alloc _) (fun h => absurd h (Nat.lt_irrefl _)) [.string (B o'), .string (B se), .slice A m c', .int .i64 lo, .int .i64 hi'] 0, Blk.setAll (cs := zRe) (vs := [.string (B o'), .string (B se), .slice A m c', .int .i64 lo, .int .i64 hi']) (Blk.new W 33 zRe) rfl⟩
  rintro W2 ⟨k2, hb⟩
  have hre2 := hre.Kp (D' := fun b => w.heap.size ≤ b ∧ b < W.heap.size) k2 (fun _ _ => id) (fun _ h => h)
  have hlt := hb.lt
  by_cases hz : (parse3 l).2 = 0
  · have hf0 : f = 0 := hf.2 hz
    subst hf0
    obtain ⟨hg, hsz, hwt⟩ := parse3_ok _ hz
    have z : ((0 : Int) != 0) = false := rfl
    repeat (first | refine qS ?_ | refine qB ?_ | refine qT rfl ?_ | refine qF rfl ?_ | ((first | refine qR rfl ?_ | refine qK ?_ | refine qE ?_ | refine qW ?_ | refine qM ?_); try simp -dsimp (maxSteps := 2000000) (disch := first | omega | (simp only [qZ] <;> omega) | fail) only [push_cast, ↓qP, ↓reduceIte, Nat.reduceEqDiff, Nat.reduceAdd, Nat.reduceMul, Nat.reduceSub, Nat.reduceLeDiff, Int.reduceToNat, reduceCtorEq, hb.rdc, z]) | (refine qA ?_ ?_; (first | omega | (simp only [qL]; omega) | (simp only [qD] at *; omega))))
    refine CallV.of isCall_22 (new4_any W2 (parse3 l).1 hg hsz (by omega) _ _ hre2) ?_
    rintro _ W3 ⟨v, rfl, hm, k3⟩
    refine Sm.out ?_
    repeat (first | refine qS ?_ | refine qB ?_ | refine qT rfl ?_ | refine qF rfl ?_ | ((first | refine qR rfl ?_ | refine qK ?_ | refine qE ?_ | refine qW ?_ | refine qM ?_); try simp -dsimp (maxSteps := 2000000) (disch := first | omega | (simp only [qZ] <;> omega) | fail) only [push_cast, ↓qP, ↓reduceIte, Nat.reduceEqDiff, Nat.reduceAdd, Nat.reduceMul, Nat.reduceSub, Nat.reduceLeDiff, Int.reduceToNat, reduceCtorEq]) | (refine qA ?_ ?_; (first | omega | (simp only [qL]; omega) | (simp only [qD] at *; omega))))
    exact Ret.mk ⟨v, rfl, .inl ⟨hz, _, fun b h => h.2, hm⟩, k1.trans (k2.trans k3)⟩
  · have hf0 : (f != 0) = true := by simpa using fun h => hz (hf.1 h)
    repeat (first | refine qS ?_ | refine qB ?_ | refine qT rfl ?_ | refine qF rfl ?_ | ((first | refine qR rfl ?_ | refine qK ?_ | refine qE ?_ | refine qW ?_ | refine qM ?_); try simp -dsimp (maxSteps := 2000000) (disch := first | omega | (simp only [qZ] <;> omega) | fail) only [push_cast, ↓qP, ↓reduceIte, Nat.reduceEqDiff, Nat.reduceAdd, Nat.reduceMul, Nat.reduceSub, Nat.reduceLeDiff, Int.reduceToNat, reduceCtorEq, hf0]) | (refine qA ?_ ?_; (first | omega | (simp only [qL]; omega) | (simp only [qD] at *; omega))))
    exact Ret.mk ⟨_, rfl, .inr ⟨hz, rfl⟩, k1.trans k2⟩
theorem find_nil (w : World) (t : List UInt8) (i : Int) : Calls Try.prog 28 #[.pointer none, .string (B t), .int .i64 i] w fun e' w' => e' = .returned (trip none) ∧ Kp (fun _ => False) w w' := by
  refine enter (n := 37) (args := [.pointer none, .string (B t), .int .i64 i]) Try.func28 rfl rfl rfl (by simp) ?_
  repeat (first | refine qS ?_ | refine qB ?_ | refine qT rfl ?_ | refine qF rfl ?_ | ((first | refine qR rfl ?_ | refine qK ?_ | refine qE ?_ | refine qW ?_ | refine qM ?_); try simp -dsimp (maxSteps := 2000000) (disch := first | omega | (simp only [qZ] <;> omega) | fail) only [push_cast, ↓qP, ↓reduceIte, Nat.reduceEqDiff, Nat.reduceAdd, Nat.reduceMul, Nat.reduceSub, Nat.reduceLeDiff, Int.reduceToNat, reduceCtorEq]) | (refine qA ?_ ?_; (first | omega | (simp only [qL]; omega) | (simp only [qD] at *; omega))))
  exact Ret.mk ⟨rfl, Kp.refl _ _⟩
theorem whole_nil (w : World) (t : List UInt8) : Calls Try.prog 30 #[.pointer none, .string (B t)] w fun e' w' => e' = .returned (.bool false) ∧ Kp (fun _ => False) w w' := by
  refine enter (n := 22) (args := [.pointer none, .string (B t)]) Try.func30 rfl rfl rfl (by simp) ?_
  repeat (first | refine qS ?_ | refine qB ?_ | refine qT rfl ?_ | refine qF rfl ?_ | ((first | refine qR rfl ?_ | refine qK ?_ | refine qE ?_ | refine qW ?_ | refine qM ?_); try simp -dsimp (maxSteps := 2000000) (disch := first | omega | (simp only [qZ] <;> omega) | fail) only [push_cast, ↓qP, ↓reduceIte, Nat.reduceEqDiff, Nat.reduceAdd, Nat.reduceMul, Nat.reduceSub, Nat.reduceLeDiff, Int.reduceToNat, reduceCtorEq]) | (refine qA ?_ ?_; (first | omega | (simp only [qL]; omega) | (simp only [qD] at *; omega))))
  exact Ret.mk ⟨rfl, Kp.refl _ _⟩
theorem mfind_any (hm : MachOf w0 l v) (hk : Kp (fun _ => False) w0 w) (hl : l.length ≤ 600) (ht : t.length ≤ 1000000) (i : Int) (hi : -9223372036854775808 ≤ i ∧ i ≤ 9223372036854775807) :
    Calls Try.prog 28 #[v, .string (B t), .int .i64 i] w fun e' w' => e' = .returned (trip (matchI l t i)) ∧ Kp (fun _ => False) w w' := by
  unfold matchI
  rcases hm with ⟨hz, D, hD, hm⟩ | ⟨hz, rfl⟩
  · obtain ⟨hg, hsz, hwt⟩ := parse3_ok _ hz
    rw [if_pos hz]
    exact find4_any hm hD hk hg (len5 hg hsz (by omega)) ht i hi
  · rw [if_neg hz]; exact find_nil w t i
theorem mwhole_any (hm : MachOf w0 l v) (hk : Kp (fun _ => False) w0 w) (hl : l.length ≤ 600) (ht : t.length ≤ 1000000) :
    Calls Try.prog 30 #[v, .string (B t)] w fun e' w' => e' = .returned (.bool (matchW l t)) ∧ Kp (fun _ => False) w w' := by
  unfold matchW
  rcases hm with ⟨hz, D, hD, hm⟩ | ⟨hz, rfl⟩
  · obtain ⟨hg, hsz, hwt⟩ := parse3_ok _ hz
    rw [if_pos hz]
    exact whole4_any hm hD hk hg (len5 hg hsz (by omega)) ht
  · rw [if_neg hz]; exact whole_nil w t

theorem awake4_any (hM : MaxL w) : Calls Try.prog 26 #[] w fun e' w' => e' = .returned (.bool true) ∧ Kp (fun _ => False) w w' := by
  have h1 : matchI [97, 124, 97, 98] [120, 97, 98] 0 = some (1, 2) := by kernel_rfl
  have h2 : matchW [97, 42] [97, 97, 97] = true := by kernel_rfl
  refine enter (n := 23) (args := []) Try.func26 rfl rfl rfl (by simp) ?_
  repeat (first | refine qS ?_ | refine qB ?_ | refine qT rfl ?_ | refine qF rfl ?_ | ((first | refine qR rfl ?_ | refine qK ?_ | refine qE ?_ | refine qW ?_ | refine qM ?_); try simp -dsimp (maxSteps := 2000000) (disch := first | omega | (simp only [qZ] <;> omega) | fail) only [push_cast, ↓qP, ↓reduceIte, Nat.reduceEqDiff, Nat.reduceAdd, Nat.reduceMul, Nat.reduceSub, Nat.reduceLeDiff, Int.reduceToNat, reduceCtorEq]) | (refine qA ?_ ?_; (first | omega | (simp only [qL]; omega) | (simp only [qD] at *; omega))))
  refine CallV.of isCall_32 (machine_any (l := [97, 124, 97, 98]) (by simp) hM) ?_
  rintro _ W1 ⟨v, rfl, hm, k1⟩
  refine Sm.out ?_
  repeat (first | refine qS ?_ | refine qB ?_ | refine qT rfl ?_ | refine qF rfl ?_ | ((first | refine qR rfl ?_ | refine qK ?_ | refine qE ?_ | refine qW ?_ | refine qM ?_); try simp -dsimp (maxSteps := 2000000) (disch := first | omega | (simp only [qZ] <;> omega) | fail) only [push_cast, ↓qP, ↓reduceIte, Nat.reduceEqDiff, Nat.reduceAdd, Nat.reduceMul, Nat.reduceSub, Nat.reduceLeDiff, Int.reduceToNat, reduceCtorEq]) | (refine qA ?_ ?_; (first | omega | (simp only [qL]; omega) | (simp only [qD] at *; omega))))
  refine CallV.of isCall_28 (mfind_any (t := [120, 97, 98]) hm (Kp.refl _ _) (by simp) (by simp) 0 (by omega)) ?_
  rintro _ W2 ⟨rfl, k2⟩
  rw [h1]
  have z1 : ((0 : Int) + 1 == 1) = true := rfl
  have z2 : ((0 : Int) + 1 + 1 == 2) = true := rfl
  have z3 : ((1 : Int) == 1) = true := rfl
  have z4 : ((2 : Int) == 2) = true := rfl
  refine Sm.out ?_
  repeat (first | refine qS ?_ | refine qB ?_ | refine qT rfl ?_ | refine qF rfl ?_ | ((first | refine qR rfl ?_ | refine qK ?_ | refine qE ?_ | refine qW ?_ | refine qM ?_); try simp -dsimp (maxSteps := 2000000) (disch := first | omega | (simp only [qZ] <;> omega) | fail) only [push_cast, ↓qP, ↓reduceIte, Nat.reduceEqDiff, Nat.reduceAdd, Nat.reduceMul, Nat.reduceSub, Nat.reduceLeDiff, Int.reduceToNat, reduceCtorEq, trip, z1, z2, z3, z4]) | (refine qA ?_ ?_; (first | omega | (simp only [qL]; omega) | (simp only [qD] at *; omega))))
  refine CallV.of isCall_32 (machine_any (l := [97, 42]) (by simp) ((hM.kp k1 id).kp k2 id)) ?_
  rintro _ W3 ⟨v', rfl, hm', k3⟩
  refine Sm.out ?_
  repeat (first | refine qS ?_ | refine qB ?_ | refine qT rfl ?_ | refine qF rfl ?_ | ((first | refine qR rfl ?_ | refine qK ?_ | refine qE ?_ | refine qW ?_ | refine qM ?_); try simp -dsimp (maxSteps := 2000000) (disch := first | omega | (simp only [qZ] <;> omega) | fail) only [push_cast, ↓qP, ↓reduceIte, Nat.reduceEqDiff, Nat.reduceAdd, Nat.reduceMul, Nat.reduceSub, Nat.reduceLeDiff, Int.reduceToNat, reduceCtorEq]) | (refine qA ?_ ?_; (first | omega | (simp only [qL]; omega) | (simp only [qD] at *; omega))))
  refine CallV.of isCall_30 (mwhole_any (t := [97, 97, 97]) hm' (Kp.refl _ _) (by simp) (by simp)) ?_
  rintro _ W4 ⟨rfl, k4⟩
  rw [h2]
  refine Sm.out ?_
  repeat (first | refine qS ?_ | refine qB ?_ | refine qT rfl ?_ | refine qF rfl ?_ | ((first | refine qR rfl ?_ | refine qK ?_ | refine qE ?_ | refine qW ?_ | refine qM ?_); try simp -dsimp (maxSteps := 2000000) (disch := first | omega | (simp only [qZ] <;> omega) | fail) only [push_cast, ↓qP, ↓reduceIte, Nat.reduceEqDiff, Nat.reduceAdd, Nat.reduceMul, Nat.reduceSub, Nat.reduceLeDiff, Int.reduceToNat, reduceCtorEq]) | (refine qA ?_ ?_; (first | omega | (simp only [qL]; omega) | (simp only [qD] at *; omega))))
  exact Ret.mk ⟨rfl, ((k1.trans k2).trans k3).trans k4⟩

theorem small_any (w : World) (l t : List UInt8) (n : Int) : Calls Try.prog 27 #[.string (B l), .string (B t), .int .i64 n] w fun e' w' =>
    ∃ b, e' = .returned (.bool b) ∧ Kp (fun _ => False) w w' ∧ (b = true → l.length ≤ 200 ∧ (t.length : Int) ≤ n ∧ (parse3 l).2 = 0) := by
  refine enter (n := 25) (args := [.string (B l), .string (B t), .int .i64 n]) Try.func27 rfl rfl rfl (by simp) ?_
  rcases Bool.eq_false_or_eq_true (decide ((l.length : Int) > 200)) with c1 | c1
  · repeat (first | refine qS ?_ | refine qB ?_ | refine qT rfl ?_ | refine qF rfl ?_ | ((first | refine qR rfl ?_ | refine qK ?_ | refine qE ?_ | refine qW ?_ | refine qM ?_); try simp -dsimp (maxSteps := 2000000) (disch := first | omega | (simp only [qZ] <;> omega) | fail) only [push_cast, ↓qP, ↓reduceIte, Nat.reduceEqDiff, Nat.reduceAdd, Nat.reduceMul, Nat.reduceSub, Nat.reduceLeDiff, Int.reduceToNat, reduceCtorEq, c1]) | (refine qA ?_ ?_; (first | omega | (simp only [qL]; omega) | (simp only [qD] at *; omega))))
    exact Ret.mk ⟨false, rfl, Kp.refl _ _, fun h => by cases h⟩
  rcases Bool.eq_false_or_eq_true (decide ((t.length : Int) > n)) with c2 | c2
  · repeat (first | refine qS ?_ | refine qB ?_ | refine qT rfl ?_ | refine qF rfl ?_ | ((first | refine qR rfl ?_ | refine qK ?_ | refine qE ?_ | refine qW ?_ | refine qM ?_); try simp -dsimp (maxSteps := 2000000) (disch := first | omega | (simp only [qZ] <;> omega) | fail) only [push_cast, ↓qP, ↓reduceIte, Nat.reduceEqDiff, Nat.reduceAdd, Nat.reduceMul, Nat.reduceSub, Nat.reduceLeDiff, Int.reduceToNat, reduceCtorEq, c1, c2]) | (refine qA ?_ ?_; (first | omega | (simp only [qL]; omega) | (simp only [qD] at *; omega))))
    exact Ret.mk ⟨false, rfl, Kp.refl _ _, fun h => by cases h⟩
  have h1 : l.length ≤ 200 := by simp at c1; omega
  have h2 : (t.length : Int) ≤ n := by simp at c2; omega
  repeat (first | refine qS ?_ | refine qB ?_ | refine qT rfl ?_ | refine qF rfl ?_ | ((first | refine qR rfl ?_ | refine qK ?_ | refine qE ?_ | refine qW ?_ | refine qM ?_); try simp -dsimp (maxSteps := 2000000) (disch := first | omega | (simp only [qZ] <;> omega) | fail) only [push_cast, ↓qP, ↓reduceIte, Nat.reduceEqDiff, Nat.reduceAdd, Nat.reduceMul, Nat.reduceSub, Nat.reduceLeDiff, Int.reduceToNat, reduceCtorEq, c1, c2]) | (refine qA ?_ ?_; (first | omega | (simp only [qL]; omega) | (simp only [qD] at *; omega))))
  refine CallV.of isCall_20 (parse3_any _ l (by omega)) ?_
  rintro _ W ⟨cs, rfl, hre, k1⟩
  obtain ⟨o', se, A, m, c', lo, hi', rfl⟩ := hre.form
  refine Sm.out ?_
  repeat (first | ((fail_if_success (first | refine qY (n := 4) ?_ | refine qV (n := 4) ?_)); refine qS ?_) | refine qB ?_ | refine qT rfl ?_ | refine qF rfl ?_ | ((first | refine qR rfl ?_ | refine qK ?_ | refine qE ?_ | refine qW ?_ | refine qM ?_); try simp -dsimp (maxSteps := 2000000) (disch := first | omega | (simp only [qZ] <;> omega) | fail) only [push_cast, ↓qP, ↓reduceIte, Nat.reduceEqDiff, Nat.reduceAdd, Nat.reduceMul, Nat.reduceSub, Nat.reduceLeDiff, Int.reduceToNat, reduceCtorEq]) | (refine qA ?_ ?_; (first | omega | (simp only [qL]; omega) | (simp only [qD] at *; omega))))
  refine Wp.gen (w := (W.alloc (.cells zRe.toArray 33)).setCells W.heap.size 0 [.string (B o'), .string (B se), .slice A m c', .int .i64 lo, .int .i64 hi']) (A := fun W2 => Kp (fun _ => False) W W2) ?_ ?_
  · exact Kp.setCells ((Kp.refl _ W).alloc _) (fun h => absurd h (Nat.lt_irrefl _)) [.string (B o'), .string (B se), .slice A m c', .int .i64 lo, .int .i64 hi'] 0
  rintro W2 k2
  rcases Bool.eq_false_or_eq_true ((parse3 l).2 == 0) with c4 | c4
  · repeat (first | refine qS ?_ | refine qB ?_ | refine qT rfl ?_ | refine qF rfl ?_ | ((first | refine qR rfl ?_ | refine qK ?_ | refine qE ?_ | refine qW ?_ | refine qM ?_); try simp -dsimp (maxSteps := 2000000) (disch := first | omega | (simp only [qZ] <;> omega) | fail) only [push_cast, ↓qP, ↓reduceIte, Nat.reduceEqDiff, Nat.reduceAdd, Nat.reduceMul, Nat.reduceSub, Nat.reduceLeDiff, Int.reduceToNat, reduceCtorEq, c4]) | (refine qA ?_ ?_; (first | omega | (simp only [qL]; omega) | (simp only [qD] at *; omega))))
    exact Ret.mk ⟨true, rfl, k1.trans k2, fun _ => ⟨h1, h2, by simpa using c4⟩⟩
  · repeat (first | refine qS ?_ | refine qB ?_ | refine qT rfl ?_ | refine qF rfl ?_ | ((first | refine qR rfl ?_ | refine qK ?_ | refine qE ?_ | refine qW ?_ | refine qM ?_); try simp -dsimp (maxSteps := 2000000) (disch := first | omega | (simp only [qZ] <;> omega) | fail) only [push_cast, ↓qP, ↓reduceIte, Nat.reduceEqDiff, Nat.reduceAdd, Nat.reduceMul, Nat.reduceSub, Nat.reduceLeDiff, Int.reduceToNat, reduceCtorEq, c4]) | (refine qA ?_ ?_; (first | omega | (simp only [qL]; omega) | (simp only [qD] at *; omega))))
    exact Ret.mk ⟨false, rfl, k1.trans k2, fun h => by cases h⟩
end
end Go.Proofs.Ytddichibegppjaa

/- MatchFinds, MatchWholes, MatchLeft, walked. -/
namespace Go.Proofs.Ytddichibegppjaa
open Go Go.VC

theorem trip_eq (r : Option (Nat × Nat)) : ∃ i n b, trip r = .tuple #[.int .i64 i, .int .i64 n, .bool b] := by
  cases r with
  | none => exact ⟨_, _, _, rfl⟩
  | some x => exact ⟨_, _, _, rfl⟩
theorem matchFinds_any (w : World) (hM : MaxL w) (l t : List UInt8) (i : Int) (hi : -9223372036854775808 ≤ i ∧ i ≤ 9223372036854775807) : Calls Try.prog 7 #[.string (B l), .string (B t), .int .i64 i] w fun e' w' => e' = .returned (.bool true) ∧ Kp (fun _ => False) w w' := by
  refine enter (n := 56) (args := [.string (B l), .string (B t), .int .i64 i]) Try.func7 rfl rfl rfl (by simp) ?_
  repeat (first | refine qS ?_ | refine qB ?_ | refine qT rfl ?_ | refine qF rfl ?_ | ((first | refine qR rfl ?_ | refine qK ?_ | refine qE ?_ | refine qW ?_ | refine qM ?_); try simp -dsimp (maxSteps := 2000000) (disch := first | omega | (simp only [qZ] <;> omega) | fail) only [push_cast, ↓qP, ↓reduceIte, Nat.reduceEqDiff, Nat.reduceAdd, Nat.reduceMul, Nat.reduceSub, Nat.reduceLeDiff, Int.reduceToNat, reduceCtorEq]) | (refine qA ?_ ?_; (first | omega | (simp only [qL]; omega) | (simp only [qD] at *; omega))))
  refine CallV.of isCall_26 (awake4_any hM) ?_
  rintro _ W1 ⟨rfl, k1⟩
  refine Sm.out ?_
  repeat (first | refine qS ?_ | refine qB ?_ | refine qT rfl ?_ | refine qF rfl ?_ | ((first | refine qR rfl ?_ | refine qK ?_ | refine qE ?_ | refine qW ?_ | refine qM ?_); try simp -dsimp (maxSteps := 2000000) (disch := first | omega | (simp only [qZ] <;> omega) | fail) only [push_cast, ↓qP, ↓reduceIte, Nat.reduceEqDiff, Nat.reduceAdd, Nat.reduceMul, Nat.reduceSub, Nat.reduceLeDiff, Int.reduceToNat, reduceCtorEq]) | (refine qA ?_ ?_; (first | omega | (simp only [qL]; omega) | (simp only [qD] at *; omega))))
  refine CallV.of isCall_27 (small_any W1 l t 60) ?_
  rintro _ W2 ⟨b, rfl, k2', hfit⟩
  have k2 := k1.trans k2'
  clear k1 k2'
  cases b with
  | false =>
    refine Sm.out ?_
    repeat (first | refine qS ?_ | refine qB ?_ | refine qT rfl ?_ | refine qF rfl ?_ | ((first | refine qR rfl ?_ | refine qK ?_ | refine qE ?_ | refine qW ?_ | refine qM ?_); try simp -dsimp (maxSteps := 2000000) (disch := first | omega | (simp only [qZ] <;> omega) | fail) only [push_cast, ↓qP, ↓reduceIte, Nat.reduceEqDiff, Nat.reduceAdd, Nat.reduceMul, Nat.reduceSub, Nat.reduceLeDiff, Int.reduceToNat, reduceCtorEq]) | (refine qA ?_ ?_; (first | omega | (simp only [qL]; omega) | (simp only [qD] at *; omega))))
    exact Ret.mk ⟨rfl, k2⟩
  | true =>
  obtain ⟨hl, ht, hz⟩ := hfit rfl
  clear hfit
  obtain ⟨hg, hsz, hwt⟩ := parse3_ok _ hz
  refine Sm.out ?_
  repeat (first | refine qS ?_ | refine qB ?_ | refine qT rfl ?_ | refine qF rfl ?_ | ((first | refine qR rfl ?_ | refine qK ?_ | refine qE ?_ | refine qW ?_ | refine qM ?_); try simp -dsimp (maxSteps := 2000000) (disch := first | omega | (simp only [qZ] <;> omega) | fail) only [push_cast, ↓qP, ↓reduceIte, Nat.reduceEqDiff, Nat.reduceAdd, Nat.reduceMul, Nat.reduceSub, Nat.reduceLeDiff, Int.reduceToNat, reduceCtorEq]) | (refine qA ?_ ?_; (first | omega | (simp only [qL]; omega) | (simp only [qD] at *; omega))))
  refine CallV.of isCall_20 (parse3_any W2 l (by omega)) ?_
  rintro _ W3 ⟨cs, rfl, hre, k3'⟩
  rw [hz]
  have k3 := k2.trans k3'
  generalize (parse3 l).1 = e at *
  obtain ⟨o', se, A, m, c', lo, hi', rfl⟩ := hre.form
  obtain ⟨q, hq⟩ : ∃ q, q = W3.heap.size := ⟨_, rfl⟩
  refine Sm.out ?_
  repeat (first | ((fail_if_success (first | refine qY (n := 6) ?_ | refine qV (n := 6) ?_)); refine qS ?_) | refine qB ?_ | refine qT rfl ?_ | refine qF rfl ?_ | ((first | refine qR rfl ?_ | refine qK ?_ | refine qE ?_ | refine qW ?_ | refine qM ?_); try simp -dsimp (maxSteps := 2000000) (disch := first | omega | (simp only [qZ] <;> omega) | fail) only [push_cast, ↓qP, ↓reduceIte, Nat.reduceEqDiff, Nat.reduceAdd, Nat.reduceMul, Nat.reduceSub, Nat.reduceLeDiff, Int.reduceToNat, reduceCtorEq]) | (refine qA ?_ ?_; (first | omega | (simp only [qL]; omega) | (simp only [qD] at *; omega))))
  rw [← hq]
  refine Wp.gen (w := (W3.alloc (.cells zRe.toArray 33)).setCells q 0 [.string (B o'), .string (B se), .slice A m c', .int .i64 lo, .int .i64 hi']) (A := fun W4 => Kp (fun _ => False) W3 W4 ∧ Blk W4 q 33 [.string (B o'), .string (B se), .slice A m c', .int .i64 lo, .int .i64 hi']) ?_ ?_
  · rw [hq]
    exact ⟨Kp.setCells ((Kp.refl _ W3).alloc _) (fun h => absurd h (Nat.lt_irrefl _)) [.string (B o'), .string (B se), .slice A m c', .int .i64 lo, .int .i64 hi'] 0, Blk.setAll (cs := zRe) (vs := [.string (B o'), .string (B se), .slice A m c', .int .i64 lo, .int .i64 hi']) (Blk.new W3 33 zRe) rfl⟩
  rintro W4 ⟨k4', hq4⟩
  have k4 := k3.trans k4'
  have hre4 := hre.Kp (D' := fun b => b < W3.heap.size) k4' (fun _ _ => id) (fun _ h => h.2)
  clear k2 k3 k3' k4' hre hq
  have hltq := hq4.lt
  repeat (first | refine qS ?_ | refine qB ?_ | refine qT rfl ?_ | refine qF rfl ?_ | ((first | refine qR rfl ?_ | refine qK ?_ | refine qE ?_ | refine qW ?_ | refine qM ?_); try simp -dsimp (maxSteps := 2000000) (disch := first | omega | (simp only [qZ] <;> omega) | fail) only [push_cast, ↓qP, ↓reduceIte, Nat.reduceEqDiff, Nat.reduceAdd, Nat.reduceMul, Nat.reduceSub, Nat.reduceLeDiff, Int.reduceToNat, reduceCtorEq, hq4.rdc]) | (refine qA ?_ ?_; (first | omega | (simp only [qL]; omega) | (simp only [qD] at *; omega))))
  refine CallV.of isCall_22 (new4_any W4 e hg hsz (by omega) _ _ hre4) ?_
  rintro _ W5 ⟨v, rfl, hm, k5'⟩
  have k5 := k4.trans k5'
  have hq5 := k5'.Blk hq4 id
  have hre5 := hre4.Kp (D' := fun b => b < W3.heap.size) k5' (fun _ _ => id) (fun _ h => h)
  clear k5' hq4 hre4 k4 hltq
  refine Sm.out ?_
  repeat (first | refine qS ?_ | refine qB ?_ | refine qT rfl ?_ | refine qF rfl ?_ | ((first | refine qR rfl ?_ | refine qK ?_ | refine qE ?_ | refine qW ?_ | refine qM ?_); try simp -dsimp (maxSteps := 2000000) (disch := first | omega | (simp only [qZ] <;> omega) | fail) only [push_cast, ↓qP, ↓reduceIte, Nat.reduceEqDiff, Nat.reduceAdd, Nat.reduceMul, Nat.reduceSub, Nat.reduceLeDiff, Int.reduceToNat, reduceCtorEq]) | (refine qA ?_ ?_; (first | omega | (simp only [qL]; omega) | (simp only [qD] at *; omega))))
  refine CallV.of isCall_28 (find4_any (w0 := W5) (l := t) hm (fun b h => h.2) (Kp.refl _ W5) hg (len5 hg hsz (by omega)) (by omega) i hi) ?_
  rintro _ W6 ⟨rfl, k6'⟩
  have k6 := k5.trans k6'
  have hq6 := k6'.Blk hq5 id
  have hre6 := hre5.Kp (D' := fun b => b < W3.heap.size) k6' (fun _ _ => id) (fun _ h => h)
  clear k6' hq5 hre5 hm k5
  have hltq := hq6.lt
  obtain ⟨x, n, b, hfr⟩ := trip_eq (findI e t i)
  rw [hfr]
  refine Sm.out ?_
  repeat (first | refine qS ?_ | refine qB ?_ | refine qT rfl ?_ | refine qF rfl ?_ | ((first | refine qR rfl ?_ | refine qK ?_ | refine qE ?_ | refine qW ?_ | refine qM ?_); try simp -dsimp (maxSteps := 2000000) (disch := first | omega | (simp only [qZ] <;> omega) | fail) only [push_cast, ↓qP, ↓reduceIte, Nat.reduceEqDiff, Nat.reduceAdd, Nat.reduceMul, Nat.reduceSub, Nat.reduceLeDiff, Int.reduceToNat, reduceCtorEq, hq6.rdc]) | (refine qA ?_ ?_; (first | omega | (simp only [qL]; omega) | (simp only [qD] at *; omega))))
  refine CallV.of isCall_29 (find3_any (l := t) (by omega) hg (by omega) hre6 i hi) ?_
  rintro _ W7 ⟨rfl, k7⟩
  rw [hfr]
  refine Sm.out ?_
  repeat (first | refine qS ?_ | refine qB ?_ | refine qT rfl ?_ | refine qF rfl ?_ | ((first | refine qR rfl ?_ | refine qK ?_ | refine qE ?_ | refine qW ?_ | refine qM ?_); try simp -dsimp (maxSteps := 2000000) (disch := first | omega | (simp only [qZ] <;> omega) | fail) only [push_cast, ↓qP, ↓reduceIte, Nat.reduceEqDiff, Nat.reduceAdd, Nat.reduceMul, Nat.reduceSub, Nat.reduceLeDiff, Int.reduceToNat, reduceCtorEq]) | (refine qA ?_ ?_; (first | omega | (simp only [qL]; omega) | (simp only [qD] at *; omega))))
  exact Ret.mk ⟨rfl, k6.trans k7⟩

theorem matchWholes_any (w : World) (hM : MaxL w) (l t : List UInt8) : Calls Try.prog 8 #[.string (B l), .string (B t)] w fun e' w' => e' = .returned (.bool true) ∧ Kp (fun _ => False) w w' := by
  refine enter (n := 26) (args := [.string (B l), .string (B t)]) Try.func8 rfl rfl rfl (by simp) ?_
  repeat (first | refine qS ?_ | refine qB ?_ | refine qT rfl ?_ | refine qF rfl ?_ | ((first | refine qR rfl ?_ | refine qK ?_ | refine qE ?_ | refine qW ?_ | refine qM ?_); try simp -dsimp (maxSteps := 2000000) (disch := first | omega | (simp only [qZ] <;> omega) | fail) only [push_cast, ↓qP, ↓reduceIte, Nat.reduceEqDiff, Nat.reduceAdd, Nat.reduceMul, Nat.reduceSub, Nat.reduceLeDiff, Int.reduceToNat, reduceCtorEq]) | (refine qA ?_ ?_; (first | omega | (simp only [qL]; omega) | (simp only [qD] at *; omega))))
  refine CallV.of isCall_26 (awake4_any hM) ?_
  rintro _ W1 ⟨rfl, k1⟩
  refine Sm.out ?_
  repeat (first | refine qS ?_ | refine qB ?_ | refine qT rfl ?_ | refine qF rfl ?_ | ((first | refine qR rfl ?_ | refine qK ?_ | refine qE ?_ | refine qW ?_ | refine qM ?_); try simp -dsimp (maxSteps := 2000000) (disch := first | omega | (simp only [qZ] <;> omega) | fail) only [push_cast, ↓qP, ↓reduceIte, Nat.reduceEqDiff, Nat.reduceAdd, Nat.reduceMul, Nat.reduceSub, Nat.reduceLeDiff, Int.reduceToNat, reduceCtorEq]) | (refine qA ?_ ?_; (first | omega | (simp only [qL]; omega) | (simp only [qD] at *; omega))))
  refine CallV.of isCall_27 (small_any W1 l t 60) ?_
  rintro _ W2 ⟨b, rfl, k2', hfit⟩
  have k2 := k1.trans k2'
  clear k1 k2'
  cases b with
  | false =>
    refine Sm.out ?_
    repeat (first | refine qS ?_ | refine qB ?_ | refine qT rfl ?_ | refine qF rfl ?_ | ((first | refine qR rfl ?_ | refine qK ?_ | refine qE ?_ | refine qW ?_ | refine qM ?_); try simp -dsimp (maxSteps := 2000000) (disch := first | omega | (simp only [qZ] <;> omega) | fail) only [push_cast, ↓qP, ↓reduceIte, Nat.reduceEqDiff, Nat.reduceAdd, Nat.reduceMul, Nat.reduceSub, Nat.reduceLeDiff, Int.reduceToNat, reduceCtorEq]) | (refine qA ?_ ?_; (first | omega | (simp only [qL]; omega) | (simp only [qD] at *; omega))))
    exact Ret.mk ⟨rfl, k2⟩
  | true =>
  obtain ⟨hl, ht, hz⟩ := hfit rfl
  clear hfit
  obtain ⟨hg, hsz, hwt⟩ := parse3_ok _ hz
  refine Sm.out ?_
  repeat (first | refine qS ?_ | refine qB ?_ | refine qT rfl ?_ | refine qF rfl ?_ | ((first | refine qR rfl ?_ | refine qK ?_ | refine qE ?_ | refine qW ?_ | refine qM ?_); try simp -dsimp (maxSteps := 2000000) (disch := first | omega | (simp only [qZ] <;> omega) | fail) only [push_cast, ↓qP, ↓reduceIte, Nat.reduceEqDiff, Nat.reduceAdd, Nat.reduceMul, Nat.reduceSub, Nat.reduceLeDiff, Int.reduceToNat, reduceCtorEq]) | (refine qA ?_ ?_; (first | omega | (simp only [qL]; omega) | (simp only [qD] at *; omega))))
  refine CallV.of isCall_20 (parse3_any W2 l (by omega)) ?_
  rintro _ W3 ⟨cs, rfl, hre, k3'⟩
  rw [hz]
  have k3 := k2.trans k3'
  generalize (parse3 l).1 = e at *
  obtain ⟨o', se, A, m, c', lo, hi', rfl⟩ := hre.form
  obtain ⟨q, hq⟩ : ∃ q, q = W3.heap.size := ⟨_, rfl⟩
  refine Sm.out ?_
  repeat (first | ((fail_if_success (first | refine qY (n := 6) ?_ | refine qV (n := 6) ?_)); refine qS ?_) | refine qB ?_ | refine qT rfl ?_ | refine qF rfl ?_ | ((first | refine qR rfl ?_ | refine qK ?_ | refine qE ?_ | refine qW ?_ | refine qM ?_); try simp -dsimp (maxSteps := 2000000) (disch := first | omega | (simp only [qZ] <;> omega) | fail) only [push_cast, ↓qP, ↓reduceIte, Nat.reduceEqDiff, Nat.reduceAdd, Nat.reduceMul, Nat.reduceSub, Nat.reduceLeDiff, Int.reduceToNat, reduceCtorEq]) | (refine qA ?_ ?_; (first | omega | (simp only [qL]; omega) | (simp only [qD] at *; omega))))
  rw [← hq]
  refine Wp.gen (w := (W3.alloc (.cells zRe.toArray 33)).setCells q 0 [.string (B o'), .string (B se), .slice A m c', .int .i64 lo, .int .i64 hi']) (A := fun W4 => Kp (fun _ => False) W3 W4 ∧ Blk W4 q 33 [.string (B o'), .string (B se), .slice A m c', .int .i64 lo, .int .i64 hi']) ?_ ?_
  · rw [hq]
    exact ⟨Kp.setCells ((Kp.refl _ W3).alloc _) (fun h => absurd h (Nat.lt_irrefl _)) [.string (B o'), .string (B se), .slice A m c', .int .i64 lo, .int .i64 hi'] 0, Blk.setAll (cs := zRe) (vs := [.string (B o'), .string (B se), .slice A m c', .int .i64 lo, .int .i64 hi']) (Blk.new W3 33 zRe) rfl⟩
  rintro W4 ⟨k4', hq4⟩
  have k4 := k3.trans k4'
  have hre4 := hre.Kp (D' := fun b => b < W3.heap.size) k4' (fun _ _ => id) (fun _ h => h.2)
  clear k2 k3 k3' k4' hre hq
  have hltq := hq4.lt
  refine Wp.seq ?_
  refine Wp.draw [0, 1, 0, 7, 0, 0, 63, 127, 255] [1, 3, 6] (.op 0 false false [] <| .op 2 false false [] <| .op 4 false true [] <| .op 5 false false [] <| .op 1 true false [] <| .op 3 true false [] <| .op 6 true false [4] <| .op 7 false false [] <| .op 8 false false [] <| .nil) mixed (by kernel_rfl) ?_
  simp -dsimp (maxSteps := 2000000) (disch := first | omega | (simp only [qZ] <;> omega) | fail) only [push_cast, ↓qP, ↓reduceIte, Nat.reduceEqDiff, Nat.reduceAdd, Nat.reduceMul, Nat.reduceSub, Nat.reduceLeDiff, Int.reduceToNat, reduceCtorEq, hq4.rdc]
  have k5a : Kp (fun _ => False) W4 W4.drew := (Kp.refl _ W4).drew
  refine CallV.of isCall_22 (new4_any W4.drew e hg hsz (by omega) _ _ (hre4.Kp (D' := fun b => b < W3.heap.size) k5a (fun _ _ => id) (fun _ h => h))) ?_
  rintro _ W5 ⟨v, rfl, hm, k5b⟩
  have k5' := k5a.trans k5b
  have k5 := k4.trans k5'
  have hq5 := k5'.Blk hq4 id
  have hre5 := hre4.Kp (D' := fun b => b < W3.heap.size) k5' (fun _ _ => id) (fun _ h => h)
  clear k5a k5b k5' hq4 hre4 k4 hltq
  have hltq := hq5.lt
  refine Sm.out ?_
  repeat (first | refine qS ?_ | refine qB ?_ | refine qT rfl ?_ | refine qF rfl ?_ | ((first | refine qR rfl ?_ | refine qK ?_ | refine qE ?_ | refine qW ?_ | refine qM ?_); try simp -dsimp (maxSteps := 2000000) (disch := first | omega | (simp only [qZ] <;> omega) | fail) only [push_cast, ↓qP, ↓reduceIte, Nat.reduceEqDiff, Nat.reduceAdd, Nat.reduceMul, Nat.reduceSub, Nat.reduceLeDiff, Int.reduceToNat, reduceCtorEq, hq5.rdc]) | (refine qA ?_ ?_; (first | omega | (simp only [qL]; omega) | (simp only [qD] at *; omega))))
  refine CallV.of isCall_30 (whole4_any (w0 := W5) (l := t) hm (fun b h => h.2) (Kp.refl _ W5) hg (len5 hg hsz (by omega)) (by omega)) ?_
  rintro _ W6 ⟨rfl, k6'⟩
  have k6 := k5.trans k6'
  have hq6 := k6'.Blk hq5 id
  have hre6 := hre5.Kp (D' := fun b => b < W3.heap.size) k6' (fun _ _ => id) (fun _ h => h)
  clear k6' hq5 hre5 hm k5 hltq
  have hltq := hq6.lt
  refine Sm.out ?_
  repeat (first | refine qS ?_ | refine qB ?_ | refine qT rfl ?_ | refine qF rfl ?_ | ((first | refine qR rfl ?_ | refine qK ?_ | refine qE ?_ | refine qW ?_ | refine qM ?_); try simp -dsimp (maxSteps := 2000000) (disch := first | omega | (simp only [qZ] <;> omega) | fail) only [push_cast, ↓qP, ↓reduceIte, Nat.reduceEqDiff, Nat.reduceAdd, Nat.reduceMul, Nat.reduceSub, Nat.reduceLeDiff, Int.reduceToNat, reduceCtorEq, hq6.rdc]) | (refine qA ?_ ?_; (first | omega | (simp only [qL]; omega) | (simp only [qD] at *; omega))))
  refine CallV.of isCall_31 (whole3_any (l := t) (by omega) hg (by omega) hre6) ?_
  rintro _ W7 ⟨rfl, k7⟩
  have hbb : (whole3 e t == whole3 e t) = true := by simp
  refine Sm.out ?_
  repeat (first | refine qS ?_ | refine qB ?_ | refine qT rfl ?_ | refine qF rfl ?_ | ((first | refine qR rfl ?_ | refine qK ?_ | refine qE ?_ | refine qW ?_ | refine qM ?_); try simp -dsimp (maxSteps := 2000000) (disch := first | omega | (simp only [qZ] <;> omega) | fail) only [push_cast, ↓qP, ↓reduceIte, Nat.reduceEqDiff, Nat.reduceAdd, Nat.reduceMul, Nat.reduceSub, Nat.reduceLeDiff, Int.reduceToNat, reduceCtorEq, hbb]) | (refine qA ?_ ?_; (first | omega | (simp only [qL]; omega) | (simp only [qD] at *; omega))))
  exact Ret.mk ⟨rfl, k6.trans k7⟩

theorem scan_le {x : List Bool} {i : Nat} : ∀ {k j : Nat}, scan x i k = some j → i ≤ j ∧ j < k
  | 0, j, h => by simp [scan] at h
  | k + 1, j, h => by
    simp only [scan] at h
    split at h
    · cases h
    · split at h
      · cases h; omega
      · have := scan_le h; omega
theorem find3_again {e : Re} {l : List UInt8} : ∀ {f i a n : Nat}, find3 e l f i = some (a, n) → i ≤ a ∧ a + n ≤ l.length ∧ ∀ g, find3 e l (g + 1) a = some (a, n)
  | 0, i, a, n, h => by simp [find3] at h
  | f + 1, i, a, n, h => by
    simp only [find3] at h
    split at h
    · rename_i j hj
      cases h
      have := scan_le hj
      refine ⟨Nat.le_refl _, by omega, fun g => ?_⟩
      simp only [find3, hj]
    · have := find3_again h
      exact ⟨by omega, this.2⟩
theorem matchI_again {l t : List UInt8} {i : Int} {a n : Nat} (h : matchI l t i = some (a, n)) : i ≤ a ∧ 0 ≤ i ∧ a + n ≤ t.length ∧ matchI l t (a : Int) = some (a, n) := by
  unfold matchI at h ⊢
  split at h
  · rename_i hz
    rw [if_pos hz]
    unfold findI at h ⊢
    split at h
    · cases h
    · rename_i hi
      obtain ⟨h1, h2, h3⟩ := find3_again h
      rw [if_neg (by omega), Int.toNat_natCast, show t.length + 1 - a = (t.length - a) + 1 by omega]
      exact ⟨by omega, by omega, h2, h3 _⟩
  · cases h
theorem matchLeft_any (w : World) (hM : MaxL w) (l t : List UInt8) (i : Int) (hi : -9223372036854775808 ≤ i ∧ i ≤ 9223372036854775807) : Calls Try.prog 10 #[.string (B l), .string (B t), .int .i64 i] w fun e' w' => e' = .returned (.bool true) ∧ Kp (fun _ => False) w w' := by
  refine enter (n := 76) (args := [.string (B l), .string (B t), .int .i64 i]) Try.func10 rfl rfl rfl (by simp) ?_
  repeat (first | refine qS ?_ | refine qB ?_ | refine qT rfl ?_ | refine qF rfl ?_ | ((first | refine qR rfl ?_ | refine qK ?_ | refine qE ?_ | refine qW ?_ | refine qM ?_); try simp -dsimp (maxSteps := 2000000) (disch := first | omega | (simp only [qZ] <;> omega) | fail) only [push_cast, ↓qP, ↓reduceIte, Nat.reduceEqDiff, Nat.reduceAdd, Nat.reduceMul, Nat.reduceSub, Nat.reduceLeDiff, Int.reduceToNat, reduceCtorEq]) | (refine qA ?_ ?_; (first | omega | (simp only [qL]; omega) | (simp only [qD] at *; omega))))
  refine CallV.of isCall_26 (awake4_any hM) ?_
  rintro _ W1 ⟨rfl, k1⟩
  refine Sm.out ?_
  repeat (first | refine qS ?_ | refine qB ?_ | refine qT rfl ?_ | refine qF rfl ?_ | ((first | refine qR rfl ?_ | refine qK ?_ | refine qE ?_ | refine qW ?_ | refine qM ?_); try simp -dsimp (maxSteps := 2000000) (disch := first | omega | (simp only [qZ] <;> omega) | fail) only [push_cast, ↓qP, ↓reduceIte, Nat.reduceEqDiff, Nat.reduceAdd, Nat.reduceMul, Nat.reduceSub, Nat.reduceLeDiff, Int.reduceToNat, reduceCtorEq]) | (refine qA ?_ ?_; (first | omega | (simp only [qL]; omega) | (simp only [qD] at *; omega))))
  refine CallV.of isCall_27 (small_any W1 l t 60) ?_
  rintro _ W2 ⟨b, rfl, k2', hfit⟩
  have k2 := k1.trans k2'
  clear k1 k2'
  cases b with
  | false =>
    refine Sm.out ?_
    repeat (first | refine qS ?_ | refine qB ?_ | refine qT rfl ?_ | refine qF rfl ?_ | ((first | refine qR rfl ?_ | refine qK ?_ | refine qE ?_ | refine qW ?_ | refine qM ?_); try simp -dsimp (maxSteps := 2000000) (disch := first | omega | (simp only [qZ] <;> omega) | fail) only [push_cast, ↓qP, ↓reduceIte, Nat.reduceEqDiff, Nat.reduceAdd, Nat.reduceMul, Nat.reduceSub, Nat.reduceLeDiff, Int.reduceToNat, reduceCtorEq]) | (refine qA ?_ ?_; (first | omega | (simp only [qL]; omega) | (simp only [qD] at *; omega))))
    exact Ret.mk ⟨rfl, k2⟩
  | true =>
  obtain ⟨hl, ht, hz⟩ := hfit rfl
  clear hfit
  refine Sm.out ?_
  repeat (first | refine qS ?_ | refine qB ?_ | refine qT rfl ?_ | refine qF rfl ?_ | ((first | refine qR rfl ?_ | refine qK ?_ | refine qE ?_ | refine qW ?_ | refine qM ?_); try simp -dsimp (maxSteps := 2000000) (disch := first | omega | (simp only [qZ] <;> omega) | fail) only [push_cast, ↓qP, ↓reduceIte, Nat.reduceEqDiff, Nat.reduceAdd, Nat.reduceMul, Nat.reduceSub, Nat.reduceLeDiff, Int.reduceToNat, reduceCtorEq]) | (refine qA ?_ ?_; (first | omega | (simp only [qL]; omega) | (simp only [qD] at *; omega))))
  refine CallV.of isCall_32 (machine_any (l := l) (by omega) (hM.kp k2 id)) ?_
  rintro _ W3 ⟨v, rfl, hm, k3⟩
  refine Sm.out ?_
  repeat (first | refine qS ?_ | refine qB ?_ | refine qT rfl ?_ | refine qF rfl ?_ | ((first | refine qR rfl ?_ | refine qK ?_ | refine qE ?_ | refine qW ?_ | refine qM ?_); try simp -dsimp (maxSteps := 2000000) (disch := first | omega | (simp only [qZ] <;> omega) | fail) only [push_cast, ↓qP, ↓reduceIte, Nat.reduceEqDiff, Nat.reduceAdd, Nat.reduceMul, Nat.reduceSub, Nat.reduceLeDiff, Int.reduceToNat, reduceCtorEq]) | (refine qA ?_ ?_; (first | omega | (simp only [qL]; omega) | (simp only [qD] at *; omega))))
  refine CallV.of isCall_28 (mfind_any (t := t) hm (Kp.refl _ _) (by omega) (by omega) i hi) ?_
  rintro _ W4 ⟨rfl, k4⟩
  cases hf : matchI l t i with
  | none =>
    have z : ((0 : Int) == 0) = true := rfl
    refine Sm.out ?_
    repeat (first | refine qS ?_ | refine qB ?_ | refine qT rfl ?_ | refine qF rfl ?_ | ((first | refine qR rfl ?_ | refine qK ?_ | refine qE ?_ | refine qW ?_ | refine qM ?_); try simp -dsimp (maxSteps := 2000000) (disch := first | omega | (simp only [qZ] <;> omega) | fail) only [push_cast, ↓qP, ↓reduceIte, Nat.reduceEqDiff, Nat.reduceAdd, Nat.reduceMul, Nat.reduceSub, Nat.reduceLeDiff, Int.reduceToNat, reduceCtorEq, trip, z]) | (refine qA ?_ ?_; (first | omega | (simp only [qL]; omega) | (simp only [qD] at *; omega))))
    exact Ret.mk ⟨rfl, (k2.trans k3).trans k4⟩
  | some x =>
    obtain ⟨a, n⟩ := x
    obtain ⟨h1, h2, h3, h4⟩ := matchI_again hf
    have g1 : decide ((a : Int) < i) = false := decide_eq_false (by omega)
    have g2 : decide ((a : Int) < 0) = false := decide_eq_false (by omega)
    have g3 : decide ((n : Int) < 0) = false := decide_eq_false (by omega)
    have g4 : decide ((a : Int) + (n : Int) > (t.length : Int)) = false := decide_eq_false (by omega)
    have g5 : (((a : Nat) : Int) == ((a : Nat) : Int)) = true := by simp
    have g6 : (((n : Nat) : Int) == ((n : Nat) : Int)) = true := by simp
    refine Sm.out ?_
    repeat (first | refine qS ?_ | refine qB ?_ | refine qT rfl ?_ | refine qF rfl ?_ | ((first | refine qR rfl ?_ | refine qK ?_ | refine qE ?_ | refine qW ?_ | refine qM ?_); try simp -dsimp (maxSteps := 2000000) (disch := first | omega | (simp only [qZ] <;> omega) | fail) only [push_cast, ↓qP, ↓reduceIte, Nat.reduceEqDiff, Nat.reduceAdd, Nat.reduceMul, Nat.reduceSub, Nat.reduceLeDiff, Int.reduceToNat, reduceCtorEq, trip, g1, g2, g3, g4]) | (refine qA ?_ ?_; (first | omega | (simp only [qL]; omega) | (simp only [qD] at *; omega))))
    refine CallV.of isCall_28 (mfind_any (t := t) hm k4 (by omega) (by omega) (a : Int) (by omega)) ?_
    rintro _ W5 ⟨rfl, k5⟩
    rw [h4]
    refine Sm.out ?_
    repeat (first | refine qS ?_ | refine qB ?_ | refine qT rfl ?_ | refine qF rfl ?_ | ((first | refine qR rfl ?_ | refine qK ?_ | refine qE ?_ | refine qW ?_ | refine qM ?_); try simp -dsimp (maxSteps := 2000000) (disch := first | omega | (simp only [qZ] <;> omega) | fail) only [push_cast, ↓qP, ↓reduceIte, Nat.reduceEqDiff, Nat.reduceAdd, Nat.reduceMul, Nat.reduceSub, Nat.reduceLeDiff, Int.reduceToNat, reduceCtorEq, trip, g5, g6]) | (refine qA ?_ ?_; (first | omega | (simp only [qL]; omega) | (simp only [qD] at *; omega))))
    exact Ret.mk ⟨rfl, ((k2.trans k3).trans k4).trans k5⟩
end Go.Proofs.Ytddichibegppjaa
