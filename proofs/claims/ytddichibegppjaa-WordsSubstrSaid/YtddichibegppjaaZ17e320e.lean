/- awake, fit. -/
import Derived.Test.YtddichibegppjaaZb891866
import Derived.Test.YtddichibegppjaaVs
set_option linter.unusedSimpArgs false
set_option linter.unusedVariables false
set_option maxRecDepth 100000
set_option maxHeartbeats 8000000
attribute [local irreducible] Go.VC.OpV Go.VC.CallV Go.VC.Wp Go.VC.post
namespace Go.Proofs.Ytddichibegppjaa
open Go Go.VC

theorem len4 {e : Re} (hg : Good e) (hsz : size3 e ≤ 2000) (hwt : wt e ≤ 2001) : (new4 e).1.length ≤ 100000000 := by
  have h := (new_builds [] e hg).len
  have hns := nst_le 2500 (by omega) e hg hsz (by omega)
  have h2 : 2500 * size3 e ≤ 2500 * 2000 := Int.mul_le_mul_of_nonneg_left hsz (by omega)
  have h3 : (new4 e).1.length = 1 + nst e := h
  omega

theorem awake_any (w : World) : Calls Try.prog 15 #[] w fun e' w' => e' = .returned (.bool true) ∧ Kp (fun _ => False) w w' := by
  have hz : (parse3 [98, 42]).2 = 0 := by kernel_rfl
  have hsub : sub3 (parse3 [98, 42]).1 [45] [97, 98, 99] true 100 = some ([45, 97, 45, 99, 45], 3) := by kernel_rfl
  obtain ⟨hg, hsz, hwt⟩ := parse3_ok _ hz
  refine enter (n := 30) (args := []) Try.func15 rfl rfl rfl (by simp) ?_
  refine Wp.seq ?_
  repeat (first | refine qS ?_ | refine qB ?_ | refine qT rfl ?_ | refine qF rfl ?_ | ((first | refine qR rfl ?_ | refine qK ?_ | refine qE ?_ | refine qW ?_ | refine qM ?_); try simp -dsimp (maxSteps := 2000000) (disch := first | omega | (simp only [qZ] <;> omega) | fail) only [push_cast, ↓qP, ↓reduceIte, Nat.reduceEqDiff, Nat.reduceAdd, Nat.reduceMul, Nat.reduceSub, Nat.reduceLeDiff, Int.reduceToNat, reduceCtorEq]) | (refine qA ?_ ?_; (first | omega | (simp only [qL]; omega) | (simp only [qD] at *; omega))))
  refine CallV.of isCall_20 (parse3_any w [98, 42] (by simp)) ?_
  rintro _ W ⟨cs, rfl, hre, k1⟩
  rw [hz]
  generalize (parse3 [98, 42]).1 = e at *
  obtain ⟨o', se, A, m, c', lo, hi', rfl⟩ := hre.form
  refine Sm.out ?_
  repeat (first | ((fail_if_success (first | refine qY (n := 2) ?_ | refine qV (n := 2) ?_)); refine qS ?_) | refine qB ?_ | refine qT rfl ?_ | refine qF rfl ?_ | ((first | refine qR rfl ?_ | refine qK ?_ | refine qE ?_ | refine qW ?_ | refine qM ?_); try simp -dsimp (maxSteps := 2000000) (disch := first | omega | (simp only [qZ] <;> omega) | fail) only [push_cast, ↓qP, ↓reduceIte, Nat.reduceEqDiff, Nat.reduceAdd, Nat.reduceMul, Nat.reduceSub, Nat.reduceLeDiff, Int.reduceToNat, reduceCtorEq]) | (refine qA ?_ ?_; (first | omega | (simp only [qL]; omega) | (simp only [qD] at *; omega))))
  refine Wp.gen (w := (W.alloc (.cells zRe.toArray 33)).setCells W.heap.size 0 [.string (B o'), .string (B se), .slice A m c', .int .i64 lo, .int .i64 hi']) (A := fun W2 => Kp (fun _ => False) W W2 ∧ Blk W2 W.heap.size 33 [.string (B o'), .string (B se), .slice A m c', .int .i64 lo, .int .i64 hi']) ?_ ?_
  · exact ⟨Kp.setCells ((Kp.refl _ W).alloc _) (fun h => absurd h (Nat.lt_irrefl _)) [.string (B o'), .string (B se), .slice A m c', .int .i64 lo, .int .i64 hi'] 0, Blk.setAll (cs := zRe) (vs := [.string (B o'), .string (B se), .slice A m c', .int .i64 lo, .int .i64 hi']) (Blk.new W 33 zRe) rfl⟩
  rintro W2 ⟨k2, hb⟩
  have hlt := hb.lt
  refine Wp.seq ?_
  refine Wp.region rfl ?_
  simp -dsimp (maxSteps := 2000000) (disch := first | omega | (simp only [qZ] <;> omega) | fail) only [push_cast, ↓qP, ↓reduceIte, Nat.reduceEqDiff, Nat.reduceAdd, Nat.reduceMul, Nat.reduceSub, Nat.reduceLeDiff, Int.reduceToNat, reduceCtorEq, hb.rdc]
  have hre2 := hre.Kp (D' := fun b => w.heap.size ≤ b ∧ b < W.heap.size) k2 (fun _ _ => id) (fun _ h => h)
  refine CallV.of isCall_22 (new4_any W2 e hg hsz (by simp at hwt; omega) _ _ hre2) ?_
  rintro _ W3 ⟨v, rfl, hm, k3⟩
  refine Sm.out ?_
  repeat (first | refine qS ?_ | refine qB ?_ | refine qT rfl ?_ | refine qF rfl ?_ | ((first | refine qR rfl ?_ | refine qK ?_ | refine qE ?_ | refine qW ?_ | refine qM ?_); try simp -dsimp (maxSteps := 2000000) (disch := first | omega | (simp only [qZ] <;> omega) | fail) only [push_cast, ↓qP, ↓reduceIte, Nat.reduceEqDiff, Nat.reduceAdd, Nat.reduceMul, Nat.reduceSub, Nat.reduceLeDiff, Int.reduceToNat, reduceCtorEq]) | (refine qA ?_ ?_; (first | omega | (simp only [qL]; omega) | (simp only [qD] at *; omega))))
  refine CallV.of isCall_21 (sub_any (w0 := W3) (repl := [45]) (s := [97, 98, 99]) hm (fun b h => h.2) (Kp.refl _ W3) hg (len4 hg hsz (by simp at hwt; omega)) (by simp) (by simp) true 100) ?_
  rintro _ W4 ⟨rfl, k4⟩
  rw [hsub]
  have z3 : ((3 : Int) == 3) = true := rfl
  have zs : ((3 : Nat) : Int) = 3 := rfl
  refine Sm.out ?_
  repeat (first | refine qS ?_ | refine qB ?_ | refine qT rfl ?_ | refine qF rfl ?_ | ((first | refine qR rfl ?_ | refine qK ?_ | refine qE ?_ | refine qW ?_ | refine qM ?_); try simp -dsimp (maxSteps := 2000000) (disch := first | omega | (simp only [qZ] <;> omega) | fail) only [push_cast, ↓qP, ↓reduceIte, Nat.reduceEqDiff, Nat.reduceAdd, Nat.reduceMul, Nat.reduceSub, Nat.reduceLeDiff, Int.reduceToNat, reduceCtorEq, subV, zs, z3]) | (refine qA ?_ ?_; (first | omega | (simp only [qL]; omega) | (simp only [qD] at *; omega))))
  refine CallV.of isCall_17 (substr_hello _) ?_
  rintro _ _ ⟨rfl, rfl⟩
  refine Sm.out ?_
  repeat (first | refine qS ?_ | refine qB ?_ | refine qT rfl ?_ | refine qF rfl ?_ | ((first | refine qR rfl ?_ | refine qK ?_ | refine qE ?_ | refine qW ?_ | refine qM ?_); try simp -dsimp (maxSteps := 2000000) (disch := first | omega | (simp only [qZ] <;> omega) | fail) only [push_cast, ↓qP, ↓reduceIte, Nat.reduceEqDiff, Nat.reduceAdd, Nat.reduceMul, Nat.reduceSub, Nat.reduceLeDiff, Int.reduceToNat, reduceCtorEq]) | (refine qA ?_ ?_; (first | omega | (simp only [qL]; omega) | (simp only [qD] at *; omega))))
  exact Ret.mk ⟨rfl, k1.trans (k2.trans (k3.trans k4))⟩

abbrev job (l r s : List UInt8) (all : Bool) (most : Int) : List Value := [.string (B l), .string (B r), .string (B s), .bool all, .int .i64 most]

theorem fit_any (w : World) (l r s : List UInt8) (all : Bool) (most : Int) : Calls Try.prog 19 #[.agg (job l r s all most).toArray] w fun e' w' =>
    ∃ b, e' = .returned (.bool b) ∧ Kp (fun _ => False) w w' ∧ (b = true → l.length ≤ 100 ∧ r.length ≤ 60 ∧ s.length ≤ 60 ∧ (parse3 l).2 = 0) := by
  refine enter (n := 29) (args := [.agg #[.string (B l), .string (B r), .string (B s), .bool all, .int .i64 most]]) Try.func19 rfl rfl rfl (by simp) ?_
  have hb := Blk.new w 30 [.string (B l), .string (B r), .string (B s), .bool all, .int .i64 most]
  have hlt := hb.lt
  have k0 : Kp (fun _ => False) w (w.alloc (.cells [.string (B l), .string (B r), .string (B s), .bool all, .int .i64 most].toArray 30)) := (Kp.refl _ w).alloc _
  rcases Bool.eq_false_or_eq_true (decide ((l.length : Int) > 100)) with c1 | c1
  · repeat (first | refine qS ?_ | refine qB ?_ | refine qT rfl ?_ | refine qF rfl ?_ | ((first | refine qR rfl ?_ | refine qK ?_ | refine qE ?_ | refine qW ?_ | refine qM ?_); try simp -dsimp (maxSteps := 2000000) (disch := first | omega | (simp only [qZ] <;> omega) | fail) only [push_cast, ↓qP, ↓reduceIte, Nat.reduceEqDiff, Nat.reduceAdd, Nat.reduceMul, Nat.reduceSub, Nat.reduceLeDiff, Int.reduceToNat, reduceCtorEq, hb.rdc, c1]) | (refine qA ?_ ?_; (first | omega | (simp only [qL]; omega) | (simp only [qD] at *; omega))))
    exact Ret.mk ⟨false, rfl, k0, fun h => by cases h⟩
  rcases Bool.eq_false_or_eq_true (decide ((r.length : Int) > 60)) with c2 | c2
  · repeat (first | refine qS ?_ | refine qB ?_ | refine qT rfl ?_ | refine qF rfl ?_ | ((first | refine qR rfl ?_ | refine qK ?_ | refine qE ?_ | refine qW ?_ | refine qM ?_); try simp -dsimp (maxSteps := 2000000) (disch := first | omega | (simp only [qZ] <;> omega) | fail) only [push_cast, ↓qP, ↓reduceIte, Nat.reduceEqDiff, Nat.reduceAdd, Nat.reduceMul, Nat.reduceSub, Nat.reduceLeDiff, Int.reduceToNat, reduceCtorEq, hb.rdc, c1, c2]) | (refine qA ?_ ?_; (first | omega | (simp only [qL]; omega) | (simp only [qD] at *; omega))))
    exact Ret.mk ⟨false, rfl, k0, fun h => by cases h⟩
  rcases Bool.eq_false_or_eq_true (decide ((s.length : Int) > 60)) with c3 | c3
  · repeat (first | refine qS ?_ | refine qB ?_ | refine qT rfl ?_ | refine qF rfl ?_ | ((first | refine qR rfl ?_ | refine qK ?_ | refine qE ?_ | refine qW ?_ | refine qM ?_); try simp -dsimp (maxSteps := 2000000) (disch := first | omega | (simp only [qZ] <;> omega) | fail) only [push_cast, ↓qP, ↓reduceIte, Nat.reduceEqDiff, Nat.reduceAdd, Nat.reduceMul, Nat.reduceSub, Nat.reduceLeDiff, Int.reduceToNat, reduceCtorEq, hb.rdc, c1, c2, c3]) | (refine qA ?_ ?_; (first | omega | (simp only [qL]; omega) | (simp only [qD] at *; omega))))
    exact Ret.mk ⟨false, rfl, k0, fun h => by cases h⟩
  have h1 : l.length ≤ 100 := by simp at c1; omega
  have h2 : r.length ≤ 60 := by simp at c2; omega
  have h3 : s.length ≤ 60 := by simp at c3; omega
  repeat (first | refine qS ?_ | refine qB ?_ | refine qT rfl ?_ | refine qF rfl ?_ | ((first | refine qR rfl ?_ | refine qK ?_ | refine qE ?_ | refine qW ?_ | refine qM ?_); try simp -dsimp (maxSteps := 2000000) (disch := first | omega | (simp only [qZ] <;> omega) | fail) only [push_cast, ↓qP, ↓reduceIte, Nat.reduceEqDiff, Nat.reduceAdd, Nat.reduceMul, Nat.reduceSub, Nat.reduceLeDiff, Int.reduceToNat, reduceCtorEq, hb.rdc, c1, c2, c3]) | (refine qA ?_ ?_; (first | omega | (simp only [qL]; omega) | (simp only [qD] at *; omega))))
  refine CallV.of isCall_20 (parse3_any _ l (by omega)) ?_
  rintro _ W ⟨cs, rfl, hre, k1⟩
  obtain ⟨o', se, A, m, c', lo, hi', rfl⟩ := hre.form
  refine Sm.out ?_
  repeat (first | ((fail_if_success (first | refine qY (n := 4) ?_ | refine qV (n := 4) ?_)); refine qS ?_) | refine qB ?_ | refine qT rfl ?_ | refine qF rfl ?_ | ((first | refine qR rfl ?_ | refine qK ?_ | refine qE ?_ | refine qW ?_ | refine qM ?_); try simp -dsimp (maxSteps := 2000000) (disch := first | omega | (simp only [qZ] <;> omega) | fail) only [push_cast, ↓qP, ↓reduceIte, Nat.reduceEqDiff, Nat.reduceAdd, Nat.reduceMul, Nat.reduceSub, Nat.reduceLeDiff, Int.reduceToNat, reduceCtorEq]) | (refine qA ?_ ?_; (first | omega | (simp only [qL]; omega) | (simp only [qD] at *; omega))))
  refine Wp.gen (w := (W.alloc (.cells zRe.toArray 33)).setCells W.heap.size 0 [.string (B o'), .string (B se), .slice A m c', .int .i64 lo, .int .i64 hi']) (A := fun W2 => Kp (fun _ => False) W W2) ?_ ?_
  · exact Kp.setCells ((Kp.refl _ W).alloc _) (fun h => absurd h (Nat.lt_irrefl _)) [.string (B o'), .string (B se), .slice A m c', .int .i64 lo, .int .i64 hi'] 0
  rintro W2 k2
  rcases Bool.eq_false_or_eq_true ((parse3 l).2 == 0) with c4 | c4
  · repeat (first | refine qS ?_ | refine qB ?_ | refine qT rfl ?_ | refine qF rfl ?_ | ((first | refine qR rfl ?_ | refine qK ?_ | refine qE ?_ | refine qW ?_ | refine qM ?_); try simp -dsimp (maxSteps := 2000000) (disch := first | omega | (simp only [qZ] <;> omega) | fail) only [push_cast, ↓qP, ↓reduceIte, Nat.reduceEqDiff, Nat.reduceAdd, Nat.reduceMul, Nat.reduceSub, Nat.reduceLeDiff, Int.reduceToNat, reduceCtorEq, c4]) | (refine qA ?_ ?_; (first | omega | (simp only [qL]; omega) | (simp only [qD] at *; omega))))
    exact Ret.mk ⟨true, rfl, k0.trans (k1.trans k2), fun _ => ⟨h1, h2, h3, by simpa using c4⟩⟩
  · repeat (first | refine qS ?_ | refine qB ?_ | refine qT rfl ?_ | refine qF rfl ?_ | ((first | refine qR rfl ?_ | refine qK ?_ | refine qE ?_ | refine qW ?_ | refine qM ?_); try simp -dsimp (maxSteps := 2000000) (disch := first | omega | (simp only [qZ] <;> omega) | fail) only [push_cast, ↓qP, ↓reduceIte, Nat.reduceEqDiff, Nat.reduceAdd, Nat.reduceMul, Nat.reduceSub, Nat.reduceLeDiff, Int.reduceToNat, reduceCtorEq, c4]) | (refine qA ?_ ?_; (first | omega | (simp only [qL]; omega) | (simp only [qD] at *; omega))))
    exact Ret.mk ⟨false, rfl, k0.trans (k1.trans k2), fun h => by cases h⟩
end Go.Proofs.Ytddichibegppjaa
