/- WordsStay, walked. -/
import Derived.Test.YtddichibegppjaaZ97667f1
import Derived.Test.YtddichibegppjaaVs
set_option linter.unusedSimpArgs false
set_option linter.unusedVariables false
set_option maxRecDepth 100000
set_option maxHeartbeats 8000000
attribute [local irreducible] Go.VC.OpV Go.VC.CallV Go.VC.Wp Go.VC.post
namespace Go.Proofs.Ytddichibegppjaa
open Go Go.VC

theorem wordsStay_any (w : World) (l r s : List UInt8) (all : Bool) (most : Int) : Calls Try.prog 5 #[.agg (job l r s all most).toArray] w fun e' w' => e' = .returned (.bool true) ∧ Kp (fun _ => False) w w' := by
  obtain ⟨j, hj⟩ : ∃ j, j = w.heap.size := ⟨_, rfl⟩
  refine enter (n := 124) (args := [.agg #[.string (B l), .string (B r), .string (B s), .bool all, .int .i64 most]]) Try.func5 rfl rfl rfl (by simp) ?_
  have hb0 := Blk.new w 30 (job l r s all most)
  have k0 : Kp (fun _ => False) w (w.alloc (.cells (job l r s all most).toArray 30)) := (Kp.refl _ w).alloc _
  refine Sm.out ?_
  repeat (first | ((fail_if_success (first | refine qY (n := 1) ?_ | refine qV (n := 1) ?_)); refine qS ?_) | refine qB ?_ | refine qT rfl ?_ | refine qF rfl ?_ | ((first | refine qR rfl ?_ | refine qK ?_ | refine qE ?_ | refine qW ?_ | refine qM ?_); try simp -dsimp (maxSteps := 2000000) (disch := first | omega | (simp only [qZ] <;> omega) | fail) only [push_cast, ↓qP, ↓reduceIte, Nat.reduceEqDiff, Nat.reduceAdd, Nat.reduceMul, Nat.reduceSub, Nat.reduceLeDiff, Int.reduceToNat, reduceCtorEq]) | (refine qA ?_ ?_; (first | omega | (simp only [qL]; omega) | (simp only [qD] at *; omega))))
  refine Wp.gen (w := w.alloc (.cells (job l r s all most).toArray 30)) (A := fun W => Kp (fun _ => False) w W ∧ Blk W j 30 (job l r s all most)) ⟨k0, by rw [hj]; exact hb0⟩ ?_
  rw [← hj]
  clear hb0 k0
  rintro W ⟨k0, hb⟩
  have hlt := hb.lt
  repeat (first | refine qS ?_ | refine qB ?_ | refine qT rfl ?_ | refine qF rfl ?_ | ((first | refine qR rfl ?_ | refine qK ?_ | refine qE ?_ | refine qW ?_ | refine qM ?_); try simp -dsimp (maxSteps := 2000000) (disch := first | omega | (simp only [qZ] <;> omega) | fail) only [push_cast, ↓qP, ↓reduceIte, Nat.reduceEqDiff, Nat.reduceAdd, Nat.reduceMul, Nat.reduceSub, Nat.reduceLeDiff, Int.reduceToNat, reduceCtorEq]) | (refine qA ?_ ?_; (first | omega | (simp only [qL]; omega) | (simp only [qD] at *; omega))))
  refine CallV.of isCall_15 (awake_any _) ?_
  rintro _ W1 ⟨rfl, k1'⟩
  have k1 := k0.trans k1'
  have hb1 := k1'.Blk hb id
  clear k0 hb k1' hlt
  have hlt := hb1.lt
  refine Sm.out ?_
  repeat (first | refine qS ?_ | refine qB ?_ | refine qT rfl ?_ | refine qF rfl ?_ | ((first | refine qR rfl ?_ | refine qK ?_ | refine qE ?_ | refine qW ?_ | refine qM ?_); try simp -dsimp (maxSteps := 2000000) (disch := first | omega | (simp only [qZ] <;> omega) | fail) only [push_cast, ↓qP, ↓reduceIte, Nat.reduceEqDiff, Nat.reduceAdd, Nat.reduceMul, Nat.reduceSub, Nat.reduceLeDiff, Int.reduceToNat, reduceCtorEq, hb1.rdc]) | (refine qA ?_ ?_; (first | omega | (simp only [qL]; omega) | (simp only [qD] at *; omega))))
  refine CallV.of isCall_19 (fit_any W1 l r s all most) ?_
  rintro _ W2 ⟨b, rfl, k2', hfit⟩
  have k2 := k1.trans k2'
  have hb2 := k2'.Blk hb1 id
  clear k1 hb1 k2' hlt
  have hlt := hb2.lt
  cases b with
  | false =>
    clear hfit
    refine Sm.out ?_
    repeat (first | refine qS ?_ | refine qB ?_ | refine qT rfl ?_ | refine qF rfl ?_ | ((first | refine qR rfl ?_ | refine qK ?_ | refine qE ?_ | refine qW ?_ | refine qM ?_); try simp -dsimp (maxSteps := 2000000) (disch := first | omega | (simp only [qZ] <;> omega) | fail) only [push_cast, ↓qP, ↓reduceIte, Nat.reduceEqDiff, Nat.reduceAdd, Nat.reduceMul, Nat.reduceSub, Nat.reduceLeDiff, Int.reduceToNat, reduceCtorEq]) | (refine qA ?_ ?_; (first | omega | (simp only [qL]; omega) | (simp only [qD] at *; omega))))
    exact Ret.mk ⟨rfl, k2⟩
  | true =>
  obtain ⟨hl, hr, hs, hz⟩ := hfit rfl
  clear hfit
  obtain ⟨hg, hsz, hwt⟩ := parse3_ok _ hz
  refine Sm.out ?_
  repeat (first | refine qS ?_ | refine qB ?_ | refine qT rfl ?_ | refine qF rfl ?_ | ((first | refine qR rfl ?_ | refine qK ?_ | refine qE ?_ | refine qW ?_ | refine qM ?_); try simp -dsimp (maxSteps := 2000000) (disch := first | omega | (simp only [qZ] <;> omega) | fail) only [push_cast, ↓qP, ↓reduceIte, Nat.reduceEqDiff, Nat.reduceAdd, Nat.reduceMul, Nat.reduceSub, Nat.reduceLeDiff, Int.reduceToNat, reduceCtorEq, hb2.rdc]) | (refine qA ?_ ?_; (first | omega | (simp only [qL]; omega) | (simp only [qD] at *; omega))))
  refine CallV.of isCall_20 (parse3_any W2 l (by omega)) ?_
  rintro _ W3 ⟨cs, rfl, hre, k3'⟩
  rw [hz]
  have k3 := k2.trans k3'
  have hb3 := k3'.Blk hb2 id
  clear k2 hb2 k3' hlt
  generalize (parse3 l).1 = e at *
  obtain ⟨o', se, A, m, c', lo, hi', rfl⟩ := hre.form
  obtain ⟨q, hq⟩ : ∃ q, q = W3.heap.size := ⟨_, rfl⟩
  refine Sm.out ?_
  repeat (first | ((fail_if_success (first | refine qY (n := 6) ?_ | refine qV (n := 6) ?_)); refine qS ?_) | refine qB ?_ | refine qT rfl ?_ | refine qF rfl ?_ | ((first | refine qR rfl ?_ | refine qK ?_ | refine qE ?_ | refine qW ?_ | refine qM ?_); try simp -dsimp (maxSteps := 2000000) (disch := first | omega | (simp only [qZ] <;> omega) | fail) only [push_cast, ↓qP, ↓reduceIte, Nat.reduceEqDiff, Nat.reduceAdd, Nat.reduceMul, Nat.reduceSub, Nat.reduceLeDiff, Int.reduceToNat, reduceCtorEq]) | (refine qA ?_ ?_; (first | omega | (simp only [qL]; omega) | (simp only [qD] at *; omega))))
  rw [← hq]
  refine Wp.gen (w := (W3.alloc (.cells zRe.toArray 33)).setCells q 0 [.string (B o'), .string (B se), .slice A m c', .int .i64 lo, .int .i64 hi']) (A := fun W4 => Kp (fun _ => False) W3 W4 ∧ Blk W4 q 33 [.string (B o'), .string (B se), .slice A m c', .int .i64 lo, .int .i64 hi']) ?_ ?_
  · rw [hq]
    exact ⟨Kp.setCells ((Kp.refl _ W3).alloc _) (fun h => absurd h (Nat.lt_irrefl _)) [.string (B o'), .string (B se), .slice A m c', .int .i64 lo, .int .i64 hi'] 0, Blk.setAll (cs := zRe) (vs := [.string (B o'), .string (B se), .slice A m c', .int .i64 lo, .int .i64 hi']) (Blk.new W3 33 zRe) rfl⟩
  rintro W4 ⟨k4', hq4⟩
  have k4 := k3.trans k4'
  have hb4 := k4'.Blk hb3 id
  have hre4 := hre.Kp (D' := fun b => b < W3.heap.size) k4' (fun _ _ => id) (fun _ h => h.2)
  clear k3 hb3 k4' hre hq
  have hltb := hb4.lt
  have hltq := hq4.lt
  repeat (first | refine qS ?_ | refine qB ?_ | refine qT rfl ?_ | refine qF rfl ?_ | ((first | refine qR rfl ?_ | refine qK ?_ | refine qE ?_ | refine qW ?_ | refine qM ?_); try simp -dsimp (maxSteps := 2000000) (disch := first | omega | (simp only [qZ] <;> omega) | fail) only [push_cast, ↓qP, ↓reduceIte, Nat.reduceEqDiff, Nat.reduceAdd, Nat.reduceMul, Nat.reduceSub, Nat.reduceLeDiff, Int.reduceToNat, reduceCtorEq, hb4.rdc, hq4.rdc]) | (refine qA ?_ ?_; (first | omega | (simp only [qL]; omega) | (simp only [qD] at *; omega))))
  refine CallV.of isCall_22 (new4_any W4 e hg hsz (by omega) _ _ hre4) ?_
  rintro _ W5 ⟨v, rfl, hm, k5'⟩
  have k5 := k4.trans k5'
  have hb5 := k5'.Blk hb4 id
  clear k5' hb4 hq4 hre4 k4 hltb hltq
  have hltb := hb5.lt
  refine Sm.out ?_
  repeat (first | refine qS ?_ | refine qB ?_ | refine qT rfl ?_ | refine qF rfl ?_ | ((first | refine qR rfl ?_ | refine qK ?_ | refine qE ?_ | refine qW ?_ | refine qM ?_); try simp -dsimp (maxSteps := 2000000) (disch := first | omega | (simp only [qZ] <;> omega) | fail) only [push_cast, ↓qP, ↓reduceIte, Nat.reduceEqDiff, Nat.reduceAdd, Nat.reduceMul, Nat.reduceSub, Nat.reduceLeDiff, Int.reduceToNat, reduceCtorEq, hb5.rdc]) | (refine qA ?_ ?_; (first | omega | (simp only [qL]; omega) | (simp only [qD] at *; omega))))
  obtain ⟨c, t, u, one, q1, q2, q3, q4, q5, q6⟩ := stay_law (e := e) hr hs
  refine CallV.of isCall_21 (sub_any (w0 := W5) (repl := [38]) (s := s) hm (fun b h => h.2) (Kp.refl _ W5) hg (len4 hg hsz (by omega)) (by omega) (by first | omega | decide) true 1000) ?_
  rintro _ W6 ⟨rfl, k6'⟩
  rw [q1]
  have k6 := k5.trans k6'
  have hb6 := k6'.Blk hb5 id
  clear hb5 k5
  have hltb := hb6.lt
  refine Sm.out ?_
  repeat (first | refine qS ?_ | refine qB ?_ | refine qT rfl ?_ | refine qF rfl ?_ | ((first | refine qR rfl ?_ | refine qK ?_ | refine qE ?_ | refine qW ?_ | refine qM ?_); try simp -dsimp (maxSteps := 2000000) (disch := first | omega | (simp only [qZ] <;> omega) | fail) only [push_cast, ↓qP, ↓reduceIte, Nat.reduceEqDiff, Nat.reduceAdd, Nat.reduceMul, Nat.reduceSub, Nat.reduceLeDiff, Int.reduceToNat, reduceCtorEq, subV, hb6.rdc]) | (refine qA ?_ ?_; (first | omega | (simp only [qL]; omega) | (simp only [qD] at *; omega))))
  refine CallV.of isCall_21 (sub_any (w0 := W5) (repl := []) (s := s) hm (fun b h => h.2) k6' hg (len4 hg hsz (by omega)) (by omega) (by first | omega | decide) true 1000) ?_
  rintro _ W7 ⟨rfl, k7'⟩
  rw [q2]
  have k7 := k6.trans k7'
  have hb7 := k7'.Blk hb6 id
  clear hb6 k6
  have hltb := hb7.lt
  refine Sm.out ?_
  repeat (first | refine qS ?_ | refine qB ?_ | refine qT rfl ?_ | refine qF rfl ?_ | ((first | refine qR rfl ?_ | refine qK ?_ | refine qE ?_ | refine qW ?_ | refine qM ?_); try simp -dsimp (maxSteps := 2000000) (disch := first | omega | (simp only [qZ] <;> omega) | fail) only [push_cast, ↓qP, ↓reduceIte, Nat.reduceEqDiff, Nat.reduceAdd, Nat.reduceMul, Nat.reduceSub, Nat.reduceLeDiff, Int.reduceToNat, reduceCtorEq, subV, hb7.rdc]) | (refine qA ?_ ?_; (first | omega | (simp only [qL]; omega) | (simp only [qD] at *; omega))))
  have k57 := k6'.trans k7'
  refine CallV.of isCall_21 (sub_any (w0 := W5) (repl := r) (s := s) hm (fun b h => h.2) k57 hg (len4 hg hsz (by omega)) (by omega) (by first | omega | decide) false 100000) ?_
  rintro _ W8 ⟨rfl, k8'⟩
  rw [q4]
  have k8 := k7.trans k8'
  have hb8 := k8'.Blk hb7 id
  clear hb7 k7
  have hltb := hb8.lt
  have k58 := k57.trans k8'
  have g1 : decide ((t.length : Int) > (s.length : Int)) = false := decide_eq_false (by omega)
  have g2 : (((c : Nat) : Int) != ((c : Nat) : Int)) = false := by simp
  have g3 : decide (((one : Nat) : Int) > 1) = false := decide_eq_false (by omega)
  have g4 : (!(s == s)) = false := by simp
  have hmat := match_any (s := s) (w0 := W5) hm (fun b h => h.2) k58 hg (len4 hg hsz (by omega)) (by omega)
  rcases q6 with ⟨z1, z2, z3, z4⟩ | ⟨i, n, z1, z2, z3⟩
  · have g5 : (((one : Nat) : Int) == 0) = true := by simp [z3]
    have g6 : (((c : Nat) : Int) == 0) = true := by simp [z2]
    have g7 : decide (((one : Nat) : Int) > 0) = false := decide_eq_false (by omega)
    have g8 : (u == s) = true := by simp [z4]
    have g9 : decide ((-1 : Int) < 0) = true := rfl
    refine Sm.out ?_
    repeat (first | refine qS ?_ | refine qB ?_ | refine qT rfl ?_ | refine qF rfl ?_ | ((first | refine qR rfl ?_ | refine qK ?_ | refine qE ?_ | refine qW ?_ | refine qM ?_); try simp -dsimp (maxSteps := 2000000) (disch := first | omega | (simp only [qZ] <;> omega) | fail) only [push_cast, ↓qP, ↓reduceIte, Nat.reduceEqDiff, Nat.reduceAdd, Nat.reduceMul, Nat.reduceSub, Nat.reduceLeDiff, Int.reduceToNat, reduceCtorEq, subV, hb8.rdc, g1, g2, g3, g4, g5, g6]) | (refine qA ?_ ?_; (first | omega | (simp only [qL]; omega) | (simp only [qD] at *; omega))))
    refine CallV.of isCall_24 hmat ?_
    rintro _ W9 ⟨rfl, k9⟩
    rw [z1]
    have hb9 := k9.Blk hb8 id
    have hltb := hb9.lt
    refine Sm.out ?_
    repeat (first | refine qS ?_ | refine qB ?_ | refine qT rfl ?_ | refine qF rfl ?_ | ((first | refine qR rfl ?_ | refine qK ?_ | refine qE ?_ | refine qW ?_ | refine qM ?_); try simp -dsimp (maxSteps := 2000000) (disch := first | omega | (simp only [qZ] <;> omega) | fail) only [push_cast, ↓qP, ↓reduceIte, Nat.reduceEqDiff, Nat.reduceAdd, Nat.reduceMul, Nat.reduceSub, Nat.reduceLeDiff, Int.reduceToNat, reduceCtorEq, matV, hb9.rdc, g5, g6, g7, g8, g9]) | (refine qA ?_ ?_; (first | omega | (simp only [qL]; omega) | (simp only [qD] at *; omega))))
    exact Ret.mk ⟨rfl, k8.trans k9⟩
  · have g5 : (((one : Nat) : Int) == 0) = false := by simp [z3]
    have g6 : (((c : Nat) : Int) == 0) = false := by simp; omega
    have g7 : decide (((one : Nat) : Int) > 0) = true := decide_eq_true (by omega)
    have g8 : (((i : Nat) : Int) + 1 == 0) = false := by simp; omega
    have g9 : decide (((n : Nat) : Int) < 0) = false := decide_eq_false (by omega)
    refine Sm.out ?_
    repeat (first | refine qS ?_ | refine qB ?_ | refine qT rfl ?_ | refine qF rfl ?_ | ((first | refine qR rfl ?_ | refine qK ?_ | refine qE ?_ | refine qW ?_ | refine qM ?_); try simp -dsimp (maxSteps := 2000000) (disch := first | omega | (simp only [qZ] <;> omega) | fail) only [push_cast, ↓qP, ↓reduceIte, Nat.reduceEqDiff, Nat.reduceAdd, Nat.reduceMul, Nat.reduceSub, Nat.reduceLeDiff, Int.reduceToNat, reduceCtorEq, subV, hb8.rdc, g1, g2, g3, g4, g5, g6]) | (refine qA ?_ ?_; (first | omega | (simp only [qL]; omega) | (simp only [qD] at *; omega))))
    refine CallV.of isCall_24 hmat ?_
    rintro _ W9 ⟨rfl, k9⟩
    rw [z1]
    have hb9 := k9.Blk hb8 id
    have hltb := hb9.lt
    refine Sm.out ?_
    repeat (first | refine qS ?_ | refine qB ?_ | refine qT rfl ?_ | refine qF rfl ?_ | ((first | refine qR rfl ?_ | refine qK ?_ | refine qE ?_ | refine qW ?_ | refine qM ?_); try simp -dsimp (maxSteps := 2000000) (disch := first | omega | (simp only [qZ] <;> omega) | fail) only [push_cast, ↓qP, ↓reduceIte, Nat.reduceEqDiff, Nat.reduceAdd, Nat.reduceMul, Nat.reduceSub, Nat.reduceLeDiff, Int.reduceToNat, reduceCtorEq, matV, hb9.rdc, g5, g6, g7, g8, g9]) | (refine qA ?_ ?_; (first | omega | (simp only [qL]; omega) | (simp only [qD] at *; omega))))
    exact Ret.mk ⟨rfl, k8.trans k9⟩
end Go.Proofs.Ytddichibegppjaa
