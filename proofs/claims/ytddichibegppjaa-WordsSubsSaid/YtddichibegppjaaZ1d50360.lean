/- WordsSubs, walked. -/
import Derived.Test.YtddichibegppjaaZ17e320e
import Derived.Test.YtddichibegppjaaVs
set_option linter.unusedSimpArgs false
set_option linter.unusedVariables false
set_option maxRecDepth 100000
set_option maxHeartbeats 8000000
attribute [local irreducible] Go.VC.OpV Go.VC.CallV Go.VC.Wp Go.VC.post
namespace Go.Proofs.Ytddichibegppjaa
open Go Go.VC

theorem wordsSubs_any (w : World) (l r s : List UInt8) (all : Bool) (most : Int) : Calls Try.prog 4 #[.agg (job l r s all most).toArray] w fun e' w' => e' = .returned (.bool true) ∧ Kp (fun _ => False) w w' := by
  obtain ⟨j, hj⟩ : ∃ j, j = w.heap.size := ⟨_, rfl⟩
  refine enter (n := 64) (args := [.agg #[.string (B l), .string (B r), .string (B s), .bool all, .int .i64 most]]) Try.func4 rfl rfl rfl (by simp) ?_
  have hb0 := Blk.new w 30 (job l r s all most)
  have k0 : Kp (fun _ => False) w (w.alloc (.cells (job l r s all most).toArray 30)) := (Kp.refl _ w).alloc _
  refine Sm.out ?_
  repeat (first | ((fail_if_success (first | refine qY (n := 1) ?_ | refine qV (n := 1) ?_)); refine qS ?_) | refine qB ?_ | refine qT rfl ?_ | refine qF rfl ?_ | ((first | refine qR rfl ?_ | refine qK ?_ | refine qE ?_ | refine qW ?_ | refine qM ?_); try simp -dsimp (maxSteps := 2000000) (disch := first | omega | (simp only [qZ] <;> omega) | fail) only [push_cast, ↓qP, ↓reduceIte, Nat.reduceEqDiff, Nat.reduceAdd, Nat.reduceMul, Nat.reduceSub, Nat.reduceLeDiff, Int.reduceToNat, reduceCtorEq]) | (refine qA ?_ ?_; (first | omega | (simp only [qL]; omega) | (simp only [qD] at *; omega))))
  refine Wp.gen (w := w.alloc (.cells (job l r s all most).toArray 30)) (A := fun W => Kp (fun _ => False) w W ∧ Blk W j 30 (job l r s all most)) ⟨k0, by rw [hj]; exact hb0⟩ ?_
  rw [← hj]
  clear hb0 k0
  rintro W ⟨k0, hb⟩
  have hlt := hb.lt
  repeat (first | refine qS ?_ | refine qB ?_ | refine qT rfl ?_ | refine qF rfl ?_ | ((first | refine qR rfl ?_ | refine qK ?_ | refine qE ?_ | refine qW ?_ | refine qM ?_); try simp -dsimp (maxSteps := 2000000) (disch := first | omega | (simp only [qZ] <;> omega) | fail) only [push_cast, ↓qP, ↓reduceIte, Nat.reduceEqDiff, Nat.reduceAdd, Nat.reduceMul, Nat.reduceSub, Nat.reduceLeDiff, Int.reduceToNat, reduceCtorEq]) | (refine qA ?_ ?_; (first | omega | (simp only [qL]; omega) | (simp only [qD] at *; omega))))
  refine CallV.of isCall_15 (awake_any _) ?_
  rintro _ W1 ⟨rfl, k1'⟩
  have k1 := k0.trans k1'
  have hb1 := k1'.Blk hb id
  clear k0 hb k1' hlt
  have hlt := hb1.lt
  refine Sm.out ?_
  repeat (first | refine qS ?_ | refine qB ?_ | refine qT rfl ?_ | refine qF rfl ?_ | ((first | refine qR rfl ?_ | refine qK ?_ | refine qE ?_ | refine qW ?_ | refine qM ?_); try simp -dsimp (maxSteps := 2000000) (disch := first | omega | (simp only [qZ] <;> omega) | fail) only [push_cast, ↓qP, ↓reduceIte, Nat.reduceEqDiff, Nat.reduceAdd, Nat.reduceMul, Nat.reduceSub, Nat.reduceLeDiff, Int.reduceToNat, reduceCtorEq, hb1.rdc]) | (refine qA ?_ ?_; (first | omega | (simp only [qL]; omega) | (simp only [qD] at *; omega))))
  refine CallV.of isCall_19 (fit_any W1 l r s all most) ?_
  rintro _ W2 ⟨b, rfl, k2', hfit⟩
  have k2 := k1.trans k2'
  have hb2 := k2'.Blk hb1 id
  clear k1 hb1 k2' hlt
  have hlt := hb2.lt
  cases b with
  | false =>
    clear hfit
    refine Sm.out ?_
    repeat (first | refine qS ?_ | refine qB ?_ | refine qT rfl ?_ | refine qF rfl ?_ | ((first | refine qR rfl ?_ | refine qK ?_ | refine qE ?_ | refine qW ?_ | refine qM ?_); try simp -dsimp (maxSteps := 2000000) (disch := first | omega | (simp only [qZ] <;> omega) | fail) only [push_cast, ↓qP, ↓reduceIte, Nat.reduceEqDiff, Nat.reduceAdd, Nat.reduceMul, Nat.reduceSub, Nat.reduceLeDiff, Int.reduceToNat, reduceCtorEq]) | (refine qA ?_ ?_; (first | omega | (simp only [qL]; omega) | (simp only [qD] at *; omega))))
    exact Ret.mk ⟨rfl, k2⟩
  | true =>
  obtain ⟨hl, hr, hs, hz⟩ := hfit rfl
  clear hfit
  obtain ⟨hg, hsz, hwt⟩ := parse3_ok _ hz
  refine Sm.out ?_
  repeat (first | refine qS ?_ | refine qB ?_ | refine qT rfl ?_ | refine qF rfl ?_ | ((first | refine qR rfl ?_ | refine qK ?_ | refine qE ?_ | refine qW ?_ | refine qM ?_); try simp -dsimp (maxSteps := 2000000) (disch := first | omega | (simp only [qZ] <;> omega) | fail) only [push_cast, ↓qP, ↓reduceIte, Nat.reduceEqDiff, Nat.reduceAdd, Nat.reduceMul, Nat.reduceSub, Nat.reduceLeDiff, Int.reduceToNat, reduceCtorEq, hb2.rdc]) | (refine qA ?_ ?_; (first | omega | (simp only [qL]; omega) | (simp only [qD] at *; omega))))
  refine CallV.of isCall_20 (parse3_any W2 l (by omega)) ?_
  rintro _ W3 ⟨cs, rfl, hre, k3'⟩
  rw [hz]
  have k3 := k2.trans k3'
  have hb3 := k3'.Blk hb2 id
  clear k2 hb2 k3' hlt
  generalize (parse3 l).1 = e at *
  obtain ⟨o', se, A, m, c', lo, hi', rfl⟩ := hre.form
  obtain ⟨q, hq⟩ : ∃ q, q = W3.heap.size := ⟨_, rfl⟩
  refine Sm.out ?_
  repeat (first | ((fail_if_success (first | refine qY (n := 6) ?_ | refine qV (n := 6) ?_)); refine qS ?_) | refine qB ?_ | refine qT rfl ?_ | refine qF rfl ?_ | ((first | refine qR rfl ?_ | refine qK ?_ | refine qE ?_ | refine qW ?_ | refine qM ?_); try simp -dsimp (maxSteps := 2000000) (disch := first | omega | (simp only [qZ] <;> omega) | fail) only [push_cast, ↓qP, ↓reduceIte, Nat.reduceEqDiff, Nat.reduceAdd, Nat.reduceMul, Nat.reduceSub, Nat.reduceLeDiff, Int.reduceToNat, reduceCtorEq]) | (refine qA ?_ ?_; (first | omega | (simp only [qL]; omega) | (simp only [qD] at *; omega))))
  rw [← hq]
  refine Wp.gen (w := (W3.alloc (.cells zRe.toArray 33)).setCells q 0 [.string (B o'), .string (B se), .slice A m c', .int .i64 lo, .int .i64 hi']) (A := fun W4 => Kp (fun _ => False) W3 W4 ∧ Blk W4 q 33 [.string (B o'), .string (B se), .slice A m c', .int .i64 lo, .int .i64 hi']) ?_ ?_
  · rw [hq]
    exact ⟨Kp.setCells ((Kp.refl _ W3).alloc _) (fun h => absurd h (Nat.lt_irrefl _)) [.string (B o'), .string (B se), .slice A m c', .int .i64 lo, .int .i64 hi'] 0, Blk.setAll (cs := zRe) (vs := [.string (B o'), .string (B se), .slice A m c', .int .i64 lo, .int .i64 hi']) (Blk.new W3 33 zRe) rfl⟩
  rintro W4 ⟨k4', hq4⟩
  have k4 := k3.trans k4'
  have hb4 := k4'.Blk hb3 id
  have hre4 := hre.Kp (D' := fun b => b < W3.heap.size) k4' (fun _ _ => id) (fun _ h => h.2)
  clear k3 hb3 k4' hre hq
  have hltb := hb4.lt
  have hltq := hq4.lt
  refine Wp.seq ?_
  refine Wp.draw [0, 1, 0, 4, 0, 16, 0, 64, 0, 256, 1023, 2047, 4095, 4095, 4095, 8191, 49151, 131071] [1, 10] (.op 0 false false [] <| .op 2 false false [] <| .op 3 false true [] <| .op 4 false false [] <| .op 5 false true [] <| .op 6 false false [] <| .op 7 false true [] <| .op 8 false false [] <| .op 9 false true [] <| .op 1 true false [] <| .op 10 true false [3, 5, 7, 9] <| .op 11 false false [] <| .op 12 false false [] <| .op 13 false false [] <| .op 14 false false [] <| .op 15 false false [] <| .op 16 false false [] <| .op 17 false false [] <| .nil) mixed (by kernel_rfl) ?_
  simp -dsimp (maxSteps := 2000000) (disch := first | omega | (simp only [qZ] <;> omega) | fail) only [push_cast, ↓qP, ↓reduceIte, Nat.reduceEqDiff, Nat.reduceAdd, Nat.reduceMul, Nat.reduceSub, Nat.reduceLeDiff, Int.reduceToNat, reduceCtorEq, hb4.rdc, hq4.rdc]
  have k5a : Kp (fun _ => False) W4 W4.drew := (Kp.refl _ W4).drew
  refine CallV.of isCall_22 (new4_any W4.drew e hg hsz (by omega) _ _ (hre4.Kp (D' := fun b => b < W3.heap.size) k5a (fun _ _ => id) (fun _ h => h))) ?_
  rintro _ W5 ⟨v, rfl, hm, k5b⟩
  have k5' := k5a.trans k5b
  have k5 := k4.trans k5'
  have hb5 := k5'.Blk hb4 id
  have hq5 := k5'.Blk hq4 id
  have hre5 := hre4.Kp (D' := fun b => b < W3.heap.size) k5' (fun _ _ => id) (fun _ h => h)
  clear k5a k5b k5' hb4 hq4 hre4 k4 hltb hltq
  have hltb := hb5.lt
  have hltq := hq5.lt
  refine Sm.out ?_
  repeat (first | refine qS ?_ | refine qB ?_ | refine qT rfl ?_ | refine qF rfl ?_ | ((first | refine qR rfl ?_ | refine qK ?_ | refine qE ?_ | refine qW ?_ | refine qM ?_); try simp -dsimp (maxSteps := 2000000) (disch := first | omega | (simp only [qZ] <;> omega) | fail) only [push_cast, ↓qP, ↓reduceIte, Nat.reduceEqDiff, Nat.reduceAdd, Nat.reduceMul, Nat.reduceSub, Nat.reduceLeDiff, Int.reduceToNat, reduceCtorEq, hb5.rdc, hq5.rdc]) | (refine qA ?_ ?_; (first | omega | (simp only [qL]; omega) | (simp only [qD] at *; omega))))
  refine CallV.of isCall_21 (sub_any (w0 := W5) (repl := r) (s := s) hm (fun b h => h.2) (Kp.refl _ W5) hg (len4 hg hsz (by omega)) (by omega) (by omega) all most) ?_
  rintro _ W6 ⟨rfl, k6'⟩
  have k6 := k5.trans k6'
  have hb6 := k6'.Blk hb5 id
  have hq6 := k6'.Blk hq5 id
  have hre6 := hre5.Kp (D' := fun b => b < W3.heap.size) k6' (fun _ _ => id) (fun _ h => h)
  clear k6' hb5 hq5 hre5 hm k5 hltb hltq
  have hltb := hb6.lt
  have hltq := hq6.lt
  obtain ⟨fr, hfr⟩ : ∃ fr, sub3 e r s all most = fr := ⟨_, rfl⟩
  rw [hfr]
  cases fr with
  | none =>
    refine Sm.out ?_
    repeat (first | refine qS ?_ | refine qB ?_ | refine qT rfl ?_ | refine qF rfl ?_ | ((first | refine qR rfl ?_ | refine qK ?_ | refine qE ?_ | refine qW ?_ | refine qM ?_); try simp -dsimp (maxSteps := 2000000) (disch := first | omega | (simp only [qZ] <;> omega) | fail) only [push_cast, ↓qP, ↓reduceIte, Nat.reduceEqDiff, Nat.reduceAdd, Nat.reduceMul, Nat.reduceSub, Nat.reduceLeDiff, Int.reduceToNat, reduceCtorEq, subV, hb6.rdc, hq6.rdc]) | (refine qA ?_ ?_; (first | omega | (simp only [qL]; omega) | (simp only [qD] at *; omega))))
    refine CallV.of isCall_23 (sub3_any (s := s) (repl := r) hg (by omega) hre6 (by omega) (by omega) all most) ?_
    rintro _ W7 ⟨rfl, k7⟩
    rw [hfr]
    refine Sm.out ?_
    repeat (first | refine qS ?_ | refine qB ?_ | refine qT rfl ?_ | refine qF rfl ?_ | ((first | refine qR rfl ?_ | refine qK ?_ | refine qE ?_ | refine qW ?_ | refine qM ?_); try simp -dsimp (maxSteps := 2000000) (disch := first | omega | (simp only [qZ] <;> omega) | fail) only [push_cast, ↓qP, ↓reduceIte, Nat.reduceEqDiff, Nat.reduceAdd, Nat.reduceMul, Nat.reduceSub, Nat.reduceLeDiff, Int.reduceToNat, reduceCtorEq, subV]) | (refine qA ?_ ?_; (first | omega | (simp only [qL]; omega) | (simp only [qD] at *; omega))))
    exact Ret.mk ⟨rfl, k6.trans k7⟩
  | some x =>
    obtain ⟨o, n⟩ := x
    refine Sm.out ?_
    repeat (first | refine qS ?_ | refine qB ?_ | refine qT rfl ?_ | refine qF rfl ?_ | ((first | refine qR rfl ?_ | refine qK ?_ | refine qE ?_ | refine qW ?_ | refine qM ?_); try simp -dsimp (maxSteps := 2000000) (disch := first | omega | (simp only [qZ] <;> omega) | fail) only [push_cast, ↓qP, ↓reduceIte, Nat.reduceEqDiff, Nat.reduceAdd, Nat.reduceMul, Nat.reduceSub, Nat.reduceLeDiff, Int.reduceToNat, reduceCtorEq, subV, hb6.rdc, hq6.rdc]) | (refine qA ?_ ?_; (first | omega | (simp only [qL]; omega) | (simp only [qD] at *; omega))))
    refine CallV.of isCall_23 (sub3_any (s := s) (repl := r) hg (by omega) hre6 (by omega) (by omega) all most) ?_
    rintro _ W7 ⟨rfl, k7⟩
    rw [hfr]
    refine Sm.out ?_
    repeat (first | refine qS ?_ | refine qB ?_ | refine qT rfl ?_ | refine qF rfl ?_ | ((first | refine qR rfl ?_ | refine qK ?_ | refine qE ?_ | refine qW ?_ | refine qM ?_); try simp -dsimp (maxSteps := 2000000) (disch := first | omega | (simp only [qZ] <;> omega) | fail) only [push_cast, ↓qP, ↓reduceIte, Nat.reduceEqDiff, Nat.reduceAdd, Nat.reduceMul, Nat.reduceSub, Nat.reduceLeDiff, Int.reduceToNat, reduceCtorEq, subV]) | (refine qA ?_ ?_; (first | omega | (simp only [qL]; omega) | (simp only [qD] at *; omega))))
    exact Ret.mk ⟨rfl, k6.trans k7⟩
end Go.Proofs.Ytddichibegppjaa
