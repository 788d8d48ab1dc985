/- The tables' first steps: awake, fit, Match. -/
import Derived.Test.YtddichibegppjaaZ80d1fa0
import Derived.Test.YtddichibegppjaaZd74d653
import Derived.Test.YtddichibegppjaaZ42c0749
import Derived.Test.YtddichibegppjaaVs
set_option linter.unusedSimpArgs false
set_option linter.unusedVariables false
set_option maxRecDepth 100000
set_option maxHeartbeats 8000000
attribute [local irreducible] Go.VC.OpV Go.VC.CallV Go.VC.Wp Go.VC.post
namespace Go.Proofs.Ytddichibegppjaa
open Go Go.VC

def matV (r : Option (Nat × Nat)) : Value := match r with | some (i, n) => .tuple #[.int .i64 ((i : Int) + 1), .int .i64 (n : Int)] | none => .tuple #[.int .i64 0, .int .i64 (-1)]

section
variable {w0 w : World} {D : Nat → Prop} {s : List UInt8} {e : Re} {v : Value} {cs : List Value}

theorem match_any (hm : IsMach w0 D (new4 e).1 (new4 e).2 v) (hD : ∀ b, D b → b < w0.heap.size) (hk0 : Kp (fun _ => False) w0 w) (hg : Good e) (hN : (new4 e).1.length ≤ 100000000) (hs : s.length ≤ 1000) :
    Calls Try.prog 24 #[v, .string (B s)] w fun e' w' => e' = .returned (matV (findI e s 0)) ∧ Kp (fun _ => False) w w' := by
  obtain ⟨mp, rfl⟩ : ∃ mp, v = .pointer (some ⟨mp, 0, none⟩) := by obtain ⟨b, _, _, _, h1, _⟩ := hm; exact ⟨b, h1⟩
  refine enter (n := 21) (args := [.pointer (some ⟨mp, 0, none⟩), .string (B s)]) Try.func24 rfl rfl rfl (by simp) ?_
  repeat (first | refine qS ?_ | refine qB ?_ | refine qT rfl ?_ | refine qF rfl ?_ | ((first | refine qR rfl ?_ | refine qK ?_ | refine qE ?_ | refine qW ?_ | refine qM ?_); try simp -dsimp (maxSteps := 2000000) (disch := first | omega | (simp only [qZ] <;> omega) | fail) only [push_cast, ↓qP, ↓reduceIte, Nat.reduceEqDiff, Nat.reduceAdd, Nat.reduceMul, Nat.reduceSub, Nat.reduceLeDiff, Int.reduceToNat, reduceCtorEq]) | (refine qA ?_ ?_; (first | omega | (simp only [qL]; omega) | (simp only [qD] at *; omega))))
  refine CallV.of isCall_28 (find4_any (l := s) hm hD hk0 hg hN (by omega) 0 (by omega)) ?_
  rintro _ W2 ⟨rfl, hk2⟩
  obtain ⟨fr, hfr⟩ : ∃ fr, findI e s 0 = fr := ⟨_, rfl⟩
  rw [hfr]
  cases fr with
  | none =>
    refine Sm.out ?_
    repeat (first | refine qS ?_ | refine qB ?_ | refine qT rfl ?_ | refine qF rfl ?_ | ((first | refine qR rfl ?_ | refine qK ?_ | refine qE ?_ | refine qW ?_ | refine qM ?_); try simp -dsimp (maxSteps := 2000000) (disch := first | omega | (simp only [qZ] <;> omega) | fail) only [push_cast, ↓qP, ↓reduceIte, Nat.reduceEqDiff, Nat.reduceAdd, Nat.reduceMul, Nat.reduceSub, Nat.reduceLeDiff, Int.reduceToNat, reduceCtorEq, trip]) | (refine qA ?_ ?_; (first | omega | (simp only [qL]; omega) | (simp only [qD] at *; omega))))
    exact Ret.mk ⟨rfl, hk2⟩
  | some q =>
    obtain ⟨i, n⟩ := q
    have hin := (findI_in (p := 0) hfr).2
    refine Sm.out ?_
    repeat (first | refine qS ?_ | refine qB ?_ | refine qT rfl ?_ | refine qF rfl ?_ | ((first | refine qR rfl ?_ | refine qK ?_ | refine qE ?_ | refine qW ?_ | refine qM ?_); try simp -dsimp (maxSteps := 2000000) (disch := first | omega | (simp only [qZ] <;> omega) | fail) only [push_cast, ↓qP, ↓reduceIte, Nat.reduceEqDiff, Nat.reduceAdd, Nat.reduceMul, Nat.reduceSub, Nat.reduceLeDiff, Int.reduceToNat, reduceCtorEq, trip]) | (refine qA ?_ ?_; (first | omega | (simp only [qL]; omega) | (simp only [qD] at *; omega))))
    exact Ret.mk ⟨rfl, hk2⟩

theorem match3_any (hg : Good e) (hwt : wt e ≤ 1000000000) (h : IsRe w D e cs) (hs : s.length ≤ 1000) :
    Calls Try.prog 25 #[.agg cs.toArray, .string (B s)] w fun e' w' => e' = .returned (matV (findI e s 0)) ∧ Kp (fun _ => False) w w' := by
  obtain ⟨o', se, A, m, c', lo, hi', rfl⟩ := h.form
  refine enter (n := 21) (args := [.agg #[.string (B o'), .string (B se), .slice A m c', .int .i64 lo, .int .i64 hi'], .string (B s)]) Try.func25 rfl rfl rfl (by simp) ?_
  have hb := Blk.new w 33 [.string (B o'), .string (B se), .slice A m c', .int .i64 lo, .int .i64 hi']
  have hlt := hb.lt
  repeat (first | refine qS ?_ | refine qB ?_ | refine qT rfl ?_ | refine qF rfl ?_ | ((first | refine qR rfl ?_ | refine qK ?_ | refine qE ?_ | refine qW ?_ | refine qM ?_); try simp -dsimp (maxSteps := 2000000) (disch := first | omega | (simp only [qZ] <;> omega) | fail) only [push_cast, ↓qP, ↓reduceIte, Nat.reduceEqDiff, Nat.reduceAdd, Nat.reduceMul, Nat.reduceSub, Nat.reduceLeDiff, Int.reduceToNat, reduceCtorEq, hb.rdc]) | (refine qA ?_ ?_; (first | omega | (simp only [qL]; omega) | (simp only [qD] at *; omega))))
  refine CallV.of isCall_29 (find3_any (l := s) (by omega) hg hwt (h.Kp (D' := D) ((Kp.refl _ w).alloc _) (fun _ _ => id) (fun _ h => h)) 0 (by omega)) ?_
  rintro _ W2 ⟨rfl, hk2⟩
  obtain ⟨fr, hfr⟩ : ∃ fr, findI e s 0 = fr := ⟨_, rfl⟩
  rw [hfr]
  have hk3 := ((Kp.refl _ w).alloc _).trans hk2
  cases fr with
  | none =>
    refine Sm.out ?_
    repeat (first | refine qS ?_ | refine qB ?_ | refine qT rfl ?_ | refine qF rfl ?_ | ((first | refine qR rfl ?_ | refine qK ?_ | refine qE ?_ | refine qW ?_ | refine qM ?_); try simp -dsimp (maxSteps := 2000000) (disch := first | omega | (simp only [qZ] <;> omega) | fail) only [push_cast, ↓qP, ↓reduceIte, Nat.reduceEqDiff, Nat.reduceAdd, Nat.reduceMul, Nat.reduceSub, Nat.reduceLeDiff, Int.reduceToNat, reduceCtorEq, trip]) | (refine qA ?_ ?_; (first | omega | (simp only [qL]; omega) | (simp only [qD] at *; omega))))
    exact Ret.mk ⟨rfl, hk3⟩
  | some q =>
    obtain ⟨i, n⟩ := q
    have hin := (findI_in (p := 0) hfr).2
    refine Sm.out ?_
    repeat (first | refine qS ?_ | refine qB ?_ | refine qT rfl ?_ | refine qF rfl ?_ | ((first | refine qR rfl ?_ | refine qK ?_ | refine qE ?_ | refine qW ?_ | refine qM ?_); try simp -dsimp (maxSteps := 2000000) (disch := first | omega | (simp only [qZ] <;> omega) | fail) only [push_cast, ↓qP, ↓reduceIte, Nat.reduceEqDiff, Nat.reduceAdd, Nat.reduceMul, Nat.reduceSub, Nat.reduceLeDiff, Int.reduceToNat, reduceCtorEq, trip]) | (refine qA ?_ ?_; (first | omega | (simp only [qL]; omega) | (simp only [qD] at *; omega))))
    exact Ret.mk ⟨rfl, hk3⟩
end
end Go.Proofs.Ytddichibegppjaa
