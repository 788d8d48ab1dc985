/- Substr at the fixed words of the tables. -/
import Derived.Test.YtddichibegppjaaW0
import Derived.Test.YtddichibegppjaaVq
import Derived.Test.YtddichibegppjaaVs
set_option linter.unusedSimpArgs false
set_option linter.unusedVariables false
set_option maxRecDepth 100000
set_option maxHeartbeats 8000000
attribute [local irreducible] Go.VC.OpV Go.VC.CallV Go.VC.Wp Go.VC.post
namespace Go.Proofs.Ytddichibegppjaa
open Go Go.VC

abbrev fl (b : Nat) : Value := .float .f64 b
theorem inf_any (w : World) : Calls Try.prog 47 #[.int .i64 1] w fun e w' => e = .returned (fl 9218868437227405312) ∧ w = w' := by
  refine enter (n := 8) (args := [.int .i64 1]) Try.func47 rfl rfl rfl (by simp) ?_
  refine Wp.seq (Wp.regionO rfl ?_)
  refine exO_run (fl 0) rfl (by kernel_rfl) ?_
  refine exO_nil ?_
  refine Wp.seq (Wp.regionO rfl ?_)
  refine exO_run (.int .u64 0) rfl (by kernel_rfl) ?_
  refine exO_nil ?_
  refine Wp.seq (Wp.seq (Wp.regionO rfl ?_))
  refine exO_run (.int .i64 1) rfl (by kernel_rfl) ?_
  refine exO_run (.bool true) rfl (by kernel_rfl) ?_
  refine exO_nil ?_
  refine Wp.condT rfl (Wp.regionO rfl ?_)
  refine exO_run (.int .u64 9218868437227405312) rfl (by kernel_rfl) ?_
  refine exO_nil ?_
  refine Wp.seq (Wp.regionO rfl ?_)
  refine exO_run (.int .u64 9218868437227405312) rfl (by kernel_rfl) ?_
  refine exO_run (fl 9218868437227405312) rfl (by kernel_rfl) ?_
  refine exO_run (fl 9218868437227405312) rfl (by kernel_rfl) ?_
  refine exO_nil ?_
  refine Wp.ret ?_
  simp -dsimp (maxSteps := 2000000) (disch := first | omega | (simp only [qZ] <;> omega) | fail) only [push_cast, ↓qP, ↓reduceIte, Nat.reduceEqDiff, Nat.reduceAdd, Nat.reduceMul, Nat.reduceSub, Nat.reduceLeDiff, Int.reduceToNat, reduceCtorEq]
  exact Ret.mk ⟨rfl, rfl⟩

theorem nan_any (b : Nat) (w : World) (h : b = 4611686018427387904 ∨ b = 4617315517961601024) : Calls Try.prog 48 #[fl b] w fun e w' => e = .returned (.bool false) ∧ w = w' := by
  rcases h with rfl | rfl
  · refine enter (n := 6) (args := [fl 4611686018427387904]) Try.func48 rfl rfl rfl (by simp) ?_
    refine Wp.seq (Wp.regionO rfl ?_)
    refine exO_run (.bool false) rfl (by kernel_rfl) ?_
    refine exO_nil ?_
    refine Wp.seq (Wp.regionO rfl ?_)
    refine exO_run (fl 4611686018427387904) rfl (by kernel_rfl) ?_
    refine exO_run (fl 4611686018427387904) rfl (by kernel_rfl) ?_
    refine exO_run (.bool false) rfl (by kernel_rfl) ?_
    refine exO_run (.bool false) rfl (by kernel_rfl) ?_
    refine exO_nil ?_
    refine Wp.ret ?_
    simp -dsimp (maxSteps := 2000000) (disch := first | omega | (simp only [qZ] <;> omega) | fail) only [push_cast, ↓qP, ↓reduceIte, Nat.reduceEqDiff, Nat.reduceAdd, Nat.reduceMul, Nat.reduceSub, Nat.reduceLeDiff, Int.reduceToNat, reduceCtorEq]
    exact Ret.mk ⟨rfl, rfl⟩
  · refine enter (n := 6) (args := [fl 4617315517961601024]) Try.func48 rfl rfl rfl (by simp) ?_
    refine Wp.seq (Wp.regionO rfl ?_)
    refine exO_run (.bool false) rfl (by kernel_rfl) ?_
    refine exO_nil ?_
    refine Wp.seq (Wp.regionO rfl ?_)
    refine exO_run (fl 4617315517961601024) rfl (by kernel_rfl) ?_
    refine exO_run (fl 4617315517961601024) rfl (by kernel_rfl) ?_
    refine exO_run (.bool false) rfl (by kernel_rfl) ?_
    refine exO_run (.bool false) rfl (by kernel_rfl) ?_
    refine exO_nil ?_
    refine Wp.ret ?_
    simp -dsimp (maxSteps := 2000000) (disch := first | omega | (simp only [qZ] <;> omega) | fail) only [push_cast, ↓qP, ↓reduceIte, Nat.reduceEqDiff, Nat.reduceAdd, Nat.reduceMul, Nat.reduceSub, Nat.reduceLeDiff, Int.reduceToNat, reduceCtorEq]
    exact Ret.mk ⟨rfl, rfl⟩

theorem substr_hello (w : World) : Calls Try.prog 17 #[.string (B [104, 101, 108, 108, 111]), fl 4611686018427387904, fl 4613937818241073152, .bool true] w fun e w' => e = .returned (.string (B [101, 108, 108])) ∧ w = w' := by
  refine enter (n := 48) (args := [.string (B [104, 101, 108, 108, 111]), fl 4611686018427387904, fl 4613937818241073152, .bool true]) Try.func17 rfl rfl rfl (by simp) ?_
  refine Wp.seq (Wp.regionO rfl ?_)
  refine exO_run (.string (B [])) rfl (by kernel_rfl) ?_
  refine exO_nil ?_
  refine Wp.seq (Wp.regionO rfl ?_)
  refine exO_run (fl 4611686018427387904) rfl (by kernel_rfl) ?_
  refine exO_run (fl 4611686018427387904) rfl (by kernel_rfl) ?_
  refine exO_run (fl 4611686018427387904) rfl (by kernel_rfl) ?_
  refine exO_nil ?_
  refine Wp.seq (Wp.regionO rfl ?_)
  refine exO_op rfl ?_
  show CallV Try.prog 47 [.int .i64 1] w _ _ _
  refine CallV.of isCall_47 (inf_any _) ?_
  rintro _ _ ⟨rfl, rfl⟩
  rw [Beh_ret]
  refine exO_run (fl 9218868437227405312) rfl (by kernel_rfl) ?_
  refine exO_nil ?_
  refine Wp.seq (Wp.seq (Wp.regionO rfl ?_))
  refine exO_run (.bool true) rfl (by kernel_rfl) ?_
  refine exO_nil ?_
  refine Wp.condT rfl (Wp.regionO rfl ?_)
  refine exO_run (fl 4611686018427387904) rfl (by kernel_rfl) ?_
  refine exO_run (fl 4613937818241073152) rfl (by kernel_rfl) ?_
  refine exO_run (fl 4613937818241073152) rfl (by kernel_rfl) ?_
  refine exO_run (fl 4617315517961601024) rfl (by kernel_rfl) ?_
  refine exO_run (fl 4617315517961601024) rfl (by kernel_rfl) ?_
  refine exO_nil ?_
  refine Wp.seq (Wp.seq (Wp.regionO rfl ?_))
  refine exO_run (fl 4611686018427387904) rfl (by kernel_rfl) ?_
  refine exO_op rfl ?_
  show CallV Try.prog 48 [fl 4611686018427387904] w _ _ _
  refine CallV.of isCall_48 (nan_any _ _ (.inl rfl)) ?_
  rintro _ _ ⟨rfl, rfl⟩
  rw [Beh_ret]
  refine exO_run (.bool false) rfl (by kernel_rfl) ?_
  refine exO_runG (fl 4617315517961601024) rfl (by kernel_rfl) (by kernel_rfl) ?_
  refine exO_opG rfl (by kernel_rfl) ?_
  show CallV Try.prog 48 [fl 4617315517961601024] w _ _ _
  refine CallV.of isCall_48 (nan_any _ _ (.inr rfl)) ?_
  rintro _ _ ⟨rfl, rfl⟩
  rw [Beh_ret]
  refine exO_run (.bool false) rfl (by kernel_rfl) ?_
  refine exO_nil ?_
  refine Wp.condF rfl (Wp.skip ?_)
  refine Wp.seq (Wp.regionO rfl ?_)
  refine exO_run (.string (B [104, 101, 108, 108, 111])) rfl (by kernel_rfl) ?_
  refine exO_run (.int .i64 5) rfl (by kernel_rfl) ?_
  refine exO_run (fl 4617315517961601024) rfl (by kernel_rfl) ?_
  refine exO_run (fl 4618441417868443648) rfl (by kernel_rfl) ?_
  refine exO_run (fl 4607182418800017408) rfl (by kernel_rfl) ?_
  refine exO_run (fl 4618441417868443648) rfl (by kernel_rfl) ?_
  refine exO_nil ?_
  refine Wp.seq (Wp.regionO rfl ?_)
  refine exO_run (fl 4607182418800017408) rfl (by kernel_rfl) ?_
  refine exO_run (fl 4611686018427387904) rfl (by kernel_rfl) ?_
  refine exO_run (fl 4611686018427387904) rfl (by kernel_rfl) ?_
  refine exO_run (fl 4618441417868443648) rfl (by kernel_rfl) ?_
  refine exO_run (fl 4617315517961601024) rfl (by kernel_rfl) ?_
  refine exO_run (fl 4617315517961601024) rfl (by kernel_rfl) ?_
  refine exO_run (fl 4611686018427387904) rfl (by kernel_rfl) ?_
  refine exO_run (fl 4617315517961601024) rfl (by kernel_rfl) ?_
  refine exO_nil ?_
  refine Wp.seq (Wp.seq (Wp.regionO rfl ?_))
  refine exO_run (fl 4611686018427387904) rfl (by kernel_rfl) ?_
  refine exO_run (fl 4617315517961601024) rfl (by kernel_rfl) ?_
  refine exO_run (.bool false) rfl (by kernel_rfl) ?_
  refine exO_nil ?_
  refine Wp.condF rfl (Wp.skip ?_)
  refine Wp.seq (Wp.regionO rfl ?_)
  refine exO_run (.string (B [104, 101, 108, 108, 111])) rfl (by kernel_rfl) ?_
  refine exO_run (fl 4611686018427387904) rfl (by kernel_rfl) ?_
  refine exO_run (.int .i64 2) rfl (by kernel_rfl) ?_
  refine exO_run (.int .i64 1) rfl (by kernel_rfl) ?_
  refine exO_run (fl 4617315517961601024) rfl (by kernel_rfl) ?_
  refine exO_run (.int .i64 5) rfl (by kernel_rfl) ?_
  refine exO_run (.int .i64 4) rfl (by kernel_rfl) ?_
  refine exO_run (.string (B [101, 108, 108])) rfl (by kernel_rfl) ?_
  refine exO_run (.string (B [101, 108, 108])) rfl (by kernel_rfl) ?_
  refine exO_nil ?_
  refine Wp.ret ?_
  simp -dsimp (maxSteps := 2000000) (disch := first | omega | (simp only [qZ] <;> omega) | fail) only [push_cast, ↓qP, ↓reduceIte, Nat.reduceEqDiff, Nat.reduceAdd, Nat.reduceMul, Nat.reduceSub, Nat.reduceLeDiff, Int.reduceToNat, reduceCtorEq]
  exact Ret.mk ⟨rfl, rfl⟩
end Go.Proofs.Ytddichibegppjaa
