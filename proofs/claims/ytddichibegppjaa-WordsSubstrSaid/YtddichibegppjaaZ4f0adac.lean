/- words.Substr, the reference's Substr: at any floats. -/
import Derived.Test.YtddichibegppjaaZ80d1fa0
import Derived.Test.YtddichibegppjaaVt
import Derived.Test.YtddichibegppjaaY2
import Derived.Test.YtddichibegppjaaVs
set_option linter.unusedSimpArgs false
set_option linter.unusedVariables false
set_option maxRecDepth 100000
set_option maxHeartbeats 8000000
attribute [local irreducible] Go.VC.OpV Go.VC.CallV Go.VC.Wp Go.VC.post
namespace Go.Proofs.Ytddichibegppjaa
open Go Go.VC Go.Fl

theorem rnd_call (x : Nat) (w : World) : ∃ r w', (callFunc 46 #[.float .f64 x]).run Try.prog w = .ok (.value (.float .f64 r)) w' ∧ Kp (fun _ => False) w w' ∧ (isN x = true → isN r = true) ∧ (isN x = false → r = rnd x) := by
  have he := fun a => run_callFunc_extern (e := Extern.MathFloor.toIntegral "math.RoundToEven" .even) Try.func46 (by kernel_rfl) (by kernel_rfl) (by kernel_rfl) (by kernel_rfl) a w
  cases h : isN x with
  | true =>
    obtain ⟨r, w', h1, h2, h3⟩ := run_rnd_nan (P := Try.prog) w "math.RoundToEven" x h
    refine ⟨r, w', by rw [he, h1]; rfl, ?_, fun _ => h2, (by intro e; cases e)⟩
    rcases h3 with rfl | rfl
    · exact Kp.refl _ _
    · exact (Kp.refl _ _).drew
  | false => exact ⟨rnd x, w, by rw [he, run_rnd w _ x h]; rfl, Kp.refl _ _, (by intro e; cases e), fun _ => rfl⟩
theorem isnan_any (x : Nat) (w : World) : Calls Try.prog 48 #[.float .f64 x] w fun e w' => e = .returned (.bool (isN x)) ∧ w = w' := by
  refine enter (n := 6) (args := [.float .f64 x]) Try.func48 rfl rfl rfl (by simp) ?_
  repeat (first | refine qS ?_ | refine qB ?_ | refine qT rfl ?_ | refine qF rfl ?_ | ((first | refine qR rfl ?_ | refine qK ?_ | refine qE ?_ | refine qW ?_ | refine qM ?_); try simp -dsimp (maxSteps := 2000000) (disch := first | omega | (simp only [qZ] <;> omega) | fail) only [push_cast, ↓qP, ↓reduceIte, Nat.reduceEqDiff, Nat.reduceAdd, Nat.reduceMul, Nat.reduceSub, Nat.reduceLeDiff, Int.reduceToNat, reduceCtorEq]) | (refine qA ?_ ?_; (first | omega | (simp only [qL]; omega) | (simp only [qD] at *; omega))))
  refine OpV.bin rfl rfl rfl rfl (run_neq_self _ _ x) ?_
  refine Sm.out ?_
  repeat (first | refine qS ?_ | refine qB ?_ | refine qT rfl ?_ | refine qF rfl ?_ | ((first | refine qR rfl ?_ | refine qK ?_ | refine qE ?_ | refine qW ?_ | refine qM ?_); try simp -dsimp (maxSteps := 2000000) (disch := first | omega | (simp only [qZ] <;> omega) | fail) only [push_cast, ↓qP, ↓reduceIte, Nat.reduceEqDiff, Nat.reduceAdd, Nat.reduceMul, Nat.reduceSub, Nat.reduceLeDiff, Int.reduceToNat, reduceCtorEq]) | (refine qA ?_ ?_; (first | omega | (simp only [qL]; omega) | (simp only [qD] at *; omega))))
  exact Ret.mk ⟨rfl, rfl⟩

/-- What the program's end is. -/
def EndOf (m n : Nat) (has : Bool) (r2 : Nat) : Prop :=
  isN m = false → (has = false ∧ r2 = 9218868437227405312) ∨ (has = true ∧ (((isN n = true ∨ Ieee.double.add (rnd m) (rnd n) = none) ∧ isN r2 = true) ∨ (isN n = false ∧ Ieee.double.add (rnd m) (rnd n) = some r2)))
theorem EndOf.sum {m n r1 r n' : Nat} (h1 : isN m = false → r1 = rnd m) (h2 : isN n = true → isN n' = true) (h2' : isN n = false → n' = rnd n) (h3 : ∀ z, Ieee.double.add r1 n' = some z → r = z) (h4 : Ieee.double.add r1 n' = none → isN r = true) : EndOf m n true r := by
  intro hm
  refine .inr ⟨rfl, ?_⟩
  cases hn : isN n with
  | true => exact .inl ⟨.inl rfl, h4 (add_nan (.inr (h2 hn)))⟩
  | false =>
    rw [h1 hm, h2' hn] at h3 h4
    cases ha : Ieee.double.add (rnd m) (rnd n) with
    | none => exact .inl ⟨.inr rfl, h4 ha⟩
    | some z => exact .inr ⟨rfl, by rw [h3 z ha]⟩

theorem substr_any {s : List UInt8} {m n : Nat} {has : Bool} {out : List UInt8} (hs : s.length ≤ 500) (hS : SubOf s m n has out) (w : World) :
    Calls Try.prog 17 #[.string (B s), .float .f64 m, .float .f64 n, .bool has] w fun e w' => e = .returned (.string (B out)) ∧ Kp (fun _ => False) w w' := by
  refine enter (n := 48) (args := [.string (B s), .float .f64 m, .float .f64 n, .bool has]) Try.func17 rfl rfl rfl (by simp) ?_
  repeat (first | refine qS ?_ | refine qB ?_ | refine qT rfl ?_ | refine qF rfl ?_ | ((first | refine qR rfl ?_ | refine qK ?_ | refine qE ?_ | refine qW ?_ | refine qM ?_); try simp -dsimp (maxSteps := 2000000) (disch := first | omega | (simp only [qZ] <;> omega) | fail) only [push_cast, ↓qP, ↓reduceIte, Nat.reduceEqDiff, Nat.reduceAdd, Nat.reduceMul, Nat.reduceSub, Nat.reduceLeDiff, Int.reduceToNat, reduceCtorEq]) | (refine qA ?_ ?_; (first | omega | (simp only [qL]; omega) | (simp only [qD] at *; omega))))
  obtain ⟨r1, w1, hr1, k1, a1, a2⟩ := rnd_call m w
  refine CallV.ext hr1 ?_
  refine Sm.out ?_
  repeat (first | refine qS ?_ | refine qB ?_ | refine qT rfl ?_ | refine qF rfl ?_ | ((first | refine qR rfl ?_ | refine qK ?_ | refine qE ?_ | refine qW ?_ | refine qM ?_); try simp -dsimp (maxSteps := 2000000) (disch := first | omega | (simp only [qZ] <;> omega) | fail) only [push_cast, ↓qP, ↓reduceIte, Nat.reduceEqDiff, Nat.reduceAdd, Nat.reduceMul, Nat.reduceSub, Nat.reduceLeDiff, Int.reduceToNat, reduceCtorEq]) | (refine qA ?_ ?_; (first | omega | (simp only [qL]; omega) | (simp only [qD] at *; omega))))
  refine CallV.of isCall_47 (inf_any _) ?_
  rintro _ _ ⟨rfl, rfl⟩
  refine Sm.out ?_
  repeat (first | ((fail_if_success (first | refine qY (n := 3) ?_ | refine qV (n := 3) ?_)); refine qS ?_) | refine qB ?_ | refine qT rfl ?_ | refine qF rfl ?_ | ((first | refine qR rfl ?_ | refine qK ?_ | refine qE ?_ | refine qW ?_ | refine qM ?_); try simp -dsimp (maxSteps := 2000000) (disch := first | omega | (simp only [qZ] <;> omega) | fail) only [push_cast, ↓qP, ↓reduceIte, Nat.reduceEqDiff, Nat.reduceAdd, Nat.reduceMul, Nat.reduceSub, Nat.reduceLeDiff, Int.reduceToNat, reduceCtorEq]) | (refine qA ?_ ?_; (first | omega | (simp only [qL]; omega) | (simp only [qD] at *; omega))))
  refine Wp.cut (fun F W => F 0 = .string (B s) ∧ F 9 = .float .f64 r1 ∧ ∃ r2, F 10 = .float .f64 r2 ∧ EndOf m n has r2 ∧ Kp (fun _ => False) w W) ?_ ?_
  · cases has with
    | false =>
      repeat (first | refine qS ?_ | refine qB ?_ | refine qT rfl ?_ | refine qF rfl ?_ | ((first | refine qR rfl ?_ | refine qK ?_ | refine qE ?_ | refine qW ?_ | refine qM ?_); try simp -dsimp (maxSteps := 2000000) (disch := first | omega | (simp only [qZ] <;> omega) | fail) only [push_cast, ↓qP, ↓reduceIte, Nat.reduceEqDiff, Nat.reduceAdd, Nat.reduceMul, Nat.reduceSub, Nat.reduceLeDiff, Int.reduceToNat, reduceCtorEq]) | (refine qA ?_ ?_; (first | omega | (simp only [qL]; omega) | (simp only [qD] at *; omega))))
      exact Mid.mk ⟨by simp [upd, arg], by simp [upd], _, by simp [upd], fun _ => .inl ⟨rfl, rfl⟩, k1⟩
    | true =>
      repeat (first | refine qS ?_ | refine qB ?_ | refine qT rfl ?_ | refine qF rfl ?_ | ((first | refine qR rfl ?_ | refine qK ?_ | refine qE ?_ | refine qW ?_ | refine qM ?_); try simp -dsimp (maxSteps := 2000000) (disch := first | omega | (simp only [qZ] <;> omega) | fail) only [push_cast, ↓qP, ↓reduceIte, Nat.reduceEqDiff, Nat.reduceAdd, Nat.reduceMul, Nat.reduceSub, Nat.reduceLeDiff, Int.reduceToNat, reduceCtorEq]) | (refine qA ?_ ?_; (first | omega | (simp only [qL]; omega) | (simp only [qD] at *; omega))))
      obtain ⟨r3, w3, hr3, k3, a3, a4⟩ := rnd_call n w1
      refine CallV.ext hr3 ?_
      refine Sm.out ?_
      repeat (first | refine qS ?_ | refine qB ?_ | refine qT rfl ?_ | refine qF rfl ?_ | ((first | refine qR rfl ?_ | refine qK ?_ | refine qE ?_ | refine qW ?_ | refine qM ?_); try simp -dsimp (maxSteps := 2000000) (disch := first | omega | (simp only [qZ] <;> omega) | fail) only [push_cast, ↓qP, ↓reduceIte, Nat.reduceEqDiff, Nat.reduceAdd, Nat.reduceMul, Nat.reduceSub, Nat.reduceLeDiff, Int.reduceToNat, reduceCtorEq]) | (refine qA ?_ ?_; (first | omega | (simp only [qL]; omega) | (simp only [qD] at *; omega))))
      obtain ⟨r2, w2, hr2, hw2, a5, a6⟩ := run_add (P := Try.prog) w3 25 r1 r3
      refine OpV.bin rfl rfl rfl rfl hr2 ?_
      have k2 : Kp (fun _ => False) w3 w2 := by
        rcases hw2 with rfl | rfl
        · exact Kp.refl _ _
        · exact (Kp.refl _ _).drew
      refine Sm.out ?_
      repeat (first | refine qS ?_ | refine qB ?_ | refine qT rfl ?_ | refine qF rfl ?_ | ((first | refine qR rfl ?_ | refine qK ?_ | refine qE ?_ | refine qW ?_ | refine qM ?_); try simp -dsimp (maxSteps := 2000000) (disch := first | omega | (simp only [qZ] <;> omega) | fail) only [push_cast, ↓qP, ↓reduceIte, Nat.reduceEqDiff, Nat.reduceAdd, Nat.reduceMul, Nat.reduceSub, Nat.reduceLeDiff, Int.reduceToNat, reduceCtorEq]) | (refine qA ?_ ?_; (first | omega | (simp only [qL]; omega) | (simp only [qD] at *; omega))))
      exact Mid.mk ⟨by simp [upd, arg], by simp [upd], r2, by simp [upd], EndOf.sum a2 a3 a4 (fun z hz => (a5 z hz).1) a6, (k1.trans k3).trans k2⟩
  rintro F W ⟨f0, f9, r2, f10, hE, k2⟩
  cases hn1 : isN r1 with
  | true =>
    have hm : isN m = true := by
      cases hm : isN m with
      | true => rfl
      | false =>
        obtain ⟨c, hc, hcn⟩ := rnd_Is hm
        rw [a2 hm] at hn1
        exact absurd ((isN_Is hc).1 hn1) hcn
    have ho : out = [] := by
      rcases hS with ⟨_, h⟩ | ⟨h, _⟩ | ⟨h, _⟩
      · exact h
      · rw [hm] at h; cases h
      · rw [hm] at h; cases h
    subst ho
    repeat (first | refine qS ?_ | refine qB ?_ | refine qT rfl ?_ | refine qF rfl ?_ | ((first | refine qR rfl ?_ | refine qK ?_ | refine qE ?_ | refine qW ?_ | refine qM ?_); try simp -dsimp (maxSteps := 2000000) (disch := first | omega | (simp only [qZ] <;> omega) | fail) only [push_cast, ↓qP, ↓reduceIte, Nat.reduceEqDiff, Nat.reduceAdd, Nat.reduceMul, Nat.reduceSub, Nat.reduceLeDiff, Int.reduceToNat, reduceCtorEq, f9, f10]) | (refine qA ?_ ?_; (first | omega | (simp only [qL]; omega) | (simp only [qD] at *; omega))))
    refine CallV.of isCall_48 (isnan_any _ _) ?_
    rintro _ _ ⟨rfl, rfl⟩
    rw [hn1]
    refine Sm.out ?_
    repeat (first | refine qS ?_ | refine qB ?_ | refine qT rfl ?_ | refine qF rfl ?_ | ((first | refine qR rfl ?_ | refine qK ?_ | refine qE ?_ | refine qW ?_ | refine qM ?_); try simp -dsimp (maxSteps := 2000000) (disch := first | omega | (simp only [qZ] <;> omega) | fail) only [push_cast, ↓qP, ↓reduceIte, Nat.reduceEqDiff, Nat.reduceAdd, Nat.reduceMul, Nat.reduceSub, Nat.reduceLeDiff, Int.reduceToNat, reduceCtorEq, f9, f10]) | (refine qA ?_ ?_; (first | omega | (simp only [qL]; omega) | (simp only [qD] at *; omega))))
    exact Ret.mk ⟨rfl, k2⟩
  | false =>
  have hm : isN m = false := by
    cases hm : isN m with
    | false => rfl
    | true => rw [a1 hm] at hn1; cases hn1
  rcases hS with ⟨h, _⟩ | ⟨_, h2, h3, ho⟩ | ⟨_, c, d, hc, hcn, hdn, hd, ho⟩
  · rw [hm] at h; cases h
  · subst ho
    have hn2 : isN r2 = true := by
      rcases hE hm with ⟨h, _⟩ | ⟨_, ⟨_, h⟩ | ⟨h, h'⟩⟩
      · rw [h2] at h; cases h
      · exact h
      · rcases h3 with h3 | h3
        · rw [h] at h3; cases h3
        · rw [h'] at h3; cases h3
    repeat (first | refine qS ?_ | refine qB ?_ | refine qT rfl ?_ | refine qF rfl ?_ | ((first | refine qR rfl ?_ | refine qK ?_ | refine qE ?_ | refine qW ?_ | refine qM ?_); try simp -dsimp (maxSteps := 2000000) (disch := first | omega | (simp only [qZ] <;> omega) | fail) only [push_cast, ↓qP, ↓reduceIte, Nat.reduceEqDiff, Nat.reduceAdd, Nat.reduceMul, Nat.reduceSub, Nat.reduceLeDiff, Int.reduceToNat, reduceCtorEq, f9, f10]) | (refine qA ?_ ?_; (first | omega | (simp only [qL]; omega) | (simp only [qD] at *; omega))))
    refine CallV.of isCall_48 (isnan_any _ _) ?_
    rintro _ _ ⟨rfl, rfl⟩
    rw [hn1]
    refine Sm.out ?_
    repeat (first | refine qS ?_ | refine qB ?_ | refine qT rfl ?_ | refine qF rfl ?_ | ((first | refine qR rfl ?_ | refine qK ?_ | refine qE ?_ | refine qW ?_ | refine qM ?_); try simp -dsimp (maxSteps := 2000000) (disch := first | omega | (simp only [qZ] <;> omega) | fail) only [push_cast, ↓qP, ↓reduceIte, Nat.reduceEqDiff, Nat.reduceAdd, Nat.reduceMul, Nat.reduceSub, Nat.reduceLeDiff, Int.reduceToNat, reduceCtorEq, f9, f10]) | (refine qA ?_ ?_; (first | omega | (simp only [qL]; omega) | (simp only [qD] at *; omega))))
    refine CallV.of isCall_48 (isnan_any _ _) ?_
    rintro _ _ ⟨rfl, rfl⟩
    rw [hn2]
    refine Sm.out ?_
    repeat (first | refine qS ?_ | refine qB ?_ | refine qT rfl ?_ | refine qF rfl ?_ | ((first | refine qR rfl ?_ | refine qK ?_ | refine qE ?_ | refine qW ?_ | refine qM ?_); try simp -dsimp (maxSteps := 2000000) (disch := first | omega | (simp only [qZ] <;> omega) | fail) only [push_cast, ↓qP, ↓reduceIte, Nat.reduceEqDiff, Nat.reduceAdd, Nat.reduceMul, Nat.reduceSub, Nat.reduceLeDiff, Int.reduceToNat, reduceCtorEq, f9, f10]) | (refine qA ?_ ?_; (first | omega | (simp only [qL]; omega) | (simp only [qD] at *; omega))))
    exact Ret.mk ⟨rfl, k2⟩
  · have hc1 : Is r1 c := by rw [a2 hm]; exact hc
    have hd2 : Is r2 d := by
      rcases hd with ⟨h, rfl⟩ | ⟨h, hn, z, hz, hzd⟩
      · rcases hE hm with ⟨_, e⟩ | ⟨h', _⟩
        · rw [e]; exact inf_Is
        · rw [h] at h'; cases h'
      · rcases hE hm with ⟨h', _⟩ | ⟨_, ⟨h', _⟩ | ⟨_, h'⟩⟩
        · rw [h] at h'; cases h'
        · rcases h' with h' | h'
          · rw [hn] at h'; cases h'
          · rw [hz] at h'; cases h'
        · rw [hz] at h'; cases h'; exact hzd
    have hn2 : isN r2 = false := by
      cases h : isN r2 with
      | false => rfl
      | true => exact absurd ((isN_Is hd2).1 h) hdn
    repeat (first | refine qS ?_ | refine qB ?_ | refine qT rfl ?_ | refine qF rfl ?_ | ((first | refine qR rfl ?_ | refine qK ?_ | refine qE ?_ | refine qW ?_ | refine qM ?_); try simp -dsimp (maxSteps := 2000000) (disch := first | omega | (simp only [qZ] <;> omega) | fail) only [push_cast, ↓qP, ↓reduceIte, Nat.reduceEqDiff, Nat.reduceAdd, Nat.reduceMul, Nat.reduceSub, Nat.reduceLeDiff, Int.reduceToNat, reduceCtorEq, f9, f10]) | (refine qA ?_ ?_; (first | omega | (simp only [qL]; omega) | (simp only [qD] at *; omega))))
    refine CallV.of isCall_48 (isnan_any _ _) ?_
    rintro _ _ ⟨rfl, rfl⟩
    rw [hn1]
    refine Sm.out ?_
    repeat (first | refine qS ?_ | refine qB ?_ | refine qT rfl ?_ | refine qF rfl ?_ | ((first | refine qR rfl ?_ | refine qK ?_ | refine qE ?_ | refine qW ?_ | refine qM ?_); try simp -dsimp (maxSteps := 2000000) (disch := first | omega | (simp only [qZ] <;> omega) | fail) only [push_cast, ↓qP, ↓reduceIte, Nat.reduceEqDiff, Nat.reduceAdd, Nat.reduceMul, Nat.reduceSub, Nat.reduceLeDiff, Int.reduceToNat, reduceCtorEq, f9, f10]) | (refine qA ?_ ?_; (first | omega | (simp only [qL]; omega) | (simp only [qD] at *; omega))))
    refine CallV.of isCall_48 (isnan_any _ _) ?_
    rintro _ _ ⟨rfl, rfl⟩
    rw [hn2]
    refine Sm.out ?_
    repeat (first | refine qS ?_ | refine qB ?_ | refine qT rfl ?_ | refine qF rfl ?_ | ((first | refine qR rfl ?_ | refine qK ?_ | refine qE ?_ | refine qW ?_ | refine qM ?_); try simp -dsimp (maxSteps := 2000000) (disch := first | omega | (simp only [qZ] <;> omega) | fail) only [push_cast, ↓qP, ↓reduceIte, Nat.reduceEqDiff, Nat.reduceAdd, Nat.reduceMul, Nat.reduceSub, Nat.reduceLeDiff, Int.reduceToNat, reduceCtorEq, f9, f10, f0]) | (refine qA ?_ ?_; (first | omega | (simp only [qL]; omega) | (simp only [qD] at *; omega))))
    refine OpV.cvt rfl rfl (run_convert_int_float _ _ _ _ .f64 _ (by kernel_rfl) (by kernel_rfl)) ?_
    obtain ⟨q, hq, hqI⟩ : ∃ q, floatOfInt .f64 (s.length : Int) = q ∧ isI q s.length := ⟨_, rfl, ofInt_I _ (by omega) (by omega)⟩
    rw [hq]
    refine Sm.out ?_
    repeat (first | refine qS ?_ | refine qB ?_ | refine qT rfl ?_ | refine qF rfl ?_ | ((first | refine qR rfl ?_ | refine qK ?_ | refine qE ?_ | refine qW ?_ | refine qM ?_); try simp -dsimp (maxSteps := 2000000) (disch := first | omega | (simp only [qZ] <;> omega) | fail) only [push_cast, ↓qP, ↓reduceIte, Nat.reduceEqDiff, Nat.reduceAdd, Nat.reduceMul, Nat.reduceSub, Nat.reduceLeDiff, Int.reduceToNat, reduceCtorEq]) | (refine qA ?_ ?_; (first | omega | (simp only [qL]; omega) | (simp only [qD] at *; omega))))
    obtain ⟨r5, w5, hr5, hw5, a5, _⟩ := run_add (P := Try.prog) W 25 q 4607182418800017408
    refine OpV.bin rfl rfl rfl rfl hr5 ?_
    obtain ⟨z, e, hz, hze, _, _, _, hsum⟩ : ∃ z e, Ieee.double.add q 4607182418800017408 = some z ∧ Is z e ∧ e ≠ .nan ∧ True ∧ True ∧ e = .int ((s.length : Int) + 1) := by
      rcases add_Is (c := .int s.length) (d := .int 1) hqI one_I with ⟨_, h | h | ⟨_, h, _⟩⟩ | ⟨z, e, h1, h2, h3, _, _, h4⟩
      · cases h
      · cases h
      · cases h
      · exact ⟨z, e, h1, h2, h3, trivial, trivial, h4 _ _ rfl rfl (by omega) (by omega)⟩
    obtain ⟨rfl, rfl⟩ := a5 z hz
    subst hsum
    clear hw5 hr5 a5 hz hqI
    refine Sm.out ?_
    repeat (first | refine qS ?_ | refine qB ?_ | refine qT rfl ?_ | refine qF rfl ?_ | ((first | refine qR rfl ?_ | refine qK ?_ | refine qE ?_ | refine qW ?_ | refine qM ?_); try simp -dsimp (maxSteps := 2000000) (disch := first | omega | (simp only [qZ] <;> omega) | fail) only [push_cast, ↓qP, ↓reduceIte, Nat.reduceEqDiff, Nat.reduceAdd, Nat.reduceMul, Nat.reduceSub, Nat.reduceLeDiff, Int.reduceToNat, reduceCtorEq]) | (refine qA ?_ ?_; (first | omega | (simp only [qL]; omega) | (simp only [qD] at *; omega))))
    obtain ⟨r6, hr6, h6⟩ := run_max (P := Try.prog) w5 (x := 4607182418800017408) (c := .int 1) one_I hc1 (by simp) hcn
    refine OpV.max rfl rfl (by simp [ev, upd, f9]) hr6 ?_
    refine Sm.out ?_
    repeat (first | refine qS ?_ | refine qB ?_ | refine qT rfl ?_ | refine qF rfl ?_ | ((first | refine qR rfl ?_ | refine qK ?_ | refine qE ?_ | refine qW ?_ | refine qM ?_); try simp -dsimp (maxSteps := 2000000) (disch := first | omega | (simp only [qZ] <;> omega) | fail) only [push_cast, ↓qP, ↓reduceIte, Nat.reduceEqDiff, Nat.reduceAdd, Nat.reduceMul, Nat.reduceSub, Nat.reduceLeDiff, Int.reduceToNat, reduceCtorEq]) | (refine qA ?_ ?_; (first | omega | (simp only [qL]; omega) | (simp only [qD] at *; omega))))
    obtain ⟨r7, hr7, h7⟩ := run_min (P := Try.prog) w5 hze hd2 (by simp) hdn
    refine OpV.min rfl rfl (by simp [ev, upd, f10]) hr7 ?_
    refine Sm.out ?_
    repeat (first | refine qS ?_ | refine qB ?_ | refine qT rfl ?_ | refine qF rfl ?_ | ((first | refine qR rfl ?_ | refine qK ?_ | refine qE ?_ | refine qW ?_ | refine qM ?_); try simp -dsimp (maxSteps := 2000000) (disch := first | omega | (simp only [qZ] <;> omega) | fail) only [push_cast, ↓qP, ↓reduceIte, Nat.reduceEqDiff, Nat.reduceAdd, Nat.reduceMul, Nat.reduceSub, Nat.reduceLeDiff, Int.reduceToNat, reduceCtorEq]) | (refine qA ?_ ?_; (first | omega | (simp only [qL]; omega) | (simp only [qD] at *; omega))))
    have h6 : Is r6 (loE c) := h6
    have h7 : Is r7 (hiE s.length d) := h7
    refine OpV.bin rfl rfl rfl rfl (run_geq _ _ h6 h7) ?_
    have hge : ((loE c).cmp (hiE s.length d) == some .gt || (loE c).cmp (hiE s.length d) == some .eq) = geE (loE c) (hiE s.length d) := rfl
    rw [hge]
    cases hg : geE (loE c) (hiE s.length d) with
    | true =>
      rw [ends_empty s hcn hdn hg] at ho
      subst ho
      refine Sm.out ?_
      repeat (first | refine qS ?_ | refine qB ?_ | refine qT rfl ?_ | refine qF rfl ?_ | ((first | refine qR rfl ?_ | refine qK ?_ | refine qE ?_ | refine qW ?_ | refine qM ?_); try simp -dsimp (maxSteps := 2000000) (disch := first | omega | (simp only [qZ] <;> omega) | fail) only [push_cast, ↓qP, ↓reduceIte, Nat.reduceEqDiff, Nat.reduceAdd, Nat.reduceMul, Nat.reduceSub, Nat.reduceLeDiff, Int.reduceToNat, reduceCtorEq]) | (refine qA ?_ ?_; (first | omega | (simp only [qL]; omega) | (simp only [qD] at *; omega))))
      exact Ret.mk ⟨rfl, k2⟩
    | false =>
      obtain ⟨a, b, e1, e2, e3, e4, e5, e6⟩ := ends_some s hcn hdn hg
      rw [e5, e6] at ho
      rw [e1] at h6
      rw [e2] at h7
      refine Sm.out ?_
      repeat (first | refine qS ?_ | refine qB ?_ | refine qT rfl ?_ | refine qF rfl ?_ | ((first | refine qR rfl ?_ | refine qK ?_ | refine qE ?_ | refine qW ?_ | refine qM ?_); try simp -dsimp (maxSteps := 2000000) (disch := first | omega | (simp only [qZ] <;> omega) | fail) only [push_cast, ↓qP, ↓reduceIte, Nat.reduceEqDiff, Nat.reduceAdd, Nat.reduceMul, Nat.reduceSub, Nat.reduceLeDiff, Int.reduceToNat, reduceCtorEq, f0]) | (refine qA ?_ ?_; (first | omega | (simp only [qL]; omega) | (simp only [qD] at *; omega))))
      refine OpV.cvt rfl rfl (run_convert_float_int _ _ _ _ _ _ _ (by kernel_rfl) (by kernel_rfl) (toInt_I h6 (by omega) (by omega))) ?_
      refine Sm.out ?_
      repeat (first | refine qS ?_ | refine qB ?_ | refine qT rfl ?_ | refine qF rfl ?_ | ((first | refine qR rfl ?_ | refine qK ?_ | refine qE ?_ | refine qW ?_ | refine qM ?_); try simp -dsimp (maxSteps := 2000000) (disch := first | omega | (simp only [qZ] <;> omega) | fail) only [push_cast, ↓qP, ↓reduceIte, Nat.reduceEqDiff, Nat.reduceAdd, Nat.reduceMul, Nat.reduceSub, Nat.reduceLeDiff, Int.reduceToNat, reduceCtorEq, f0]) | (refine qA ?_ ?_; (first | omega | (simp only [qL]; omega) | (simp only [qD] at *; omega))))
      refine OpV.cvt rfl rfl (run_convert_float_int _ _ _ _ _ _ _ (by kernel_rfl) (by kernel_rfl) (toInt_I h7 (by omega) (by omega))) ?_
      have i1 : ((a : Int) + 1 - 1).toNat = a := by omega
      have i2 : ((b : Int) + 1 - 1).toNat = b := by omega
      refine Sm.out ?_
      repeat (first | refine qS ?_ | refine qB ?_ | refine qT rfl ?_ | refine qF rfl ?_ | ((first | refine qR rfl ?_ | refine qK ?_ | refine qE ?_ | refine qW ?_ | refine qM ?_); try simp -dsimp (maxSteps := 2000000) (disch := first | omega | (simp only [qZ] <;> omega) | fail) only [push_cast, ↓qP, ↓reduceIte, Nat.reduceEqDiff, Nat.reduceAdd, Nat.reduceMul, Nat.reduceSub, Nat.reduceLeDiff, Int.reduceToNat, reduceCtorEq, f0, i1, i2]) | (refine qA ?_ ?_; (first | omega | (simp only [qL]; omega) | (simp only [qD] at *; omega))))
      subst ho
      exact Ret.mk ⟨rfl, k2⟩
end Go.Proofs.Ytddichibegppjaa
