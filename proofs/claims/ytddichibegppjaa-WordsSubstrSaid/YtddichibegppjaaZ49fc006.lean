/- The reference's Substr. -/
import Derived.Test.YtddichibegppjaaZ4f0adac
import Derived.Test.YtddichibegppjaaVs
set_option linter.unusedSimpArgs false
set_option linter.unusedVariables false
set_option maxRecDepth 100000
set_option maxHeartbeats 8000000
attribute [local irreducible] Go.VC.OpV Go.VC.CallV Go.VC.Wp Go.VC.post
namespace Go.Proofs.Ytddichibegppjaa
open Go Go.VC Go.Fl

theorem highA_le (len : Nat) (d : Fl.Ext) : highA len d ≤ len := by
  cases d with
  | nan => exact Nat.zero_le _
  | inf u => cases u <;> simp [highA]
  | int n => simp only [highA]; omega
theorem win_len (s : List UInt8) (A H i : Nat) : (win s A H i).length ≤ s.length := by unfold win; simp; omega

theorem substr3_any {s : List UInt8} {m n : Nat} {has : Bool} {out : List UInt8} (hs : s.length ≤ 500) (hS : SubOf s m n has out) (w : World) :
    Calls Try.prog 18 #[.string (B s), .float .f64 m, .float .f64 n, .bool has] w fun e w' => e = .returned (.string (B out)) ∧ Kp (fun _ => False) w w' := by
  refine enter (n := 65) (args := [.string (B s), .float .f64 m, .float .f64 n, .bool has]) Try.func18 rfl rfl rfl (by simp) ?_
  repeat (first | refine qS ?_ | refine qB ?_ | refine qT rfl ?_ | refine qF rfl ?_ | ((first | refine qR rfl ?_ | refine qK ?_ | refine qE ?_ | refine qW ?_ | refine qM ?_); try simp -dsimp (maxSteps := 2000000) (disch := first | omega | (simp only [qZ] <;> omega) | fail) only [push_cast, ↓qP, ↓reduceIte, Nat.reduceEqDiff, Nat.reduceAdd, Nat.reduceMul, Nat.reduceSub, Nat.reduceLeDiff, Int.reduceToNat, reduceCtorEq]) | (refine qA ?_ ?_; (first | omega | (simp only [qL]; omega) | (simp only [qD] at *; omega))))
  refine OpV.bin rfl rfl rfl rfl (run_neq_self _ _ m) ?_
  cases hm : isN m with
  | true =>
    have ho : out = [] := by
      rcases hS with ⟨_, h⟩ | ⟨h, _⟩ | ⟨h, _⟩
      · exact h
      · rw [hm] at h; cases h
      · rw [hm] at h; cases h
    subst ho
    refine Sm.out ?_
    repeat (first | refine qS ?_ | refine qB ?_ | refine qT rfl ?_ | refine qF rfl ?_ | ((first | refine qR rfl ?_ | refine qK ?_ | refine qE ?_ | refine qW ?_ | refine qM ?_); try simp -dsimp (maxSteps := 2000000) (disch := first | omega | (simp only [qZ] <;> omega) | fail) only [push_cast, ↓qP, ↓reduceIte, Nat.reduceEqDiff, Nat.reduceAdd, Nat.reduceMul, Nat.reduceSub, Nat.reduceLeDiff, Int.reduceToNat, reduceCtorEq]) | (refine qA ?_ ?_; (first | omega | (simp only [qL]; omega) | (simp only [qD] at *; omega))))
    exact Ret.mk ⟨rfl, Kp.refl _ _⟩
  | false =>
  cases hh : has with
  | true =>
    subst hh
    refine Sm.out ?_
    repeat (first | refine qS ?_ | refine qB ?_ | refine qT rfl ?_ | refine qF rfl ?_ | ((first | refine qR rfl ?_ | refine qK ?_ | refine qE ?_ | refine qW ?_ | refine qM ?_); try simp -dsimp (maxSteps := 2000000) (disch := first | omega | (simp only [qZ] <;> omega) | fail) only [push_cast, ↓qP, ↓reduceIte, Nat.reduceEqDiff, Nat.reduceAdd, Nat.reduceMul, Nat.reduceSub, Nat.reduceLeDiff, Int.reduceToNat, reduceCtorEq]) | (refine qA ?_ ?_; (first | omega | (simp only [qL]; omega) | (simp only [qD] at *; omega))))
    refine OpV.bin rfl rfl rfl rfl (run_neq_self _ _ n) ?_
    cases hn : isN n with
    | true =>
      have ho : out = [] := by
        rcases hS with ⟨_, h⟩ | ⟨_, _, _, h⟩ | ⟨_, c, d, _, _, _, ⟨h, _⟩ | ⟨_, h, _⟩, _⟩
        · exact h
        · exact h
        · cases h
        · rw [hn] at h; cases h
      subst ho
      refine Sm.out ?_
      repeat (first | refine qS ?_ | refine qB ?_ | refine qT rfl ?_ | refine qF rfl ?_ | ((first | refine qR rfl ?_ | refine qK ?_ | refine qE ?_ | refine qW ?_ | refine qM ?_); try simp -dsimp (maxSteps := 2000000) (disch := first | omega | (simp only [qZ] <;> omega) | fail) only [push_cast, ↓qP, ↓reduceIte, Nat.reduceEqDiff, Nat.reduceAdd, Nat.reduceMul, Nat.reduceSub, Nat.reduceLeDiff, Int.reduceToNat, reduceCtorEq]) | (refine qA ?_ ?_; (first | omega | (simp only [qL]; omega) | (simp only [qD] at *; omega))))
      exact Ret.mk ⟨rfl, Kp.refl _ _⟩
    | false =>
    refine Sm.out ?_
    repeat (first | refine qS ?_ | refine qB ?_ | refine qT rfl ?_ | refine qF rfl ?_ | ((first | refine qR rfl ?_ | refine qK ?_ | refine qE ?_ | refine qW ?_ | refine qM ?_); try simp -dsimp (maxSteps := 2000000) (disch := first | omega | (simp only [qZ] <;> omega) | fail) only [push_cast, ↓qP, ↓reduceIte, Nat.reduceEqDiff, Nat.reduceAdd, Nat.reduceMul, Nat.reduceSub, Nat.reduceLeDiff, Int.reduceToNat, reduceCtorEq]) | (refine qA ?_ ?_; (first | omega | (simp only [qL]; omega) | (simp only [qD] at *; omega))))
    obtain ⟨r1, w1, hr1, k1, a1, a2⟩ := rnd_call m w
    refine CallV.ext hr1 ?_
    obtain rfl := a2 hm
    refine Sm.out ?_
    repeat (first | refine qS ?_ | refine qB ?_ | refine qT rfl ?_ | refine qF rfl ?_ | ((first | refine qR rfl ?_ | refine qK ?_ | refine qE ?_ | refine qW ?_ | refine qM ?_); try simp -dsimp (maxSteps := 2000000) (disch := first | omega | (simp only [qZ] <;> omega) | fail) only [push_cast, ↓qP, ↓reduceIte, Nat.reduceEqDiff, Nat.reduceAdd, Nat.reduceMul, Nat.reduceSub, Nat.reduceLeDiff, Int.reduceToNat, reduceCtorEq]) | (refine qA ?_ ?_; (first | omega | (simp only [qL]; omega) | (simp only [qD] at *; omega))))
    obtain ⟨r3, w3, hr3, k3, a3, a4⟩ := rnd_call n w1
    refine CallV.ext hr3 ?_
    obtain rfl := a4 hn
    refine Sm.out ?_
    repeat (first | refine qS ?_ | refine qB ?_ | refine qT rfl ?_ | refine qF rfl ?_ | ((first | refine qR rfl ?_ | refine qK ?_ | refine qE ?_ | refine qW ?_ | refine qM ?_); try simp -dsimp (maxSteps := 2000000) (disch := first | omega | (simp only [qZ] <;> omega) | fail) only [push_cast, ↓qP, ↓reduceIte, Nat.reduceEqDiff, Nat.reduceAdd, Nat.reduceMul, Nat.reduceSub, Nat.reduceLeDiff, Int.reduceToNat, reduceCtorEq]) | (refine qA ?_ ?_; (first | omega | (simp only [qL]; omega) | (simp only [qD] at *; omega))))
    obtain ⟨r2, w2, hr2, hw2, a5, a6⟩ := run_add (P := Try.prog) w3 25 (rnd m) (rnd n)
    refine OpV.bin rfl rfl rfl rfl hr2 ?_
    have k2 : Kp (fun _ => False) w3 w2 := by
      rcases hw2 with rfl | rfl
      · exact Kp.refl _ _
      · exact (Kp.refl _ _).drew
    have kk := (k1.trans k3).trans k2
    clear k1 k2 k3 hr1 hr2 hr3
    refine Sm.out ?_
    repeat (first | refine qS ?_ | refine qB ?_ | refine qT rfl ?_ | refine qF rfl ?_ | ((first | refine qR rfl ?_ | refine qK ?_ | refine qE ?_ | refine qW ?_ | refine qM ?_); try simp -dsimp (maxSteps := 2000000) (disch := first | omega | (simp only [qZ] <;> omega) | fail) only [push_cast, ↓qP, ↓reduceIte, Nat.reduceEqDiff, Nat.reduceAdd, Nat.reduceMul, Nat.reduceSub, Nat.reduceLeDiff, Int.reduceToNat, reduceCtorEq]) | (refine qA ?_ ?_; (first | omega | (simp only [qL]; omega) | (simp only [qD] at *; omega))))
    refine OpV.bin rfl rfl rfl rfl (run_neq_self _ _ r2) ?_
    rcases hS with ⟨h, _⟩ | ⟨_, _, h | h, ho⟩ | ⟨_, c, d, hc, hcn, hdn, ⟨h, _⟩ | ⟨_, _, z, hz, hzd⟩, ho⟩
    · rw [hm] at h; cases h
    · rw [hn] at h; cases h
    · rw [a6 h]
      subst ho
      refine Sm.out ?_
      repeat (first | refine qS ?_ | refine qB ?_ | refine qT rfl ?_ | refine qF rfl ?_ | ((first | refine qR rfl ?_ | refine qK ?_ | refine qE ?_ | refine qW ?_ | refine qM ?_); try simp -dsimp (maxSteps := 2000000) (disch := first | omega | (simp only [qZ] <;> omega) | fail) only [push_cast, ↓qP, ↓reduceIte, Nat.reduceEqDiff, Nat.reduceAdd, Nat.reduceMul, Nat.reduceSub, Nat.reduceLeDiff, Int.reduceToNat, reduceCtorEq]) | (refine qA ?_ ?_; (first | omega | (simp only [qL]; omega) | (simp only [qD] at *; omega))))
      exact Ret.mk ⟨rfl, kk⟩
    · cases h
    · obtain ⟨rfl, _⟩ := a5 z hz
      have hn2 : isN r2 = false := by
        cases h : isN r2 with
        | false => rfl
        | true => exact absurd ((isN_Is hzd).1 h) hdn
      rw [hn2]
      clear a1 a2 a3 a4 a5 a6 hw2
      refine Sm.out ?_
      repeat (first | refine qS ?_ | refine qB ?_ | refine qT rfl ?_ | refine qF rfl ?_ | ((first | refine qR rfl ?_ | refine qK ?_ | refine qE ?_ | refine qW ?_ | refine qM ?_); try simp -dsimp (maxSteps := 2000000) (disch := first | omega | (simp only [qZ] <;> omega) | fail) only [push_cast, ↓qP, ↓reduceIte, Nat.reduceEqDiff, Nat.reduceAdd, Nat.reduceMul, Nat.reduceSub, Nat.reduceLeDiff, Int.reduceToNat, reduceCtorEq]) | (refine qA ?_ ?_; (first | omega | (simp only [qL]; omega) | (simp only [qD] at *; omega))))
      refine Wp.loop (α := Nat) (fun i F W => F 0 = .string (B s) ∧ F 3 = .bool true ∧ F 9 = .float .f64 (rnd m) ∧ F 10 = .float .f64 r2 ∧ (∃ o, F 11 = .string (B o) ∧ o = win s (lowA s.length c) (highA s.length d) i ∧ o.length ≤ s.length) ∧ F 12 = .int .i64 ((i : Int) + 1) ∧ i ≤ s.length ∧ Kp (fun _ => False) w W) (fun i => s.length - i) 0
        ⟨by simp [upd, arg], by simp [upd, arg], by simp [upd, arg], by simp [upd, arg], ⟨[], by simp [upd], by simp [win], by simp⟩, by simp [upd], by omega, kk⟩ ?_
      clear kk
      rintro i F W ⟨f0, f3, f9, f10, ⟨o, f11, ho1, hol⟩, f12, hi, k⟩
      rcases Nat.lt_or_ge i s.length with hlt | hge
      case inr =>
        have c1 : decide ((i : Int) + 1 ≤ (s.length : Int)) = false := decide_eq_false (by omega)
        repeat (first | refine qS ?_ | refine qB ?_ | refine qT rfl ?_ | refine qF rfl ?_ | ((first | refine qR rfl ?_ | refine qK ?_ | refine qE ?_ | refine qW ?_ | refine qM ?_); try simp -dsimp (maxSteps := 2000000) (disch := first | omega | (simp only [qZ] <;> omega) | fail) only [push_cast, ↓qP, ↓reduceIte, Nat.reduceEqDiff, Nat.reduceAdd, Nat.reduceMul, Nat.reduceSub, Nat.reduceLeDiff, Int.reduceToNat, reduceCtorEq, f0, f11, f12, c1]) | (refine qA ?_ ?_; (first | omega | (simp only [qL]; omega) | (simp only [qD] at *; omega))))
        have e : o = out := by
          have := highA_le s.length d
          rw [ho1, ho]; unfold win
          rw [Nat.min_eq_right (by omega)]
        subst e
        exact Ret.mk ⟨rfl, k⟩
      have c1 : decide ((i : Int) + 1 ≤ (s.length : Int)) = true := decide_eq_true (by omega)
      have hst := win_step (A := lowA s.length c) (H := highA s.length d) hlt
      rw [← ho1] at hst
      have hol' := win_len s (lowA s.length c) (highA s.length d) (i + 1)
      obtain ⟨q, hq, hqI⟩ : ∃ q, floatOfInt .f64 ((i : Int) + 1) = q ∧ isI q ((i : Int) + 1) := ⟨_, rfl, ofInt_I _ (by omega) (by omega)⟩
      repeat (first | refine qS ?_ | refine qB ?_ | refine qT rfl ?_ | refine qF rfl ?_ | ((first | refine qR rfl ?_ | refine qK ?_ | refine qE ?_ | refine qW ?_ | refine qM ?_); try simp -dsimp (maxSteps := 2000000) (disch := first | omega | (simp only [qZ] <;> omega) | fail) only [push_cast, ↓qP, ↓reduceIte, Nat.reduceEqDiff, Nat.reduceAdd, Nat.reduceMul, Nat.reduceSub, Nat.reduceLeDiff, Int.reduceToNat, reduceCtorEq, f0, f12, c1]) | (refine qA ?_ ?_; (first | omega | (simp only [qL]; omega) | (simp only [qD] at *; omega))))
      refine OpV.cvt rfl rfl (run_convert_int_float _ _ _ _ .f64 _ (by kernel_rfl) (by kernel_rfl)) ?_
      rw [hq]
      refine Sm.out ?_
      repeat (first | refine qS ?_ | refine qB ?_ | refine qT rfl ?_ | refine qF rfl ?_ | ((first | refine qR rfl ?_ | refine qK ?_ | refine qE ?_ | refine qW ?_ | refine qM ?_); try simp -dsimp (maxSteps := 2000000) (disch := first | omega | (simp only [qZ] <;> omega) | fail) only [push_cast, ↓qP, ↓reduceIte, Nat.reduceEqDiff, Nat.reduceAdd, Nat.reduceMul, Nat.reduceSub, Nat.reduceLeDiff, Int.reduceToNat, reduceCtorEq, f9]) | (refine qA ?_ ?_; (first | omega | (simp only [qL]; omega) | (simp only [qD] at *; omega))))
      refine OpV.bin rfl rfl rfl rfl (run_geq _ _ (c := .int ((i : Int) + 1)) hqI hc) ?_
      rw [show ((Fl.Ext.int ((i : Int) + 1)).cmp c == some .gt || (Fl.Ext.int ((i : Int) + 1)).cmp c == some .eq) = geE (.int ((i : Int) + 1)) c from rfl, geE_low hcn hlt]
      by_cases hA : lowA s.length c ≤ i
      case neg =>
        rw [decide_eq_false hA]
        rw [if_neg (fun h => hA h.1), List.append_nil] at hst
        refine Sm.out ?_
        repeat (first | refine qS ?_ | refine qB ?_ | refine qT rfl ?_ | refine qF rfl ?_ | ((first | refine qR rfl ?_ | refine qK ?_ | refine qE ?_ | refine qW ?_ | refine qM ?_); try simp -dsimp (maxSteps := 2000000) (disch := first | omega | (simp only [qZ] <;> omega) | fail) only [push_cast, ↓qP, ↓reduceIte, Nat.reduceEqDiff, Nat.reduceAdd, Nat.reduceMul, Nat.reduceSub, Nat.reduceLeDiff, Int.reduceToNat, reduceCtorEq, f12, f3]) | (refine qA ?_ ?_; (first | omega | (simp only [qL]; omega) | (simp only [qD] at *; omega))))
        exact Again.mk (i + 1) ⟨by simp [upd, f0], by simp [upd, f3], by simp [upd, f9], by simp [upd, f10], ⟨o, by simp [upd, f11], hst.symm, hol⟩, by simp [upd, f12], by omega, k⟩ (by omega)
      rw [decide_eq_true hA]
      refine Sm.out ?_
      repeat (first | refine qS ?_ | refine qB ?_ | refine qT rfl ?_ | refine qF rfl ?_ | ((first | refine qR rfl ?_ | refine qK ?_ | refine qE ?_ | refine qW ?_ | refine qM ?_); try simp -dsimp (maxSteps := 2000000) (disch := first | omega | (simp only [qZ] <;> omega) | fail) only [push_cast, ↓qP, ↓reduceIte, Nat.reduceEqDiff, Nat.reduceAdd, Nat.reduceMul, Nat.reduceSub, Nat.reduceLeDiff, Int.reduceToNat, reduceCtorEq, f3, f10, f12]) | (refine qA ?_ ?_; (first | omega | (simp only [qL]; omega) | (simp only [qD] at *; omega))))
      refine OpV.bin rfl rfl rfl rfl (run_lss _ _ (c := .int ((i : Int) + 1)) hqI hzd) ?_
      rw [lt_high hdn hlt]
      by_cases hH : i < highA s.length d
      case neg =>
        rw [decide_eq_false hH]
        rw [if_neg (fun h => hH h.2), List.append_nil] at hst
        refine Sm.out ?_
        repeat (first | refine qS ?_ | refine qB ?_ | refine qT rfl ?_ | refine qF rfl ?_ | ((first | refine qR rfl ?_ | refine qK ?_ | refine qE ?_ | refine qW ?_ | refine qM ?_); try simp -dsimp (maxSteps := 2000000) (disch := first | omega | (simp only [qZ] <;> omega) | fail) only [push_cast, ↓qP, ↓reduceIte, Nat.reduceEqDiff, Nat.reduceAdd, Nat.reduceMul, Nat.reduceSub, Nat.reduceLeDiff, Int.reduceToNat, reduceCtorEq, f12, f3]) | (refine qA ?_ ?_; (first | omega | (simp only [qL]; omega) | (simp only [qD] at *; omega))))
        exact Again.mk (i + 1) ⟨by simp [upd, f0], by simp [upd, f3], by simp [upd, f9], by simp [upd, f10], ⟨o, by simp [upd, f11], hst.symm, hol⟩, by simp [upd, f12], by omega, k⟩ (by omega)
      rw [decide_eq_true hH]
      rw [if_pos ⟨hA, hH⟩] at hst
      have i1 : ((i : Int) + 1 - 1).toNat = i := by omega
      have i2 : ((i : Int) + 1).toNat = i + 1 := by omega
      have i3 : i + 1 - i = 1 := by omega
      have hl1 : ((s.drop i).take 1).length ≤ 1 := List.length_take_le _ _
      refine Sm.out ?_
      repeat (first | refine qS ?_ | refine qB ?_ | refine qT rfl ?_ | refine qF rfl ?_ | ((first | refine qR rfl ?_ | refine qK ?_ | refine qE ?_ | refine qW ?_ | refine qM ?_); try simp -dsimp (maxSteps := 2000000) (disch := first | omega | (simp only [qZ] <;> omega) | fail) only [push_cast, ↓qP, ↓reduceIte, Nat.reduceEqDiff, Nat.reduceAdd, Nat.reduceMul, Nat.reduceSub, Nat.reduceLeDiff, Int.reduceToNat, reduceCtorEq, f0, f11, f12, i1, i2, i3]) | (refine qA ?_ ?_; (first | omega | (simp only [qL]; omega) | (simp only [qD] at *; omega))))
      exact Again.mk (i + 1) ⟨by simp [upd, f0], by simp [upd, f3], by simp [upd, f9], by simp [upd, f10], ⟨_, by simp [upd], hst.symm, by rw [← hst]; exact hol'⟩, by simp [upd, f12], by omega, k⟩ (by omega)
  | false =>
    subst hh
    refine Sm.out ?_
    repeat (first | refine qS ?_ | refine qB ?_ | refine qT rfl ?_ | refine qF rfl ?_ | ((first | refine qR rfl ?_ | refine qK ?_ | refine qE ?_ | refine qW ?_ | refine qM ?_); try simp -dsimp (maxSteps := 2000000) (disch := first | omega | (simp only [qZ] <;> omega) | fail) only [push_cast, ↓qP, ↓reduceIte, Nat.reduceEqDiff, Nat.reduceAdd, Nat.reduceMul, Nat.reduceSub, Nat.reduceLeDiff, Int.reduceToNat, reduceCtorEq]) | (refine qA ?_ ?_; (first | omega | (simp only [qL]; omega) | (simp only [qD] at *; omega))))
    obtain ⟨r1, w1, hr1, k1, a1, a2⟩ := rnd_call m w
    refine CallV.ext hr1 ?_
    obtain rfl := a2 hm
    refine Sm.out ?_
    repeat (first | refine qS ?_ | refine qB ?_ | refine qT rfl ?_ | refine qF rfl ?_ | ((first | refine qR rfl ?_ | refine qK ?_ | refine qE ?_ | refine qW ?_ | refine qM ?_); try simp -dsimp (maxSteps := 2000000) (disch := first | omega | (simp only [qZ] <;> omega) | fail) only [push_cast, ↓qP, ↓reduceIte, Nat.reduceEqDiff, Nat.reduceAdd, Nat.reduceMul, Nat.reduceSub, Nat.reduceLeDiff, Int.reduceToNat, reduceCtorEq]) | (refine qA ?_ ?_; (first | omega | (simp only [qL]; omega) | (simp only [qD] at *; omega))))
    obtain ⟨r3, w3, hr3, k3, a3, a4⟩ := rnd_call n w1
    refine CallV.ext hr3 ?_
    refine Sm.out ?_
    repeat (first | refine qS ?_ | refine qB ?_ | refine qT rfl ?_ | refine qF rfl ?_ | ((first | refine qR rfl ?_ | refine qK ?_ | refine qE ?_ | refine qW ?_ | refine qM ?_); try simp -dsimp (maxSteps := 2000000) (disch := first | omega | (simp only [qZ] <;> omega) | fail) only [push_cast, ↓qP, ↓reduceIte, Nat.reduceEqDiff, Nat.reduceAdd, Nat.reduceMul, Nat.reduceSub, Nat.reduceLeDiff, Int.reduceToNat, reduceCtorEq]) | (refine qA ?_ ?_; (first | omega | (simp only [qL]; omega) | (simp only [qD] at *; omega))))
    obtain ⟨r2, w2, hr2, hw2, a5, a6⟩ := run_add (P := Try.prog) w3 25 (rnd m) r3
    refine OpV.bin rfl rfl rfl rfl hr2 ?_
    have k2 : Kp (fun _ => False) w3 w2 := by
      rcases hw2 with rfl | rfl
      · exact Kp.refl _ _
      · exact (Kp.refl _ _).drew
    have kk := (k1.trans k3).trans k2
    clear k1 k2 k3 hr1 hr2 hr3 a3 a4 a5 a6 hw2 a1 a2
    rcases hS with ⟨h, _⟩ | ⟨_, h, _⟩ | ⟨_, c, d, hc, hcn, hdn, ⟨_, rfl⟩ | ⟨h, _⟩, ho⟩
    · rw [hm] at h; cases h
    · cases h
    · refine Sm.out ?_
      repeat (first | refine qS ?_ | refine qB ?_ | refine qT rfl ?_ | refine qF rfl ?_ | ((first | refine qR rfl ?_ | refine qK ?_ | refine qE ?_ | refine qW ?_ | refine qM ?_); try simp -dsimp (maxSteps := 2000000) (disch := first | omega | (simp only [qZ] <;> omega) | fail) only [push_cast, ↓qP, ↓reduceIte, Nat.reduceEqDiff, Nat.reduceAdd, Nat.reduceMul, Nat.reduceSub, Nat.reduceLeDiff, Int.reduceToNat, reduceCtorEq]) | (refine qA ?_ ?_; (first | omega | (simp only [qL]; omega) | (simp only [qD] at *; omega))))
      refine Wp.loop (α := Nat) (fun i F W => F 0 = .string (B s) ∧ F 3 = .bool false ∧ F 9 = .float .f64 (rnd m) ∧ (∃ o, F 11 = .string (B o) ∧ o = win s (lowA s.length c) (highA s.length (.inf false)) i ∧ o.length ≤ s.length) ∧ F 12 = .int .i64 ((i : Int) + 1) ∧ i ≤ s.length ∧ Kp (fun _ => False) w W) (fun i => s.length - i) 0
        ⟨by simp [upd, arg], by simp [upd, arg], by simp [upd, arg], ⟨[], by simp [upd], by simp [win], by simp⟩, by simp [upd], by omega, kk⟩ ?_
      clear kk
      rintro i F W ⟨f0, f3, f9, ⟨o, f11, ho1, hol⟩, f12, hi, k⟩
      rcases Nat.lt_or_ge i s.length with hlt | hge
      case inr =>
        have c1 : decide ((i : Int) + 1 ≤ (s.length : Int)) = false := decide_eq_false (by omega)
        repeat (first | refine qS ?_ | refine qB ?_ | refine qT rfl ?_ | refine qF rfl ?_ | ((first | refine qR rfl ?_ | refine qK ?_ | refine qE ?_ | refine qW ?_ | refine qM ?_); try simp -dsimp (maxSteps := 2000000) (disch := first | omega | (simp only [qZ] <;> omega) | fail) only [push_cast, ↓qP, ↓reduceIte, Nat.reduceEqDiff, Nat.reduceAdd, Nat.reduceMul, Nat.reduceSub, Nat.reduceLeDiff, Int.reduceToNat, reduceCtorEq, f0, f11, f12, c1]) | (refine qA ?_ ?_; (first | omega | (simp only [qL]; omega) | (simp only [qD] at *; omega))))
        have e : o = out := by
          have := highA_le s.length (.inf false)
          rw [ho1, ho]; unfold win
          rw [Nat.min_eq_right (by omega)]
        subst e
        exact Ret.mk ⟨rfl, k⟩
      have c1 : decide ((i : Int) + 1 ≤ (s.length : Int)) = true := decide_eq_true (by omega)
      have hst := win_step (A := lowA s.length c) (H := highA s.length (.inf false)) hlt
      rw [← ho1] at hst
      have hol' := win_len s (lowA s.length c) (highA s.length (.inf false)) (i + 1)
      obtain ⟨q, hq, hqI⟩ : ∃ q, floatOfInt .f64 ((i : Int) + 1) = q ∧ isI q ((i : Int) + 1) := ⟨_, rfl, ofInt_I _ (by omega) (by omega)⟩
      repeat (first | refine qS ?_ | refine qB ?_ | refine qT rfl ?_ | refine qF rfl ?_ | ((first | refine qR rfl ?_ | refine qK ?_ | refine qE ?_ | refine qW ?_ | refine qM ?_); try simp -dsimp (maxSteps := 2000000) (disch := first | omega | (simp only [qZ] <;> omega) | fail) only [push_cast, ↓qP, ↓reduceIte, Nat.reduceEqDiff, Nat.reduceAdd, Nat.reduceMul, Nat.reduceSub, Nat.reduceLeDiff, Int.reduceToNat, reduceCtorEq, f0, f12, c1]) | (refine qA ?_ ?_; (first | omega | (simp only [qL]; omega) | (simp only [qD] at *; omega))))
      refine OpV.cvt rfl rfl (run_convert_int_float _ _ _ _ .f64 _ (by kernel_rfl) (by kernel_rfl)) ?_
      rw [hq]
      refine Sm.out ?_
      repeat (first | refine qS ?_ | refine qB ?_ | refine qT rfl ?_ | refine qF rfl ?_ | ((first | refine qR rfl ?_ | refine qK ?_ | refine qE ?_ | refine qW ?_ | refine qM ?_); try simp -dsimp (maxSteps := 2000000) (disch := first | omega | (simp only [qZ] <;> omega) | fail) only [push_cast, ↓qP, ↓reduceIte, Nat.reduceEqDiff, Nat.reduceAdd, Nat.reduceMul, Nat.reduceSub, Nat.reduceLeDiff, Int.reduceToNat, reduceCtorEq, f9]) | (refine qA ?_ ?_; (first | omega | (simp only [qL]; omega) | (simp only [qD] at *; omega))))
      refine OpV.bin rfl rfl rfl rfl (run_geq _ _ (c := .int ((i : Int) + 1)) hqI hc) ?_
      rw [show ((Fl.Ext.int ((i : Int) + 1)).cmp c == some .gt || (Fl.Ext.int ((i : Int) + 1)).cmp c == some .eq) = geE (.int ((i : Int) + 1)) c from rfl, geE_low hcn hlt]
      by_cases hA : lowA s.length c ≤ i
      case neg =>
        rw [decide_eq_false hA]
        rw [if_neg (fun h => hA h.1), List.append_nil] at hst
        refine Sm.out ?_
        repeat (first | refine qS ?_ | refine qB ?_ | refine qT rfl ?_ | refine qF rfl ?_ | ((first | refine qR rfl ?_ | refine qK ?_ | refine qE ?_ | refine qW ?_ | refine qM ?_); try simp -dsimp (maxSteps := 2000000) (disch := first | omega | (simp only [qZ] <;> omega) | fail) only [push_cast, ↓qP, ↓reduceIte, Nat.reduceEqDiff, Nat.reduceAdd, Nat.reduceMul, Nat.reduceSub, Nat.reduceLeDiff, Int.reduceToNat, reduceCtorEq, f12, f3]) | (refine qA ?_ ?_; (first | omega | (simp only [qL]; omega) | (simp only [qD] at *; omega))))
        exact Again.mk (i + 1) ⟨by simp [upd, f0], by simp [upd, f3], by simp [upd, f9], ⟨o, by simp [upd, f11], hst.symm, hol⟩, by simp [upd, f12], by omega, k⟩ (by omega)
      rw [decide_eq_true hA]
      rw [if_pos ⟨hA, hlt⟩] at hst
      have i1 : ((i : Int) + 1 - 1).toNat = i := by omega
      have i2 : ((i : Int) + 1).toNat = i + 1 := by omega
      have i3 : i + 1 - i = 1 := by omega
      have hl1 : ((s.drop i).take 1).length ≤ 1 := List.length_take_le _ _
      refine Sm.out ?_
      repeat (first | refine qS ?_ | refine qB ?_ | refine qT rfl ?_ | refine qF rfl ?_ | ((first | refine qR rfl ?_ | refine qK ?_ | refine qE ?_ | refine qW ?_ | refine qM ?_); try simp -dsimp (maxSteps := 2000000) (disch := first | omega | (simp only [qZ] <;> omega) | fail) only [push_cast, ↓qP, ↓reduceIte, Nat.reduceEqDiff, Nat.reduceAdd, Nat.reduceMul, Nat.reduceSub, Nat.reduceLeDiff, Int.reduceToNat, reduceCtorEq, f3, f0, f11, f12, i1, i2, i3]) | (refine qA ?_ ?_; (first | omega | (simp only [qL]; omega) | (simp only [qD] at *; omega))))
      exact Again.mk (i + 1) ⟨by simp [upd, f0], by simp [upd, f3], by simp [upd, f9], ⟨_, by simp [upd], hst.symm, by rw [← hst]; exact hol'⟩, by simp [upd, f12], by omega, k⟩ (by omega)
    · cases h
end Go.Proofs.Ytddichibegppjaa
