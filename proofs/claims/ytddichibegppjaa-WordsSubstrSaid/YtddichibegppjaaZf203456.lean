/- The reference's reader of expressions: small methods. -/
import Derived.Test.YtddichibegppjaaFacts
import Derived.Test.YtddichibegppjaaP2
import Derived.Test.YtddichibegppjaaVs
import Derived.Test.YtddichibegppjaaP3
import Derived.Test.YtddichibegppjaaW0
import Derived.Test.YtddichibegppjaaVp
import Derived.Test.YtddichibegppjaaP4
import Derived.Test.YtddichibegppjaaVo
import Derived.Test.YtddichibegppjaaP7
set_option linter.unusedSimpArgs false
set_option linter.unusedVariables false
set_option maxRecDepth 100000
set_option maxHeartbeats 8000000
attribute [local irreducible] Go.VC.OpV Go.VC.CallV Go.VC.Wp Go.VC.post
namespace Go.Proofs.Ytddichibegppjaa
open Go Go.VC

/-- A place in a text. -/
abbrev At3 (w : World) (a : Nat) (l : List UInt8) (s : S3) : Prop := Blk w a 82 [.string (B l), .int .i64 s.i, .int .i64 s.f, .int .i64 s.d]

section
variable {a : Nat} {l : List UInt8} {s : S3} {w : World}

theorem fail3 (h : At3 w a l s) (k : Int) :
    Calls Try.prog 50 #[.pointer (some ⟨a, 0, none⟩), .int .i64 k] w fun e w' => e = .returned (.tuple #[]) ∧ At3 w' a l (s.fail k) ∧ Kp (· = a) w w' := by
  have hlt := h.lt
  refine enter (n := 13) (args := [.pointer (some ⟨a, 0, none⟩), .int .i64 k]) Try.func50 rfl rfl rfl (by simp) ?_
  rcases Bool.eq_false_or_eq_true (s.f == 0) with hb | hb
  · have e : s.fail k = { s with f := k } := by simp at hb; simp [S3.fail, hb]
    repeat (first | refine qS ?_ | refine qB ?_ | refine qT rfl ?_ | refine qF rfl ?_ | ((first | refine qR rfl ?_ | refine qK ?_ | refine qE ?_ | refine qW ?_ | refine qM ?_); try simp -dsimp (maxSteps := 2000000) (disch := first | omega | (simp only [qZ] <;> omega) | fail) only [push_cast, ↓qP, ↓reduceIte, Nat.reduceEqDiff, Nat.reduceAdd, Nat.reduceMul, Nat.reduceSub, Nat.reduceLeDiff, Int.reduceToNat, reduceCtorEq, h.rdc, h.fz, hb]) | (refine qA ?_ ?_; (first | omega | (simp only [qL]; omega) | (simp only [qD] at *; omega))))
    rw [e]
    exact Ret.mk ⟨rfl, h.set 2 _, (Kp.refl (· = a) w).setCell (fun _ => rfl) _⟩
  · have e : s.fail k = s := by simp at hb; simp [S3.fail, hb]
    repeat (first | refine qS ?_ | refine qB ?_ | refine qT rfl ?_ | refine qF rfl ?_ | ((first | refine qR rfl ?_ | refine qK ?_ | refine qE ?_ | refine qW ?_ | refine qM ?_); try simp -dsimp (maxSteps := 2000000) (disch := first | omega | (simp only [qZ] <;> omega) | fail) only [push_cast, ↓qP, ↓reduceIte, Nat.reduceEqDiff, Nat.reduceAdd, Nat.reduceMul, Nat.reduceSub, Nat.reduceLeDiff, Int.reduceToNat, reduceCtorEq, h.rdc, h.fz, hb]) | (refine qA ?_ ?_; (first | omega | (simp only [qL]; omega) | (simp only [qD] at *; omega))))
    rw [e]
    exact Ret.mk ⟨rfl, h, Kp.refl _ w⟩

theorem more3_any (h : At3 w a l s) : Calls Try.prog 71 #[.pointer (some ⟨a, 0, none⟩)] w fun e w' => e = .returned (.bool (more3 l s)) ∧ w.drew = w' := by
  have hlt := h.lt
  refine enter (n := 20) (args := [.pointer (some ⟨a, 0, none⟩)]) Try.func71 rfl rfl rfl (by simp) ?_
  repeat (first | refine qS ?_ | refine qB ?_ | refine qT rfl ?_ | refine qF rfl ?_ | ((first | refine qR rfl ?_ | refine qK ?_ | refine qE ?_ | refine qW ?_ | refine qM ?_); try simp -dsimp (maxSteps := 2000000) (disch := first | omega | (simp only [qZ] <;> omega) | fail) only [push_cast, ↓qP, ↓reduceIte, Nat.reduceEqDiff, Nat.reduceAdd, Nat.reduceMul, Nat.reduceSub, Nat.reduceLeDiff, Int.reduceToNat, reduceCtorEq]) | (refine qA ?_ ?_; (first | omega | (simp only [qL]; omega) | (simp only [qD] at *; omega))))
  rcases Bool.eq_false_or_eq_true (s.f == 0) with hb | hb
  · refine Wp.draw [0, 1, 3, 7, 15, 31, 63, 127, 255, 511, 63, 1087, 3135, 7231, 15423, 32767, 65535, 131071] [] (.op 0 false false [] <| .op 1 false false [] <| .op 2 false false [] <| .op 3 false false [] <| .op 4 false false [] <| .op 5 false false [] <| .op 6 false false [] <| .op 7 false false [] <| .op 8 false false [] <| .op 9 false false [] <| .op 10 false false [] <| .op 11 false false [] <| .op 12 false false [] <| .op 13 false false [] <| .op 14 false false [] <| .op 15 false false [] <| .op 16 false false [] <| .op 17 false false [] <| .nil) mixed (by kernel_rfl) ?_
    simp -dsimp (maxSteps := 2000000) (disch := first | omega | (simp only [qZ] <;> omega) | fail) only [push_cast, ↓qP, ↓reduceIte, Nat.reduceEqDiff, Nat.reduceAdd, Nat.reduceMul, Nat.reduceSub, Nat.reduceLeDiff, Int.reduceToNat, reduceCtorEq, h.rdc, hb]
    refine Sm.out ?_
    repeat (first | refine qS ?_ | refine qB ?_ | refine qT rfl ?_ | refine qF rfl ?_ | ((first | refine qR rfl ?_ | refine qK ?_ | refine qE ?_ | refine qW ?_ | refine qM ?_); try simp -dsimp (maxSteps := 2000000) (disch := first | omega | (simp only [qZ] <;> omega) | fail) only [push_cast, ↓qP, ↓reduceIte, Nat.reduceEqDiff, Nat.reduceAdd, Nat.reduceMul, Nat.reduceSub, Nat.reduceLeDiff, Int.reduceToNat, reduceCtorEq]) | (refine qA ?_ ?_; (first | omega | (simp only [qL]; omega) | (simp only [qD] at *; omega))))
    refine Ret.mk ⟨?_, rfl⟩
    simp [more3, hb]
  · refine Wp.draw [0, 1, 3, 7, 15, 31, 63, 127, 255, 511, 63, 1087, 3135, 7231, 15423, 32767, 65535, 131071] [] (.op 0 false false [] <| .op 1 false false [] <| .op 2 false false [] <| .op 3 false false [] <| .op 4 false false [] <| .op 5 false false [] <| .op 6 false false [] <| .op 7 false false [] <| .op 8 false false [] <| .op 9 false false [] <| .op 10 false false [] <| .op 11 false false [] <| .op 12 false false [] <| .op 13 false false [] <| .op 14 false false [] <| .op 15 false false [] <| .op 16 false false [] <| .op 17 false false [] <| .nil) mixed (by kernel_rfl) ?_
    simp -dsimp (maxSteps := 2000000) (disch := first | omega | (simp only [qZ] <;> omega) | fail) only [push_cast, ↓qP, ↓reduceIte, Nat.reduceEqDiff, Nat.reduceAdd, Nat.reduceMul, Nat.reduceSub, Nat.reduceLeDiff, Int.reduceToNat, reduceCtorEq, h.rdc, hb]
    refine Sm.out ?_
    repeat (first | refine qS ?_ | refine qB ?_ | refine qT rfl ?_ | refine qF rfl ?_ | ((first | refine qR rfl ?_ | refine qK ?_ | refine qE ?_ | refine qW ?_ | refine qM ?_); try simp -dsimp (maxSteps := 2000000) (disch := first | omega | (simp only [qZ] <;> omega) | fail) only [push_cast, ↓qP, ↓reduceIte, Nat.reduceEqDiff, Nat.reduceAdd, Nat.reduceMul, Nat.reduceSub, Nat.reduceLeDiff, Int.reduceToNat, reduceCtorEq]) | (refine qA ?_ ?_; (first | omega | (simp only [qL]; omega) | (simp only [qD] at *; omega))))
    refine Ret.mk ⟨?_, rfl⟩
    simp [more3, hb]

theorem peek3 (h : At3 w a l s) (hi : s.i < l.length) : Calls Try.prog 72 #[.pointer (some ⟨a, 0, none⟩)] w fun e w' => e = .returned (.int .u8 ((byteAt l s.i).toNat : Int)) ∧ w.drew = w' := by
  have hlt := h.lt
  refine enter (n := 12) (args := [.pointer (some ⟨a, 0, none⟩)]) Try.func72 rfl rfl rfl (by simp) ?_
  repeat (first | refine qS ?_ | refine qB ?_ | refine qT rfl ?_ | refine qF rfl ?_ | ((first | refine qR rfl ?_ | refine qK ?_ | refine qE ?_ | refine qW ?_ | refine qM ?_); try simp -dsimp (maxSteps := 2000000) (disch := first | omega | (simp only [qZ] <;> omega) | fail) only [push_cast, ↓qP, ↓reduceIte, Nat.reduceEqDiff, Nat.reduceAdd, Nat.reduceMul, Nat.reduceSub, Nat.reduceLeDiff, Int.reduceToNat, reduceCtorEq]) | (refine qA ?_ ?_; (first | omega | (simp only [qL]; omega) | (simp only [qD] at *; omega))))
  refine Wp.draw [0, 1, 3, 7, 0, 16, 48, 112, 255, 511] [] (.op 0 false false [] <| .op 1 false false [] <| .op 2 false false [] <| .op 3 false false [] <| .op 4 false false [] <| .op 5 false false [] <| .op 6 false false [] <| .op 7 false false [] <| .op 8 false false [] <| .op 9 false false [] <| .nil) mixed (by kernel_rfl) ?_
  simp -dsimp (maxSteps := 2000000) (disch := first | omega | (simp only [qZ] <;> omega) | fail) only [push_cast, ↓qP, ↓reduceIte, Nat.reduceEqDiff, Nat.reduceAdd, Nat.reduceMul, Nat.reduceSub, Nat.reduceLeDiff, Int.reduceToNat, reduceCtorEq, h.rdc]
  refine ⟨by omega, ?_⟩
  refine Sm.out ?_
  repeat (first | refine qS ?_ | refine qB ?_ | refine qT rfl ?_ | refine qF rfl ?_ | ((first | refine qR rfl ?_ | refine qK ?_ | refine qE ?_ | refine qW ?_ | refine qM ?_); try simp -dsimp (maxSteps := 2000000) (disch := first | omega | (simp only [qZ] <;> omega) | fail) only [push_cast, ↓qP, ↓reduceIte, Nat.reduceEqDiff, Nat.reduceAdd, Nat.reduceMul, Nat.reduceSub, Nat.reduceLeDiff, Int.reduceToNat, reduceCtorEq]) | (refine qA ?_ ?_; (first | omega | (simp only [qL]; omega) | (simp only [qD] at *; omega))))
  exact Ret.mk ⟨rfl, rfl⟩

/-- Is a byte of a class? -/
theorem in3_any (n : List UInt8) (c : Int) (w : World) : Calls Try.prog 108 #[.string (B n), .int .i64 c] w fun e w' => e = .returned (.tuple #[.bool (in3 n c).1, .bool (in3 n c).2]) ∧ w = w' := by
  refine enter (n := 135) (args := [.string (B n), .int .i64 c]) Try.func108 rfl rfl rfl (by simp) ?_
  refine Wp.seq (Wp.region rfl ?_)
  simp -dsimp (maxSteps := 2000000) (disch := first | omega | (simp only [qZ] <;> omega) | fail) only [push_cast, ↓qP, ↓reduceIte, Nat.reduceEqDiff, Nat.reduceAdd, Nat.reduceMul, Nat.reduceSub, Nat.reduceLeDiff, Int.reduceToNat, reduceCtorEq]
  refine Wp.cut (fun F' w' => w = w' ∧ F' 0 = .string (B n) ∧ F' 1 = .int .i64 c ∧ F' 6 = .bool (up3 c)) ?_ ?_
  · repeat' (first | refine qS ?_ | refine qB ?_ | refine qT rfl ?_ | refine qF rfl ?_ | ((first | refine qR rfl ?_ | refine qK ?_ | refine qE ?_ | refine qW ?_ | refine qM ?_); try simp -dsimp (maxSteps := 2000000) (disch := first | omega | (simp only [qZ] <;> omega) | fail) only [push_cast, ↓qP, ↓reduceIte, Nat.reduceEqDiff, Nat.reduceAdd, Nat.reduceMul, Nat.reduceSub, Nat.reduceLeDiff, Int.reduceToNat, reduceCtorEq]) | ((refine gsel.mk (fun hg => ?_) (fun hg => ?_)) <;> try simp -dsimp (maxSteps := 2000000) (disch := first | omega | (simp only [qZ] <;> omega) | fail) only [push_cast, ↓qP, ↓reduceIte, Nat.reduceEqDiff, Nat.reduceAdd, Nat.reduceMul, Nat.reduceSub, Nat.reduceLeDiff, Int.reduceToNat, reduceCtorEq, *]) | refine Wp.cond rfl (fun hg => ?_) (fun hg => ?_) | (refine qA ?_ ?_; (first | omega | (simp only [qL]; omega) | (simp only [qD] at *; omega))))
    all_goals refine Mid.mk ⟨rfl, ?_, ?_, ?_⟩
    all_goals first | rfl | (simp [upd, up3, *]; done) | skip
  rintro F _ ⟨rfl, f0, f1, f6⟩
  refine Wp.cut (fun F' w' => w = w' ∧ F' 0 = .string (B n) ∧ F' 1 = .int .i64 c ∧ F' 6 = .bool (up3 c) ∧ F' 7 = .bool (low3 c)) ?_ ?_
  · repeat' (first | refine qS ?_ | refine qB ?_ | refine qT rfl ?_ | refine qF rfl ?_ | ((first | refine qR rfl ?_ | refine qK ?_ | refine qE ?_ | refine qW ?_ | refine qM ?_); try simp -dsimp (maxSteps := 2000000) (disch := first | omega | (simp only [qZ] <;> omega) | fail) only [push_cast, ↓qP, ↓reduceIte, Nat.reduceEqDiff, Nat.reduceAdd, Nat.reduceMul, Nat.reduceSub, Nat.reduceLeDiff, Int.reduceToNat, reduceCtorEq, f0, f1, f6]) | ((refine gsel.mk (fun hg => ?_) (fun hg => ?_)) <;> try simp -dsimp (maxSteps := 2000000) (disch := first | omega | (simp only [qZ] <;> omega) | fail) only [push_cast, ↓qP, ↓reduceIte, Nat.reduceEqDiff, Nat.reduceAdd, Nat.reduceMul, Nat.reduceSub, Nat.reduceLeDiff, Int.reduceToNat, reduceCtorEq, f0, f1, f6, *]) | refine Wp.cond rfl (fun hg => ?_) (fun hg => ?_) | (refine qA ?_ ?_; (first | omega | (simp only [qL]; omega) | (simp only [qD] at *; omega))))
    all_goals refine Mid.mk ⟨rfl, ?_, ?_, ?_, ?_⟩
    all_goals first | rfl | (simp [upd, low3, *]; done) | skip
  rintro F _ ⟨rfl, f0, f1, f6, f7⟩
  refine Wp.cut (fun F' w' => w = w' ∧ F' 0 = .string (B n) ∧ F' 1 = .int .i64 c ∧ F' 6 = .bool (up3 c) ∧ F' 7 = .bool (low3 c) ∧ F' 8 = .bool (dig3 c)) ?_ ?_
  · repeat' (first | refine qS ?_ | refine qB ?_ | refine qT rfl ?_ | refine qF rfl ?_ | ((first | refine qR rfl ?_ | refine qK ?_ | refine qE ?_ | refine qW ?_ | refine qM ?_); try simp -dsimp (maxSteps := 2000000) (disch := first | omega | (simp only [qZ] <;> omega) | fail) only [push_cast, ↓qP, ↓reduceIte, Nat.reduceEqDiff, Nat.reduceAdd, Nat.reduceMul, Nat.reduceSub, Nat.reduceLeDiff, Int.reduceToNat, reduceCtorEq, f0, f1, f6, f7]) | ((refine gsel.mk (fun hg => ?_) (fun hg => ?_)) <;> try simp -dsimp (maxSteps := 2000000) (disch := first | omega | (simp only [qZ] <;> omega) | fail) only [push_cast, ↓qP, ↓reduceIte, Nat.reduceEqDiff, Nat.reduceAdd, Nat.reduceMul, Nat.reduceSub, Nat.reduceLeDiff, Int.reduceToNat, reduceCtorEq, f0, f1, f6, f7, *]) | refine Wp.cond rfl (fun hg => ?_) (fun hg => ?_) | (refine qA ?_ ?_; (first | omega | (simp only [qL]; omega) | (simp only [qD] at *; omega))))
    all_goals refine Mid.mk ⟨rfl, ?_, ?_, ?_, ?_, ?_⟩
    all_goals first | rfl | (simp [upd, dig3, *]; done) | skip
  rintro F _ ⟨rfl, f0, f1, f6, f7, f8⟩
  generalize hu : up3 c = u at *
  generalize hlw : low3 c = lw at *
  generalize hdg : dig3 c = dg at *
  repeat' (first | refine qS ?_ | refine qB ?_ | refine qT rfl ?_ | refine qF rfl ?_ | ((first | refine qR rfl ?_ | refine qK ?_ | refine qE ?_ | refine qW ?_ | refine qM ?_); try simp -dsimp (maxSteps := 2000000) (disch := first | omega | (simp only [qZ] <;> omega) | fail) only [push_cast, ↓qP, ↓reduceIte, Nat.reduceEqDiff, Nat.reduceAdd, Nat.reduceMul, Nat.reduceSub, Nat.reduceLeDiff, Int.reduceToNat, reduceCtorEq, f0, f1, f6, f7, f8]) | ((refine gsel.mk (fun hg => ?_) (fun hg => ?_)) <;> try simp -dsimp (maxSteps := 2000000) (disch := first | omega | (simp only [qZ] <;> omega) | fail) only [push_cast, ↓qP, ↓reduceIte, Nat.reduceEqDiff, Nat.reduceAdd, Nat.reduceMul, Nat.reduceSub, Nat.reduceLeDiff, Int.reduceToNat, reduceCtorEq, f0, f1, f6, f7, f8, *]) | refine Wp.cond rfl (fun hg => ?_) (fun hg => ?_) | (refine qA ?_ ?_; (first | omega | (simp only [qL]; omega) | (simp only [qD] at *; omega))))
  all_goals refine Ret.mk ⟨?_, rfl⟩
  all_goals (simp_all [in3, nAlpha, nDigit, nAlnum, nUpper, nLower, nSpace, nBlank, nPunct, nPrint, nGraph, nCntrl, nXdigit] <;> (first | omega | (intros; omega) | (intros; exfalso; omega)))
end
end Go.Proofs.Ytddichibegppjaa

/- The reference's reader of expressions: escapes, numbers. -/
namespace Go.Proofs.Ytddichibegppjaa
open Go Go.VC

theorem digs_iff (a b c : UInt8) : digs a b c = true ↔ a.toNat ≤ c.toNat ∧ c.toNat ≤ b.toNat := by simp [digs]

theorem more3_iff (l : List UInt8) (s : S3) : more3 l s = true ↔ s.f = 0 ∧ s.i < l.length := by simp [more3]
theorem digs_ge {a b c : UInt8} (h : digs a b c = true) : decide ((c.toNat : Int) ≥ (a.toNat : Int)) = true ∧ decide ((c.toNat : Int) ≤ (b.toNat : Int)) = true := by
  rw [digs_iff] at h; simp; omega

theorem u8_eq' (a b : UInt8) : ((a.toNat : Int) == (b.toNat : Int)) = (a == b) := by
  rw [Bool.eq_iff_iff]; simp [← UInt8.toNat_inj]; omega

theorem oct_wrap (n : Nat) : IntKind.u8.wrap ((n : Int).tmod 256) = ((UInt8.ofNat (n % 256)).toNat : Int) := by
  have h : (n : Int).tmod 256 = ((n % 256 : Nat) : Int) := by rw [Int.tmod_eq_emod_of_nonneg (by omega)]; omega
  rw [h, wrap_u8 (by omega)]
  simp

theorem S3.ext' {s t : S3} (h1 : t.f = s.f) (h2 : t.d = s.d) : ({ s with i := t.i } : S3) = t := by cases t; cases s; simp_all

section
variable {a : Nat} {l : List UInt8} {s : S3} {w : World}

set_option maxHeartbeats 4000000 in
theorem escape3_any (h : At3 w a l s) (hl : l.length ≤ 1000000) (hi : s.i ≤ 2000000) :
    Calls Try.prog 95 #[.pointer (some ⟨a, 0, none⟩)] w fun e w' => e = .returned (by8 (escape3 l s).1) ∧ At3 w' a l (escape3 l s).2 ∧ Kp (· = a) w w' := by
  have hlt := h.lt
  refine enter (n := 113) (args := [.pointer (some ⟨a, 0, none⟩)]) Try.func95 rfl rfl rfl (by simp) ?_
  repeat (first | refine qS ?_ | refine qB ?_ | refine qT rfl ?_ | refine qF rfl ?_ | ((first | refine qR rfl ?_ | refine qK ?_ | refine qE ?_ | refine qW ?_ | refine qM ?_); try simp -dsimp (maxSteps := 2000000) (disch := first | omega | (simp only [qZ] <;> omega) | fail) only [push_cast, ↓qP, ↓reduceIte, Nat.reduceEqDiff, Nat.reduceAdd, Nat.reduceMul, Nat.reduceSub, Nat.reduceLeDiff, Int.reduceToNat, reduceCtorEq, h.rdc, h.fz]) | (refine qA ?_ ?_; (first | omega | (simp only [qL]; omega) | (simp only [qD] at *; omega))))
  have h1 : At3 (w.setCell ⟨a, 1, none⟩ (.int .i64 ((s.i : Int) + 1))) a l s.on := h.set 1 _
  have k1 : Kp (· = a) w (w.setCell ⟨a, 1, none⟩ (.int .i64 ((s.i : Int) + 1))) := (Kp.refl (· = a) w).setCell (fun _ => rfl) _
  generalize (w.setCell ⟨a, 1, none⟩ (.int .i64 ((s.i : Int) + 1))) = w1 at *
  refine CallV.of isCall_71 (more3_any h1) ?_
  rintro _ _ ⟨rfl, rfl⟩
  rcases Bool.eq_false_or_eq_true (more3 l s.on) with hm | hm
  · obtain ⟨hf0, hlt1⟩ := (more3_iff l s.on).1 hm
    have hsi : s.on.i = s.i + 1 := rfl
    rw [hsi] at hlt1
    refine Sm.out ?_
    repeat (first | refine qS ?_ | refine qB ?_ | refine qT rfl ?_ | refine qF rfl ?_ | ((first | refine qR rfl ?_ | refine qK ?_ | refine qE ?_ | refine qW ?_ | refine qM ?_); try simp -dsimp (maxSteps := 2000000) (disch := first | omega | (simp only [qZ] <;> omega) | fail) only [push_cast, ↓qP, ↓reduceIte, Nat.reduceEqDiff, Nat.reduceAdd, Nat.reduceMul, Nat.reduceSub, Nat.reduceLeDiff, Int.reduceToNat, reduceCtorEq, hm]) | (refine qA ?_ ?_; (first | omega | (simp only [qL]; omega) | (simp only [qD] at *; omega))))
    refine CallV.of isCall_72 (peek3 h1.drew (by rw [hsi]; omega)) ?_
    rintro _ _ ⟨rfl, rfl⟩
    rw [hsi]
    have he : escape3 l s = if digs 48 55 (byteAt l (s.i + 1)) then (UInt8.ofNat ((oct3 l 3 (s.i + 1) 0).1 % 256), { s with i := (oct3 l 3 (s.i + 1) 0).2 }) else (escMap (byteAt l (s.i + 1)), s.on 2) := by
      unfold escape3; rw [if_pos hm]
    have h2 : At3 w1.drew.drew a l s.on := h1.drew.drew
    have k2 : Kp (· = a) w w1.drew.drew := k1.drew.drew
    have hlt2 := h2.lt
    generalize w1.drew.drew = w2 at *
    by_cases hd : digs 48 55 (byteAt l (s.i + 1)) = true
    · rw [if_pos hd] at he
      obtain ⟨d1, d2⟩ := digs_ge hd
      have d1' : decide (((byteAt l (s.i + 1)).toNat : Int) ≥ 48) = true := d1
      have d2' : decide (((byteAt l (s.i + 1)).toNat : Int) ≤ 55) = true := d2
      refine Sm.out ?_
      repeat (first | refine qS ?_ | refine qB ?_ | refine qT rfl ?_ | refine qF rfl ?_ | ((first | refine qR rfl ?_ | refine qK ?_ | refine qE ?_ | refine qW ?_ | refine qM ?_); try simp -dsimp (maxSteps := 2000000) (disch := first | omega | (simp only [qZ] <;> omega) | fail) only [push_cast, ↓qP, ↓reduceIte, Nat.reduceEqDiff, Nat.reduceAdd, Nat.reduceMul, Nat.reduceSub, Nat.reduceLeDiff, Int.reduceToNat, reduceCtorEq, d1', d2']) | (refine qA ?_ ?_; (first | omega | (simp only [qL]; omega) | (simp only [qD] at *; omega))))
      refine Wp.loop (α := Nat) (fun k F w3 => ∃ (t : S3) (n : Nat), F 0 = .pointer (some ⟨a, 0, none⟩) ∧ F 5 = .int .i64 k ∧ F 4 = .int .i64 n ∧ At3 w3 a l t ∧ Kp (· = a) w w3 ∧ k ≤ 3 ∧ t.i ≤ s.i + 1 + k ∧ n < 8 ^ k ∧ Hide (t.f = s.f ∧ t.d = s.d) ∧ Hide (oct3 l (3 - k) t.i n = oct3 l 3 (s.i + 1) 0)) (fun k => 3 - k) 0
        ⟨s.on, 0, ?_, ?_, ?_, h2, k2, by omega, by rw [hsi]; omega, by decide, ⟨rfl, rfl⟩, ⟨rfl⟩⟩ ?_
      · simp -dsimp (maxSteps := 2000000) (disch := first | omega | (simp only [qZ] <;> omega) | fail) only [push_cast, ↓qP, ↓reduceIte, Nat.reduceEqDiff, Nat.reduceAdd, Nat.reduceMul, Nat.reduceSub, Nat.reduceLeDiff, Int.reduceToNat, reduceCtorEq]
      · simp -dsimp (maxSteps := 2000000) (disch := first | omega | (simp only [qZ] <;> omega) | fail) only [push_cast, ↓qP, ↓reduceIte, Nat.reduceEqDiff, Nat.reduceAdd, Nat.reduceMul, Nat.reduceSub, Nat.reduceLeDiff, Int.reduceToNat, reduceCtorEq]
      · simp -dsimp (maxSteps := 2000000) (disch := first | omega | (simp only [qZ] <;> omega) | fail) only [push_cast, ↓qP, ↓reduceIte, Nat.reduceEqDiff, Nat.reduceAdd, Nat.reduceMul, Nat.reduceSub, Nat.reduceLeDiff, Int.reduceToNat, reduceCtorEq]
      rintro k F w3 ⟨t, n, f0, f5, f4, h3, k3, hk, hi3, hn', hfd, hoct⟩
      have hlt3 := h3.lt
      have hn : n < 512 := Nat.lt_of_lt_of_le hn' (Nat.pow_le_pow_right (by omega) hk : 8 ^ k ≤ 8 ^ 3)
      have hnk : Hide (n < 8 ^ k) := ⟨hn'⟩
      clear hn'
      replace he : Hide (escape3 l s = _) := ⟨he⟩
      by_cases hgo : k < 3 ∧ t.i < l.length ∧ digs 48 55 (byteAt l t.i) = true
      · obtain ⟨g1, g2, g3⟩ := hgo
        have g1' : decide ((k : Int) < 3) = true := by simp; omega
        have g2' : decide ((t.i : Int) < (l.length : Int)) = true := by simp; omega
        obtain ⟨c1, c2⟩ := digs_ge g3
        have c1' : decide (((byteAt l t.i).toNat : Int) ≥ 48) = true := c1
        have c2' : decide (((byteAt l t.i).toNat : Int) ≤ 55) = true := c2
        repeat (first | refine qS ?_ | refine qB ?_ | refine qT rfl ?_ | refine qF rfl ?_ | ((first | refine qR rfl ?_ | refine qK ?_ | refine qE ?_ | refine qW ?_ | refine qM ?_); try simp -dsimp (maxSteps := 2000000) (disch := first | omega | (simp only [qZ] <;> omega) | fail) only [push_cast, ↓qP, ↓reduceIte, Nat.reduceEqDiff, Nat.reduceAdd, Nat.reduceMul, Nat.reduceSub, Nat.reduceLeDiff, Int.reduceToNat, reduceCtorEq]) | (refine qA ?_ ?_; (first | omega | (simp only [qL]; omega) | (simp only [qD] at *; omega))))
        obtain ⟨c3, c4⟩ := (digs_iff _ _ _).1 g3
        change 48 ≤ (l.getD t.i 0).toNat at c3
        change (l.getD t.i 0).toNat ≤ 55 at c4
        have hstep : oct3 l (3 - k) t.i n = oct3 l (3 - (k + 1)) (t.i + 1) (8 * n + ((byteAt l t.i).toNat - 48)) := by
          rw [show 3 - k = (3 - (k + 1)) + 1 by omega]
          simp only [oct3]
          rw [if_pos (by rw [g3]; simp [g2])]
        replace hstep : Hide (oct3 l (3 - (k + 1)) (t.i + 1) (8 * n + ((byteAt l t.i).toNat - 48)) = oct3 l 3 (s.i + 1) 0) := ⟨by rw [← hstep]; exact hoct.out⟩
        refine Wp.draw [0, 1, 3, 7, 15, 31, 63, 7, 135, 391, 903, 1927, 4095, 8191, 16383, 32767, 65535, 131071, 262143, 32767, 557055, 1605631, 3702783, 8388607, 16777215, 33554431, 67108863, 134217727, 268435455, 536870911, 1073741823, 134217727, 2281701375, 6576668671, 15166603263, 34359738367, 68719476735, 137438953471] [] (.op 0 false false [] <| .op 1 false false [] <| .op 2 false false [] <| .op 3 false false [] <| .op 4 false false [] <| .op 5 false false [] <| .op 6 false false [] <| .op 7 false false [] <| .op 8 false false [] <| .op 9 false false [] <| .op 10 false false [] <| .op 11 false false [] <| .op 12 false false [] <| .op 13 false false [] <| .op 14 false false [] <| .op 15 false false [] <| .op 16 false false [] <| .op 17 false false [] <| .op 18 false false [] <| .op 19 false false [] <| .op 20 false false [] <| .op 21 false false [] <| .op 22 false false [] <| .op 23 false false [] <| .op 24 false false [] <| .op 25 false false [] <| .op 26 false false [] <| .op 27 false false [] <| .op 28 false false [] <| .op 29 false false [] <| .op 30 false false [] <| .op 31 false false [] <| .op 32 false false [] <| .op 33 false false [] <| .op 34 false false [] <| .op 35 false false [] <| .op 36 false false [] <| .op 37 false false [] <| .nil) mixed (by kernel_rfl) ?_
        simp -dsimp (maxSteps := 2000000) (disch := first | omega | (simp only [qZ] <;> omega) | fail) only [push_cast, ↓qP, ↓reduceIte, Nat.reduceEqDiff, Nat.reduceAdd, Nat.reduceMul, Nat.reduceSub, Nat.reduceLeDiff, Int.reduceToNat, reduceCtorEq, f0, f5, f4, h3.rdc, g1', g2', c1', c2']
        refine ⟨by omega, by omega, ?_⟩
        refine Sm.out ?_
        repeat (first | refine qS ?_ | refine qB ?_ | refine qT rfl ?_ | refine qF rfl ?_ | ((first | refine qR rfl ?_ | refine qK ?_ | refine qE ?_ | refine qW ?_ | refine qM ?_); try simp -dsimp (maxSteps := 2000000) (disch := first | omega | (simp only [qZ] <;> omega) | fail) only [push_cast, ↓qP, ↓reduceIte, Nat.reduceEqDiff, Nat.reduceAdd, Nat.reduceMul, Nat.reduceSub, Nat.reduceLeDiff, Int.reduceToNat, reduceCtorEq, f0, f5, f4]) | (refine qA ?_ ?_; (first | omega | (simp only [qL]; omega) | (simp only [qD] at *; omega))))
        refine Wp.draw [0, 1, 0, 4, 12, 28, 0, 64, 192, 448, 1020, 2044, 4092, 8191, 16383] [] (.op 0 false false [] <| .op 1 false false [] <| .op 2 false false [] <| .op 3 false false [] <| .op 4 false false [] <| .op 5 false false [] <| .op 6 false false [] <| .op 7 false false [] <| .op 8 false false [] <| .op 9 false false [] <| .op 10 false false [] <| .op 11 false false [] <| .op 12 false false [] <| .op 13 false false [] <| .op 14 false false [] <| .nil) mixed (by kernel_rfl) ?_
        simp -dsimp (maxSteps := 2000000) (disch := first | omega | (simp only [qZ] <;> omega) | fail) only [push_cast, ↓qP, ↓reduceIte, Nat.reduceEqDiff, Nat.reduceAdd, Nat.reduceMul, Nat.reduceSub, Nat.reduceLeDiff, Int.reduceToNat, reduceCtorEq, f0, f5, f4, h3.rdc]
        refine ⟨by omega, ?_⟩
        refine Sm.out ?_
        repeat (first | refine qS ?_ | refine qB ?_ | refine qT rfl ?_ | refine qF rfl ?_ | ((first | refine qR rfl ?_ | refine qK ?_ | refine qE ?_ | refine qW ?_ | refine qM ?_); try simp -dsimp (maxSteps := 2000000) (disch := first | omega | (simp only [qZ] <;> omega) | fail) only [push_cast, ↓qP, ↓reduceIte, Nat.reduceEqDiff, Nat.reduceAdd, Nat.reduceMul, Nat.reduceSub, Nat.reduceLeDiff, Int.reduceToNat, reduceCtorEq, f0, f5, f4, h3.rdc, h3.fz]) | (refine qA ?_ ?_; (first | omega | (simp only [qL]; omega) | (simp only [qD] at *; omega))))
        have h4 := h3.drew.drew.set 1 (.int .i64 ((t.i : Int) + 1))
        refine Again.mk (k + 1) ⟨t.on, 8 * n + ((l.getD t.i 0).toNat - 48), ?_, ?_, ?_, h4, (k3.drew.drew).setCell (fun _ => rfl) _, by omega, by show t.i + 1 ≤ _; omega, ?_, hfd, hstep⟩ (by omega)
        · simp -dsimp (maxSteps := 2000000) (disch := first | omega | (simp only [qZ] <;> omega) | fail) only [push_cast, ↓qP, ↓reduceIte, Nat.reduceEqDiff, Nat.reduceAdd, Nat.reduceMul, Nat.reduceSub, Nat.reduceLeDiff, Int.reduceToNat, reduceCtorEq, f0]
        · simp -dsimp (maxSteps := 2000000) (disch := first | omega | (simp only [qZ] <;> omega) | fail) only [push_cast, ↓qP, ↓reduceIte, Nat.reduceEqDiff, Nat.reduceAdd, Nat.reduceMul, Nat.reduceSub, Nat.reduceLeDiff, Int.reduceToNat, reduceCtorEq, f5]
        · simp -dsimp (maxSteps := 2000000) (disch := first | omega | (simp only [qZ] <;> omega) | fail) only [push_cast, ↓qP, ↓reduceIte, Nat.reduceEqDiff, Nat.reduceAdd, Nat.reduceMul, Nat.reduceSub, Nat.reduceLeDiff, Int.reduceToNat, reduceCtorEq, f4]
          congr 1
        · have := hnk.out
          rw [Nat.pow_succ]
          omega
      · have hout : oct3 l (3 - k) t.i n = (n, t.i) := by
          have : 3 - k = 0 ∨ ∃ m, 3 - k = m + 1 := by cases 3 - k <;> simp
          rcases this with e | ⟨m, e⟩
          · rw [e]; rfl
          · rw [e]; simp only [oct3]; rw [if_neg]; simp; intro h4; simpa using fun h5 => hgo ⟨by omega, h4, h5⟩
        have hoct' := hoct.out
        rw [hout] at hoct'
        have he' := he.out
        rw [← hoct'] at he'
        replace he' : Hide (escape3 l s = _) := ⟨he'⟩
        clear hoct' he hoct hout
        replace hgo : Hide _ := ⟨hgo⟩
        repeat (first | refine qS ?_ | refine qB ?_ | refine qT rfl ?_ | refine qF rfl ?_ | ((first | refine qR rfl ?_ | refine qK ?_ | refine qE ?_ | refine qW ?_ | refine qM ?_); try simp -dsimp (maxSteps := 2000000) (disch := first | omega | (simp only [qZ] <;> omega) | fail) only [push_cast, ↓qP, ↓reduceIte, Nat.reduceEqDiff, Nat.reduceAdd, Nat.reduceMul, Nat.reduceSub, Nat.reduceLeDiff, Int.reduceToNat, reduceCtorEq]) | (refine qA ?_ ?_; (first | omega | (simp only [qL]; omega) | (simp only [qD] at *; omega))))
        refine Wp.draw [0, 1, 3, 7, 15, 31, 63, 7, 135, 391, 903, 1927, 4095, 8191, 16383, 32767, 65535, 131071, 262143, 32767, 557055, 1605631, 3702783, 8388607, 16777215, 33554431, 67108863, 134217727, 268435455, 536870911, 1073741823, 134217727, 2281701375, 6576668671, 15166603263, 34359738367, 68719476735, 137438953471] [] (.op 0 false false [] <| .op 1 false false [] <| .op 2 false false [] <| .op 3 false false [] <| .op 4 false false [] <| .op 5 false false [] <| .op 6 false false [] <| .op 7 false false [] <| .op 8 false false [] <| .op 9 false false [] <| .op 10 false false [] <| .op 11 false false [] <| .op 12 false false [] <| .op 13 false false [] <| .op 14 false false [] <| .op 15 false false [] <| .op 16 false false [] <| .op 17 false false [] <| .op 18 false false [] <| .op 19 false false [] <| .op 20 false false [] <| .op 21 false false [] <| .op 22 false false [] <| .op 23 false false [] <| .op 24 false false [] <| .op 25 false false [] <| .op 26 false false [] <| .op 27 false false [] <| .op 28 false false [] <| .op 29 false false [] <| .op 30 false false [] <| .op 31 false false [] <| .op 32 false false [] <| .op 33 false false [] <| .op 34 false false [] <| .op 35 false false [] <| .op 36 false false [] <| .op 37 false false [] <| .nil) mixed (by kernel_rfl) ?_
        simp -dsimp (maxSteps := 2000000) (disch := first | omega | (simp only [qZ] <;> omega) | fail) only [push_cast, ↓qP, ↓reduceIte, Nat.reduceEqDiff, Nat.reduceAdd, Nat.reduceMul, Nat.reduceSub, Nat.reduceLeDiff, Int.reduceToNat, reduceCtorEq, f0, f5, f4, h3.rdc, h3.fz]
        repeat' (first | refine qS ?_ | refine qB ?_ | refine qT rfl ?_ | refine qF rfl ?_ | ((first | refine qR rfl ?_ | refine qK ?_ | refine qE ?_ | refine qW ?_ | refine qM ?_); try simp -dsimp (maxSteps := 2000000) (disch := first | omega | (simp only [qZ] <;> omega) | fail) only [push_cast, ↓qP, ↓reduceIte, Nat.reduceEqDiff, Nat.reduceAdd, Nat.reduceMul, Nat.reduceSub, Nat.reduceLeDiff, Int.reduceToNat, reduceCtorEq, f0, f5, f4, h3.rdc, h3.fz]) | ((refine gsel.mk (fun hg => ?_) (fun hg => ?_)) <;> try simp -dsimp (maxSteps := 2000000) (disch := first | omega | (simp only [qZ] <;> omega) | fail) only [push_cast, ↓qP, ↓reduceIte, Nat.reduceEqDiff, Nat.reduceAdd, Nat.reduceMul, Nat.reduceSub, Nat.reduceLeDiff, Int.reduceToNat, reduceCtorEq, f0, f5, f4, h3.rdc, h3.fz, *]) | refine Wp.cond rfl (fun hg => ?_) (fun hg => ?_) | (refine qA ?_ ?_; (first | omega | (simp only [qL]; omega) | (simp only [qD] at *; omega))))
        all_goals first
          | (exfalso; have hgo' := hgo.out; simp only [decide_eq_true_eq] at *; exact hgo' ⟨by omega, by omega, (digs_iff _ _ _).2 ⟨by show 48 ≤ (l.getD t.i 0).toNat; omega, by show (l.getD t.i 0).toNat ≤ 55; omega⟩⟩)
          | skip
        all_goals
          have hts := S3.ext' hfd.out.1 hfd.out.2
          have hee := he'.out
          rw [hts] at hee
          rw [hee]
          refine Ret.mk ⟨?_, h3.drew, k3.drew⟩
          rw [oct_wrap]
          rfl
    · rw [if_neg hd] at he
      rw [he]
      have hes : byteAt l s.on.i = byteAt l (s.i + 1) := rfl
      generalize byteAt l (s.i + 1) = c at *
      have hd' : digs 48 55 c = false := by simpa using hd
      have e0 : ∀ c u : UInt8, (c == u) = ((c.toNat : Int) == (u.toNat : Int)) := fun c u => (u8_eq' c u).symm
      repeat' (first | refine qS ?_ | refine qB ?_ | refine qT rfl ?_ | refine qF rfl ?_ | ((first | refine qR rfl ?_ | refine qK ?_ | refine qE ?_ | refine qW ?_ | refine qM ?_); try simp -dsimp (maxSteps := 2000000) (disch := first | omega | (simp only [qZ] <;> omega) | fail) only [push_cast, ↓qP, ↓reduceIte, Nat.reduceEqDiff, Nat.reduceAdd, Nat.reduceMul, Nat.reduceSub, Nat.reduceLeDiff, Int.reduceToNat, reduceCtorEq, h2.rdc, h2.fz]) | ((refine gsel.mk (fun hg => ?_) (fun hg => ?_)) <;> try simp -dsimp (maxSteps := 2000000) (disch := first | omega | (simp only [qZ] <;> omega) | fail) only [push_cast, ↓qP, ↓reduceIte, Nat.reduceEqDiff, Nat.reduceAdd, Nat.reduceMul, Nat.reduceSub, Nat.reduceLeDiff, Int.reduceToNat, reduceCtorEq, h2.rdc, h2.fz, *]) | refine Wp.cond rfl (fun hg => ?_) (fun hg => ?_) | (refine qA ?_ ?_; (first | omega | (simp only [qL]; omega) | (simp only [qD] at *; omega))))
      all_goals first
        | (refine Ret.mk ⟨?_, h2.set 1 (.int .i64 ((s.on.i : Int) + 1)), k2.setCell (fun _ => rfl) _⟩; simp_all [escMap, by8, e0]; done)
        | (exfalso; simp [digs] at hd'; simp only [decide_eq_true_eq] at *; omega)
  · refine Sm.out ?_
    repeat (first | refine qS ?_ | refine qB ?_ | refine qT rfl ?_ | refine qF rfl ?_ | ((first | refine qR rfl ?_ | refine qK ?_ | refine qE ?_ | refine qW ?_ | refine qM ?_); try simp -dsimp (maxSteps := 2000000) (disch := first | omega | (simp only [qZ] <;> omega) | fail) only [push_cast, ↓qP, ↓reduceIte, Nat.reduceEqDiff, Nat.reduceAdd, Nat.reduceMul, Nat.reduceSub, Nat.reduceLeDiff, Int.reduceToNat, reduceCtorEq, hm]) | (refine qA ?_ ?_; (first | omega | (simp only [qL]; omega) | (simp only [qD] at *; omega))))
    refine CallV.of isCall_50 (fail3 h1.drew 4) ?_
    rintro _ w2 ⟨rfl, h2, k2⟩
    refine Sm.out ?_
    repeat (first | refine qS ?_ | refine qB ?_ | refine qT rfl ?_ | refine qF rfl ?_ | ((first | refine qR rfl ?_ | refine qK ?_ | refine qE ?_ | refine qW ?_ | refine qM ?_); try simp -dsimp (maxSteps := 2000000) (disch := first | omega | (simp only [qZ] <;> omega) | fail) only [push_cast, ↓qP, ↓reduceIte, Nat.reduceEqDiff, Nat.reduceAdd, Nat.reduceMul, Nat.reduceSub, Nat.reduceLeDiff, Int.reduceToNat, reduceCtorEq]) | (refine qA ?_ ?_; (first | omega | (simp only [qL]; omega) | (simp only [qD] at *; omega))))
    have e : escape3 l s = (0, (s.on).fail 4) := by unfold escape3; rw [hm]; rfl
    rw [e]
    exact Ret.mk ⟨rfl, h2, k1.drew.trans k2⟩

theorem number3_any (h : At3 w a l s) (hl : l.length ≤ 1000000) (hi : s.i ≤ 2000000) :
    Calls Try.prog 92 #[.pointer (some ⟨a, 0, none⟩)] w fun e w' => e = .returned (.tuple #[.int .i64 (digit3 l s).1.1, .bool (digit3 l s).1.2]) ∧ At3 w' a l (digit3 l s).2 ∧ Kp (· = a) w w' := by
  have hlt := h.lt
  refine enter (n := 64) (args := [.pointer (some ⟨a, 0, none⟩)]) Try.func92 rfl rfl rfl (by simp) ?_
  repeat (first | refine qS ?_ | refine qB ?_ | refine qT rfl ?_ | refine qF rfl ?_ | ((first | refine qR rfl ?_ | refine qK ?_ | refine qE ?_ | refine qW ?_ | refine qM ?_); try simp -dsimp (maxSteps := 2000000) (disch := first | omega | (simp only [qZ] <;> omega) | fail) only [push_cast, ↓qP, ↓reduceIte, Nat.reduceEqDiff, Nat.reduceAdd, Nat.reduceMul, Nat.reduceSub, Nat.reduceLeDiff, Int.reduceToNat, reduceCtorEq, h.rdc]) | (refine qA ?_ ?_; (first | omega | (simp only [qL]; omega) | (simp only [qD] at *; omega))))
  refine Wp.loop (α := Nat) (fun k F w3 => ∃ (t : S3) (n : Int) (b : Bool), F 0 = .pointer (some ⟨a, 0, none⟩) ∧ F 4 = .int .i64 n ∧ F 5 = .bool b ∧ At3 w3 a l t ∧ Kp (· = a) w w3 ∧ k ≤ l.length ∧ t.i = s.i + k ∧ 0 ≤ n ∧ n ≤ 1000 ∧ Hide (t.f = s.f ∧ t.d = s.d) ∧ Hide (num3 l (l.length - k) t.i n b = num3 l l.length s.i 0 false)) (fun k => l.length - k) 0
    ⟨s, 0, false, ?_, ?_, ?_, h, Kp.refl _ _, by omega, by omega, by omega, by omega, ⟨rfl, rfl⟩, ⟨rfl⟩⟩ ?_
  · simp -dsimp (maxSteps := 2000000) (disch := first | omega | (simp only [qZ] <;> omega) | fail) only [push_cast, ↓qP, ↓reduceIte, Nat.reduceEqDiff, Nat.reduceAdd, Nat.reduceMul, Nat.reduceSub, Nat.reduceLeDiff, Int.reduceToNat, reduceCtorEq]
  · simp -dsimp (maxSteps := 2000000) (disch := first | omega | (simp only [qZ] <;> omega) | fail) only [push_cast, ↓qP, ↓reduceIte, Nat.reduceEqDiff, Nat.reduceAdd, Nat.reduceMul, Nat.reduceSub, Nat.reduceLeDiff, Int.reduceToNat, reduceCtorEq]
  · simp -dsimp (maxSteps := 2000000) (disch := first | omega | (simp only [qZ] <;> omega) | fail) only [push_cast, ↓qP, ↓reduceIte, Nat.reduceEqDiff, Nat.reduceAdd, Nat.reduceMul, Nat.reduceSub, Nat.reduceLeDiff, Int.reduceToNat, reduceCtorEq]
  rintro k F w3 ⟨t, n, b, f0, f4, f5, h3, k3, hk, hti, hn0, hn1, hfd, hnum⟩
  have hlt3 := h3.lt
  by_cases hgo : t.i < l.length ∧ digs 48 57 (byteAt l t.i) = true
  · obtain ⟨g2, g3⟩ := hgo
    have g2' : decide ((t.i : Int) < (l.length : Int)) = true := by simp; omega
    obtain ⟨c1, c2⟩ := digs_ge g3
    have c1' : decide (((byteAt l t.i).toNat : Int) ≥ 48) = true := c1
    have c2' : decide (((byteAt l t.i).toNat : Int) ≤ 57) = true := c2
    obtain ⟨c3, c4⟩ := (digs_iff _ _ _).1 g3
    change 48 ≤ (l.getD t.i 0).toNat at c3
    change (l.getD t.i 0).toNat ≤ 57 at c4
    have hstep : num3 l (l.length - k) t.i n b = num3 l (l.length - (k + 1)) (t.i + 1) (min (10 * n + ((byteAt l t.i).toNat - 48 : Int)) 1000) true := by
      rw [show l.length - k = (l.length - (k + 1)) + 1 by omega]
      simp only [num3]
      rw [if_pos (by rw [g3]; simp [g2])]
    replace hstep : Hide (num3 l (l.length - (k + 1)) (t.i + 1) (min (10 * n + ((byteAt l t.i).toNat - 48 : Int)) 1000) true = num3 l l.length s.i 0 false) := ⟨by rw [← hstep]; exact hnum.out⟩
    repeat (first | refine qS ?_ | refine qB ?_ | refine qT rfl ?_ | refine qF rfl ?_ | ((first | refine qR rfl ?_ | refine qK ?_ | refine qE ?_ | refine qW ?_ | refine qM ?_); try simp -dsimp (maxSteps := 2000000) (disch := first | omega | (simp only [qZ] <;> omega) | fail) only [push_cast, ↓qP, ↓reduceIte, Nat.reduceEqDiff, Nat.reduceAdd, Nat.reduceMul, Nat.reduceSub, Nat.reduceLeDiff, Int.reduceToNat, reduceCtorEq]) | (refine qA ?_ ?_; (first | omega | (simp only [qL]; omega) | (simp only [qD] at *; omega))))
    refine Wp.draw [0, 1, 3, 7, 0, 16, 48, 112, 240, 511, 1023, 2047, 4095, 8191, 16383, 2047, 34815, 100351, 231423, 524287, 1048575, 2097151, 4194303, 8388607, 16777215, 33554431, 67108863, 8388607, 142606335, 411041791, 947912703, 2147483647, 4294967295, 8589934591] [] (.op 0 false false [] <| .op 1 false false [] <| .op 2 false false [] <| .op 3 false false [] <| .op 4 false false [] <| .op 5 false false [] <| .op 6 false false [] <| .op 7 false false [] <| .op 8 false false [] <| .op 9 false false [] <| .op 10 false false [] <| .op 11 false false [] <| .op 12 false false [] <| .op 13 false false [] <| .op 14 false false [] <| .op 15 false false [] <| .op 16 false false [] <| .op 17 false false [] <| .op 18 false false [] <| .op 19 false false [] <| .op 20 false false [] <| .op 21 false false [] <| .op 22 false false [] <| .op 23 false false [] <| .op 24 false false [] <| .op 25 false false [] <| .op 26 false false [] <| .op 27 false false [] <| .op 28 false false [] <| .op 29 false false [] <| .op 30 false false [] <| .op 31 false false [] <| .op 32 false false [] <| .op 33 false false [] <| .nil) mixed (by kernel_rfl) ?_
    simp -dsimp (maxSteps := 2000000) (disch := first | omega | (simp only [qZ] <;> omega) | fail) only [push_cast, ↓qP, ↓reduceIte, Nat.reduceEqDiff, Nat.reduceAdd, Nat.reduceMul, Nat.reduceSub, Nat.reduceLeDiff, Int.reduceToNat, reduceCtorEq, f0, f4, f5, h3.rdc, g2', c1', c2']
    refine ⟨by omega, by omega, ?_⟩
    refine Sm.out ?_
    repeat (first | refine qS ?_ | refine qB ?_ | refine qT rfl ?_ | refine qF rfl ?_ | ((first | refine qR rfl ?_ | refine qK ?_ | refine qE ?_ | refine qW ?_ | refine qM ?_); try simp -dsimp (maxSteps := 2000000) (disch := first | omega | (simp only [qZ] <;> omega) | fail) only [push_cast, ↓qP, ↓reduceIte, Nat.reduceEqDiff, Nat.reduceAdd, Nat.reduceMul, Nat.reduceSub, Nat.reduceLeDiff, Int.reduceToNat, reduceCtorEq, f0, f4, f5]) | (refine qA ?_ ?_; (first | omega | (simp only [qL]; omega) | (simp only [qD] at *; omega))))
    refine Wp.draw [0, 1, 0, 4, 12, 28, 0, 64, 192, 448, 1020, 2044, 4092, 8191, 16383, 32767] [] (.op 0 false false [] <| .op 1 false false [] <| .op 2 false false [] <| .op 3 false false [] <| .op 4 false false [] <| .op 5 false false [] <| .op 6 false false [] <| .op 7 false false [] <| .op 8 false false [] <| .op 9 false false [] <| .op 10 false false [] <| .op 11 false false [] <| .op 12 false false [] <| .op 13 false false [] <| .op 14 false false [] <| .op 15 false false [] <| .nil) mixed (by kernel_rfl) ?_
    simp -dsimp (maxSteps := 2000000) (disch := first | omega | (simp only [qZ] <;> omega) | fail) only [push_cast, ↓qP, ↓reduceIte, Nat.reduceEqDiff, Nat.reduceAdd, Nat.reduceMul, Nat.reduceSub, Nat.reduceLeDiff, Int.reduceToNat, reduceCtorEq, f0, f4, f5, h3.rdc]
    refine ⟨by omega, ?_⟩
    refine Sm.out ?_
    repeat (first | refine qS ?_ | refine qB ?_ | refine qT rfl ?_ | refine qF rfl ?_ | ((first | refine qR rfl ?_ | refine qK ?_ | refine qE ?_ | refine qW ?_ | refine qM ?_); try simp -dsimp (maxSteps := 2000000) (disch := first | omega | (simp only [qZ] <;> omega) | fail) only [push_cast, ↓qP, ↓reduceIte, Nat.reduceEqDiff, Nat.reduceAdd, Nat.reduceMul, Nat.reduceSub, Nat.reduceLeDiff, Int.reduceToNat, reduceCtorEq, f0, f4, f5, h3.rdc, h3.fz]) | (refine qA ?_ ?_; (first | omega | (simp only [qL]; omega) | (simp only [qD] at *; omega))))
    have h4 := h3.drew.drew.set 1 (.int .i64 ((t.i : Int) + 1))
    refine Again.mk (k + 1) ⟨t.on, _, true, ?_, ?_, ?_, h4, (k3.drew.drew).setCell (fun _ => rfl) _, by omega, by show t.i + 1 = _; omega, ?_, ?_, hfd, hstep⟩ (by omega)
    · simp -dsimp (maxSteps := 2000000) (disch := first | omega | (simp only [qZ] <;> omega) | fail) only [push_cast, ↓qP, ↓reduceIte, Nat.reduceEqDiff, Nat.reduceAdd, Nat.reduceMul, Nat.reduceSub, Nat.reduceLeDiff, Int.reduceToNat, reduceCtorEq, f0]
    · simp -dsimp (maxSteps := 2000000) (disch := first | omega | (simp only [qZ] <;> omega) | fail) only [push_cast, ↓qP, ↓reduceIte, Nat.reduceEqDiff, Nat.reduceAdd, Nat.reduceMul, Nat.reduceSub, Nat.reduceLeDiff, Int.reduceToNat, reduceCtorEq, f4]
    · simp -dsimp (maxSteps := 2000000) (disch := first | omega | (simp only [qZ] <;> omega) | fail) only [push_cast, ↓qP, ↓reduceIte, Nat.reduceEqDiff, Nat.reduceAdd, Nat.reduceMul, Nat.reduceSub, Nat.reduceLeDiff, Int.reduceToNat, reduceCtorEq, f5]
    · show 0 ≤ min (10 * n + (((l.getD t.i 0).toNat : Int) - 48)) 1000; omega
    · show min (10 * n + (((l.getD t.i 0).toNat : Int) - 48)) 1000 ≤ 1000; omega
  · have hout : num3 l (l.length - k) t.i n b = ((n, b), t.i) := by
      have : l.length - k = 0 ∨ ∃ m, l.length - k = m + 1 := by cases l.length - k <;> simp
      rcases this with e | ⟨m, e⟩
      · rw [e]; rfl
      · rw [e]; simp only [num3]; rw [if_neg]; simp; intro h4; simpa using fun h5 => hgo ⟨h4, h5⟩
    have he : digit3 l s = ((n, b), t) := by
      unfold digit3
      rw [← hnum.out, hout]
      exact congrArg _ (S3.ext' hfd.out.1 hfd.out.2)
    rw [he]
    clear hout hnum he hti
    replace hgo : Hide _ := ⟨hgo⟩
    repeat (first | refine qS ?_ | refine qB ?_ | refine qT rfl ?_ | refine qF rfl ?_ | ((first | refine qR rfl ?_ | refine qK ?_ | refine qE ?_ | refine qW ?_ | refine qM ?_); try simp -dsimp (maxSteps := 2000000) (disch := first | omega | (simp only [qZ] <;> omega) | fail) only [push_cast, ↓qP, ↓reduceIte, Nat.reduceEqDiff, Nat.reduceAdd, Nat.reduceMul, Nat.reduceSub, Nat.reduceLeDiff, Int.reduceToNat, reduceCtorEq]) | (refine qA ?_ ?_; (first | omega | (simp only [qL]; omega) | (simp only [qD] at *; omega))))
    refine Wp.draw [0, 1, 3, 7, 0, 16, 48, 112, 240, 511, 1023, 2047, 4095, 8191, 16383, 2047, 34815, 100351, 231423, 524287, 1048575, 2097151, 4194303, 8388607, 16777215, 33554431, 67108863, 8388607, 142606335, 411041791, 947912703, 2147483647, 4294967295, 8589934591] [] (.op 0 false false [] <| .op 1 false false [] <| .op 2 false false [] <| .op 3 false false [] <| .op 4 false false [] <| .op 5 false false [] <| .op 6 false false [] <| .op 7 false false [] <| .op 8 false false [] <| .op 9 false false [] <| .op 10 false false [] <| .op 11 false false [] <| .op 12 false false [] <| .op 13 false false [] <| .op 14 false false [] <| .op 15 false false [] <| .op 16 false false [] <| .op 17 false false [] <| .op 18 false false [] <| .op 19 false false [] <| .op 20 false false [] <| .op 21 false false [] <| .op 22 false false [] <| .op 23 false false [] <| .op 24 false false [] <| .op 25 false false [] <| .op 26 false false [] <| .op 27 false false [] <| .op 28 false false [] <| .op 29 false false [] <| .op 30 false false [] <| .op 31 false false [] <| .op 32 false false [] <| .op 33 false false [] <| .nil) mixed (by kernel_rfl) ?_
    simp -dsimp (maxSteps := 2000000) (disch := first | omega | (simp only [qZ] <;> omega) | fail) only [push_cast, ↓qP, ↓reduceIte, Nat.reduceEqDiff, Nat.reduceAdd, Nat.reduceMul, Nat.reduceSub, Nat.reduceLeDiff, Int.reduceToNat, reduceCtorEq, f0, f4, f5, h3.rdc]
    repeat' (first | refine qS ?_ | refine qB ?_ | refine qT rfl ?_ | refine qF rfl ?_ | ((first | refine qR rfl ?_ | refine qK ?_ | refine qE ?_ | refine qW ?_ | refine qM ?_); try simp -dsimp (maxSteps := 2000000) (disch := first | omega | (simp only [qZ] <;> omega) | fail) only [push_cast, ↓qP, ↓reduceIte, Nat.reduceEqDiff, Nat.reduceAdd, Nat.reduceMul, Nat.reduceSub, Nat.reduceLeDiff, Int.reduceToNat, reduceCtorEq, f0, f4, f5, h3.rdc]) | ((refine gsel.mk (fun hg => ?_) (fun hg => ?_)) <;> try simp -dsimp (maxSteps := 2000000) (disch := first | omega | (simp only [qZ] <;> omega) | fail) only [push_cast, ↓qP, ↓reduceIte, Nat.reduceEqDiff, Nat.reduceAdd, Nat.reduceMul, Nat.reduceSub, Nat.reduceLeDiff, Int.reduceToNat, reduceCtorEq, f0, f4, f5, h3.rdc, *]) | refine Wp.cond rfl (fun hg => ?_) (fun hg => ?_) | (refine qA ?_ ?_; (first | omega | (simp only [qL]; omega) | (simp only [qD] at *; omega))))
    all_goals first
      | (exfalso; have hgo' := hgo.out; simp only [decide_eq_true_eq] at *; exact hgo' ⟨by omega, (digs_iff _ _ _).2 ⟨by show 48 ≤ (l.getD t.i 0).toNat; omega, by show (l.getD t.i 0).toNat ≤ 57; omega⟩⟩)
      | exact Ret.mk ⟨rfl, h3.drew, k3.drew⟩
end
end Go.Proofs.Ytddichibegppjaa

/- The reference's reader of expressions: repeats. -/
namespace Go.Proofs.Ytddichibegppjaa
open Go Go.VC

theorem num3_facts (l : List UInt8) : ∀ (k i : Nat) (n : Int) (b : Bool), 0 ≤ n → n ≤ 1000 → i ≤ (num3 l k i n b).2 ∧ (num3 l k i n b).2 ≤ max i l.length ∧ 0 ≤ (num3 l k i n b).1.1 ∧ (num3 l k i n b).1.1 ≤ 1000 := by
  intro k
  induction k with
  | zero => intro i n b h1 h2; simp only [num3]; exact ⟨Nat.le_refl _, by omega, h1, h2⟩
  | succ k ih =>
    intro i n b h1 h2
    simp only [num3]
    split
    · rename_i hc
      simp only [Bool.and_eq_true, decide_eq_true_eq] at hc
      have h3 := (digs_iff _ _ _).1 hc.2
      have h4 : 48 ≤ (byteAt l i).toNat := h3.1
      obtain ⟨q1, q2, q3, q4⟩ := ih (i + 1) (min (10 * n + ((byteAt l i).toNat - 48 : Int)) 1000) true (by omega) (by omega)
      exact ⟨by omega, by omega, q3, q4⟩
    · exact ⟨Nat.le_refl _, by omega, h1, h2⟩
theorem digit3_facts (l : List UInt8) (s : S3) : s.i ≤ (digit3 l s).2.i ∧ (digit3 l s).2.i ≤ max s.i l.length ∧ (digit3 l s).2.f = s.f ∧ (digit3 l s).2.d = s.d ∧ 0 ≤ (digit3 l s).1.1 ∧ (digit3 l s).1.1 ≤ 1000 := by
  obtain ⟨q1, q2, q3, q4⟩ := num3_facts l l.length s.i 0 false (by omega) (by omega)
  exact ⟨q1, q2, rfl, rfl, q3, q4⟩

section
variable {a : Nat} {l : List UInt8} {s : S3} {w : World}

theorem repeat3_any (h : At3 w a l s) (hl : l.length ≤ 1000000) (hi : s.i ≤ 1500000) :
    Calls Try.prog 84 #[.pointer (some ⟨a, 0, none⟩)] w fun e w' => e = .returned (.tuple #[.int .i64 (repeat3 l s).1.1, .int .i64 (repeat3 l s).1.2.1, .bool (repeat3 l s).1.2.2]) ∧ At3 w' a l (repeat3 l s).2 ∧ Kp (· = a) w w' := by
  have hlt := h.lt
  refine enter (n := 181) (args := [.pointer (some ⟨a, 0, none⟩)]) Try.func84 rfl rfl rfl (by simp) ?_
  repeat (first | refine qS ?_ | refine qB ?_ | refine qT rfl ?_ | refine qF rfl ?_ | ((first | refine qR rfl ?_ | refine qK ?_ | refine qE ?_ | refine qW ?_ | refine qM ?_); try simp -dsimp (maxSteps := 2000000) (disch := first | omega | (simp only [qZ] <;> omega) | fail) only [push_cast, ↓qP, ↓reduceIte, Nat.reduceEqDiff, Nat.reduceAdd, Nat.reduceMul, Nat.reduceSub, Nat.reduceLeDiff, Int.reduceToNat, reduceCtorEq]) | (refine qA ?_ ?_; (first | omega | (simp only [qL]; omega) | (simp only [qD] at *; omega))))
  refine CallV.of isCall_71 (more3_any h) ?_
  rintro _ _ ⟨rfl, rfl⟩
  rcases Bool.eq_false_or_eq_true (more3 l s) with hm | hm
  · obtain ⟨hf0, hlt1⟩ := (more3_iff l s).1 hm
    refine Sm.out ?_
    repeat (first | refine qS ?_ | refine qB ?_ | refine qT rfl ?_ | refine qF rfl ?_ | ((first | refine qR rfl ?_ | refine qK ?_ | refine qE ?_ | refine qW ?_ | refine qM ?_); try simp -dsimp (maxSteps := 2000000) (disch := first | omega | (simp only [qZ] <;> omega) | fail) only [push_cast, ↓qP, ↓reduceIte, Nat.reduceEqDiff, Nat.reduceAdd, Nat.reduceMul, Nat.reduceSub, Nat.reduceLeDiff, Int.reduceToNat, reduceCtorEq, hm]) | (refine qA ?_ ?_; (first | omega | (simp only [qL]; omega) | (simp only [qD] at *; omega))))
    refine CallV.of isCall_72 (peek3 h.drew hlt1) ?_
    rintro _ _ ⟨rfl, rfl⟩
    have h2 : At3 w.drew.drew a l s := h.drew.drew
    have k2 : Kp (· = a) w w.drew.drew := (Kp.refl (· = a) w).drew.drew
    have hlt2 := h2.lt
    generalize w.drew.drew = w2 at *
    by_cases c42 : byteAt l s.i = 42
    · have hrr : repeat3 l s = ((0, -1, true), s.on) := by simp only [repeat3, hm, Bool.not_true, Bool.false_eq_true, ↓reduceIte, beq_iff_eq, c42] <;> rfl
      have e1 : (((byteAt l s.i).toNat : Int) == 42) = true := by rw [c42]; rfl
      rw [hrr]
      refine Sm.out ?_
      repeat (first | refine qS ?_ | refine qB ?_ | refine qT rfl ?_ | refine qF rfl ?_ | ((first | refine qR rfl ?_ | refine qK ?_ | refine qE ?_ | refine qW ?_ | refine qM ?_); try simp -dsimp (maxSteps := 2000000) (disch := first | omega | (simp only [qZ] <;> omega) | fail) only [push_cast, ↓qP, ↓reduceIte, Nat.reduceEqDiff, Nat.reduceAdd, Nat.reduceMul, Nat.reduceSub, Nat.reduceLeDiff, Int.reduceToNat, reduceCtorEq, e1, h2.rdc, h2.fz]) | (refine qA ?_ ?_; (first | omega | (simp only [qL]; omega) | (simp only [qD] at *; omega))))
      exact Ret.mk ⟨rfl, h2.set 1 (.int .i64 ((s.i : Int) + 1)), k2.setCell (fun _ => rfl) _⟩
    have n42 : (((byteAt l s.i).toNat : Int) == 42) = false := by rw [show (42 : Int) = ((42 : UInt8).toNat : Int) from rfl, u8_eq']; simpa using c42
    by_cases c43 : byteAt l s.i = 43
    · have hrr : repeat3 l s = ((1, -1, true), s.on) := by simp only [repeat3, hm, Bool.not_true, Bool.false_eq_true, ↓reduceIte, beq_iff_eq, c42, c43] <;> rfl
      have e1 : (((byteAt l s.i).toNat : Int) == 43) = true := by rw [c43]; rfl
      rw [hrr]
      refine Sm.out ?_
      repeat (first | refine qS ?_ | refine qB ?_ | refine qT rfl ?_ | refine qF rfl ?_ | ((first | refine qR rfl ?_ | refine qK ?_ | refine qE ?_ | refine qW ?_ | refine qM ?_); try simp -dsimp (maxSteps := 2000000) (disch := first | omega | (simp only [qZ] <;> omega) | fail) only [push_cast, ↓qP, ↓reduceIte, Nat.reduceEqDiff, Nat.reduceAdd, Nat.reduceMul, Nat.reduceSub, Nat.reduceLeDiff, Int.reduceToNat, reduceCtorEq, n42, e1, h2.rdc, h2.fz]) | (refine qA ?_ ?_; (first | omega | (simp only [qL]; omega) | (simp only [qD] at *; omega))))
      exact Ret.mk ⟨rfl, h2.set 1 (.int .i64 ((s.i : Int) + 1)), k2.setCell (fun _ => rfl) _⟩
    have n43 : (((byteAt l s.i).toNat : Int) == 43) = false := by rw [show (43 : Int) = ((43 : UInt8).toNat : Int) from rfl, u8_eq']; simpa using c43
    by_cases c63 : byteAt l s.i = 63
    · have hrr : repeat3 l s = ((0, 1, true), s.on) := by simp only [repeat3, hm, Bool.not_true, Bool.false_eq_true, ↓reduceIte, beq_iff_eq, c42, c43, c63] <;> rfl
      have e1 : (((byteAt l s.i).toNat : Int) == 63) = true := by rw [c63]; rfl
      rw [hrr]
      refine Sm.out ?_
      repeat (first | refine qS ?_ | refine qB ?_ | refine qT rfl ?_ | refine qF rfl ?_ | ((first | refine qR rfl ?_ | refine qK ?_ | refine qE ?_ | refine qW ?_ | refine qM ?_); try simp -dsimp (maxSteps := 2000000) (disch := first | omega | (simp only [qZ] <;> omega) | fail) only [push_cast, ↓qP, ↓reduceIte, Nat.reduceEqDiff, Nat.reduceAdd, Nat.reduceMul, Nat.reduceSub, Nat.reduceLeDiff, Int.reduceToNat, reduceCtorEq, n42, n43, e1, h2.rdc, h2.fz]) | (refine qA ?_ ?_; (first | omega | (simp only [qL]; omega) | (simp only [qD] at *; omega))))
      exact Ret.mk ⟨rfl, h2.set 1 (.int .i64 ((s.i : Int) + 1)), k2.setCell (fun _ => rfl) _⟩
    have n63 : (((byteAt l s.i).toNat : Int) == 63) = false := by rw [show (63 : Int) = ((63 : UInt8).toNat : Int) from rfl, u8_eq']; simpa using c63
    by_cases c123 : byteAt l s.i = 123
    · have e1 : (((byteAt l s.i).toNat : Int) == 123) = true := by rw [c123]; rfl
      refine Sm.out ?_
      repeat (first | refine qS ?_ | refine qB ?_ | refine qT rfl ?_ | refine qF rfl ?_ | ((first | refine qR rfl ?_ | refine qK ?_ | refine qE ?_ | refine qW ?_ | refine qM ?_); try simp -dsimp (maxSteps := 2000000) (disch := first | omega | (simp only [qZ] <;> omega) | fail) only [push_cast, ↓qP, ↓reduceIte, Nat.reduceEqDiff, Nat.reduceAdd, Nat.reduceMul, Nat.reduceSub, Nat.reduceLeDiff, Int.reduceToNat, reduceCtorEq, n42, n43, n63, e1, h2.rdc]) | (refine qA ?_ ?_; (first | omega | (simp only [qL]; omega) | (simp only [qD] at *; omega))))
      have hrr : repeat3 l s = if decide ((s.i : Int) + 1 ≥ l.length) || !digs 48 57 (byteAt l (s.i + 1)) then ((0, 0, false), s) else
          let p := digit3 l s.on
          let m := p.1.1
          let s1 := p.2
          let comma := decide ((s1.i : Int) < l.length) && byteAt l s1.i == 44
          let q := digit3 l s1.on
          let n := if comma then (if q.1.2 then q.1.1 else -1) else m
          let s2 := if comma then q.2 else s1
          if decide ((s2.i : Int) ≥ l.length) || !(byteAt l s2.i == 125) || decide (m > 255) || decide (n > 255) || (decide (n ≥ 0) && decide (m > n)) then ((0, 0, false), s2.fail 3)
          else ((m, n, true), s2.on) := by
        simp only [repeat3, hm, Bool.not_true, Bool.false_eq_true, ↓reduceIte, beq_iff_eq, c42, c43, c63, c123] <;> rfl
      by_cases hgo : s.i + 1 < l.length ∧ digs 48 57 (byteAt l (s.i + 1)) = true
      · obtain ⟨g1, g2⟩ := hgo
        obtain ⟨d1, d2⟩ := digs_ge g2
        have d1' : decide (((byteAt l (s.i + 1)).toNat : Int) < 48) = false := by have := of_decide_eq_true d1; change ((byteAt l (s.i + 1)).toNat : Int) ≥ 48 at this; exact decide_eq_false (by omega)
        have d2' : decide (((byteAt l (s.i + 1)).toNat : Int) > 57) = false := by have := of_decide_eq_true d2; change ((byteAt l (s.i + 1)).toNat : Int) ≤ 57 at this; exact decide_eq_false (by omega)
        have g1' : decide ((s.i : Int) + 1 ≥ (l.length : Int)) = false := by simp; omega
        have hix : ((s.i : Int) + 1).toNat = s.i + 1 := by omega
        rw [if_neg (by rw [g1', g2]; simp)] at hrr
        refine Wp.draw [0, 1, 3, 7, 15, 0, 32, 96, 224, 480, 1023, 2047, 4095, 8191, 16383, 32767, 4095, 69631, 200703, 462847, 987135, 2097151, 4194303, 8388607, 16777215, 33554431, 67108863, 134217727, 268435455, 33554431, 570425343, 1644167167, 3791650815, 8086618111, 17179869183, 34359738367, 68719476735] [] (.op 0 false false [] <| .op 1 false false [] <| .op 2 false false [] <| .op 3 false false [] <| .op 4 false false [] <| .op 5 false false [] <| .op 6 false false [] <| .op 7 false false [] <| .op 8 false false [] <| .op 9 false false [] <| .op 10 false false [] <| .op 11 false false [] <| .op 12 false false [] <| .op 13 false false [] <| .op 14 false false [] <| .op 15 false false [] <| .op 16 false false [] <| .op 17 false false [] <| .op 18 false false [] <| .op 19 false false [] <| .op 20 false false [] <| .op 21 false false [] <| .op 22 false false [] <| .op 23 false false [] <| .op 24 false false [] <| .op 25 false false [] <| .op 26 false false [] <| .op 27 false false [] <| .op 28 false false [] <| .op 29 false false [] <| .op 30 false false [] <| .op 31 false false [] <| .op 32 false false [] <| .op 33 false false [] <| .op 34 false false [] <| .op 35 false false [] <| .op 36 false false [] <| .nil) mixed (by kernel_rfl) ?_
        simp -dsimp (maxSteps := 2000000) (disch := first | omega | (simp only [qZ] <;> omega) | fail) only [push_cast, ↓qP, ↓reduceIte, Nat.reduceEqDiff, Nat.reduceAdd, Nat.reduceMul, Nat.reduceSub, Nat.reduceLeDiff, Int.reduceToNat, reduceCtorEq, h2.rdc, g1', d1', d2', hix]
        refine ⟨by omega, by omega, ?_⟩
        refine Sm.out ?_
        repeat (first | refine qS ?_ | refine qB ?_ | refine qT rfl ?_ | refine qF rfl ?_ | ((first | refine qR rfl ?_ | refine qK ?_ | refine qE ?_ | refine qW ?_ | refine qM ?_); try simp -dsimp (maxSteps := 2000000) (disch := first | omega | (simp only [qZ] <;> omega) | fail) only [push_cast, ↓qP, ↓reduceIte, Nat.reduceEqDiff, Nat.reduceAdd, Nat.reduceMul, Nat.reduceSub, Nat.reduceLeDiff, Int.reduceToNat, reduceCtorEq, h2.rdc, h2.fz]) | (refine qA ?_ ?_; (first | omega | (simp only [qL]; omega) | (simp only [qD] at *; omega))))
        have h4 : At3 (w2.drew.setCell ⟨a, 1, none⟩ (.int .i64 ((s.i : Int) + 1))) a l s.on := h2.drew.set 1 _
        have k4 : Kp (· = a) w (w2.drew.setCell ⟨a, 1, none⟩ (.int .i64 ((s.i : Int) + 1))) := k2.drew.setCell (fun _ => rfl) _
        generalize (w2.drew.setCell ⟨a, 1, none⟩ (.int .i64 ((s.i : Int) + 1))) = w4 at *
        refine CallV.of isCall_92 (number3_any h4 hl (by show s.i + 1 ≤ _; omega)) ?_
        rintro _ w5 ⟨rfl, h5, k5⟩
        have hlt5 := h5.lt
        obtain ⟨q1, q2, q3, q4, q5, q6⟩ := digit3_facts l s.on
        change s.i + 1 ≤ _ at q1
        change _ ≤ max (s.i + 1) _ at q2
        generalize digit3 l s.on = p at *
        obtain ⟨⟨m, mb⟩, s1⟩ := p
        simp only at hrr h5 q1 q2 q3 q4 q5 q6
        refine Sm.out ?_
        repeat (first | refine qS ?_ | refine qB ?_ | refine qT rfl ?_ | refine qF rfl ?_ | ((first | refine qR rfl ?_ | refine qK ?_ | refine qE ?_ | refine qW ?_ | refine qM ?_); try simp -dsimp (maxSteps := 2000000) (disch := first | omega | (simp only [qZ] <;> omega) | fail) only [push_cast, ↓qP, ↓reduceIte, Nat.reduceEqDiff, Nat.reduceAdd, Nat.reduceMul, Nat.reduceSub, Nat.reduceLeDiff, Int.reduceToNat, reduceCtorEq]) | (refine qA ?_ ?_; (first | omega | (simp only [qL]; omega) | (simp only [qD] at *; omega))))
        by_cases hc : s1.i < l.length ∧ byteAt l s1.i = 44
        · obtain ⟨c1, c2⟩ := hc
          have c1' : decide ((s1.i : Int) < (l.length : Int)) = true := by simp; omega
          have c2' : (((byteAt l s1.i).toNat : Int) == 44) = true := by rw [c2]; rfl
          have c3' : (byteAt l s1.i == 44) = true := by rw [c2]; rfl
          simp only [c1', c3', Bool.and_self, ↓reduceIte] at hrr
          refine Wp.draw [0, 1, 3, 7, 0, 16, 48, 112, 240, 511, 1023, 2047, 4095, 8191, 16383, 2047, 34815, 100351, 231423, 524287, 1048575, 2097151] [] (.op 0 false false [] <| .op 1 false false [] <| .op 2 false false [] <| .op 3 false false [] <| .op 4 false false [] <| .op 5 false false [] <| .op 6 false false [] <| .op 7 false false [] <| .op 8 false false [] <| .op 9 false false [] <| .op 10 false false [] <| .op 11 false false [] <| .op 12 false false [] <| .op 13 false false [] <| .op 14 false false [] <| .op 15 false false [] <| .op 16 false false [] <| .op 17 false false [] <| .op 18 false false [] <| .op 19 false false [] <| .op 20 false false [] <| .op 21 false false [] <| .nil) mixed (by kernel_rfl) ?_
          simp -dsimp (maxSteps := 2000000) (disch := first | omega | (simp only [qZ] <;> omega) | fail) only [push_cast, ↓qP, ↓reduceIte, Nat.reduceEqDiff, Nat.reduceAdd, Nat.reduceMul, Nat.reduceSub, Nat.reduceLeDiff, Int.reduceToNat, reduceCtorEq, h5.rdc, c1', c2']
          refine ⟨by omega, ?_⟩
          refine Sm.out ?_
          repeat (first | refine qS ?_ | refine qB ?_ | refine qT rfl ?_ | refine qF rfl ?_ | ((first | refine qR rfl ?_ | refine qK ?_ | refine qE ?_ | refine qW ?_ | refine qM ?_); try simp -dsimp (maxSteps := 2000000) (disch := first | omega | (simp only [qZ] <;> omega) | fail) only [push_cast, ↓qP, ↓reduceIte, Nat.reduceEqDiff, Nat.reduceAdd, Nat.reduceMul, Nat.reduceSub, Nat.reduceLeDiff, Int.reduceToNat, reduceCtorEq, h5.rdc, h5.fz]) | (refine qA ?_ ?_; (first | omega | (simp only [qL]; omega) | (simp only [qD] at *; omega))))
          have h6 : At3 (w5.drew.setCell ⟨a, 1, none⟩ (.int .i64 ((s1.i : Int) + 1))) a l s1.on := h5.drew.set 1 _
          have k6 : Kp (· = a) w (w5.drew.setCell ⟨a, 1, none⟩ (.int .i64 ((s1.i : Int) + 1))) := (k4.trans k5).drew.setCell (fun _ => rfl) _
          generalize (w5.drew.setCell ⟨a, 1, none⟩ (.int .i64 ((s1.i : Int) + 1))) = w6 at *
          refine CallV.of isCall_92 (number3_any h6 hl (by show s1.i + 1 ≤ _; omega)) ?_
          rintro _ w7 ⟨rfl, h7, k7⟩
          have hlt7 := h7.lt
          obtain ⟨r1, r2, r3, r4, r5, r6⟩ := digit3_facts l s1.on
          change s1.i + 1 ≤ _ at r1
          change _ ≤ max (s1.i + 1) _ at r2
          generalize digit3 l s1.on = p2 at *
          obtain ⟨⟨n, nb⟩, s2⟩ := p2
          simp only at hrr h7 r1 r2 r3 r4 r5 r6
          cases nb with
          | true =>
            simp only [↓reduceIte] at hrr
            refine Sm.out ?_
            repeat (first | refine qS ?_ | refine qB ?_ | refine qT rfl ?_ | refine qF rfl ?_ | ((first | refine qR rfl ?_ | refine qK ?_ | refine qE ?_ | refine qW ?_ | refine qM ?_); try simp -dsimp (maxSteps := 2000000) (disch := first | omega | (simp only [qZ] <;> omega) | fail) only [push_cast, ↓qP, ↓reduceIte, Nat.reduceEqDiff, Nat.reduceAdd, Nat.reduceMul, Nat.reduceSub, Nat.reduceLeDiff, Int.reduceToNat, reduceCtorEq]) | (refine qA ?_ ?_; (first | omega | (simp only [qL]; omega) | (simp only [qD] at *; omega))))
            have ha := h7
            have ka := (k6.trans k7)
            have hlta := ha.lt
            replace hrr : Hide _ := ⟨hrr⟩
            refine Wp.draw [0, 1, 3, 7, 0, 16, 48, 112, 240, 511, 1023, 2047, 4095, 8191, 16383, 2047, 34815, 100351, 231423, 524287, 1048575, 2097151, 4194303, 8388607, 16777215, 33554431, 67108863, 134217727, 268435455, 536870911, 1073741823, 2147483647, 4294967295, 8589934591, 17179869183, 17179869183, 68719476735, 137438953471, 274877906943] [] (.op 0 false false [] <| .op 1 false false [] <| .op 2 false false [] <| .op 3 false false [] <| .op 4 false false [] <| .op 5 false false [] <| .op 6 false false [] <| .op 7 false false [] <| .op 8 false false [] <| .op 9 false false [] <| .op 10 false false [] <| .op 11 false false [] <| .op 12 false false [] <| .op 13 false false [] <| .op 14 false false [] <| .op 15 false false [] <| .op 16 false false [] <| .op 17 false false [] <| .op 18 false false [] <| .op 19 false false [] <| .op 20 false false [] <| .op 21 false false [] <| .op 22 false false [] <| .op 23 false false [] <| .op 24 false false [] <| .op 25 false false [] <| .op 26 false false [] <| .op 27 false false [] <| .op 28 false false [] <| .op 29 false false [] <| .op 30 false false [] <| .op 31 false false [] <| .op 32 false false [] <| .op 33 false false [] <| .op 34 false false [] <| .op 35 false false [] <| .op 36 false false [] <| .op 37 false false [] <| .op 38 false false [] <| .nil) mixed (by kernel_rfl) ?_
            simp -dsimp (maxSteps := 2000000) (disch := first | omega | (simp only [qZ] <;> omega) | fail) only [push_cast, ↓qP, ↓reduceIte, Nat.reduceEqDiff, Nat.reduceAdd, Nat.reduceMul, Nat.reduceSub, Nat.reduceLeDiff, Int.reduceToNat, reduceCtorEq, ha.rdc, ha.fz]
            repeat' (first | refine qS ?_ | refine qB ?_ | refine qT rfl ?_ | refine qF rfl ?_ | ((first | refine qR rfl ?_ | refine qK ?_ | refine qE ?_ | refine qW ?_ | refine qM ?_); try simp -dsimp (maxSteps := 2000000) (disch := first | omega | (simp only [qZ] <;> omega) | fail) only [push_cast, ↓qP, ↓reduceIte, Nat.reduceEqDiff, Nat.reduceAdd, Nat.reduceMul, Nat.reduceSub, Nat.reduceLeDiff, Int.reduceToNat, reduceCtorEq, ha.rdc, ha.fz]) | ((refine gsel.mk (fun hg => ?_) (fun hg => ?_)) <;> try simp -dsimp (maxSteps := 2000000) (disch := first | omega | (simp only [qZ] <;> omega) | fail) only [push_cast, ↓qP, ↓reduceIte, Nat.reduceEqDiff, Nat.reduceAdd, Nat.reduceMul, Nat.reduceSub, Nat.reduceLeDiff, Int.reduceToNat, reduceCtorEq, ha.rdc, ha.fz, *]) | refine Wp.cond rfl (fun hg => ?_) (fun hg => ?_) | (refine qA ?_ ?_; (first | omega | (simp only [qL]; omega) | (simp only [qD] at *; omega))))
            all_goals
              have hr1 := hrr.out
              have e125 : ∀ c : UInt8, (c == 125) = ((c.toNat : Int) == 125) := fun c => (u8_eq' c 125).symm
              first
              | (rw [if_pos (by rw [e125]; simp_all <;> (intros; omega))] at hr1
                 refine CallV.of isCall_50 (fail3 ha.drew 3) ?_
                 rintro _ w9 ⟨rfl, h9, k9⟩
                 refine Sm.out ?_
                 repeat (first | refine qS ?_ | refine qB ?_ | refine qT rfl ?_ | refine qF rfl ?_ | ((first | refine qR rfl ?_ | refine qK ?_ | refine qE ?_ | refine qW ?_ | refine qM ?_); try simp -dsimp (maxSteps := 2000000) (disch := first | omega | (simp only [qZ] <;> omega) | fail) only [push_cast, ↓qP, ↓reduceIte, Nat.reduceEqDiff, Nat.reduceAdd, Nat.reduceMul, Nat.reduceSub, Nat.reduceLeDiff, Int.reduceToNat, reduceCtorEq]) | (refine qA ?_ ?_; (first | omega | (simp only [qL]; omega) | (simp only [qD] at *; omega))))
                 rw [hr1]
                 exact Ret.mk ⟨rfl, h9, ka.drew.trans k9⟩)
              | (rw [if_neg (by rw [e125]; simp_all <;> (intros; omega))] at hr1
                 rw [hr1]
                 exact Ret.mk ⟨rfl, ha.drew.set 1 (.int .i64 ((s2.i : Int) + 1)), ka.drew.setCell (fun _ => rfl) _⟩)
          | false =>
            simp only [Bool.false_eq_true, ↓reduceIte] at hrr
            generalize hnn : (-1 : Int) = n1 at *
            refine Sm.out ?_
            repeat (first | refine qS ?_ | refine qB ?_ | refine qT rfl ?_ | refine qF rfl ?_ | ((first | refine qR rfl ?_ | refine qK ?_ | refine qE ?_ | refine qW ?_ | refine qM ?_); try simp -dsimp (maxSteps := 2000000) (disch := first | omega | (simp only [qZ] <;> omega) | fail) only [push_cast, ↓qP, ↓reduceIte, Nat.reduceEqDiff, Nat.reduceAdd, Nat.reduceMul, Nat.reduceSub, Nat.reduceLeDiff, Int.reduceToNat, reduceCtorEq]) | (refine qA ?_ ?_; (first | omega | (simp only [qL]; omega) | (simp only [qD] at *; omega))))
            have ha := h7
            have ka := (k6.trans k7)
            have hlta := ha.lt
            replace hrr : Hide _ := ⟨hrr⟩
            refine Wp.draw [0, 1, 3, 7, 0, 16, 48, 112, 240, 511, 1023, 2047, 4095, 8191, 16383, 2047, 34815, 100351, 231423, 524287, 1048575, 2097151, 4194303, 8388607, 16777215, 33554431, 67108863, 134217727, 268435455, 536870911, 1073741823, 2147483647, 4294967295, 8589934591, 17179869183, 17179869183, 68719476735, 137438953471, 274877906943] [] (.op 0 false false [] <| .op 1 false false [] <| .op 2 false false [] <| .op 3 false false [] <| .op 4 false false [] <| .op 5 false false [] <| .op 6 false false [] <| .op 7 false false [] <| .op 8 false false [] <| .op 9 false false [] <| .op 10 false false [] <| .op 11 false false [] <| .op 12 false false [] <| .op 13 false false [] <| .op 14 false false [] <| .op 15 false false [] <| .op 16 false false [] <| .op 17 false false [] <| .op 18 false false [] <| .op 19 false false [] <| .op 20 false false [] <| .op 21 false false [] <| .op 22 false false [] <| .op 23 false false [] <| .op 24 false false [] <| .op 25 false false [] <| .op 26 false false [] <| .op 27 false false [] <| .op 28 false false [] <| .op 29 false false [] <| .op 30 false false [] <| .op 31 false false [] <| .op 32 false false [] <| .op 33 false false [] <| .op 34 false false [] <| .op 35 false false [] <| .op 36 false false [] <| .op 37 false false [] <| .op 38 false false [] <| .nil) mixed (by kernel_rfl) ?_
            simp -dsimp (maxSteps := 2000000) (disch := first | omega | (simp only [qZ] <;> omega) | fail) only [push_cast, ↓qP, ↓reduceIte, Nat.reduceEqDiff, Nat.reduceAdd, Nat.reduceMul, Nat.reduceSub, Nat.reduceLeDiff, Int.reduceToNat, reduceCtorEq, ha.rdc, ha.fz]
            repeat' (first | refine qS ?_ | refine qB ?_ | refine qT rfl ?_ | refine qF rfl ?_ | ((first | refine qR rfl ?_ | refine qK ?_ | refine qE ?_ | refine qW ?_ | refine qM ?_); try simp -dsimp (maxSteps := 2000000) (disch := first | omega | (simp only [qZ] <;> omega) | fail) only [push_cast, ↓qP, ↓reduceIte, Nat.reduceEqDiff, Nat.reduceAdd, Nat.reduceMul, Nat.reduceSub, Nat.reduceLeDiff, Int.reduceToNat, reduceCtorEq, ha.rdc, ha.fz]) | ((refine gsel.mk (fun hg => ?_) (fun hg => ?_)) <;> try simp -dsimp (maxSteps := 2000000) (disch := first | omega | (simp only [qZ] <;> omega) | fail) only [push_cast, ↓qP, ↓reduceIte, Nat.reduceEqDiff, Nat.reduceAdd, Nat.reduceMul, Nat.reduceSub, Nat.reduceLeDiff, Int.reduceToNat, reduceCtorEq, ha.rdc, ha.fz, *]) | refine Wp.cond rfl (fun hg => ?_) (fun hg => ?_) | (refine qA ?_ ?_; (first | omega | (simp only [qL]; omega) | (simp only [qD] at *; omega))))
            all_goals
              have hr1 := hrr.out
              have e125 : ∀ c : UInt8, (c == 125) = ((c.toNat : Int) == 125) := fun c => (u8_eq' c 125).symm
              first
              | (rw [if_pos (by rw [e125]; simp_all <;> (intros; omega))] at hr1
                 refine CallV.of isCall_50 (fail3 ha.drew 3) ?_
                 rintro _ w9 ⟨rfl, h9, k9⟩
                 refine Sm.out ?_
                 repeat (first | refine qS ?_ | refine qB ?_ | refine qT rfl ?_ | refine qF rfl ?_ | ((first | refine qR rfl ?_ | refine qK ?_ | refine qE ?_ | refine qW ?_ | refine qM ?_); try simp -dsimp (maxSteps := 2000000) (disch := first | omega | (simp only [qZ] <;> omega) | fail) only [push_cast, ↓qP, ↓reduceIte, Nat.reduceEqDiff, Nat.reduceAdd, Nat.reduceMul, Nat.reduceSub, Nat.reduceLeDiff, Int.reduceToNat, reduceCtorEq]) | (refine qA ?_ ?_; (first | omega | (simp only [qL]; omega) | (simp only [qD] at *; omega))))
                 rw [hr1]
                 exact Ret.mk ⟨rfl, h9, ka.drew.trans k9⟩)
              | (rw [if_neg (by rw [e125]; simp_all <;> (intros; omega))] at hr1
                 rw [hr1]
                 exact Ret.mk ⟨rfl, ha.drew.set 1 (.int .i64 ((s2.i : Int) + 1)), ka.drew.setCell (fun _ => rfl) _⟩)
        · have hcm : (decide ((s1.i : Int) < (l.length : Int)) && byteAt l s1.i == 44) = false := by
            rcases Nat.lt_or_ge s1.i l.length with h6 | h6
            · have : byteAt l s1.i ≠ 44 := fun e => hc ⟨h6, e⟩
              simp only [Bool.and_eq_false_iff]; right; simpa using this
            · simp only [Bool.and_eq_false_iff]; left; exact decide_eq_false (by omega)
          simp only [hcm, Bool.false_eq_true, ↓reduceIte] at hrr
          have hc2 : s1.i < l.length → (((byteAt l s1.i).toNat : Int) == 44) = false := fun h6 => by
            rw [show (44 : Int) = ((44 : UInt8).toNat : Int) from rfl, u8_eq']
            simpa using fun e => hc ⟨h6, e⟩
          rcases Nat.lt_or_ge s1.i l.length with h6 | h6
          · have c1' : decide ((s1.i : Int) < (l.length : Int)) = true := decide_eq_true (by omega)
            have c2' := hc2 h6
            clear hc2 hc hcm
            refine Wp.draw [0, 1, 3, 7, 0, 16, 48, 112, 240, 511, 1023, 2047, 4095, 8191, 16383, 2047, 34815, 100351, 231423, 524287, 1048575, 2097151] [] (.op 0 false false [] <| .op 1 false false [] <| .op 2 false false [] <| .op 3 false false [] <| .op 4 false false [] <| .op 5 false false [] <| .op 6 false false [] <| .op 7 false false [] <| .op 8 false false [] <| .op 9 false false [] <| .op 10 false false [] <| .op 11 false false [] <| .op 12 false false [] <| .op 13 false false [] <| .op 14 false false [] <| .op 15 false false [] <| .op 16 false false [] <| .op 17 false false [] <| .op 18 false false [] <| .op 19 false false [] <| .op 20 false false [] <| .op 21 false false [] <| .nil) mixed (by kernel_rfl) ?_
            simp -dsimp (maxSteps := 2000000) (disch := first | omega | (simp only [qZ] <;> omega) | fail) only [push_cast, ↓qP, ↓reduceIte, Nat.reduceEqDiff, Nat.reduceAdd, Nat.reduceMul, Nat.reduceSub, Nat.reduceLeDiff, Int.reduceToNat, reduceCtorEq, h5.rdc, c1', c2']
            refine ⟨by omega, ?_⟩
            refine Sm.out ?_
            repeat (first | refine qS ?_ | refine qB ?_ | refine qT rfl ?_ | refine qF rfl ?_ | ((first | refine qR rfl ?_ | refine qK ?_ | refine qE ?_ | refine qW ?_ | refine qM ?_); try simp -dsimp (maxSteps := 2000000) (disch := first | omega | (simp only [qZ] <;> omega) | fail) only [push_cast, ↓qP, ↓reduceIte, Nat.reduceEqDiff, Nat.reduceAdd, Nat.reduceMul, Nat.reduceSub, Nat.reduceLeDiff, Int.reduceToNat, reduceCtorEq]) | (refine qA ?_ ?_; (first | omega | (simp only [qL]; omega) | (simp only [qD] at *; omega))))
            have ha := h5.drew
            have ka := (k4.trans k5).drew
            have hlta := ha.lt
            replace hrr : Hide _ := ⟨hrr⟩
            refine Wp.draw [0, 1, 3, 7, 0, 16, 48, 112, 240, 511, 1023, 2047, 4095, 8191, 16383, 2047, 34815, 100351, 231423, 524287, 1048575, 2097151, 4194303, 8388607, 16777215, 33554431, 67108863, 134217727, 268435455, 536870911, 1073741823, 2147483647, 4294967295, 8589934591, 17179869183, 17179869183, 68719476735, 137438953471, 274877906943] [] (.op 0 false false [] <| .op 1 false false [] <| .op 2 false false [] <| .op 3 false false [] <| .op 4 false false [] <| .op 5 false false [] <| .op 6 false false [] <| .op 7 false false [] <| .op 8 false false [] <| .op 9 false false [] <| .op 10 false false [] <| .op 11 false false [] <| .op 12 false false [] <| .op 13 false false [] <| .op 14 false false [] <| .op 15 false false [] <| .op 16 false false [] <| .op 17 false false [] <| .op 18 false false [] <| .op 19 false false [] <| .op 20 false false [] <| .op 21 false false [] <| .op 22 false false [] <| .op 23 false false [] <| .op 24 false false [] <| .op 25 false false [] <| .op 26 false false [] <| .op 27 false false [] <| .op 28 false false [] <| .op 29 false false [] <| .op 30 false false [] <| .op 31 false false [] <| .op 32 false false [] <| .op 33 false false [] <| .op 34 false false [] <| .op 35 false false [] <| .op 36 false false [] <| .op 37 false false [] <| .op 38 false false [] <| .nil) mixed (by kernel_rfl) ?_
            simp -dsimp (maxSteps := 2000000) (disch := first | omega | (simp only [qZ] <;> omega) | fail) only [push_cast, ↓qP, ↓reduceIte, Nat.reduceEqDiff, Nat.reduceAdd, Nat.reduceMul, Nat.reduceSub, Nat.reduceLeDiff, Int.reduceToNat, reduceCtorEq, ha.rdc, ha.fz]
            repeat' (first | refine qS ?_ | refine qB ?_ | refine qT rfl ?_ | refine qF rfl ?_ | ((first | refine qR rfl ?_ | refine qK ?_ | refine qE ?_ | refine qW ?_ | refine qM ?_); try simp -dsimp (maxSteps := 2000000) (disch := first | omega | (simp only [qZ] <;> omega) | fail) only [push_cast, ↓qP, ↓reduceIte, Nat.reduceEqDiff, Nat.reduceAdd, Nat.reduceMul, Nat.reduceSub, Nat.reduceLeDiff, Int.reduceToNat, reduceCtorEq, ha.rdc, ha.fz]) | ((refine gsel.mk (fun hg => ?_) (fun hg => ?_)) <;> try simp -dsimp (maxSteps := 2000000) (disch := first | omega | (simp only [qZ] <;> omega) | fail) only [push_cast, ↓qP, ↓reduceIte, Nat.reduceEqDiff, Nat.reduceAdd, Nat.reduceMul, Nat.reduceSub, Nat.reduceLeDiff, Int.reduceToNat, reduceCtorEq, ha.rdc, ha.fz, *]) | refine Wp.cond rfl (fun hg => ?_) (fun hg => ?_) | (refine qA ?_ ?_; (first | omega | (simp only [qL]; omega) | (simp only [qD] at *; omega))))
            all_goals
              have hr1 := hrr.out
              have e125 : ∀ c : UInt8, (c == 125) = ((c.toNat : Int) == 125) := fun c => (u8_eq' c 125).symm
              first
              | (rw [if_pos (by rw [e125]; simp_all <;> (intros; omega))] at hr1
                 refine CallV.of isCall_50 (fail3 ha.drew 3) ?_
                 rintro _ w9 ⟨rfl, h9, k9⟩
                 refine Sm.out ?_
                 repeat (first | refine qS ?_ | refine qB ?_ | refine qT rfl ?_ | refine qF rfl ?_ | ((first | refine qR rfl ?_ | refine qK ?_ | refine qE ?_ | refine qW ?_ | refine qM ?_); try simp -dsimp (maxSteps := 2000000) (disch := first | omega | (simp only [qZ] <;> omega) | fail) only [push_cast, ↓qP, ↓reduceIte, Nat.reduceEqDiff, Nat.reduceAdd, Nat.reduceMul, Nat.reduceSub, Nat.reduceLeDiff, Int.reduceToNat, reduceCtorEq]) | (refine qA ?_ ?_; (first | omega | (simp only [qL]; omega) | (simp only [qD] at *; omega))))
                 rw [hr1]
                 exact Ret.mk ⟨rfl, h9, ka.drew.trans k9⟩)
              | (rw [if_neg (by rw [e125]; simp_all <;> (intros; omega))] at hr1
                 rw [hr1]
                 exact Ret.mk ⟨rfl, ha.drew.set 1 (.int .i64 ((s1.i : Int) + 1)), ka.drew.setCell (fun _ => rfl) _⟩)
          · have c1' : decide ((s1.i : Int) < (l.length : Int)) = false := decide_eq_false (by omega)
            clear hc2 hc hcm
            refine Wp.draw [0, 1, 3, 7, 0, 16, 48, 112, 240, 511, 1023, 2047, 4095, 8191, 16383, 2047, 34815, 100351, 231423, 524287, 1048575, 2097151] [] (.op 0 false false [] <| .op 1 false false [] <| .op 2 false false [] <| .op 3 false false [] <| .op 4 false false [] <| .op 5 false false [] <| .op 6 false false [] <| .op 7 false false [] <| .op 8 false false [] <| .op 9 false false [] <| .op 10 false false [] <| .op 11 false false [] <| .op 12 false false [] <| .op 13 false false [] <| .op 14 false false [] <| .op 15 false false [] <| .op 16 false false [] <| .op 17 false false [] <| .op 18 false false [] <| .op 19 false false [] <| .op 20 false false [] <| .op 21 false false [] <| .nil) mixed (by kernel_rfl) ?_
            simp -dsimp (maxSteps := 2000000) (disch := first | omega | (simp only [qZ] <;> omega) | fail) only [push_cast, ↓qP, ↓reduceIte, Nat.reduceEqDiff, Nat.reduceAdd, Nat.reduceMul, Nat.reduceSub, Nat.reduceLeDiff, Int.reduceToNat, reduceCtorEq, h5.rdc, c1']
            refine Sm.out ?_
            repeat (first | refine qS ?_ | refine qB ?_ | refine qT rfl ?_ | refine qF rfl ?_ | ((first | refine qR rfl ?_ | refine qK ?_ | refine qE ?_ | refine qW ?_ | refine qM ?_); try simp -dsimp (maxSteps := 2000000) (disch := first | omega | (simp only [qZ] <;> omega) | fail) only [push_cast, ↓qP, ↓reduceIte, Nat.reduceEqDiff, Nat.reduceAdd, Nat.reduceMul, Nat.reduceSub, Nat.reduceLeDiff, Int.reduceToNat, reduceCtorEq]) | (refine qA ?_ ?_; (first | omega | (simp only [qL]; omega) | (simp only [qD] at *; omega))))
            have ha := h5.drew
            have ka := (k4.trans k5).drew
            have hlta := ha.lt
            replace hrr : Hide _ := ⟨hrr⟩
            refine Wp.draw [0, 1, 3, 7, 0, 16, 48, 112, 240, 511, 1023, 2047, 4095, 8191, 16383, 2047, 34815, 100351, 231423, 524287, 1048575, 2097151, 4194303, 8388607, 16777215, 33554431, 67108863, 134217727, 268435455, 536870911, 1073741823, 2147483647, 4294967295, 8589934591, 17179869183, 17179869183, 68719476735, 137438953471, 274877906943] [] (.op 0 false false [] <| .op 1 false false [] <| .op 2 false false [] <| .op 3 false false [] <| .op 4 false false [] <| .op 5 false false [] <| .op 6 false false [] <| .op 7 false false [] <| .op 8 false false [] <| .op 9 false false [] <| .op 10 false false [] <| .op 11 false false [] <| .op 12 false false [] <| .op 13 false false [] <| .op 14 false false [] <| .op 15 false false [] <| .op 16 false false [] <| .op 17 false false [] <| .op 18 false false [] <| .op 19 false false [] <| .op 20 false false [] <| .op 21 false false [] <| .op 22 false false [] <| .op 23 false false [] <| .op 24 false false [] <| .op 25 false false [] <| .op 26 false false [] <| .op 27 false false [] <| .op 28 false false [] <| .op 29 false false [] <| .op 30 false false [] <| .op 31 false false [] <| .op 32 false false [] <| .op 33 false false [] <| .op 34 false false [] <| .op 35 false false [] <| .op 36 false false [] <| .op 37 false false [] <| .op 38 false false [] <| .nil) mixed (by kernel_rfl) ?_
            simp -dsimp (maxSteps := 2000000) (disch := first | omega | (simp only [qZ] <;> omega) | fail) only [push_cast, ↓qP, ↓reduceIte, Nat.reduceEqDiff, Nat.reduceAdd, Nat.reduceMul, Nat.reduceSub, Nat.reduceLeDiff, Int.reduceToNat, reduceCtorEq, ha.rdc, ha.fz]
            repeat' (first | refine qS ?_ | refine qB ?_ | refine qT rfl ?_ | refine qF rfl ?_ | ((first | refine qR rfl ?_ | refine qK ?_ | refine qE ?_ | refine qW ?_ | refine qM ?_); try simp -dsimp (maxSteps := 2000000) (disch := first | omega | (simp only [qZ] <;> omega) | fail) only [push_cast, ↓qP, ↓reduceIte, Nat.reduceEqDiff, Nat.reduceAdd, Nat.reduceMul, Nat.reduceSub, Nat.reduceLeDiff, Int.reduceToNat, reduceCtorEq, ha.rdc, ha.fz]) | ((refine gsel.mk (fun hg => ?_) (fun hg => ?_)) <;> try simp -dsimp (maxSteps := 2000000) (disch := first | omega | (simp only [qZ] <;> omega) | fail) only [push_cast, ↓qP, ↓reduceIte, Nat.reduceEqDiff, Nat.reduceAdd, Nat.reduceMul, Nat.reduceSub, Nat.reduceLeDiff, Int.reduceToNat, reduceCtorEq, ha.rdc, ha.fz, *]) | refine Wp.cond rfl (fun hg => ?_) (fun hg => ?_) | (refine qA ?_ ?_; (first | omega | (simp only [qL]; omega) | (simp only [qD] at *; omega))))
            all_goals
              have hr1 := hrr.out
              have e125 : ∀ c : UInt8, (c == 125) = ((c.toNat : Int) == 125) := fun c => (u8_eq' c 125).symm
              first
              | (rw [if_pos (by rw [e125]; simp_all <;> (intros; omega))] at hr1
                 refine CallV.of isCall_50 (fail3 ha.drew 3) ?_
                 rintro _ w9 ⟨rfl, h9, k9⟩
                 refine Sm.out ?_
                 repeat (first | refine qS ?_ | refine qB ?_ | refine qT rfl ?_ | refine qF rfl ?_ | ((first | refine qR rfl ?_ | refine qK ?_ | refine qE ?_ | refine qW ?_ | refine qM ?_); try simp -dsimp (maxSteps := 2000000) (disch := first | omega | (simp only [qZ] <;> omega) | fail) only [push_cast, ↓qP, ↓reduceIte, Nat.reduceEqDiff, Nat.reduceAdd, Nat.reduceMul, Nat.reduceSub, Nat.reduceLeDiff, Int.reduceToNat, reduceCtorEq]) | (refine qA ?_ ?_; (first | omega | (simp only [qL]; omega) | (simp only [qD] at *; omega))))
                 rw [hr1]
                 exact Ret.mk ⟨rfl, h9, ka.drew.trans k9⟩)
              | (rw [if_neg (by rw [e125]; simp_all <;> (intros; omega))] at hr1
                 rw [hr1]
                 exact Ret.mk ⟨rfl, ha.drew.set 1 (.int .i64 ((s1.i : Int) + 1)), ka.drew.setCell (fun _ => rfl) _⟩)
      · rw [if_pos (by
          simp only [Bool.or_eq_true, decide_eq_true_eq, Bool.not_eq_true']
          rcases Nat.lt_or_ge (s.i + 1) l.length with h5 | h5
          · right; simpa using fun h6 => hgo ⟨h5, h6⟩
          · left; omega)] at hrr
        rw [hrr]
        replace hgo : Hide _ := ⟨hgo⟩
        have hix : ((s.i : Int) + 1).toNat = s.i + 1 := by omega
        clear hrr
        refine Wp.draw [0, 1, 3, 7, 15, 0, 32, 96, 224, 480, 1023, 2047, 4095, 8191, 16383, 32767, 4095, 69631, 200703, 462847, 987135, 2097151, 4194303, 8388607, 16777215, 33554431, 67108863, 134217727, 268435455, 33554431, 570425343, 1644167167, 3791650815, 8086618111, 17179869183, 34359738367, 68719476735] [] (.op 0 false false [] <| .op 1 false false [] <| .op 2 false false [] <| .op 3 false false [] <| .op 4 false false [] <| .op 5 false false [] <| .op 6 false false [] <| .op 7 false false [] <| .op 8 false false [] <| .op 9 false false [] <| .op 10 false false [] <| .op 11 false false [] <| .op 12 false false [] <| .op 13 false false [] <| .op 14 false false [] <| .op 15 false false [] <| .op 16 false false [] <| .op 17 false false [] <| .op 18 false false [] <| .op 19 false false [] <| .op 20 false false [] <| .op 21 false false [] <| .op 22 false false [] <| .op 23 false false [] <| .op 24 false false [] <| .op 25 false false [] <| .op 26 false false [] <| .op 27 false false [] <| .op 28 false false [] <| .op 29 false false [] <| .op 30 false false [] <| .op 31 false false [] <| .op 32 false false [] <| .op 33 false false [] <| .op 34 false false [] <| .op 35 false false [] <| .op 36 false false [] <| .nil) mixed (by kernel_rfl) ?_
        simp -dsimp (maxSteps := 2000000) (disch := first | omega | (simp only [qZ] <;> omega) | fail) only [push_cast, ↓qP, ↓reduceIte, Nat.reduceEqDiff, Nat.reduceAdd, Nat.reduceMul, Nat.reduceSub, Nat.reduceLeDiff, Int.reduceToNat, reduceCtorEq, h2.rdc, hix]
        repeat' (first | refine qS ?_ | refine qB ?_ | refine qT rfl ?_ | refine qF rfl ?_ | ((first | refine qR rfl ?_ | refine qK ?_ | refine qE ?_ | refine qW ?_ | refine qM ?_); try simp -dsimp (maxSteps := 2000000) (disch := first | omega | (simp only [qZ] <;> omega) | fail) only [push_cast, ↓qP, ↓reduceIte, Nat.reduceEqDiff, Nat.reduceAdd, Nat.reduceMul, Nat.reduceSub, Nat.reduceLeDiff, Int.reduceToNat, reduceCtorEq, h2.rdc, hix]) | ((refine gsel.mk (fun hg => ?_) (fun hg => ?_)) <;> try simp -dsimp (maxSteps := 2000000) (disch := first | omega | (simp only [qZ] <;> omega) | fail) only [push_cast, ↓qP, ↓reduceIte, Nat.reduceEqDiff, Nat.reduceAdd, Nat.reduceMul, Nat.reduceSub, Nat.reduceLeDiff, Int.reduceToNat, reduceCtorEq, h2.rdc, hix, *]) | refine Wp.cond rfl (fun hg => ?_) (fun hg => ?_) | (refine qA ?_ ?_; (first | omega | (simp only [qL]; omega) | (simp only [qD] at *; omega))))
        all_goals first
          | exact Ret.mk ⟨rfl, h2.drew, k2.drew⟩
          | (exfalso; have hgo' := hgo.out; simp only [decide_eq_true_eq, decide_eq_false_iff_not] at *; exact hgo' ⟨by omega, (digs_iff _ _ _).2 ⟨by show 48 ≤ (l.getD (s.i + 1) 0).toNat; omega, by show (l.getD (s.i + 1) 0).toNat ≤ 57; omega⟩⟩)
    · have n123 : (((byteAt l s.i).toNat : Int) == 123) = false := by rw [show (123 : Int) = ((123 : UInt8).toNat : Int) from rfl, u8_eq']; simpa using c123
      have hrr : repeat3 l s = ((0, 0, false), s) := by simp only [repeat3, hm, Bool.not_true, Bool.false_eq_true, ↓reduceIte, beq_iff_eq, c42, c43, c63, c123]
      rw [hrr]
      refine Sm.out ?_
      repeat (first | refine qS ?_ | refine qB ?_ | refine qT rfl ?_ | refine qF rfl ?_ | ((first | refine qR rfl ?_ | refine qK ?_ | refine qE ?_ | refine qW ?_ | refine qM ?_); try simp -dsimp (maxSteps := 2000000) (disch := first | omega | (simp only [qZ] <;> omega) | fail) only [push_cast, ↓qP, ↓reduceIte, Nat.reduceEqDiff, Nat.reduceAdd, Nat.reduceMul, Nat.reduceSub, Nat.reduceLeDiff, Int.reduceToNat, reduceCtorEq, n42, n43, n63, n123, h2.rdc]) | (refine qA ?_ ?_; (first | omega | (simp only [qL]; omega) | (simp only [qD] at *; omega))))
      exact Ret.mk ⟨rfl, h2, k2⟩
  · refine Sm.out ?_
    repeat (first | refine qS ?_ | refine qB ?_ | refine qT rfl ?_ | refine qF rfl ?_ | ((first | refine qR rfl ?_ | refine qK ?_ | refine qE ?_ | refine qW ?_ | refine qM ?_); try simp -dsimp (maxSteps := 2000000) (disch := first | omega | (simp only [qZ] <;> omega) | fail) only [push_cast, ↓qP, ↓reduceIte, Nat.reduceEqDiff, Nat.reduceAdd, Nat.reduceMul, Nat.reduceSub, Nat.reduceLeDiff, Int.reduceToNat, reduceCtorEq, hm]) | (refine qA ?_ ?_; (first | omega | (simp only [qL]; omega) | (simp only [qD] at *; omega))))
    have hrr : repeat3 l s = ((0, 0, false), s) := by simp [repeat3, hm]
    rw [hrr]
    exact Ret.mk ⟨rfl, h.drew, (Kp.refl (· = a) w).drew⟩
end
end Go.Proofs.Ytddichibegppjaa

/- The reference's reader of expressions: all bytes. -/
namespace Go.Proofs.Ytddichibegppjaa
open Go Go.VC

def by8s (l : List UInt8) : List Value := l.map by8
theorem by8s_len (l : List UInt8) : (by8s l).length = l.length := by simp [by8s]
theorem by8s_append (a b : List UInt8) : by8s (a ++ b) = by8s a ++ by8s b := by simp [by8s]
theorem by8s_read {w : World} {g n cap : Nat} {l : List UInt8} (h : Own w 5 1 (some ⟨g, 0, none⟩) n cap (by8s l)) (hn : n = l.length) : ∀ j (hj : j < l.length), rdc w g (0 + j) = some (by8 l[j]) := by
  intro j hj
  rw [Nat.zero_add, h.rdc j (by omega), by8s, List.getElem?_map, List.getElem?_eq_getElem hj]; rfl
theorem by8s_str {w : World} {A : Option Addr} {n cap : Nat} {l : List UInt8} (h : Own w 5 1 A n cap (by8s l)) (hn : n = l.length) : l = [] ∨ ∃ b i, A = some ⟨b, i, none⟩ ∧ ∀ j (hj : j < l.length), rdc w b (i + j) = some (by8 l[j]) := by
  rcases Nat.eq_zero_or_pos n with h0 | h0
  · left; exact List.eq_nil_of_length_eq_zero (by omega)
  · obtain ⟨g, rfl, _⟩ := h.some h0
    exact .inr ⟨g, 0, rfl, by8s_read h hn⟩

theorem all_take (k : Nat) (hk : k < 256) : allBytes.take (k + 1) = allBytes.take k ++ [UInt8.ofNat k] := by
  have hl : allBytes.length = 256 := by simp [allBytes]
  rw [List.take_succ_eq_append_getElem (by omega)]
  simp [allBytes]

theorem all3_any (w : World) : Calls Try.prog 93 #[] w fun e w' => e = .returned (.string (B allBytes)) ∧ Kp (fun _ => False) w w' := by
  refine enter (n := 14) (args := []) Try.func93 rfl rfl rfl (by simp) ?_
  repeat (first | refine qS ?_ | refine qB ?_ | refine qT rfl ?_ | refine qF rfl ?_ | ((first | refine qR rfl ?_ | refine qK ?_ | refine qE ?_ | refine qW ?_ | refine qM ?_); try simp -dsimp (maxSteps := 2000000) (disch := first | omega | (simp only [qZ] <;> omega) | fail) only [push_cast, ↓qP, ↓reduceIte, Nat.reduceEqDiff, Nat.reduceAdd, Nat.reduceMul, Nat.reduceSub, Nat.reduceLeDiff, Int.reduceToNat, reduceCtorEq]) | (refine qA ?_ ?_; (first | omega | (simp only [qL]; omega) | (simp only [qD] at *; omega))))
  refine Wp.loop (α := Nat) (fun k F w2 => ∃ A cap, F 1 = .slice A k cap ∧ F 2 = .int .i64 k ∧ k ≤ 256 ∧ Own w2 5 1 A k cap (by8s (allBytes.take k)) ∧ (∀ g, bk A = some g → w.heap.size ≤ g) ∧ Kp (fun _ => False) w w2) (fun k => 256 - k) 0
    ⟨none, 0, rfl, rfl, by omega, Own.nil _ _ _, by simp [bk], Kp.refl _ _⟩ ?_
  rintro k F w2 ⟨A, cap, f1, f2, hk, hown, hnew, hkp⟩
  by_cases hlt : k < 256
  · have c1 : decide ((k : Int) < 256) = true := decide_eq_true (by omega)
    repeat (first | refine qS ?_ | refine qB ?_ | refine qT rfl ?_ | refine qF rfl ?_ | ((first | refine qR rfl ?_ | refine qK ?_ | refine qE ?_ | refine qW ?_ | refine qM ?_); try simp -dsimp (maxSteps := 2000000) (disch := first | omega | (simp only [qZ] <;> omega) | fail) only [push_cast, ↓qP, ↓reduceIte, Nat.reduceEqDiff, Nat.reduceAdd, Nat.reduceMul, Nat.reduceSub, Nat.reduceLeDiff, Int.reduceToNat, reduceCtorEq, f1, f2, c1]) | (refine qA ?_ ?_; (first | omega | (simp only [qL]; omega) | (simp only [qD] at *; omega))))
    refine V_append (m := 1) _ _ _ rfl mk_63 rfl (hown.alloc _) rfl [.int .u8 k] ?r rfl (by omega) (by omega) ?k
    case r => simp -dsimp (maxSteps := 2000000) (disch := first | omega | (simp only [qZ] <;> omega) | fail) only [push_cast, ↓qP, ↓reduceIte, Nat.reduceEqDiff, Nat.reduceAdd, Nat.reduceMul, Nat.reduceSub, Nat.reduceLeDiff, Int.reduceToNat, reduceCtorEq]
    case k =>
      intro A' cap' w3 hown' hgrow hat
      refine Sm.out ?_
      repeat (first | refine qS ?_ | refine qB ?_ | refine qT rfl ?_ | refine qF rfl ?_ | ((first | refine qR rfl ?_ | refine qK ?_ | refine qE ?_ | refine qW ?_ | refine qM ?_); try simp -dsimp (maxSteps := 2000000) (disch := first | omega | (simp only [qZ] <;> omega) | fail) only [push_cast, ↓qP, ↓reduceIte, Nat.reduceEqDiff, Nat.reduceAdd, Nat.reduceMul, Nat.reduceSub, Nat.reduceLeDiff, Int.reduceToNat, reduceCtorEq, f1, f2]) | (refine qA ?_ ?_; (first | omega | (simp only [qL]; omega) | (simp only [qD] at *; omega))))
      refine Again.mk (k + 1) ⟨A', cap', ?_, ?_, by omega, ?_, ?_, (hkp.alloc _).grown hgrow (fun g hg hl => by have := hnew g hg; omega)⟩ (by omega)
      · simp -dsimp (maxSteps := 2000000) (disch := first | omega | (simp only [qZ] <;> omega) | fail) only [push_cast, ↓qP, ↓reduceIte, Nat.reduceEqDiff, Nat.reduceAdd, Nat.reduceMul, Nat.reduceSub, Nat.reduceLeDiff, Int.reduceToNat, reduceCtorEq]
      · simp -dsimp (maxSteps := 2000000) (disch := first | omega | (simp only [qZ] <;> omega) | fail) only [push_cast, ↓qP, ↓reduceIte, Nat.reduceEqDiff, Nat.reduceAdd, Nat.reduceMul, Nat.reduceSub, Nat.reduceLeDiff, Int.reduceToNat, reduceCtorEq]
      · rw [all_take k hlt, by8s_append]
        have : by8s [UInt8.ofNat k] = [.int .u8 k] := by simp [by8s, by8]; omega
        rw [this]; exact hown'
      · intro g hg
        rcases hat with h | h
        · exact hnew g (h ▸ hg)
        · rw [h] at hg; simp at hg; subst hg; have := hkp.size; simp; omega
  · have c1 : decide ((k : Int) < 256) = false := decide_eq_false (by omega)
    obtain rfl : k = 256 := by omega
    have hl : allBytes.length = 256 := by simp [allBytes]
    rw [List.take_of_length_le (by omega)] at hown
    repeat (first | refine qS ?_ | refine qB ?_ | refine qT rfl ?_ | refine qF rfl ?_ | ((first | refine qR rfl ?_ | refine qK ?_ | refine qE ?_ | refine qW ?_ | refine qM ?_); try simp -dsimp (maxSteps := 2000000) (disch := first | omega | (simp only [qZ] <;> omega) | fail) only [push_cast, ↓qP, ↓reduceIte, Nat.reduceEqDiff, Nat.reduceAdd, Nat.reduceMul, Nat.reduceSub, Nat.reduceLeDiff, Int.reduceToNat, reduceCtorEq, f1, f2, c1]) | (refine qA ?_ ?_; (first | omega | (simp only [qL]; omega) | (simp only [qD] at *; omega))))
    refine V_str 63 9 _ rfl se_63 ik_5 isStr_9 allBytes rfl (by rw [hl]) (by8s_str hown (by rw [hl])) ?_
    refine Sm.out ?_
    repeat (first | refine qS ?_ | refine qB ?_ | refine qT rfl ?_ | refine qF rfl ?_ | ((first | refine qR rfl ?_ | refine qK ?_ | refine qE ?_ | refine qW ?_ | refine qM ?_); try simp -dsimp (maxSteps := 2000000) (disch := first | omega | (simp only [qZ] <;> omega) | fail) only [push_cast, ↓qP, ↓reduceIte, Nat.reduceEqDiff, Nat.reduceAdd, Nat.reduceMul, Nat.reduceSub, Nat.reduceLeDiff, Int.reduceToNat, reduceCtorEq]) | (refine qA ?_ ?_; (first | omega | (simp only [qL]; omega) | (simp only [qD] at *; omega))))
    exact Ret.mk ⟨rfl, hkp⟩
end Go.Proofs.Ytddichibegppjaa

/- The reference's reader of expressions: items of sets. -/
namespace Go.Proofs.Ytddichibegppjaa
open Go Go.VC

def bools (set : List Bool) : List Value := set.map Value.bool
theorem h91 (c : UInt8) : ((c.toNat : Int) == 91) = (c == 91) := u8_eq' c 91
theorem h58 (c : UInt8) : ((c.toNat : Int) == 58) = (c == 58) := u8_eq' c 58
theorem h93 (c : UInt8) : ((c.toNat : Int) == 93) = (c == 93) := u8_eq' c 93
theorem eqb (c k : UInt8) : ((c.toNat : Int) == (k.toNat : Int)) = (c == k) := u8_eq' c k

section
variable {a g : Nat} {l : List UInt8} {s : S3} {w : World} {set : List Bool}

theorem item3_any (h : At3 w a l s) (hb : Blk w g 4 (bools set)) (hset : set.length = 256) (hl : l.length ≤ 1000000) (hi : s.i < l.length) :
    Calls Try.prog 101 #[.pointer (some ⟨a, 0, none⟩), .slice (some ⟨g, 0, none⟩) 256 256] w fun e w' =>
      e = .returned (.tuple #[by8 (item3 l s set).1.1, .bool (item3 l s set).1.2]) ∧ At3 w' a l (item3 l s set).2.2 ∧ Blk w' g 4 (bools (item3 l s set).2.1) ∧ Kp (fun b => b = a ∨ b = g) w w' := by
  have hlt := h.lt
  have hne : a ≠ g := h.ne hb (by decide)
  have hgl := hb.lt
  refine enter (n := 133) (args := [.pointer (some ⟨a, 0, none⟩), .slice (some ⟨g, 0, none⟩) 256 256]) Try.func101 rfl rfl rfl (by simp) ?_
  repeat (first | refine qS ?_ | refine qB ?_ | refine qT rfl ?_ | refine qF rfl ?_ | ((first | refine qR rfl ?_ | refine qK ?_ | refine qE ?_ | refine qW ?_ | refine qM ?_); try simp -dsimp (maxSteps := 2000000) (disch := first | omega | (simp only [qZ] <;> omega) | fail) only [push_cast, ↓qP, ↓reduceIte, Nat.reduceEqDiff, Nat.reduceAdd, Nat.reduceMul, Nat.reduceSub, Nat.reduceLeDiff, Int.reduceToNat, reduceCtorEq]) | (refine qA ?_ ?_; (first | omega | (simp only [qL]; omega) | (simp only [qD] at *; omega))))
  refine CallV.of isCall_72 (peek3 h hi) ?_
  rintro _ _ ⟨rfl, rfl⟩
  refine Sm.out ?_
  repeat (first | refine qS ?_ | refine qB ?_ | refine qT rfl ?_ | refine qF rfl ?_ | ((first | refine qR rfl ?_ | refine qK ?_ | refine qE ?_ | refine qW ?_ | refine qM ?_); try simp -dsimp (maxSteps := 2000000) (disch := first | omega | (simp only [qZ] <;> omega) | fail) only [push_cast, ↓qP, ↓reduceIte, Nat.reduceEqDiff, Nat.reduceAdd, Nat.reduceMul, Nat.reduceSub, Nat.reduceLeDiff, Int.reduceToNat, reduceCtorEq]) | (refine qA ?_ ?_; (first | omega | (simp only [qL]; omega) | (simp only [qD] at *; omega))))
  have h2 : At3 w.drew a l s := h.drew
  have hb2 : Blk w.drew g 4 (bools set) := hb.drew
  have k2 : Kp (fun b => b = a ∨ b = g) w w.drew := (Kp.refl _ w).drew
  have hlt2 := h2.lt
  have hgl2 := hb2.lt
  generalize w.drew = w2 at *
  by_cases hcl : byteAt l s.i = 91 ∧ s.i + 1 < l.length ∧ byteAt l (s.i + 1) = 58
  · obtain ⟨q1, q2, q3⟩ := hcl
    have e91 : (((byteAt l s.i).toNat : Int) == 91) = true := by rw [q1]; rfl
    have e58 : (((byteAt l (s.i + 1)).toNat : Int) == 58) = true := by rw [q3]; rfl
    have eln : decide ((s.i : Int) + 1 < (l.length : Int)) = true := decide_eq_true (by omega)
    have hix : ((s.i : Int) + 1).toNat = s.i + 1 := by omega
    have hir : item3 l s set = if clEnd l l.length (s.i + 2) + 1 ≥ l.length then ((0, false), set, s.fail 2) else
        if (in3 ((l.drop (s.i + 2)).take (clEnd l l.length (s.i + 2) - (s.i + 2))) 0).2 then ((0, false), clPut ((l.drop (s.i + 2)).take (clEnd l l.length (s.i + 2) - (s.i + 2))) set, { s with i := clEnd l l.length (s.i + 2) + 2 }) else ((0, false), set, s.fail 2) := by
      unfold item3
      rw [if_pos (by rw [q1, q3]; simp; omega)]
    replace hir : Hide _ := ⟨hir⟩
    refine Wp.draw [0, 1, 3, 7, 15, 31, 63, 127, 7, 263, 775, 1799, 3847, 8191, 16383, 32767, 65535, 131071, 262143, 524287, 65535, 1114111, 3211263, 7405567, 15794175, 33554431, 67108863, 134217727] [] (.op 0 false false [] <| .op 1 false false [] <| .op 2 false false [] <| .op 3 false false [] <| .op 4 false false [] <| .op 5 false false [] <| .op 6 false false [] <| .op 7 false false [] <| .op 8 false false [] <| .op 9 false false [] <| .op 10 false false [] <| .op 11 false false [] <| .op 12 false false [] <| .op 13 false false [] <| .op 14 false false [] <| .op 15 false false [] <| .op 16 false false [] <| .op 17 false false [] <| .op 18 false false [] <| .op 19 false false [] <| .op 20 false false [] <| .op 21 false false [] <| .op 22 false false [] <| .op 23 false false [] <| .op 24 false false [] <| .op 25 false false [] <| .op 26 false false [] <| .op 27 false false [] <| .nil) mixed (by kernel_rfl) ?_
    simp -dsimp (maxSteps := 2000000) (disch := first | omega | (simp only [qZ] <;> omega) | fail) only [push_cast, ↓qP, ↓reduceIte, Nat.reduceEqDiff, Nat.reduceAdd, Nat.reduceMul, Nat.reduceSub, Nat.reduceLeDiff, Int.reduceToNat, reduceCtorEq, h2.rdc, e91, e58, eln, hix]
    refine ⟨by omega, ?_⟩
    refine Sm.out ?_
    repeat (first | refine qS ?_ | refine qB ?_ | refine qT rfl ?_ | refine qF rfl ?_ | ((first | refine qR rfl ?_ | refine qK ?_ | refine qE ?_ | refine qW ?_ | refine qM ?_); try simp -dsimp (maxSteps := 2000000) (disch := first | omega | (simp only [qZ] <;> omega) | fail) only [push_cast, ↓qP, ↓reduceIte, Nat.reduceEqDiff, Nat.reduceAdd, Nat.reduceMul, Nat.reduceSub, Nat.reduceLeDiff, Int.reduceToNat, reduceCtorEq, h2.rdc]) | (refine qA ?_ ?_; (first | omega | (simp only [qL]; omega) | (simp only [qD] at *; omega))))
    have h3 := h2.drew
    have hb3 := hb2.drew
    have k3 := k2.drew
    have hlt3 := h3.lt
    have hgl3 := hb3.lt
    generalize w2.drew = w3 at *
    refine Wp.loop (α := Nat) (fun k F w4 => ∃ e : Nat, F 0 = .pointer (some ⟨a, 0, none⟩) ∧ F 1 = .slice (some ⟨g, 0, none⟩) 256 256 ∧ F 7 = .int .i64 e ∧ w3 = w4 ∧ Hide (e = s.i + 2 + k) ∧ e ≤ l.length + 1 ∧ k ≤ l.length ∧ Hide (clEnd l (l.length - k) e = clEnd l l.length (s.i + 2))) (fun k => l.length - k) 0
      ⟨s.i + 2, ?_, ?_, ?_, rfl, ⟨rfl⟩, by omega, by omega, ⟨rfl⟩⟩ ?_
    · simp -dsimp (maxSteps := 2000000) (disch := first | omega | (simp only [qZ] <;> omega) | fail) only [push_cast, ↓qP, ↓reduceIte, Nat.reduceEqDiff, Nat.reduceAdd, Nat.reduceMul, Nat.reduceSub, Nat.reduceLeDiff, Int.reduceToNat, reduceCtorEq]
    · simp -dsimp (maxSteps := 2000000) (disch := first | omega | (simp only [qZ] <;> omega) | fail) only [push_cast, ↓qP, ↓reduceIte, Nat.reduceEqDiff, Nat.reduceAdd, Nat.reduceMul, Nat.reduceSub, Nat.reduceLeDiff, Int.reduceToNat, reduceCtorEq]
    · simp -dsimp (maxSteps := 2000000) (disch := first | omega | (simp only [qZ] <;> omega) | fail) only [push_cast, ↓qP, ↓reduceIte, Nat.reduceEqDiff, Nat.reduceAdd, Nat.reduceMul, Nat.reduceSub, Nat.reduceLeDiff, Int.reduceToNat, reduceCtorEq]
      congr 1
    rintro k F _ ⟨e, f0, f1, f7, rfl, hek, he, hk, hcle⟩
    have hix1 : ((e : Int) + 1).toNat = e + 1 := by omega
    by_cases hgo : e + 1 < l.length ∧ ¬ (byteAt l e = 58 ∧ byteAt l (e + 1) = 93)
    · replace hgo : Hide _ := ⟨hgo⟩
      have hel := hgo.out.1
      repeat' (first | refine qS ?_ | refine qB ?_ | refine qT rfl ?_ | refine qF rfl ?_ | ((first | refine qR rfl ?_ | refine qK ?_ | refine qE ?_ | refine qW ?_ | refine qM ?_); try simp -dsimp (maxSteps := 2000000) (disch := first | omega | (simp only [qZ] <;> omega) | fail) only [push_cast, ↓qP, ↓reduceIte, Nat.reduceEqDiff, Nat.reduceAdd, Nat.reduceMul, Nat.reduceSub, Nat.reduceLeDiff, Int.reduceToNat, reduceCtorEq, f0, f1, f7, h3.rdc, hix1]) | ((refine gsel.mk (fun hg => ?_) (fun hg => ?_)) <;> try simp -dsimp (maxSteps := 2000000) (disch := first | omega | (simp only [qZ] <;> omega) | fail) only [push_cast, ↓qP, ↓reduceIte, Nat.reduceEqDiff, Nat.reduceAdd, Nat.reduceMul, Nat.reduceSub, Nat.reduceLeDiff, Int.reduceToNat, reduceCtorEq, f0, f1, f7, h3.rdc, hix1, *]) | refine Wp.cond rfl (fun hg => ?_) (fun hg => ?_) | (refine qA ?_ ?_; (first | omega | (simp only [qL]; omega) | (simp only [qD] at *; omega))))
      all_goals first
        | (refine Again.mk (k + 1) ⟨e + 1, ?_, ?_, ?_, rfl, ⟨by have := hek.out; omega⟩, by omega, by have := hek.out; omega, ⟨?_⟩⟩ (by have := hek.out; omega)
           · simp -dsimp (maxSteps := 2000000) (disch := first | omega | (simp only [qZ] <;> omega) | fail) only [push_cast, ↓qP, ↓reduceIte, Nat.reduceEqDiff, Nat.reduceAdd, Nat.reduceMul, Nat.reduceSub, Nat.reduceLeDiff, Int.reduceToNat, reduceCtorEq, f0]
           · simp -dsimp (maxSteps := 2000000) (disch := first | omega | (simp only [qZ] <;> omega) | fail) only [push_cast, ↓qP, ↓reduceIte, Nat.reduceEqDiff, Nat.reduceAdd, Nat.reduceMul, Nat.reduceSub, Nat.reduceLeDiff, Int.reduceToNat, reduceCtorEq, f1]
           · simp -dsimp (maxSteps := 2000000) (disch := first | omega | (simp only [qZ] <;> omega) | fail) only [push_cast, ↓qP, ↓reduceIte, Nat.reduceEqDiff, Nat.reduceAdd, Nat.reduceMul, Nat.reduceSub, Nat.reduceLeDiff, Int.reduceToNat, reduceCtorEq, f7]
           · rw [← hcle.out, show l.length - k = (l.length - (k + 1)) + 1 by have := hek.out; omega]
             have hh := hgo.out
             simp only [clEnd]
             rw [if_pos]
             simp only [Bool.and_eq_true, decide_eq_true_eq, Bool.not_eq_true', Bool.and_eq_false_iff]
             refine ⟨hh.1, ?_⟩
             by_cases h9 : byteAt l e = 58
             · right; simpa using fun h10 => hh.2 ⟨h9, h10⟩
             · left; simpa using h9)
        | (exfalso; have hh := hgo.out; clear hgo; simp only [h58, h93, beq_iff_eq, decide_eq_true_eq, decide_eq_false_iff_not, Bool.not_true, Bool.not_false, Bool.not_eq_false', Bool.not_eq_true'] at *; first | omega | exact hh.2 ⟨by assumption, by assumption⟩)
        | trace_state
    · have hce : clEnd l l.length (s.i + 2) = e := by
        rw [← hcle.out]
        rcases Nat.eq_zero_or_pos (l.length - k) with h9 | h9
        · rw [h9]; rfl
        · rw [show l.length - k = (l.length - k - 1) + 1 by omega]
          simp only [clEnd]
          rw [if_neg]
          simp only [Bool.and_eq_true, decide_eq_true_eq, Bool.not_eq_true', Bool.and_eq_false_iff, beq_eq_false_iff_ne]
          rintro ⟨h10, h11⟩
          exact hgo ⟨h10, fun ⟨h12, h13⟩ => by rcases h11 with h11 | h11 <;> contradiction⟩
      have hir' := hir.out
      rw [hce] at hir'
      clear hir hcle hce
      replace hgo : Hide _ := ⟨hgo⟩
      rcases Nat.lt_or_ge (e + 1) l.length with h9 | h9
      · have h9' : decide ((e : Int) + 1 ≥ (l.length : Int)) = false := decide_eq_false (by omega)
        rw [if_neg (by omega)] at hir'
        replace hir' : Hide _ := ⟨hir'⟩
        repeat' (first | refine qS ?_ | refine qB ?_ | refine qT rfl ?_ | refine qF rfl ?_ | ((first | refine qR rfl ?_ | refine qK ?_ | refine qE ?_ | refine qW ?_ | refine qM ?_); try simp -dsimp (maxSteps := 2000000) (disch := first | omega | (simp only [qZ] <;> omega) | fail) only [push_cast, ↓qP, ↓reduceIte, Nat.reduceEqDiff, Nat.reduceAdd, Nat.reduceMul, Nat.reduceSub, Nat.reduceLeDiff, Int.reduceToNat, reduceCtorEq, f0, f1, f7, h3.rdc, hix1, h9']) | ((refine gsel.mk (fun hg => ?_) (fun hg => ?_)) <;> try simp -dsimp (maxSteps := 2000000) (disch := first | omega | (simp only [qZ] <;> omega) | fail) only [push_cast, ↓qP, ↓reduceIte, Nat.reduceEqDiff, Nat.reduceAdd, Nat.reduceMul, Nat.reduceSub, Nat.reduceLeDiff, Int.reduceToNat, reduceCtorEq, f0, f1, f7, h3.rdc, hix1, h9', *]) | refine Wp.cond rfl (fun hg => ?_) (fun hg => ?_) | (refine qA ?_ ?_; (first | omega | (simp only [qL]; omega) | (simp only [qD] at *; omega))))
        all_goals first
          | (exfalso; have hh := hgo.out; clear hgo; simp only [h58, h93, beq_iff_eq, decide_eq_true_eq, decide_eq_false_iff_not, Bool.not_true, Bool.not_false, Bool.not_eq_false', Bool.not_eq_true', beq_eq_false_iff_ne] at *; first | omega | exact hh ⟨by omega, fun ⟨h12, h13⟩ => by contradiction⟩)
          | skip
        have hix2 : ((s.i : Int) + 2).toNat = s.i + 2 := by omega
        have hek' := hek.out
        refine Wp.draw [0, 1, 3, 7, 0, 16, 48, 112, 240, 0, 1023, 2047] [] (.op 0 false false [] <| .op 1 false false [] <| .op 2 false false [] <| .op 3 false false [] <| .op 4 false false [] <| .op 5 false false [] <| .op 6 false false [] <| .op 7 false false [] <| .op 8 false false [] <| .op 9 false false [] <| .op 10 false false [] <| .op 11 false false [] <| .nil) mixed (by kernel_rfl) ?_
        simp -dsimp (maxSteps := 2000000) (disch := first | omega | (simp only [qZ] <;> omega) | fail) only [push_cast, ↓qP, ↓reduceIte, Nat.reduceEqDiff, Nat.reduceAdd, Nat.reduceMul, Nat.reduceSub, Nat.reduceLeDiff, Int.reduceToNat, reduceCtorEq, h3.rdc, f0, f1, f7, hix2]
        refine ⟨by omega, ?_⟩
        generalize hn : (l.drop (s.i + 2)).take (e - (s.i + 2)) = n at *
        refine Sm.out ?_
        repeat (first | refine qS ?_ | refine qB ?_ | refine qT rfl ?_ | refine qF rfl ?_ | ((first | refine qR rfl ?_ | refine qK ?_ | refine qE ?_ | refine qW ?_ | refine qM ?_); try simp -dsimp (maxSteps := 2000000) (disch := first | omega | (simp only [qZ] <;> omega) | fail) only [push_cast, ↓qP, ↓reduceIte, Nat.reduceEqDiff, Nat.reduceAdd, Nat.reduceMul, Nat.reduceSub, Nat.reduceLeDiff, Int.reduceToNat, reduceCtorEq, f0, f1, f7, hn]) | (refine qA ?_ ?_; (first | omega | (simp only [qL]; omega) | (simp only [qD] at *; omega))))
        have hkp0 : Kp (fun b => b = a ∨ b = g) w w3.drew := k3.drew
        refine Wp.loop (α := Nat) (fun k F w4 => F 0 = .pointer (some ⟨a, 0, none⟩) ∧ F 1 = .slice (some ⟨g, 0, none⟩) 256 256 ∧ F 7 = .int .i64 e ∧ F 8 = .string (B n) ∧ F 9 = .int .i64 k ∧ k ≤ 256 ∧ At3 w4 a l s ∧ Blk w4 g 4 (bools (clK n set k)) ∧ Kp (fun b => b = a ∨ b = g) w w4 ∧ Hide (0 < k → (in3 n 0).2 = true)) (fun k => 256 - k) 0
          ⟨?_, ?_, ?_, ?_, ?_, by omega, h3.drew, by rw [clK_zero]; exact hb3.drew, hkp0, ⟨by omega⟩⟩ ?_
        · simp -dsimp (maxSteps := 2000000) (disch := first | omega | (simp only [qZ] <;> omega) | fail) only [push_cast, ↓qP, ↓reduceIte, Nat.reduceEqDiff, Nat.reduceAdd, Nat.reduceMul, Nat.reduceSub, Nat.reduceLeDiff, Int.reduceToNat, reduceCtorEq, f0]
        · simp -dsimp (maxSteps := 2000000) (disch := first | omega | (simp only [qZ] <;> omega) | fail) only [push_cast, ↓qP, ↓reduceIte, Nat.reduceEqDiff, Nat.reduceAdd, Nat.reduceMul, Nat.reduceSub, Nat.reduceLeDiff, Int.reduceToNat, reduceCtorEq, f1]
        · simp -dsimp (maxSteps := 2000000) (disch := first | omega | (simp only [qZ] <;> omega) | fail) only [push_cast, ↓qP, ↓reduceIte, Nat.reduceEqDiff, Nat.reduceAdd, Nat.reduceMul, Nat.reduceSub, Nat.reduceLeDiff, Int.reduceToNat, reduceCtorEq, f7]
        · simp -dsimp (maxSteps := 2000000) (disch := first | omega | (simp only [qZ] <;> omega) | fail) only [push_cast, ↓qP, ↓reduceIte, Nat.reduceEqDiff, Nat.reduceAdd, Nat.reduceMul, Nat.reduceSub, Nat.reduceLeDiff, Int.reduceToNat, reduceCtorEq]
        · simp -dsimp (maxSteps := 2000000) (disch := first | omega | (simp only [qZ] <;> omega) | fail) only [push_cast, ↓qP, ↓reduceIte, Nat.reduceEqDiff, Nat.reduceAdd, Nat.reduceMul, Nat.reduceSub, Nat.reduceLeDiff, Int.reduceToNat, reduceCtorEq]
        rintro k F w4 ⟨f0, f1, f7, f8, f9, hk, h4, hb4, k4, hin⟩
        have hlt4 := h4.lt
        have hgl4 := hb4.lt
        rcases Nat.lt_or_ge k 256 with h10 | h10
        · have c1 : decide ((k : Int) < 256) = true := decide_eq_true (by omega)
          repeat (first | refine qS ?_ | refine qB ?_ | refine qT rfl ?_ | refine qF rfl ?_ | ((first | refine qR rfl ?_ | refine qK ?_ | refine qE ?_ | refine qW ?_ | refine qM ?_); try simp -dsimp (maxSteps := 2000000) (disch := first | omega | (simp only [qZ] <;> omega) | fail) only [push_cast, ↓qP, ↓reduceIte, Nat.reduceEqDiff, Nat.reduceAdd, Nat.reduceMul, Nat.reduceSub, Nat.reduceLeDiff, Int.reduceToNat, reduceCtorEq, f0, f1, f7, f8, f9, c1]) | (refine qA ?_ ?_; (first | omega | (simp only [qL]; omega) | (simp only [qD] at *; omega))))
          refine CallV.of isCall_108 (in3_any n k w4) ?_
          rintro _ _ ⟨rfl, rfl⟩
          have hsn := in3_snd n k 0
          rcases Bool.eq_false_or_eq_true (in3 n k).2 with h11 | h11
          · rcases Bool.eq_false_or_eq_true (in3 n k).1 with h12 | h12
            · have hcell : rdc w4 g k = some (.bool ((clK n set k)[k]'(by rw [clK_len]; omega))) := by
                rw [hb4.rdc, bools, List.getElem?_map, List.getElem?_eq_getElem (by rw [clK_len]; omega)]; rfl
              refine Sm.out ?_
              repeat (first | refine qS ?_ | refine qB ?_ | refine qT rfl ?_ | refine qF rfl ?_ | ((first | refine qR rfl ?_ | refine qK ?_ | refine qE ?_ | refine qW ?_ | refine qM ?_); try simp -dsimp (maxSteps := 2000000) (disch := first | omega | (simp only [qZ] <;> omega) | fail) only [push_cast, ↓qP, ↓reduceIte, Nat.reduceEqDiff, Nat.reduceAdd, Nat.reduceMul, Nat.reduceSub, Nat.reduceLeDiff, Int.reduceToNat, reduceCtorEq, f0, f1, f7, f8, f9, h11, h12, hcell, hb4.fz]) | (refine qA ?_ ?_; (first | omega | (simp only [qL]; omega) | (simp only [qD] at *; omega))))
              refine Again.mk (k + 1) ⟨?_, ?_, ?_, ?_, ?_, by omega, h4.far (p := ⟨g, k, none⟩) hne _, ?_, k4.setCell (fun _ => .inr rfl) _, ⟨fun _ => by rw [← hsn]; exact h11⟩⟩ (by omega)
              · simp -dsimp (maxSteps := 2000000) (disch := first | omega | (simp only [qZ] <;> omega) | fail) only [push_cast, ↓qP, ↓reduceIte, Nat.reduceEqDiff, Nat.reduceAdd, Nat.reduceMul, Nat.reduceSub, Nat.reduceLeDiff, Int.reduceToNat, reduceCtorEq, f0]
              · simp -dsimp (maxSteps := 2000000) (disch := first | omega | (simp only [qZ] <;> omega) | fail) only [push_cast, ↓qP, ↓reduceIte, Nat.reduceEqDiff, Nat.reduceAdd, Nat.reduceMul, Nat.reduceSub, Nat.reduceLeDiff, Int.reduceToNat, reduceCtorEq, f1]
              · simp -dsimp (maxSteps := 2000000) (disch := first | omega | (simp only [qZ] <;> omega) | fail) only [push_cast, ↓qP, ↓reduceIte, Nat.reduceEqDiff, Nat.reduceAdd, Nat.reduceMul, Nat.reduceSub, Nat.reduceLeDiff, Int.reduceToNat, reduceCtorEq, f7]
              · simp -dsimp (maxSteps := 2000000) (disch := first | omega | (simp only [qZ] <;> omega) | fail) only [push_cast, ↓qP, ↓reduceIte, Nat.reduceEqDiff, Nat.reduceAdd, Nat.reduceMul, Nat.reduceSub, Nat.reduceLeDiff, Int.reduceToNat, reduceCtorEq, f8]
              · simp -dsimp (maxSteps := 2000000) (disch := first | omega | (simp only [qZ] <;> omega) | fail) only [push_cast, ↓qP, ↓reduceIte, Nat.reduceEqDiff, Nat.reduceAdd, Nat.reduceMul, Nat.reduceSub, Nat.reduceLeDiff, Int.reduceToNat, reduceCtorEq]
              · rw [clK_succ n set k (by omega), if_pos h12]
                have := hb4.set k (.bool true)
                rwa [bools, ← List.map_set] at this
            · refine Sm.out ?_
              repeat (first | refine qS ?_ | refine qB ?_ | refine qT rfl ?_ | refine qF rfl ?_ | ((first | refine qR rfl ?_ | refine qK ?_ | refine qE ?_ | refine qW ?_ | refine qM ?_); try simp -dsimp (maxSteps := 2000000) (disch := first | omega | (simp only [qZ] <;> omega) | fail) only [push_cast, ↓qP, ↓reduceIte, Nat.reduceEqDiff, Nat.reduceAdd, Nat.reduceMul, Nat.reduceSub, Nat.reduceLeDiff, Int.reduceToNat, reduceCtorEq, f0, f1, f7, f8, f9, h11, h12]) | (refine qA ?_ ?_; (first | omega | (simp only [qL]; omega) | (simp only [qD] at *; omega))))
              refine Again.mk (k + 1) ⟨?_, ?_, ?_, ?_, ?_, by omega, h4, ?_, k4, ⟨fun _ => by rw [← hsn]; exact h11⟩⟩ (by omega)
              · simp -dsimp (maxSteps := 2000000) (disch := first | omega | (simp only [qZ] <;> omega) | fail) only [push_cast, ↓qP, ↓reduceIte, Nat.reduceEqDiff, Nat.reduceAdd, Nat.reduceMul, Nat.reduceSub, Nat.reduceLeDiff, Int.reduceToNat, reduceCtorEq, f0]
              · simp -dsimp (maxSteps := 2000000) (disch := first | omega | (simp only [qZ] <;> omega) | fail) only [push_cast, ↓qP, ↓reduceIte, Nat.reduceEqDiff, Nat.reduceAdd, Nat.reduceMul, Nat.reduceSub, Nat.reduceLeDiff, Int.reduceToNat, reduceCtorEq, f1]
              · simp -dsimp (maxSteps := 2000000) (disch := first | omega | (simp only [qZ] <;> omega) | fail) only [push_cast, ↓qP, ↓reduceIte, Nat.reduceEqDiff, Nat.reduceAdd, Nat.reduceMul, Nat.reduceSub, Nat.reduceLeDiff, Int.reduceToNat, reduceCtorEq, f7]
              · simp -dsimp (maxSteps := 2000000) (disch := first | omega | (simp only [qZ] <;> omega) | fail) only [push_cast, ↓qP, ↓reduceIte, Nat.reduceEqDiff, Nat.reduceAdd, Nat.reduceMul, Nat.reduceSub, Nat.reduceLeDiff, Int.reduceToNat, reduceCtorEq, f8]
              · simp -dsimp (maxSteps := 2000000) (disch := first | omega | (simp only [qZ] <;> omega) | fail) only [push_cast, ↓qP, ↓reduceIte, Nat.reduceEqDiff, Nat.reduceAdd, Nat.reduceMul, Nat.reduceSub, Nat.reduceLeDiff, Int.reduceToNat, reduceCtorEq]
              · rw [clK_succ n set k (by omega), if_neg (by simp [h12])]; exact hb4
          · refine Sm.out ?_
            repeat (first | refine qS ?_ | refine qB ?_ | refine qT rfl ?_ | refine qF rfl ?_ | ((first | refine qR rfl ?_ | refine qK ?_ | refine qE ?_ | refine qW ?_ | refine qM ?_); try simp -dsimp (maxSteps := 2000000) (disch := first | omega | (simp only [qZ] <;> omega) | fail) only [push_cast, ↓qP, ↓reduceIte, Nat.reduceEqDiff, Nat.reduceAdd, Nat.reduceMul, Nat.reduceSub, Nat.reduceLeDiff, Int.reduceToNat, reduceCtorEq, f0, f1, f7, f8, f9, h11]) | (refine qA ?_ ?_; (first | omega | (simp only [qL]; omega) | (simp only [qD] at *; omega))))
            refine CallV.of isCall_50 (fail3 h4 2) ?_
            rintro _ w5 ⟨rfl, h5, k5⟩
            refine Sm.out ?_
            repeat (first | refine qS ?_ | refine qB ?_ | refine qT rfl ?_ | refine qF rfl ?_ | ((first | refine qR rfl ?_ | refine qK ?_ | refine qE ?_ | refine qW ?_ | refine qM ?_); try simp -dsimp (maxSteps := 2000000) (disch := first | omega | (simp only [qZ] <;> omega) | fail) only [push_cast, ↓qP, ↓reduceIte, Nat.reduceEqDiff, Nat.reduceAdd, Nat.reduceMul, Nat.reduceSub, Nat.reduceLeDiff, Int.reduceToNat, reduceCtorEq]) | (refine qA ?_ ?_; (first | omega | (simp only [qL]; omega) | (simp only [qD] at *; omega))))
            have hk0 : k = 0 := by
              rcases Nat.eq_zero_or_pos k with h13 | h13
              · exact h13
              · have := hin.out h13; rw [← hsn, h11] at this; cases this
            subst hk0
            rw [clK_zero] at hb4
            have hr := hir'.out
            rw [if_neg (by rw [← hsn, h11]; simp)] at hr
            rw [hr]
            exact Ret.mk ⟨rfl, h5, k5.Blk hb4 (fun e => hne e.symm), k4.trans (k5.mono (fun k _ e => .inl e))⟩
        · have c1 : decide ((k : Int) < 256) = false := decide_eq_false (by omega)
          obtain rfl : k = 256 := by omega
          have hin' := hin.out (by omega)
          have hr := hir'.out
          rw [if_pos hin'] at hr
          rw [← hset, clK_all] at hb4
          repeat (first | refine qS ?_ | refine qB ?_ | refine qT rfl ?_ | refine qF rfl ?_ | ((first | refine qR rfl ?_ | refine qK ?_ | refine qE ?_ | refine qW ?_ | refine qM ?_); try simp -dsimp (maxSteps := 2000000) (disch := first | omega | (simp only [qZ] <;> omega) | fail) only [push_cast, ↓qP, ↓reduceIte, Nat.reduceEqDiff, Nat.reduceAdd, Nat.reduceMul, Nat.reduceSub, Nat.reduceLeDiff, Int.reduceToNat, reduceCtorEq, f0, f1, f7, f8, f9, c1, h4.rdc, h4.fz]) | (refine qA ?_ ?_; (first | omega | (simp only [qL]; omega) | (simp only [qD] at *; omega))))
          rw [hr]
          exact Ret.mk ⟨rfl, h4.set 1 (.int .i64 ((e : Int) + 2)), hb4.far (p := ⟨a, 1, none⟩) hne.symm _, k4.setCell (fun _ => .inl rfl) _⟩
      · have h9' : decide ((e : Int) + 1 ≥ (l.length : Int)) = true := decide_eq_true (by omega)
        rw [if_pos (by omega)] at hir'
        have h9'' : decide ((e : Int) + 1 < (l.length : Int)) = false := decide_eq_false (by omega)
        repeat (first | refine qS ?_ | refine qB ?_ | refine qT rfl ?_ | refine qF rfl ?_ | ((first | refine qR rfl ?_ | refine qK ?_ | refine qE ?_ | refine qW ?_ | refine qM ?_); try simp -dsimp (maxSteps := 2000000) (disch := first | omega | (simp only [qZ] <;> omega) | fail) only [push_cast, ↓qP, ↓reduceIte, Nat.reduceEqDiff, Nat.reduceAdd, Nat.reduceMul, Nat.reduceSub, Nat.reduceLeDiff, Int.reduceToNat, reduceCtorEq, f0, f1, f7, h3.rdc, hix1, h9', h9'']) | (refine qA ?_ ?_; (first | omega | (simp only [qL]; omega) | (simp only [qD] at *; omega))))
        refine CallV.of isCall_50 (fail3 h3 2) ?_
        rintro _ w5 ⟨rfl, h5, k5⟩
        refine Sm.out ?_
        repeat (first | refine qS ?_ | refine qB ?_ | refine qT rfl ?_ | refine qF rfl ?_ | ((first | refine qR rfl ?_ | refine qK ?_ | refine qE ?_ | refine qW ?_ | refine qM ?_); try simp -dsimp (maxSteps := 2000000) (disch := first | omega | (simp only [qZ] <;> omega) | fail) only [push_cast, ↓qP, ↓reduceIte, Nat.reduceEqDiff, Nat.reduceAdd, Nat.reduceMul, Nat.reduceSub, Nat.reduceLeDiff, Int.reduceToNat, reduceCtorEq]) | (refine qA ?_ ?_; (first | omega | (simp only [qL]; omega) | (simp only [qD] at *; omega))))
        rw [hir']
        exact Ret.mk ⟨rfl, h5, k5.Blk hb3 (fun e => hne e.symm), k3.trans (k5.mono (fun k _ e => .inl e))⟩
  · have hir : item3 l s set = if byteAt l s.i == 92 then (((escape3 l s).1, true), set, (escape3 l s).2) else ((byteAt l s.i, true), set, s.on) := by
      unfold item3
      rw [if_neg]
      simp only [Bool.and_eq_true, beq_iff_eq, decide_eq_true_eq]
      exact fun ⟨⟨q1, q2⟩, q3⟩ => hcl ⟨q1, q2, q3⟩
    have hix : ((s.i : Int) + 1).toNat = s.i + 1 := by omega
    by_cases c92 : byteAt l s.i = 92
    · have e1 : (((byteAt l s.i).toNat : Int) == 92) = true := by rw [c92]; rfl
      have e2 : (((byteAt l s.i).toNat : Int) == 91) = false := by rw [c92]; rfl
      rw [if_pos (by rw [c92]; rfl)] at hir
      rw [hir]
      clear hcl hir
      refine Wp.draw [0, 1, 3, 7, 15, 31, 63, 127, 7, 263, 775, 1799, 3847, 8191, 16383, 32767, 65535, 131071, 262143, 524287, 65535, 1114111, 3211263, 7405567, 15794175, 33554431, 67108863, 134217727] [] (.op 0 false false [] <| .op 1 false false [] <| .op 2 false false [] <| .op 3 false false [] <| .op 4 false false [] <| .op 5 false false [] <| .op 6 false false [] <| .op 7 false false [] <| .op 8 false false [] <| .op 9 false false [] <| .op 10 false false [] <| .op 11 false false [] <| .op 12 false false [] <| .op 13 false false [] <| .op 14 false false [] <| .op 15 false false [] <| .op 16 false false [] <| .op 17 false false [] <| .op 18 false false [] <| .op 19 false false [] <| .op 20 false false [] <| .op 21 false false [] <| .op 22 false false [] <| .op 23 false false [] <| .op 24 false false [] <| .op 25 false false [] <| .op 26 false false [] <| .op 27 false false [] <| .nil) mixed (by kernel_rfl) ?_
      simp -dsimp (maxSteps := 2000000) (disch := first | omega | (simp only [qZ] <;> omega) | fail) only [push_cast, ↓qP, ↓reduceIte, Nat.reduceEqDiff, Nat.reduceAdd, Nat.reduceMul, Nat.reduceSub, Nat.reduceLeDiff, Int.reduceToNat, reduceCtorEq, h2.rdc, e2]
      refine Sm.out ?_
      repeat (first | refine qS ?_ | refine qB ?_ | refine qT rfl ?_ | refine qF rfl ?_ | ((first | refine qR rfl ?_ | refine qK ?_ | refine qE ?_ | refine qW ?_ | refine qM ?_); try simp -dsimp (maxSteps := 2000000) (disch := first | omega | (simp only [qZ] <;> omega) | fail) only [push_cast, ↓qP, ↓reduceIte, Nat.reduceEqDiff, Nat.reduceAdd, Nat.reduceMul, Nat.reduceSub, Nat.reduceLeDiff, Int.reduceToNat, reduceCtorEq, e1]) | (refine qA ?_ ?_; (first | omega | (simp only [qL]; omega) | (simp only [qD] at *; omega))))
      refine CallV.of isCall_95 (escape3_any h2.drew hl (by omega)) ?_
      rintro _ w5 ⟨rfl, h5, k5⟩
      refine Sm.out ?_
      repeat (first | refine qS ?_ | refine qB ?_ | refine qT rfl ?_ | refine qF rfl ?_ | ((first | refine qR rfl ?_ | refine qK ?_ | refine qE ?_ | refine qW ?_ | refine qM ?_); try simp -dsimp (maxSteps := 2000000) (disch := first | omega | (simp only [qZ] <;> omega) | fail) only [push_cast, ↓qP, ↓reduceIte, Nat.reduceEqDiff, Nat.reduceAdd, Nat.reduceMul, Nat.reduceSub, Nat.reduceLeDiff, Int.reduceToNat, reduceCtorEq]) | (refine qA ?_ ?_; (first | omega | (simp only [qL]; omega) | (simp only [qD] at *; omega))))
      refine Ret.mk ⟨rfl, h5, k5.Blk hb2.drew (fun e => hne e.symm), k2.drew.trans (k5.mono (fun k _ e => .inl e))⟩
    · have e1 : (((byteAt l s.i).toNat : Int) == 92) = false := by rw [show (92 : Int) = ((92 : UInt8).toNat : Int) from rfl, u8_eq']; simpa using c92
      rw [if_neg (by simpa using c92)] at hir
      rw [hir]
      clear hir
      replace hcl : Hide _ := ⟨hcl⟩
      refine Wp.draw [0, 1, 3, 7, 15, 31, 63, 127, 7, 263, 775, 1799, 3847, 8191, 16383, 32767, 65535, 131071, 262143, 524287, 65535, 1114111, 3211263, 7405567, 15794175, 33554431, 67108863, 134217727] [] (.op 0 false false [] <| .op 1 false false [] <| .op 2 false false [] <| .op 3 false false [] <| .op 4 false false [] <| .op 5 false false [] <| .op 6 false false [] <| .op 7 false false [] <| .op 8 false false [] <| .op 9 false false [] <| .op 10 false false [] <| .op 11 false false [] <| .op 12 false false [] <| .op 13 false false [] <| .op 14 false false [] <| .op 15 false false [] <| .op 16 false false [] <| .op 17 false false [] <| .op 18 false false [] <| .op 19 false false [] <| .op 20 false false [] <| .op 21 false false [] <| .op 22 false false [] <| .op 23 false false [] <| .op 24 false false [] <| .op 25 false false [] <| .op 26 false false [] <| .op 27 false false [] <| .nil) mixed (by kernel_rfl) ?_
      simp -dsimp (maxSteps := 2000000) (disch := first | omega | (simp only [qZ] <;> omega) | fail) only [push_cast, ↓qP, ↓reduceIte, Nat.reduceEqDiff, Nat.reduceAdd, Nat.reduceMul, Nat.reduceSub, Nat.reduceLeDiff, Int.reduceToNat, reduceCtorEq, h2.rdc, hix, e1, h2.fz]
      repeat' (first | refine qS ?_ | refine qB ?_ | refine qT rfl ?_ | refine qF rfl ?_ | ((first | refine qR rfl ?_ | refine qK ?_ | refine qE ?_ | refine qW ?_ | refine qM ?_); try simp -dsimp (maxSteps := 2000000) (disch := first | omega | (simp only [qZ] <;> omega) | fail) only [push_cast, ↓qP, ↓reduceIte, Nat.reduceEqDiff, Nat.reduceAdd, Nat.reduceMul, Nat.reduceSub, Nat.reduceLeDiff, Int.reduceToNat, reduceCtorEq, h2.rdc, hix, e1, h2.fz]) | ((refine gsel.mk (fun hg => ?_) (fun hg => ?_)) <;> try simp -dsimp (maxSteps := 2000000) (disch := first | omega | (simp only [qZ] <;> omega) | fail) only [push_cast, ↓qP, ↓reduceIte, Nat.reduceEqDiff, Nat.reduceAdd, Nat.reduceMul, Nat.reduceSub, Nat.reduceLeDiff, Int.reduceToNat, reduceCtorEq, h2.rdc, hix, e1, h2.fz, *]) | refine Wp.cond rfl (fun hg => ?_) (fun hg => ?_) | (refine qA ?_ ?_; (first | omega | (simp only [qL]; omega) | (simp only [qD] at *; omega))))
      all_goals first
        | exact Ret.mk ⟨rfl, h2.drew.set 1 (.int .i64 ((s.i : Int) + 1)), hb2.drew.far (p := ⟨a, 1, none⟩) hne.symm _, k2.drew.setCell (fun _ => .inl rfl) _⟩
        | (exfalso; have hh := hcl.out; clear hcl; simp only [h91, h58, beq_iff_eq, decide_eq_true_eq, decide_eq_false_iff_not] at *; exact hh ⟨by assumption, by omega, by assumption⟩)
        | trace_state
end
end Go.Proofs.Ytddichibegppjaa

/- Replacement's text: put, and the reference's by. -/
namespace Go.Proofs.Ytddichibegppjaa
open Go Go.VC Go.RowKit

def byL (f : List UInt8) : List UInt8 → List UInt8
  | [] => []
  | [c] => if c = 38 then f else [c]
  | c :: d :: t => if c = 38 then f ++ byL f (d :: t) else if c = 92 ∧ (d = 38 ∨ d = 92) then d :: byL f t else c :: byL f (d :: t)

theorem drop_cons {l : List UInt8} {i : Nat} (h : i < l.length) : l.drop i = byteAt l i :: l.drop (i + 1) := by
  rw [List.drop_eq_getElem_cons h]; simp [byteAt, List.getD_eq_getElem?_getD, h]
theorem byL_amp {f l : List UInt8} {i : Nat} (h : i < l.length) (hc : byteAt l i = 38) : byL f (l.drop i) = f ++ byL f (l.drop (i + 1)) := by
  rw [drop_cons h, hc]
  rcases Nat.lt_or_ge (i + 1) l.length with h1 | h1
  · rw [drop_cons h1]; simp [byL]
  · rw [List.drop_of_length_le h1]; simp [byL]
theorem byL_esc {f l : List UInt8} {i : Nat} (h : i + 1 < l.length) (hc : byteAt l i = 92) (hd : byteAt l (i + 1) = 38 ∨ byteAt l (i + 1) = 92) : byL f (l.drop i) = byteAt l (i + 1) :: byL f (l.drop (i + 2)) := by
  rw [drop_cons (by omega : i < l.length), drop_cons h, hc]
  rw [byL, if_neg (by decide), if_pos ⟨rfl, hd⟩]
theorem byL_one {f l : List UInt8} {i : Nat} (h : i < l.length) (hc : byteAt l i ≠ 38) (hd : ¬ (byteAt l i = 92 ∧ i + 1 < l.length ∧ (byteAt l (i + 1) = 38 ∨ byteAt l (i + 1) = 92))) : byL f (l.drop i) = byteAt l i :: byL f (l.drop (i + 1)) := by
  rw [drop_cons h]
  rcases Nat.lt_or_ge (i + 1) l.length with h1 | h1
  · rw [drop_cons h1]
    have : ¬ (byteAt l i = 92 ∧ (byteAt l (i + 1) = 38 ∨ byteAt l (i + 1) = 92)) := fun ⟨a, b⟩ => hd ⟨a, h1, b⟩
    rw [byL, if_neg hc, if_neg this]
  · rw [List.drop_of_length_le h1]
    show (if byteAt l i = 38 then f else [byteAt l i]) = _
    rw [if_neg hc]; rfl
theorem byL_len (f : List UInt8) : ∀ r : List UInt8, (byL f r).length ≤ r.length * (f.length + 1)
  | [] => by simp [byL]
  | [c] => by simp only [byL]; split <;> simp
  | c :: d :: t => by
    have h1 := byL_len f (d :: t)
    have h2 := byL_len f t
    have e1 : (t.length + 1 + 1) * (f.length + 1) = (t.length + 1) * (f.length + 1) + (f.length + 1) := Nat.succ_mul _ _
    have e2 : (t.length + 1) * (f.length + 1) = t.length * (f.length + 1) + (f.length + 1) := Nat.succ_mul _ _
    simp only [byL, List.length_cons] at *
    split
    · rw [List.length_append]; omega
    · split <;> simp only [List.length_cons] <;> omega

theorem prefix2 {l : List UInt8} {i : Nat} (a b : UInt8) (h : i < l.length) : Lib.hasPrefix (l.drop i) [a, b] = (byteAt l i == a && (decide (i + 1 < l.length) && byteAt l (i + 1) == b)) := by
  rw [drop_cons h]
  rcases Nat.lt_or_ge (i + 1) l.length with h1 | h1
  · rw [drop_cons h1]; simp [Lib.hasPrefix, List.isPrefixOf, h1, Bool.beq_comm]
  · rw [List.drop_of_length_le h1]
    have : ¬ i + 1 < l.length := by omega
    simp [Lib.hasPrefix, List.isPrefixOf, this]

theorem hp_any (s p : ByteArray) (w : World) : Calls Try.prog 74 #[.string s, .string p] w fun e w' => e = .returned (.bool (Lib.hasPrefix s.data.toList p.data.toList)) ∧ w = w' :=
  (Try.strings_HasPrefix s p w).mono fun _ _ ⟨h1, h2⟩ => ⟨h1, h2.symm⟩
section
variable {B0 b : Nat} {l r f : List UInt8} {w : World}

theorem put_any (h : Bd B0 b l w) (hr : r.length ≤ 1000000) (hf : f.length ≤ 1000000) (hlen : l.length + (byL f r).length ≤ 1000000000000) :
    Calls Try.prog 53 #[.pointer (some ⟨b, 0, none⟩), .string (B r), .string (B f)] w fun e w' => e = .returned (.tuple #[]) ∧ Bd B0 b (l ++ byL f r) w' ∧ Below B0 w w' := by
  refine enter (n := 44) (args := [.pointer (some ⟨b, 0, none⟩), .string (B r), .string (B f)]) Try.func53 rfl rfl rfl (by simp) ?_
  repeat (first | refine qS ?_ | refine qB ?_ | refine qT rfl ?_ | refine qF rfl ?_ | ((first | refine qR rfl ?_ | refine qK ?_ | refine qE ?_ | refine qW ?_ | refine qM ?_); try simp -dsimp (maxSteps := 2000000) (disch := first | omega | (simp only [qZ] <;> omega) | fail) only [push_cast, ↓qP, ↓reduceIte, Nat.reduceEqDiff, Nat.reduceAdd, Nat.reduceMul, Nat.reduceSub, Nat.reduceLeDiff, Int.reduceToNat, reduceCtorEq]) | (refine qA ?_ ?_; (first | omega | (simp only [qL]; omega) | (simp only [qD] at *; omega))))
  refine Wp.loop (α := Nat) (fun i F W => F 0 = .pointer (some ⟨b, 0, none⟩) ∧ F 1 = .string (B r) ∧ F 2 = .string (B f) ∧ F 6 = .int .i64 i ∧ i ≤ r.length ∧ ∃ o, Bd B0 b o W ∧ Below B0 w W ∧ Hide (o ++ byL f (r.drop i) = l ++ byL f r)) (fun i => r.length - i) 0
    ⟨by simp [upd, arg], by simp [upd, arg], by simp [upd, arg], by simp [upd, arg], by omega, l, h, Below.refl _ _, ⟨by simp⟩⟩ ?_
  clear h
  rintro i F W ⟨f0, f1, f2, f6, hi, o, hB, k1, heq⟩
  have holen : o.length + (byL f (r.drop i)).length ≤ 1000000000000 := by have := congrArg List.length heq.out; rw [List.length_append, List.length_append] at this; omega
  rcases Nat.lt_or_ge i r.length with hlt | hge
  case inr =>
    have c1 : decide ((i : Int) < (r.length : Int)) = false := decide_eq_false (by omega)
    have heq1 := heq.out
    rw [List.drop_of_length_le hge] at heq1
    simp only [byL, List.append_nil] at heq1
    repeat (first | refine qS ?_ | refine qB ?_ | refine qT rfl ?_ | refine qF rfl ?_ | ((first | refine qR rfl ?_ | refine qK ?_ | refine qE ?_ | refine qW ?_ | refine qM ?_); try simp -dsimp (maxSteps := 2000000) (disch := first | omega | (simp only [qZ] <;> omega) | fail) only [push_cast, ↓qP, ↓reduceIte, Nat.reduceEqDiff, Nat.reduceAdd, Nat.reduceMul, Nat.reduceSub, Nat.reduceLeDiff, Int.reduceToNat, reduceCtorEq, f0, f1, f2, f6, c1]) | (refine qA ?_ ?_; (first | omega | (simp only [qL]; omega) | (simp only [qD] at *; omega))))
    exact Ret.mk ⟨rfl, heq1 ▸ hB, k1⟩
  have c1 : decide ((i : Int) < (r.length : Int)) = true := decide_eq_true (by omega)
  have hix : ((i : Int) + 1).toNat = i + 1 := by omega
  by_cases hamp : byteAt r i = 38
  · have ha : (((byteAt r i).toNat : Int) == 38) = true := by rw [hamp]; rfl
    have e1 := byL_amp (f := f) hlt hamp
    have hf' : o.length + f.length ≤ 1000000000000 := by rw [e1, List.length_append] at holen; omega
    repeat (first | refine qS ?_ | refine qB ?_ | refine qT rfl ?_ | refine qF rfl ?_ | ((first | refine qR rfl ?_ | refine qK ?_ | refine qE ?_ | refine qW ?_ | refine qM ?_); try simp -dsimp (maxSteps := 2000000) (disch := first | omega | (simp only [qZ] <;> omega) | fail) only [push_cast, ↓qP, ↓reduceIte, Nat.reduceEqDiff, Nat.reduceAdd, Nat.reduceMul, Nat.reduceSub, Nat.reduceLeDiff, Int.reduceToNat, reduceCtorEq, f0, f1, f2, f6, c1, ha]) | (refine qA ?_ ?_; (first | omega | (simp only [qL]; omega) | (simp only [qD] at *; omega))))
    refine CallV.of isCall_52 (ws_any hB f (by omega)) ?_
    rintro _ W2 ⟨rfl, hB2, k2⟩
    refine Sm.out ?_
    repeat (first | refine qS ?_ | refine qB ?_ | refine qT rfl ?_ | refine qF rfl ?_ | ((first | refine qR rfl ?_ | refine qK ?_ | refine qE ?_ | refine qW ?_ | refine qM ?_); try simp -dsimp (maxSteps := 2000000) (disch := first | omega | (simp only [qZ] <;> omega) | fail) only [push_cast, ↓qP, ↓reduceIte, Nat.reduceEqDiff, Nat.reduceAdd, Nat.reduceMul, Nat.reduceSub, Nat.reduceLeDiff, Int.reduceToNat, reduceCtorEq, f0, f1, f2, f6]) | (refine qA ?_ ?_; (first | omega | (simp only [qL]; omega) | (simp only [qD] at *; omega))))
    exact Again.mk (i + 1) ⟨by simp [upd, f0], by simp [upd, f1], by simp [upd, f2], by simp [upd, f6], by omega, o ++ f, hB2, k1.trans k2, ⟨by rw [← heq.out, e1, List.append_assoc]⟩⟩ (by omega)
  have ha : (((byteAt r i).toNat : Int) == 38) = false := by rw [show (((byteAt r i).toNat : Int) == 38) = (byteAt r i == 38) from u8_eq' _ 38]; simpa using hamp
  have tk : (r.drop i).take (r.length - i) = r.drop i := List.take_of_length_le (by simp)
  have p1 : Lib.hasPrefix ((r.drop i).take (r.length - i)) [92, 38] = (byteAt r i == 92 && (decide (i + 1 < r.length) && byteAt r (i + 1) == 38)) := by rw [tk]; exact prefix2 92 38 hlt
  have p2 : Lib.hasPrefix ((r.drop i).take (r.length - i)) [92, 92] = (byteAt r i == 92 && (decide (i + 1 < r.length) && byteAt r (i + 1) == 92)) := by rw [tk]; exact prefix2 92 92 hlt
  clear tk
  by_cases hesc : byteAt r i = 92 ∧ i + 1 < r.length ∧ (byteAt r (i + 1) = 38 ∨ byteAt r (i + 1) = 92)
  · obtain ⟨q1, q2, q3⟩ := hesc
    have e1 := byL_esc (f := f) q2 q1 q3
    have ho' : o.length + 1 ≤ 1000000000000 := by rw [e1, List.length_cons] at holen; omega
    rw [q1, decide_eq_true q2] at p1 p2
    rcases q3 with q3 | q3
    · rw [q3, show ((92 : UInt8) == 92 && (true && (38 : UInt8) == 38)) = true from rfl] at p1
      clear p2
      repeat (first | refine qS ?_ | refine qB ?_ | refine qT rfl ?_ | refine qF rfl ?_ | ((first | refine qR rfl ?_ | refine qK ?_ | refine qE ?_ | refine qW ?_ | refine qM ?_); try simp -dsimp (maxSteps := 2000000) (disch := first | omega | (simp only [qZ] <;> omega) | fail) only [push_cast, ↓qP, ↓reduceIte, Nat.reduceEqDiff, Nat.reduceAdd, Nat.reduceMul, Nat.reduceSub, Nat.reduceLeDiff, Int.reduceToNat, reduceCtorEq, f0, f1, f2, f6, c1, ha]) | (refine qA ?_ ?_; (first | omega | (simp only [qL]; omega) | (simp only [qD] at *; omega))))
      refine CallV.of isCall_74 (hp_any _ _ _) ?_
      rintro _ _ ⟨rfl, rfl⟩
      refine Sm.out ?_
      repeat (first | refine qS ?_ | refine qB ?_ | refine qT rfl ?_ | refine qF rfl ?_ | ((first | refine qR rfl ?_ | refine qK ?_ | refine qE ?_ | refine qW ?_ | refine qM ?_); try simp -dsimp (maxSteps := 2000000) (disch := first | omega | (simp only [qZ] <;> omega) | fail) only [push_cast, ↓qP, ↓reduceIte, Nat.reduceEqDiff, Nat.reduceAdd, Nat.reduceMul, Nat.reduceSub, Nat.reduceLeDiff, Int.reduceToNat, reduceCtorEq, p1, f0, f1, f2, f6, hix]) | (refine qA ?_ ?_; (first | omega | (simp only [qL]; omega) | (simp only [qD] at *; omega))))
      refine CallV.of isCall_55 (wb_any hB _ (by omega)) ?_
      rintro _ W2 ⟨rfl, hB2, k2⟩
      refine Sm.out ?_
      repeat (first | refine qS ?_ | refine qB ?_ | refine qT rfl ?_ | refine qF rfl ?_ | ((first | refine qR rfl ?_ | refine qK ?_ | refine qE ?_ | refine qW ?_ | refine qM ?_); try simp -dsimp (maxSteps := 2000000) (disch := first | omega | (simp only [qZ] <;> omega) | fail) only [push_cast, ↓qP, ↓reduceIte, Nat.reduceEqDiff, Nat.reduceAdd, Nat.reduceMul, Nat.reduceSub, Nat.reduceLeDiff, Int.reduceToNat, reduceCtorEq, f0, f1, f2, f6]) | (refine qA ?_ ?_; (first | omega | (simp only [qL]; omega) | (simp only [qD] at *; omega))))
      exact Again.mk (i + 2) ⟨by simp [upd, f0], by simp [upd, f1], by simp [upd, f2], by simp [upd, f6]; omega, by omega, _, hB2, k1.trans k2, ⟨by rw [← heq.out, e1, List.append_assoc]; rfl⟩⟩ (by omega)
    · rw [q3, show ((92 : UInt8) == 92 && (true && (92 : UInt8) == 38)) = false from rfl] at p1
      rw [q3, show ((92 : UInt8) == 92 && (true && (92 : UInt8) == 92)) = true from rfl] at p2
      repeat (first | refine qS ?_ | refine qB ?_ | refine qT rfl ?_ | refine qF rfl ?_ | ((first | refine qR rfl ?_ | refine qK ?_ | refine qE ?_ | refine qW ?_ | refine qM ?_); try simp -dsimp (maxSteps := 2000000) (disch := first | omega | (simp only [qZ] <;> omega) | fail) only [push_cast, ↓qP, ↓reduceIte, Nat.reduceEqDiff, Nat.reduceAdd, Nat.reduceMul, Nat.reduceSub, Nat.reduceLeDiff, Int.reduceToNat, reduceCtorEq, f0, f1, f2, f6, c1, ha]) | (refine qA ?_ ?_; (first | omega | (simp only [qL]; omega) | (simp only [qD] at *; omega))))
      refine CallV.of isCall_74 (hp_any _ _ _) ?_
      rintro _ _ ⟨rfl, rfl⟩
      refine Sm.out ?_
      repeat (first | refine qS ?_ | refine qB ?_ | refine qT rfl ?_ | refine qF rfl ?_ | ((first | refine qR rfl ?_ | refine qK ?_ | refine qE ?_ | refine qW ?_ | refine qM ?_); try simp -dsimp (maxSteps := 2000000) (disch := first | omega | (simp only [qZ] <;> omega) | fail) only [push_cast, ↓qP, ↓reduceIte, Nat.reduceEqDiff, Nat.reduceAdd, Nat.reduceMul, Nat.reduceSub, Nat.reduceLeDiff, Int.reduceToNat, reduceCtorEq, p1, f0, f1, f2, f6, hix]) | (refine qA ?_ ?_; (first | omega | (simp only [qL]; omega) | (simp only [qD] at *; omega))))
      refine CallV.of isCall_74 (hp_any _ _ _) ?_
      rintro _ _ ⟨rfl, rfl⟩
      refine Sm.out ?_
      repeat (first | refine qS ?_ | refine qB ?_ | refine qT rfl ?_ | refine qF rfl ?_ | ((first | refine qR rfl ?_ | refine qK ?_ | refine qE ?_ | refine qW ?_ | refine qM ?_); try simp -dsimp (maxSteps := 2000000) (disch := first | omega | (simp only [qZ] <;> omega) | fail) only [push_cast, ↓qP, ↓reduceIte, Nat.reduceEqDiff, Nat.reduceAdd, Nat.reduceMul, Nat.reduceSub, Nat.reduceLeDiff, Int.reduceToNat, reduceCtorEq, p2, f0, f1, f2, f6, hix]) | (refine qA ?_ ?_; (first | omega | (simp only [qL]; omega) | (simp only [qD] at *; omega))))
      refine CallV.of isCall_55 (wb_any hB _ (by omega)) ?_
      rintro _ W2 ⟨rfl, hB2, k2⟩
      refine Sm.out ?_
      repeat (first | refine qS ?_ | refine qB ?_ | refine qT rfl ?_ | refine qF rfl ?_ | ((first | refine qR rfl ?_ | refine qK ?_ | refine qE ?_ | refine qW ?_ | refine qM ?_); try simp -dsimp (maxSteps := 2000000) (disch := first | omega | (simp only [qZ] <;> omega) | fail) only [push_cast, ↓qP, ↓reduceIte, Nat.reduceEqDiff, Nat.reduceAdd, Nat.reduceMul, Nat.reduceSub, Nat.reduceLeDiff, Int.reduceToNat, reduceCtorEq, f0, f1, f2, f6]) | (refine qA ?_ ?_; (first | omega | (simp only [qL]; omega) | (simp only [qD] at *; omega))))
      exact Again.mk (i + 2) ⟨by simp [upd, f0], by simp [upd, f1], by simp [upd, f2], by simp [upd, f6]; omega, by omega, _, hB2, k1.trans k2, ⟨by rw [← heq.out, e1, List.append_assoc]; rfl⟩⟩ (by omega)
  · have e1 := byL_one (f := f) hlt hamp hesc
    have ho' : o.length + 1 ≤ 1000000000000 := by rw [e1, List.length_cons] at holen; omega
    have n1 : (byteAt r i == 92 && (decide (i + 1 < r.length) && byteAt r (i + 1) == 38)) = false := by
      rw [← Bool.not_eq_true]; simp only [Bool.and_eq_true, beq_iff_eq, decide_eq_true_eq]; exact fun ⟨a, b, c⟩ => hesc ⟨a, b, .inl c⟩
    have n2 : (byteAt r i == 92 && (decide (i + 1 < r.length) && byteAt r (i + 1) == 92)) = false := by
      rw [← Bool.not_eq_true]; simp only [Bool.and_eq_true, beq_iff_eq, decide_eq_true_eq]; exact fun ⟨a, b, c⟩ => hesc ⟨a, b, .inr c⟩
    rw [n1] at p1
    rw [n2] at p2
    clear hesc n1 n2
    repeat (first | refine qS ?_ | refine qB ?_ | refine qT rfl ?_ | refine qF rfl ?_ | ((first | refine qR rfl ?_ | refine qK ?_ | refine qE ?_ | refine qW ?_ | refine qM ?_); try simp -dsimp (maxSteps := 2000000) (disch := first | omega | (simp only [qZ] <;> omega) | fail) only [push_cast, ↓qP, ↓reduceIte, Nat.reduceEqDiff, Nat.reduceAdd, Nat.reduceMul, Nat.reduceSub, Nat.reduceLeDiff, Int.reduceToNat, reduceCtorEq, f0, f1, f2, f6, c1, ha]) | (refine qA ?_ ?_; (first | omega | (simp only [qL]; omega) | (simp only [qD] at *; omega))))
    refine CallV.of isCall_74 (hp_any _ _ _) ?_
    rintro _ _ ⟨rfl, rfl⟩
    refine Sm.out ?_
    repeat (first | refine qS ?_ | refine qB ?_ | refine qT rfl ?_ | refine qF rfl ?_ | ((first | refine qR rfl ?_ | refine qK ?_ | refine qE ?_ | refine qW ?_ | refine qM ?_); try simp -dsimp (maxSteps := 2000000) (disch := first | omega | (simp only [qZ] <;> omega) | fail) only [push_cast, ↓qP, ↓reduceIte, Nat.reduceEqDiff, Nat.reduceAdd, Nat.reduceMul, Nat.reduceSub, Nat.reduceLeDiff, Int.reduceToNat, reduceCtorEq, p1, f0, f1, f2, f6, hix]) | (refine qA ?_ ?_; (first | omega | (simp only [qL]; omega) | (simp only [qD] at *; omega))))
    refine CallV.of isCall_74 (hp_any _ _ _) ?_
    rintro _ _ ⟨rfl, rfl⟩
    refine Sm.out ?_
    repeat (first | refine qS ?_ | refine qB ?_ | refine qT rfl ?_ | refine qF rfl ?_ | ((first | refine qR rfl ?_ | refine qK ?_ | refine qE ?_ | refine qW ?_ | refine qM ?_); try simp -dsimp (maxSteps := 2000000) (disch := first | omega | (simp only [qZ] <;> omega) | fail) only [push_cast, ↓qP, ↓reduceIte, Nat.reduceEqDiff, Nat.reduceAdd, Nat.reduceMul, Nat.reduceSub, Nat.reduceLeDiff, Int.reduceToNat, reduceCtorEq, p2, f0, f1, f2, f6, hix]) | (refine qA ?_ ?_; (first | omega | (simp only [qL]; omega) | (simp only [qD] at *; omega))))
    refine CallV.of isCall_55 (wb_any hB _ (by omega)) ?_
    rintro _ W2 ⟨rfl, hB2, k2⟩
    refine Sm.out ?_
    repeat (first | refine qS ?_ | refine qB ?_ | refine qT rfl ?_ | refine qF rfl ?_ | ((first | refine qR rfl ?_ | refine qK ?_ | refine qE ?_ | refine qW ?_ | refine qM ?_); try simp -dsimp (maxSteps := 2000000) (disch := first | omega | (simp only [qZ] <;> omega) | fail) only [push_cast, ↓qP, ↓reduceIte, Nat.reduceEqDiff, Nat.reduceAdd, Nat.reduceMul, Nat.reduceSub, Nat.reduceLeDiff, Int.reduceToNat, reduceCtorEq, f0, f1, f2, f6]) | (refine qA ?_ ?_; (first | omega | (simp only [qL]; omega) | (simp only [qD] at *; omega))))
    exact Again.mk (i + 1) ⟨by simp [upd, f0], by simp [upd, f1], by simp [upd, f2], by simp [upd, f6], by omega, _, hB2, k1.trans k2, ⟨by rw [← heq.out, e1, List.append_assoc]; rfl⟩⟩ (by omega)
end

section
variable {r f : List UInt8} {w : World}
theorem str1 (c : UInt8) (t : List UInt8) : B t ++ B [c] = B (t ++ [c]) := B_append _ _

theorem by_any (hr : r.length ≤ 1000000) (hf : f.length ≤ 1000000) :
    Calls Try.prog 60 #[.string (B r), .string (B f)] w fun e w' => e = .returned (.string (B (byL f r))) ∧ Kp (fun _ => False) w w' := by
  refine enter (n := 59) (args := [.string (B r), .string (B f)]) Try.func60 rfl rfl rfl (by simp) ?_
  repeat (first | refine qS ?_ | refine qB ?_ | refine qT rfl ?_ | refine qF rfl ?_ | ((first | refine qR rfl ?_ | refine qK ?_ | refine qE ?_ | refine qW ?_ | refine qM ?_); try simp -dsimp (maxSteps := 2000000) (disch := first | omega | (simp only [qZ] <;> omega) | fail) only [push_cast, ↓qP, ↓reduceIte, Nat.reduceEqDiff, Nat.reduceAdd, Nat.reduceMul, Nat.reduceSub, Nat.reduceLeDiff, Int.reduceToNat, reduceCtorEq]) | (refine qA ?_ ?_; (first | omega | (simp only [qL]; omega) | (simp only [qD] at *; omega))))
  refine Wp.loop (α := Nat) (fun i F W => F 0 = .string (B r) ∧ F 1 = .string (B f) ∧ F 6 = .int .i64 i ∧ i ≤ r.length ∧ Kp (fun _ => False) w W ∧ ∃ o, F 5 = .string (B o) ∧ Hide (o ++ byL f (r.drop i) = byL f r)) (fun i => r.length - i) 0
    ⟨by simp [upd, arg], by simp [upd, arg], by simp [upd, arg], by omega, Kp.refl _ _, [], by simp [upd, B], ⟨by simp⟩⟩ ?_
  rintro i F W ⟨f0, f1, f6, hi, k1, o, f5, heq⟩
  have holen : o.length + (byL f (r.drop i)).length ≤ 1000001000000 := by
    have := congrArg List.length heq.out; rw [List.length_append] at this
    have h2 := byL_len f r
    have h3 : r.length * (f.length + 1) ≤ 1000000 * 1000001 := Nat.mul_le_mul hr (Nat.succ_le_succ hf)
    omega
  rcases Nat.lt_or_ge i r.length with hlt | hge
  case inr =>
    have c1 : decide ((i : Int) < (r.length : Int)) = false := decide_eq_false (by omega)
    have heq1 := heq.out
    rw [List.drop_of_length_le hge] at heq1
    simp only [byL, List.append_nil] at heq1
    subst heq1
    repeat (first | refine qS ?_ | refine qB ?_ | refine qT rfl ?_ | refine qF rfl ?_ | ((first | refine qR rfl ?_ | refine qK ?_ | refine qE ?_ | refine qW ?_ | refine qM ?_); try simp -dsimp (maxSteps := 2000000) (disch := first | omega | (simp only [qZ] <;> omega) | fail) only [push_cast, ↓qP, ↓reduceIte, Nat.reduceEqDiff, Nat.reduceAdd, Nat.reduceMul, Nat.reduceSub, Nat.reduceLeDiff, Int.reduceToNat, reduceCtorEq, f0, f1, f5, f6, c1]) | (refine qA ?_ ?_; (first | omega | (simp only [qL]; omega) | (simp only [qD] at *; omega))))
    exact Ret.mk ⟨rfl, k1⟩
  have c1 : decide ((i : Int) < (r.length : Int)) = true := decide_eq_true (by omega)
  have hix : ((i : Int) + 1).toNat = i + 1 := by omega
  by_cases hamp : byteAt r i = 38
  · have ha : (((byteAt r i).toNat : Int) == 38) = true := by rw [hamp]; rfl
    have e1 := byL_amp (f := f) hlt hamp
    have hf' : o.length + f.length ≤ 1000001000000 := by rw [e1, List.length_append] at holen; omega
    rcases Bool.eq_false_or_eq_true (decide ((i : Int) + 1 < (r.length : Int))) with c2 | c2
    all_goals
      repeat (first | refine qS ?_ | refine qB ?_ | refine qT rfl ?_ | refine qF rfl ?_ | ((first | refine qR rfl ?_ | refine qK ?_ | refine qE ?_ | refine qW ?_ | refine qM ?_); try simp -dsimp (maxSteps := 2000000) (disch := first | omega | (simp only [qZ] <;> omega) | fail) only [push_cast, ↓qP, ↓reduceIte, Nat.reduceEqDiff, Nat.reduceAdd, Nat.reduceMul, Nat.reduceSub, Nat.reduceLeDiff, Int.reduceToNat, reduceCtorEq, f0, f1, f5, f6, c1, c2, ha, hix]) | (refine qA ?_ ?_; (first | omega | (simp only [qL]; omega) | (simp only [qD] at *; omega))))
      exact Again.mk (i + 1) ⟨by simp [upd, f0], by simp [upd, f1], by simp [upd, f6], by omega, k1, _, by simp [upd]; rfl, ⟨by rw [← heq.out, e1, List.append_assoc]⟩⟩ (by omega)
  have ha : (((byteAt r i).toNat : Int) == 38) = false := by rw [show (((byteAt r i).toNat : Int) == 38) = (byteAt r i == 38) from u8_eq' _ 38]; simpa using hamp
  by_cases hesc : byteAt r i = 92 ∧ i + 1 < r.length ∧ (byteAt r (i + 1) = 38 ∨ byteAt r (i + 1) = 92)
  · obtain ⟨q1, q2, q3⟩ := hesc
    have e1 := byL_esc (f := f) q2 q1 q3
    have ho' : o.length + 1 ≤ 1000001000000 := by rw [e1, List.length_cons] at holen; omega
    have c2 : decide ((i : Int) + 1 < (r.length : Int)) = true := decide_eq_true (by omega)
    have h92 : (((byteAt r i).toNat : Int) == 92) = true := by rw [q1]; rfl
    have hlen1 : [byteAt r (i + 1)].length = 1 := rfl
    rcases q3 with q3 | q3
    · have n1 : (((byteAt r (i + 1)).toNat : Int) == 38) = true := by rw [q3]; rfl
      repeat (first | refine qS ?_ | refine qB ?_ | refine qT rfl ?_ | refine qF rfl ?_ | ((first | refine qR rfl ?_ | refine qK ?_ | refine qE ?_ | refine qW ?_ | refine qM ?_); try simp -dsimp (maxSteps := 2000000) (disch := first | omega | (simp only [qZ] <;> omega) | fail) only [push_cast, ↓qP, ↓reduceIte, Nat.reduceEqDiff, Nat.reduceAdd, Nat.reduceMul, Nat.reduceSub, Nat.reduceLeDiff, Int.reduceToNat, reduceCtorEq, f0, f1, f5, f6, c1, c2, ha, hix, h92, n1]) | (refine qA ?_ ?_; (first | omega | (simp only [qL]; omega) | (simp only [qD] at *; omega))))
      refine V_str 63 9 _ rfl se_63 ik_5 isStr_9 [byteAt r (i + 1)] rfl rfl (.inr ⟨_, _, rfl, fun j hj => ?_⟩) ?_
      · obtain rfl : j = 0 := by simp at hj; omega
        simp -dsimp (maxSteps := 2000000) (disch := first | omega | (simp only [qZ] <;> omega) | fail) only [push_cast, ↓qP, ↓reduceIte, Nat.reduceEqDiff, Nat.reduceAdd, Nat.reduceMul, Nat.reduceSub, Nat.reduceLeDiff, Int.reduceToNat, reduceCtorEq]
        rfl
      refine Sm.out ?_
      repeat (first | refine qS ?_ | refine qB ?_ | refine qT rfl ?_ | refine qF rfl ?_ | ((first | refine qR rfl ?_ | refine qK ?_ | refine qE ?_ | refine qW ?_ | refine qM ?_); try simp -dsimp (maxSteps := 2000000) (disch := first | omega | (simp only [qZ] <;> omega) | fail) only [push_cast, ↓qP, ↓reduceIte, Nat.reduceEqDiff, Nat.reduceAdd, Nat.reduceMul, Nat.reduceSub, Nat.reduceLeDiff, Int.reduceToNat, reduceCtorEq, f0, f1, f5, f6]) | (refine qA ?_ ?_; (first | omega | (simp only [qL]; omega) | (simp only [qD] at *; omega))))
      exact Again.mk (i + 2) ⟨by simp [upd, f0], by simp [upd, f1], by simp [upd, f6]; omega, by omega, k1.alloc _, _, by simp [upd]; rfl, ⟨by rw [← heq.out, e1, List.append_assoc]; rfl⟩⟩ (by omega)
    · have n1 : (((byteAt r (i + 1)).toNat : Int) == 38) = false := by rw [q3]; rfl
      have n2 : (((byteAt r (i + 1)).toNat : Int) == 92) = true := by rw [q3]; rfl
      repeat (first | refine qS ?_ | refine qB ?_ | refine qT rfl ?_ | refine qF rfl ?_ | ((first | refine qR rfl ?_ | refine qK ?_ | refine qE ?_ | refine qW ?_ | refine qM ?_); try simp -dsimp (maxSteps := 2000000) (disch := first | omega | (simp only [qZ] <;> omega) | fail) only [push_cast, ↓qP, ↓reduceIte, Nat.reduceEqDiff, Nat.reduceAdd, Nat.reduceMul, Nat.reduceSub, Nat.reduceLeDiff, Int.reduceToNat, reduceCtorEq, f0, f1, f5, f6, c1, c2, ha, hix, h92, n1, n2]) | (refine qA ?_ ?_; (first | omega | (simp only [qL]; omega) | (simp only [qD] at *; omega))))
      refine V_str 63 9 _ rfl se_63 ik_5 isStr_9 [byteAt r (i + 1)] rfl rfl (.inr ⟨_, _, rfl, fun j hj => ?_⟩) ?_
      · obtain rfl : j = 0 := by simp at hj; omega
        simp -dsimp (maxSteps := 2000000) (disch := first | omega | (simp only [qZ] <;> omega) | fail) only [push_cast, ↓qP, ↓reduceIte, Nat.reduceEqDiff, Nat.reduceAdd, Nat.reduceMul, Nat.reduceSub, Nat.reduceLeDiff, Int.reduceToNat, reduceCtorEq]
        rfl
      refine Sm.out ?_
      repeat (first | refine qS ?_ | refine qB ?_ | refine qT rfl ?_ | refine qF rfl ?_ | ((first | refine qR rfl ?_ | refine qK ?_ | refine qE ?_ | refine qW ?_ | refine qM ?_); try simp -dsimp (maxSteps := 2000000) (disch := first | omega | (simp only [qZ] <;> omega) | fail) only [push_cast, ↓qP, ↓reduceIte, Nat.reduceEqDiff, Nat.reduceAdd, Nat.reduceMul, Nat.reduceSub, Nat.reduceLeDiff, Int.reduceToNat, reduceCtorEq, f0, f1, f5, f6]) | (refine qA ?_ ?_; (first | omega | (simp only [qL]; omega) | (simp only [qD] at *; omega))))
      exact Again.mk (i + 2) ⟨by simp [upd, f0], by simp [upd, f1], by simp [upd, f6]; omega, by omega, k1.alloc _, _, by simp [upd]; rfl, ⟨by rw [← heq.out, e1, List.append_assoc]; rfl⟩⟩ (by omega)
  · have e1 := byL_one (f := f) hlt hamp hesc
    have ho' : o.length + 1 ≤ 1000001000000 := by rw [e1, List.length_cons] at holen; omega
    have hi1 : ((i : Int) + 1 - i).toNat = 1 := by omega
    have tk : (r.drop i).take (i + 1 - i) = [byteAt r i] := by rw [show i + 1 - i = 1 by omega, drop_cons hlt]; rfl
    by_cases q1 : byteAt r i = 92
    · have h92 : (((byteAt r i).toNat : Int) == 92) = true := by rw [q1]; rfl
      rcases Nat.lt_or_ge (i + 1) r.length with q2 | q2
      · have c2 : decide ((i : Int) + 1 < (r.length : Int)) = true := decide_eq_true (by omega)
        have n1 : (((byteAt r (i + 1)).toNat : Int) == 38) = false := by rw [show (((byteAt r (i + 1)).toNat : Int) == 38) = (byteAt r (i + 1) == 38) from u8_eq' _ 38]; simpa using fun h => hesc ⟨q1, q2, .inl h⟩
        have n2 : (((byteAt r (i + 1)).toNat : Int) == 92) = false := by rw [show (((byteAt r (i + 1)).toNat : Int) == 92) = (byteAt r (i + 1) == 92) from u8_eq' _ 92]; simpa using fun h => hesc ⟨q1, q2, .inr h⟩
        replace hesc : Hide _ := ⟨hesc⟩
        repeat (first | refine qS ?_ | refine qB ?_ | refine qT rfl ?_ | refine qF rfl ?_ | ((first | refine qR rfl ?_ | refine qK ?_ | refine qE ?_ | refine qW ?_ | refine qM ?_); try simp -dsimp (maxSteps := 2000000) (disch := first | omega | (simp only [qZ] <;> omega) | fail) only [push_cast, ↓qP, ↓reduceIte, Nat.reduceEqDiff, Nat.reduceAdd, Nat.reduceMul, Nat.reduceSub, Nat.reduceLeDiff, Int.reduceToNat, reduceCtorEq, f0, f1, f5, f6, c1, c2, ha, hix, h92, n1, n2, tk]) | (refine qA ?_ ?_; (first | omega | (simp only [qL]; omega) | (simp only [qD] at *; omega))))
        refine Again.mk (i + 1) ⟨by simp [upd, f0], by simp [upd, f1], by simp [upd, f6], by omega, k1, o ++ [byteAt r i], by simp [upd], ⟨by rw [← heq.out, e1, List.append_assoc]; rfl⟩⟩ (by omega)
      · have c2 : decide ((i : Int) + 1 < (r.length : Int)) = false := decide_eq_false (by omega)
        have z1 : ((0 : Int) == 38) = false := rfl
        have z2 : ((0 : Int) == 92) = false := rfl
        replace hesc : Hide _ := ⟨hesc⟩
        repeat (first | refine qS ?_ | refine qB ?_ | refine qT rfl ?_ | refine qF rfl ?_ | ((first | refine qR rfl ?_ | refine qK ?_ | refine qE ?_ | refine qW ?_ | refine qM ?_); try simp -dsimp (maxSteps := 2000000) (disch := first | omega | (simp only [qZ] <;> omega) | fail) only [push_cast, ↓qP, ↓reduceIte, Nat.reduceEqDiff, Nat.reduceAdd, Nat.reduceMul, Nat.reduceSub, Nat.reduceLeDiff, Int.reduceToNat, reduceCtorEq, f0, f1, f5, f6, c1, c2, ha, hix, h92, tk, z1, z2]) | (refine qA ?_ ?_; (first | omega | (simp only [qL]; omega) | (simp only [qD] at *; omega))))
        refine Again.mk (i + 1) ⟨by simp [upd, f0], by simp [upd, f1], by simp [upd, f6], by omega, k1, o ++ [byteAt r i], by simp [upd], ⟨by rw [← heq.out, e1, List.append_assoc]; rfl⟩⟩ (by omega)
    · have h92 : (((byteAt r i).toNat : Int) == 92) = false := by rw [show (((byteAt r i).toNat : Int) == 92) = (byteAt r i == 92) from u8_eq' _ 92]; simpa using q1
      replace hesc : Hide _ := ⟨hesc⟩
      rcases Bool.eq_false_or_eq_true (decide ((i : Int) + 1 < (r.length : Int))) with c2 | c2
      all_goals
        repeat (first | refine qS ?_ | refine qB ?_ | refine qT rfl ?_ | refine qF rfl ?_ | ((first | refine qR rfl ?_ | refine qK ?_ | refine qE ?_ | refine qW ?_ | refine qM ?_); try simp -dsimp (maxSteps := 2000000) (disch := first | omega | (simp only [qZ] <;> omega) | fail) only [push_cast, ↓qP, ↓reduceIte, Nat.reduceEqDiff, Nat.reduceAdd, Nat.reduceMul, Nat.reduceSub, Nat.reduceLeDiff, Int.reduceToNat, reduceCtorEq, f0, f1, f5, f6, c1, c2, ha, hix, h92, tk]) | (refine qA ?_ ?_; (first | omega | (simp only [qL]; omega) | (simp only [qD] at *; omega))))
        refine Again.mk (i + 1) ⟨by simp [upd, f0], by simp [upd, f1], by simp [upd, f6], by omega, k1, o ++ [byteAt r i], by simp [upd], ⟨by rw [← heq.out, e1, List.append_assoc]; rfl⟩⟩ (by omega)
end
end Go.Proofs.Ytddichibegppjaa

/- The reference's reader of expressions: sets. -/
namespace Go.Proofs.Ytddichibegppjaa
open Go Go.VC

theorem item3_more (l : List UInt8) (s : S3) (set : List Bool) (h : s.i < l.length) (hf : s.f = 0) (hr : (item3 l s set).2.2.f = 0) : s.i < (item3 l s set).2.2.i := by
  have hfail : ∀ k : Int, k ≠ 0 → ∀ t : S3, t.f = 0 → (t.fail k).f ≠ 0 := by
    intro k hk t ht; unfold S3.fail; rw [if_pos ht]; exact hk
  unfold item3 at hr ⊢
  split at hr
  · simp only [] at hr
    split at hr
    · exact absurd hr (hfail 2 (by decide) s hf)
    · split at hr
      · rename_i h1 h2 h3
        rw [if_pos h1]
        simp only []
        rw [if_neg h2, if_pos h3]
        have := clEnd_le l l.length (s.i + 2)
        show s.i < clEnd l l.length (s.i + 2) + 2
        omega
      · exact absurd hr (hfail 2 (by decide) s hf)
  · rename_i h1
    rw [if_neg h1]
    split at hr
    · rename_i h2
      rw [if_pos h2]
      simp only at hr ⊢
      unfold escape3 at hr ⊢
      split
      · split
        · have := oct3_i l 3 (s.i + 1) 0
          show s.i < (oct3 l 3 (s.i + 1) 0).2
          omega
        · show s.i < s.i + 2; omega
      · rename_i h3
        rw [if_neg h3] at hr
        exact absurd hr (hfail 4 (by decide) s.on hf)
    · rename_i h2
      rw [if_neg h2]
      show s.i < s.i + 1
      omega

/-- A range, put in up to a place. -/
def putK (set : List Bool) (lo k : Nat) : List Bool := set.zipIdx.map fun (b, j) => b || (decide (lo ≤ j) && decide (j < k))
theorem putK_len (set : List Bool) (lo k : Nat) : (putK set lo k).length = set.length := by simp [putK]
theorem putK_get (set : List Bool) (lo k j : Nat) : (putK set lo k)[j]? = set[j]?.map fun b => b || (decide (lo ≤ j) && decide (j < k)) := by
  simp [putK, List.getElem?_zipIdx]
  cases set[j]? <;> simp
theorem putK_zero (set : List Bool) (lo : Nat) : putK set lo lo = set := by
  refine List.ext_getElem? fun j => ?_
  rw [putK_get]
  cases set[j]? with
  | none => rfl
  | some b => simp; intros; omega
theorem putK_all (set : List Bool) (lo hi : Nat) : putK set lo (hi + 1) = putR set lo hi := by
  refine List.ext_getElem? fun j => ?_
  rw [putK_get]
  simp only [putR, List.getElem?_map, List.getElem?_zipIdx, Nat.zero_add]
  have : decide (j < hi + 1) = decide (j ≤ hi) := by rw [decide_eq_decide]; omega
  cases set[j]? <;> simp [this]
theorem putK_succ (set : List Bool) (lo k : Nat) (hk : k < set.length) (hl : lo ≤ k) : putK set lo (k + 1) = (putK set lo k).set k true := by
  refine List.ext_getElem? fun j => ?_
  rw [List.getElem?_set, putK_get, putK_get, putK_len]
  split
  · rename_i e
    subst e
    rw [List.getElem?_eq_getElem hk]
    simp [hk, hl]
  · rename_i e
    have : (decide (j < k + 1)) = decide (j < k) := by
      rw [decide_eq_decide]; omega
    rw [this]
theorem bools_set (set : List Bool) (k : Nat) (b : Bool) : (bools set).set k (.bool b) = bools (set.set k b) := by simp [bools, List.map_set]
theorem bools_get (set : List Bool) (k : Nat) (h : k < set.length) : (bools set)[k]? = some (.bool (set.getD k false)) := by
  simp [bools, List.getElem?_eq_getElem h, List.getD_eq_getElem?_getD]
/-- The first of them. -/
def bytesK (set : List Bool) (not : Bool) (n : Nat) : List UInt8 := (List.range n).filterMap fun k => if (set.getD k false != not) = true then some (UInt8.ofNat k) else none
theorem bytesK_succ (set : List Bool) (not : Bool) (n : Nat) : bytesK set not (n + 1) = if (set.getD n false != not) = true then bytesK set not n ++ [UInt8.ofNat n] else bytesK set not n := by
  unfold bytesK
  rw [List.range_succ, List.filterMap_append]
  by_cases h : (set.getD n false != not) = true
  · simp only [List.filterMap_cons, List.filterMap_nil, if_pos h]
  · simp only [List.filterMap_cons, List.filterMap_nil, if_neg h, List.append_nil]
theorem bytesK_len (set : List Bool) (not : Bool) (n : Nat) : (bytesK set not n).length ≤ n := by
  have := List.length_filterMap_le (fun k => if (set.getD k false != not) = true then some (UInt8.ofNat k) else none) (List.range n)
  simpa [bytesK] using this

/-- What a reader's part brings: a tree, and where it stands. -/
abbrev OutRe (w : World) (a : Nat) (l : List UInt8) (r : Option (Re × S3)) (e : Ending) (w' : World) : Prop :=
  ∃ t s' cs, r = some (t, s') ∧ e = .returned (.agg cs.toArray) ∧ IsRe w' (fun b => w.heap.size ≤ b ∧ b < w'.heap.size) t cs ∧ At3 w' a l s' ∧ Kp (· = a) w w'

theorem zRe_is (w : World) (D : Nat → Prop) : IsRe w D Re.zero zRe := by
  simp only [Re.zero, IsRe]
  exact ⟨none, 0, rfl, .inl trivial⟩
theorem set_is (w : World) (D : Nat → Prop) (op set : List UInt8) : IsRe w D (.node op set [] 0 0) [.string (B op), .string (B set), .slice none 0 0, .int .i64 0, .int .i64 0] := by
  simp only [IsRe]
  exact ⟨none, 0, rfl, .inl trivial⟩

section
variable {a g : Nat} {l : List UInt8} {s s' : S3} {w w1 w2 : World} {set : List Bool}

/-- Where a set's reader stands: its own place, the result, the set. -/
structure Br (w : World) (a : Nat) (l : List UInt8) (s : S3) (set : List Bool) (w' : World) : Prop where
  at_ : At3 w' a l s
  r : Blk w' w.heap.size 33 zRe
  g : Blk w' (w.heap.size + 1) 4 (bools set)
  kp : Kp (· = a) w w'
  lt : a < w.heap.size
  len : set.length = 256
theorem Br.keep (h : Br w a l s set w1) (h2 : At3 w2 a l s') (hk : Kp (· = a) w1 w2) : Br w a l s' set w2 :=
  ⟨h2, hk.Blk h.r (by have := h.lt; omega), hk.Blk h.g (by have := h.lt; omega), h.kp.trans hk, h.lt, h.len⟩
theorem Br.seta (h : Br w a l s set w1) {j : Nat} {v : Value} (h2 : At3 (w1.setCell ⟨a, j, none⟩ v) a l s') : Br w a l s' set (w1.setCell ⟨a, j, none⟩ v) :=
  h.keep h2 ((Kp.refl (· = a) w1).setCell (p := ⟨a, j, none⟩) (fun _ => rfl) _)
theorem Br.setg (h : Br w a l s set w1) (k : Nat) (b : Bool) : Br w a l s (set.set k b) (w1.setCell ⟨w.heap.size + 1, k, none⟩ (.bool b)) :=
  ⟨h.at_.far (p := ⟨w.heap.size + 1, k, none⟩) (Nat.ne_of_lt (Nat.lt_succ_of_lt h.lt)) _, h.r.far (p := ⟨w.heap.size + 1, k, none⟩) (Nat.ne_of_lt (Nat.lt_succ_self _)) _,
    by have := h.g.set k (.bool b); rwa [bools_set] at this, h.kp.setCell (p := ⟨w.heap.size + 1, k, none⟩) (fun h' => absurd h' (Nat.not_lt.2 (Nat.le_succ _))) _, h.lt, by simpa using h.len⟩
theorem Br.out (h : Br w a l s' set w1) {r : Option (Re × S3)} {t : Re} {cs : List Value} {F : Fr} (hr : r = some (t, s')) (hF : F 2 = .pointer (some ⟨w.heap.size, 0, none⟩)) (hl : cs.length = 5) (ht : ∀ w', IsRe w' (fun b => w.heap.size ≤ b ∧ b < w'.heap.size) t cs) :
    post Try.prog [.cell 2 33] (OutRe w a l r) .mk .ret F (w1.setCells w.heap.size 0 cs) := by
  have h2 := (h.r.setAll (vs := cs) hl).rdn
  rw [hl] at h2
  exact post_cell hF tk_33 h2 ⟨t, s', cs, hr, rfl, ht _, Blk.farCells (Nat.ne_of_lt h.lt) _ _ _ h.at_, Kp.setCells h.kp (fun h' => absurd h' (Nat.lt_irrefl _)) _ _⟩
theorem Br.item (h : Br w a l s set w1) {set' : List Bool} (h2 : At3 w2 a l s') (hg : Blk w2 (w.heap.size + 1) 4 (bools set')) (hl : set'.length = set.length) (hk : Kp (fun b => b = a ∨ b = w.heap.size + 1) w1 w2) : Br w a l s' set' w2 :=
  ⟨h2, hk.Blk h.r (by have := h.lt; omega), hg, h.kp.trans' hk (fun i hi e => by have := h.lt; omega), h.lt, hl.trans h.len⟩
theorem Br.item2 (h : Br w a l s set w1) {o : Obj} {g : Nat} (hg : g = w1.heap.size) (h2 : At3 w2 a l s') (hk : Kp (fun b => b = a ∨ b = g) (w1.alloc o) w2) : Br w a l s' set w2 := by
  have h1 := h.r.lt
  have h3 := h.g.lt
  exact ⟨h2, hk.Blk (h.r.alloc o) (by have := h.lt; omega), hk.Blk (h.g.alloc o) (by have := h.lt; omega), (h.kp.alloc o).trans' hk (fun i hi e => by have := h.lt; omega), h.lt, h.len⟩
theorem Br.grown (h : Br w a l s set w1) {o : Obj} {A : Option Addr} (hg : (w1.alloc o).grownBy w2 (bk A)) (hA : ∀ g, bk A = some g → w.heap.size + 1 < g) : Br w a l s set w2 := by
  have h1 := h.r.lt
  have h3 := h.g.lt
  have h4 := h.at_.lt
  have h5 := h.lt
  have hne : ∀ b, b ≤ w.heap.size + 1 → some b ≠ bk A := fun b hb e => by have := hA b e.symm; omega
  exact ⟨(h.at_.alloc o).keep (hg.block a (by simp; omega) (hne _ (by omega))), (h.r.alloc o).keep (hg.block _ (by simp; omega) (hne _ (by omega))), (h.g.alloc o).keep (hg.block _ (by simp; omega) (hne _ (by omega))),
    (h.kp.alloc o).grown hg (fun k hk hl => by have := hA k hk; omega), h.lt, h.len⟩
theorem Br.drew (h : Br w a l s set w1) : Br w a l s set w1.drew := h.keep h.at_.drew (Kp.refl _ w1).drew

theorem bracket3_any (h : At3 w a l s) (hl : l.length ≤ 1000000) (hi : s.i < l.length) :
    Calls Try.prog 94 #[.pointer (some ⟨a, 0, none⟩)] w (OutRe w a l (bracket3 l s)) := by
  have hlt := h.lt
  refine enter (n := 183) (args := [.pointer (some ⟨a, 0, none⟩)]) Try.func94 rfl rfl rfl (by simp) ?_
  refine Wp.seq (Wp.region rfl ?_)
  simp -dsimp (maxSteps := 2000000) (disch := first | omega | (simp only [qZ] <;> omega) | fail) only [push_cast, ↓qP, ↓reduceIte, Nat.reduceEqDiff, Nat.reduceAdd, Nat.reduceMul, Nat.reduceSub, Nat.reduceLeDiff, Int.reduceToNat, reduceCtorEq]
  refine Wp.seq (Wp.region rfl ?_)
  simp -dsimp (maxSteps := 2000000) (disch := first | omega | (simp only [qZ] <;> omega) | fail) only [push_cast, ↓qP, ↓reduceIte, Nat.reduceEqDiff, Nat.reduceAdd, Nat.reduceMul, Nat.reduceSub, Nat.reduceLeDiff, Int.reduceToNat, reduceCtorEq, h.rdc, h.fz]
  refine Wp.seq (Wp.region rfl ?_)
  simp -dsimp (maxSteps := 2000000) (disch := first | omega | (simp only [qZ] <;> omega) | fail) only [push_cast, ↓qP, ↓reduceIte, Nat.reduceEqDiff, Nat.reduceAdd, Nat.reduceMul, Nat.reduceSub, Nat.reduceLeDiff, Int.reduceToNat, reduceCtorEq]
  refine ⟨by omega, ?_⟩
  refine Wp.seq (Wp.region rfl ?_)
  simp -dsimp (maxSteps := 2000000) (disch := first | omega | (simp only [qZ] <;> omega) | fail) only [push_cast, ↓qP, ↓reduceIte, Nat.reduceEqDiff, Nat.reduceAdd, Nat.reduceMul, Nat.reduceSub, Nat.reduceLeDiff, Int.reduceToNat, reduceCtorEq]
  refine Wp.cut (fun F' w' => F' 0 = .pointer (some ⟨a, 0, none⟩) ∧ F' 2 = .pointer (some ⟨w.heap.size, 0, none⟩) ∧ F' 3 = .slice (some ⟨w.heap.size + 1, 0, none⟩) 256 256 ∧
    ∃ nt s2, F' 4 = .bool nt ∧ nt = (more3 l s.on && byteAt l (s.i + 1) == 94) ∧ s2 = (if nt then s.on.on else s.on) ∧ Br w a l s2 noSet w') ?_ ?_
  · repeat (first | refine qS ?_ | refine qB ?_ | refine qT rfl ?_ | refine qF rfl ?_ | ((first | refine qR rfl ?_ | refine qK ?_ | refine qE ?_ | refine qW ?_ | refine qM ?_); try simp -dsimp (maxSteps := 2000000) (disch := first | omega | (simp only [qZ] <;> omega) | fail) only [push_cast, ↓qP, ↓reduceIte, Nat.reduceEqDiff, Nat.reduceAdd, Nat.reduceMul, Nat.reduceSub, Nat.reduceLeDiff, Int.reduceToNat, reduceCtorEq]) | (refine qA ?_ ?_; (first | omega | (simp only [qL]; omega) | (simp only [qD] at *; omega))))
    refine CallV.gen (A := Br w a l s.on noSet) ⟨((h.alloc _).set 1 _).alloc _, ((Blk.new _ _ _).far (Nat.ne_of_gt hlt) _).alloc _, ?_, (((Kp.refl (· = a) w).alloc _).setCell (fun _ => rfl) _).alloc _, hlt, rfl⟩ ?_
    · have := Blk.new ((w.alloc (.cells zRe.toArray 33)).setCell ⟨a, 1, none⟩ (.int .i64 ((s.i : Int) + 1))) 4 (zeros [.bool false] 256)
      simpa [zeros_one, bools, noSet] using this
    intro w1 h1
    refine CallV.of isCall_71 (more3_any h1.at_) ?_
    rintro _ _ ⟨rfl, rfl⟩
    rcases Bool.eq_false_or_eq_true (more3 l s.on) with hm | hm
    · obtain ⟨hf0, hlt1⟩ := (more3_iff l s.on).1 hm
      refine Sm.out ?_
      repeat (first | refine qS ?_ | refine qB ?_ | refine qT rfl ?_ | refine qF rfl ?_ | ((first | refine qR rfl ?_ | refine qK ?_ | refine qE ?_ | refine qW ?_ | refine qM ?_); try simp -dsimp (maxSteps := 2000000) (disch := first | omega | (simp only [qZ] <;> omega) | fail) only [push_cast, ↓qP, ↓reduceIte, Nat.reduceEqDiff, Nat.reduceAdd, Nat.reduceMul, Nat.reduceSub, Nat.reduceLeDiff, Int.reduceToNat, reduceCtorEq, hm]) | (refine qA ?_ ?_; (first | omega | (simp only [qL]; omega) | (simp only [qD] at *; omega))))
      refine CallV.of isCall_72 (peek3 h1.at_.drew hlt1) ?_
      rintro _ _ ⟨rfl, rfl⟩
      have hltb := h1.at_.lt
      have e94 : (((byteAt l s.on.i).toNat : Int) == 94) = (byteAt l (s.i + 1) == 94) := u8_eq' _ 94
      rcases Bool.eq_false_or_eq_true (byteAt l (s.i + 1) == 94) with h94 | h94
      · refine Sm.out ?_
        repeat (first | refine qS ?_ | refine qB ?_ | refine qT rfl ?_ | refine qF rfl ?_ | ((first | refine qR rfl ?_ | refine qK ?_ | refine qE ?_ | refine qW ?_ | refine qM ?_); try simp -dsimp (maxSteps := 2000000) (disch := first | omega | (simp only [qZ] <;> omega) | fail) only [push_cast, ↓qP, ↓reduceIte, Nat.reduceEqDiff, Nat.reduceAdd, Nat.reduceMul, Nat.reduceSub, Nat.reduceLeDiff, Int.reduceToNat, reduceCtorEq, e94, h94, h1.at_.rdc, h1.at_.fz]) | (refine qA ?_ ?_; (first | omega | (simp only [qL]; omega) | (simp only [qD] at *; omega))))
        refine Mid.mk ⟨?_, ?_, ?_, true, s.on.on, ?_, by rw [hm, h94]; rfl, rfl, h1.drew.drew.seta (h1.drew.drew.at_.set 1 _)⟩
        all_goals (simp -dsimp (maxSteps := 2000000) (disch := first | omega | (simp only [qZ] <;> omega) | fail) only [push_cast, ↓qP, ↓reduceIte, Nat.reduceEqDiff, Nat.reduceAdd, Nat.reduceMul, Nat.reduceSub, Nat.reduceLeDiff, Int.reduceToNat, reduceCtorEq])
      · refine Sm.out ?_
        repeat (first | refine qS ?_ | refine qB ?_ | refine qT rfl ?_ | refine qF rfl ?_ | ((first | refine qR rfl ?_ | refine qK ?_ | refine qE ?_ | refine qW ?_ | refine qM ?_); try simp -dsimp (maxSteps := 2000000) (disch := first | omega | (simp only [qZ] <;> omega) | fail) only [push_cast, ↓qP, ↓reduceIte, Nat.reduceEqDiff, Nat.reduceAdd, Nat.reduceMul, Nat.reduceSub, Nat.reduceLeDiff, Int.reduceToNat, reduceCtorEq, e94, h94]) | (refine qA ?_ ?_; (first | omega | (simp only [qL]; omega) | (simp only [qD] at *; omega))))
        refine Mid.mk ⟨?_, ?_, ?_, false, s.on, ?_, by rw [hm, h94]; rfl, rfl, h1.drew.drew⟩
        all_goals (simp -dsimp (maxSteps := 2000000) (disch := first | omega | (simp only [qZ] <;> omega) | fail) only [push_cast, ↓qP, ↓reduceIte, Nat.reduceEqDiff, Nat.reduceAdd, Nat.reduceMul, Nat.reduceSub, Nat.reduceLeDiff, Int.reduceToNat, reduceCtorEq])
    · refine Sm.out ?_
      repeat (first | refine qS ?_ | refine qB ?_ | refine qT rfl ?_ | refine qF rfl ?_ | ((first | refine qR rfl ?_ | refine qK ?_ | refine qE ?_ | refine qW ?_ | refine qM ?_); try simp -dsimp (maxSteps := 2000000) (disch := first | omega | (simp only [qZ] <;> omega) | fail) only [push_cast, ↓qP, ↓reduceIte, Nat.reduceEqDiff, Nat.reduceAdd, Nat.reduceMul, Nat.reduceSub, Nat.reduceLeDiff, Int.reduceToNat, reduceCtorEq, hm]) | (refine qA ?_ ?_; (first | omega | (simp only [qL]; omega) | (simp only [qD] at *; omega))))
      refine Mid.mk ⟨?_, ?_, ?_, false, s.on, ?_, by rw [hm]; rfl, rfl, h1.drew⟩
      all_goals (simp -dsimp (maxSteps := 2000000) (disch := first | omega | (simp only [qZ] <;> omega) | fail) only [push_cast, ↓qP, ↓reduceIte, Nat.reduceEqDiff, Nat.reduceAdd, Nat.reduceMul, Nat.reduceSub, Nat.reduceLeDiff, Int.reduceToNat, reduceCtorEq])
  rintro F w1 ⟨f0, f2, f3, nt, s2, f4, hnt, hs2, h1⟩
  have hbr : bracket3 l s = match items3 l (l.length + 2) true noSet s2 with
      | none => none
      | some (none, s3) => some (Re.zero, s3)
      | some (some set, s3) => some (.node opSet (bytesOf set nt) [] 0 0, s3) := by
    rw [hs2, hnt]; rfl
  have hi2 : s2.i ≤ l.length + 1 ∧ s.i < s2.i := by
    rw [hs2]
    split
    · rename_i e
      rw [hnt] at e
      have := (more3_iff l s.on).1 (by simp at e; exact e.1)
      have h3 := this.2
      change s.i + 1 < _ at h3
      exact ⟨by show s.i + 1 + 1 ≤ _; omega, by show s.i < s.i + 1 + 1; omega⟩
    · exact ⟨by show s.i + 1 ≤ _; omega, by show s.i < s.i + 1; omega⟩
  clear hs2 hnt
  obtain ⟨R, hR⟩ : ∃ R, items3 l (l.length + 2) true noSet s2 = R := ⟨_, rfl⟩
  rw [hR] at hbr
  refine Wp.cutQ (fun F' w' => F' 2 = .pointer (some ⟨w.heap.size, 0, none⟩) ∧ F' 3 = .slice (some ⟨w.heap.size + 1, 0, none⟩) 256 256 ∧ F' 4 = .bool nt ∧
    ∃ set s3, R = some (some set, s3) ∧ Br w a l s3 set w') ?_ ?_
  · repeat (first | refine qS ?_ | refine qB ?_ | refine qT rfl ?_ | refine qF rfl ?_ | ((first | refine qR rfl ?_ | refine qK ?_ | refine qE ?_ | refine qW ?_ | refine qM ?_); try simp -dsimp (maxSteps := 2000000) (disch := first | omega | (simp only [qZ] <;> omega) | fail) only [push_cast, ↓qP, ↓reduceIte, Nat.reduceEqDiff, Nat.reduceAdd, Nat.reduceMul, Nat.reduceSub, Nat.reduceLeDiff, Int.reduceToNat, reduceCtorEq]) | (refine qA ?_ ?_; (first | omega | (simp only [qL]; omega) | (simp only [qD] at *; omega))))
    refine Wp.loop (α := Nat) (fun k F w2 => F 0 = .pointer (some ⟨a, 0, none⟩) ∧ F 2 = .pointer (some ⟨w.heap.size, 0, none⟩) ∧ F 3 = .slice (some ⟨w.heap.size + 1, 0, none⟩) 256 256 ∧ F 4 = .bool nt ∧
      ∃ first set s', F 5 = .bool first ∧ Br w a l s' set w2 ∧ s'.i ≤ l.length + 1 ∧ l.length + 2 ≤ s'.i + k ∧ Hide (items3 l k first set s' = R)) (fun k => k) (l.length + 2)
      ⟨by simp [upd, f0], by simp [upd, f2], by simp [upd, f3], by simp [upd, f4], true, noSet, s2, by simp [upd], h1, hi2.1, by omega, ⟨hR⟩⟩ ?_
    clear f0 f2 f3 f4 h1
    replace hbr : Hide _ := ⟨hbr⟩
    rintro k F w2 ⟨f0, f2, f3, f4, first, set, s', f5, h1, hi', hk, hit⟩
    obtain ⟨k, rfl⟩ : ∃ k', k = k' + 1 := ⟨k - 1, by omega⟩
    have hlta := h1.at_.lt
    have hltr := h1.r.lt
    have hltg := h1.g.lt
    have hrr := h1.r.rdc
    have hrz := h1.r.fz
    rcases Bool.eq_false_or_eq_true (s'.f != 0) with hf | hf
    · repeat (first | refine qS ?_ | refine qB ?_ | refine qT rfl ?_ | refine qF rfl ?_ | ((first | refine qR rfl ?_ | refine qK ?_ | refine qE ?_ | refine qW ?_ | refine qM ?_); try simp -dsimp (maxSteps := 2000000) (disch := first | omega | (simp only [qZ] <;> omega) | fail) only [push_cast, ↓qP, ↓reduceIte, Nat.reduceEqDiff, Nat.reduceAdd, Nat.reduceMul, Nat.reduceSub, Nat.reduceLeDiff, Int.reduceToNat, reduceCtorEq, f0, h1.at_.rdc, hf, f2, hrr, hrz]) | (refine qA ?_ ?_; (first | omega | (simp only [qL]; omega) | (simp only [qD] at *; omega))))
      exact h1.out (t := Re.zero) (cs := zRe) (by rw [hbr.out, ← hit.out]; simp only [items3]; rw [if_pos (by simpa using hf)]) (by simp [upd, f2]) rfl (fun w' => zRe_is _ _)
    have hf0 : s'.f = 0 := by simpa using hf
    have hit1 := hit.out.symm
    simp only [items3] at hit1
    rw [if_neg (by simpa using hf)] at hit1
    clear hit
    rcases Bool.eq_false_or_eq_true (decide ((s'.i : Int) ≥ (l.length : Int))) with hge | hge
    · rw [if_pos (by simpa using hge)] at hit1
      repeat (first | refine qS ?_ | refine qB ?_ | refine qT rfl ?_ | refine qF rfl ?_ | ((first | refine qR rfl ?_ | refine qK ?_ | refine qE ?_ | refine qW ?_ | refine qM ?_); try simp -dsimp (maxSteps := 2000000) (disch := first | omega | (simp only [qZ] <;> omega) | fail) only [push_cast, ↓qP, ↓reduceIte, Nat.reduceEqDiff, Nat.reduceAdd, Nat.reduceMul, Nat.reduceSub, Nat.reduceLeDiff, Int.reduceToNat, reduceCtorEq, f0, h1.at_.rdc, hf, f2]) | (refine qA ?_ ?_; (first | omega | (simp only [qL]; omega) | (simp only [qD] at *; omega))))
      refine Wp.draw [0, 1, 3, 7, 0, 16, 48, 112, 240, 511] [] (.op 0 false false [] <| .op 1 false false [] <| .op 2 false false [] <| .op 3 false false [] <| .op 4 false false [] <| .op 5 false false [] <| .op 6 false false [] <| .op 7 false false [] <| .op 8 false false [] <| .op 9 false false [] <| .nil) mixed (by kernel_rfl) ?_
      simp -dsimp (maxSteps := 2000000) (disch := first | omega | (simp only [qZ] <;> omega) | fail) only [push_cast, ↓qP, ↓reduceIte, Nat.reduceEqDiff, Nat.reduceAdd, Nat.reduceMul, Nat.reduceSub, Nat.reduceLeDiff, Int.reduceToNat, reduceCtorEq, h1.at_.rdc, f0, hge, f2]
      repeat (first | refine qS ?_ | refine qB ?_ | refine qT rfl ?_ | refine qF rfl ?_ | ((first | refine qR rfl ?_ | refine qK ?_ | refine qE ?_ | refine qW ?_ | refine qM ?_); try simp -dsimp (maxSteps := 2000000) (disch := first | omega | (simp only [qZ] <;> omega) | fail) only [push_cast, ↓qP, ↓reduceIte, Nat.reduceEqDiff, Nat.reduceAdd, Nat.reduceMul, Nat.reduceSub, Nat.reduceLeDiff, Int.reduceToNat, reduceCtorEq, f0, f2, hge]) | (refine qA ?_ ?_; (first | omega | (simp only [qL]; omega) | (simp only [qD] at *; omega))))
      refine CallV.of isCall_50 (fail3 h1.at_.drew 2) ?_
      rintro _ w3 ⟨rfl, h3, k3⟩
      have h4 := h1.drew.keep h3 k3
      have hltr := h4.r.lt
      have hrr := h4.r.rdc
      have hrz := h4.r.fz
      refine Sm.out ?_
      repeat (first | refine qS ?_ | refine qB ?_ | refine qT rfl ?_ | refine qF rfl ?_ | ((first | refine qR rfl ?_ | refine qK ?_ | refine qE ?_ | refine qW ?_ | refine qM ?_); try simp -dsimp (maxSteps := 2000000) (disch := first | omega | (simp only [qZ] <;> omega) | fail) only [push_cast, ↓qP, ↓reduceIte, Nat.reduceEqDiff, Nat.reduceAdd, Nat.reduceMul, Nat.reduceSub, Nat.reduceLeDiff, Int.reduceToNat, reduceCtorEq, f0, f2, hrr, hrz]) | (refine qA ?_ ?_; (first | omega | (simp only [qL]; omega) | (simp only [qD] at *; omega))))
      exact h4.out (t := Re.zero) (cs := zRe) (by rw [hbr.out, hit1]) (by simp [upd, f2]) rfl (fun w' => zRe_is _ _)
    have hlt2 : s'.i < l.length := by simpa using hge
    rw [if_neg (by simpa using hge)] at hit1
    repeat (first | refine qS ?_ | refine qB ?_ | refine qT rfl ?_ | refine qF rfl ?_ | ((first | refine qR rfl ?_ | refine qK ?_ | refine qE ?_ | refine qW ?_ | refine qM ?_); try simp -dsimp (maxSteps := 2000000) (disch := first | omega | (simp only [qZ] <;> omega) | fail) only [push_cast, ↓qP, ↓reduceIte, Nat.reduceEqDiff, Nat.reduceAdd, Nat.reduceMul, Nat.reduceSub, Nat.reduceLeDiff, Int.reduceToNat, reduceCtorEq, f0, h1.at_.rdc, hf]) | (refine qA ?_ ?_; (first | omega | (simp only [qL]; omega) | (simp only [qD] at *; omega))))
    refine Wp.draw [0, 1, 3, 7, 0, 16, 48, 112, 240, 511] [] (.op 0 false false [] <| .op 1 false false [] <| .op 2 false false [] <| .op 3 false false [] <| .op 4 false false [] <| .op 5 false false [] <| .op 6 false false [] <| .op 7 false false [] <| .op 8 false false [] <| .op 9 false false [] <| .nil) mixed (by kernel_rfl) ?_
    simp -dsimp (maxSteps := 2000000) (disch := first | omega | (simp only [qZ] <;> omega) | fail) only [push_cast, ↓qP, ↓reduceIte, Nat.reduceEqDiff, Nat.reduceAdd, Nat.reduceMul, Nat.reduceSub, Nat.reduceLeDiff, Int.reduceToNat, reduceCtorEq, h1.at_.rdc, f0, hge]
    refine Sm.out ?_
    repeat (first | ((fail_if_success (first | refine qY (n := 14) ?_ | refine qV (n := 14) ?_)); refine qS ?_) | refine qB ?_ | refine qT rfl ?_ | refine qF rfl ?_ | ((first | refine qR rfl ?_ | refine qK ?_ | refine qE ?_ | refine qW ?_ | refine qM ?_); try simp -dsimp (maxSteps := 2000000) (disch := first | omega | (simp only [qZ] <;> omega) | fail) only [push_cast, ↓qP, ↓reduceIte, Nat.reduceEqDiff, Nat.reduceAdd, Nat.reduceMul, Nat.reduceSub, Nat.reduceLeDiff, Int.reduceToNat, reduceCtorEq, f0, hge]) | (refine qA ?_ ?_; (first | omega | (simp only [qL]; omega) | (simp only [qD] at *; omega))))
    have h2 := h1.drew
    clear h1 hlta hltr hltg hrr hrz
    generalize w2.drew = w3 at *
    have hlta := h2.at_.lt
    have e93 : (((byteAt l s'.i).toNat : Int) == 93) = (byteAt l s'.i == 93) := u8_eq' _ 93
    rcases Bool.eq_false_or_eq_true (byteAt l s'.i == 93 && !first) with hcl | hcl
    · rw [if_pos hcl] at hit1
      simp only [Bool.and_eq_true, Bool.not_eq_true'] at hcl
      obtain ⟨hcl1, hcl2⟩ := hcl
      repeat (first | refine qS ?_ | refine qB ?_ | refine qT rfl ?_ | refine qF rfl ?_ | ((first | refine qR rfl ?_ | refine qK ?_ | refine qE ?_ | refine qW ?_ | refine qM ?_); try simp -dsimp (maxSteps := 2000000) (disch := first | omega | (simp only [qZ] <;> omega) | fail) only [push_cast, ↓qP, ↓reduceIte, Nat.reduceEqDiff, Nat.reduceAdd, Nat.reduceMul, Nat.reduceSub, Nat.reduceLeDiff, Int.reduceToNat, reduceCtorEq, f0]) | (refine qA ?_ ?_; (first | omega | (simp only [qL]; omega) | (simp only [qD] at *; omega))))
      refine CallV.of isCall_72 (peek3 h2.at_ hlt2) ?_
      rintro _ _ ⟨rfl, rfl⟩
      refine Sm.out ?_
      repeat (first | refine qS ?_ | refine qB ?_ | refine qT rfl ?_ | refine qF rfl ?_ | ((first | refine qR rfl ?_ | refine qK ?_ | refine qE ?_ | refine qW ?_ | refine qM ?_); try simp -dsimp (maxSteps := 2000000) (disch := first | omega | (simp only [qZ] <;> omega) | fail) only [push_cast, ↓qP, ↓reduceIte, Nat.reduceEqDiff, Nat.reduceAdd, Nat.reduceMul, Nat.reduceSub, Nat.reduceLeDiff, Int.reduceToNat, reduceCtorEq, f0, f2, f3, f4, f5, e93, hcl1, hcl2, h2.at_.rdc, h2.at_.fz]) | (refine qA ?_ ?_; (first | omega | (simp only [qL]; omega) | (simp only [qD] at *; omega))))
      exact Mid.mk ⟨by simp [upd, f2], by simp [upd, f3], by simp [upd, f4], set, s'.on, hit1, h2.drew.seta (h2.drew.at_.set 1 _)⟩
    rw [if_neg (by rw [hcl]; simp)] at hit1
    refine Wp.cut (fun F w4 => F 0 = .pointer (some ⟨a, 0, none⟩) ∧ F 2 = .pointer (some ⟨w.heap.size, 0, none⟩) ∧ F 3 = .slice (some ⟨w.heap.size + 1, 0, none⟩) 256 256 ∧ F 4 = .bool nt ∧ Br w a l s' set w4) ?_ ?_
    · repeat (first | refine qS ?_ | refine qB ?_ | refine qT rfl ?_ | refine qF rfl ?_ | ((first | refine qR rfl ?_ | refine qK ?_ | refine qE ?_ | refine qW ?_ | refine qM ?_); try simp -dsimp (maxSteps := 2000000) (disch := first | omega | (simp only [qZ] <;> omega) | fail) only [push_cast, ↓qP, ↓reduceIte, Nat.reduceEqDiff, Nat.reduceAdd, Nat.reduceMul, Nat.reduceSub, Nat.reduceLeDiff, Int.reduceToNat, reduceCtorEq, f0]) | (refine qA ?_ ?_; (first | omega | (simp only [qL]; omega) | (simp only [qD] at *; omega))))
      refine CallV.of isCall_72 (peek3 h2.at_ hlt2) ?_
      rintro _ _ ⟨rfl, rfl⟩
      rcases Bool.eq_false_or_eq_true (byteAt l s'.i == 93) with hcl1 | hcl1
      · have hcl2 : first = true := by rw [hcl1] at hcl; simpa using hcl
        refine Sm.out ?_
        repeat (first | refine qS ?_ | refine qB ?_ | refine qT rfl ?_ | refine qF rfl ?_ | ((first | refine qR rfl ?_ | refine qK ?_ | refine qE ?_ | refine qW ?_ | refine qM ?_); try simp -dsimp (maxSteps := 2000000) (disch := first | omega | (simp only [qZ] <;> omega) | fail) only [push_cast, ↓qP, ↓reduceIte, Nat.reduceEqDiff, Nat.reduceAdd, Nat.reduceMul, Nat.reduceSub, Nat.reduceLeDiff, Int.reduceToNat, reduceCtorEq, f0, f2, f3, f4, f5, e93, hcl1, hcl2]) | (refine qA ?_ ?_; (first | omega | (simp only [qL]; omega) | (simp only [qD] at *; omega))))
        exact Mid.mk ⟨by simp [upd, f0], by simp [upd, f2], by simp [upd, f3], by simp [upd, f4], h2.drew⟩
      · refine Sm.out ?_
        repeat (first | refine qS ?_ | refine qB ?_ | refine qT rfl ?_ | refine qF rfl ?_ | ((first | refine qR rfl ?_ | refine qK ?_ | refine qE ?_ | refine qW ?_ | refine qM ?_); try simp -dsimp (maxSteps := 2000000) (disch := first | omega | (simp only [qZ] <;> omega) | fail) only [push_cast, ↓qP, ↓reduceIte, Nat.reduceEqDiff, Nat.reduceAdd, Nat.reduceMul, Nat.reduceSub, Nat.reduceLeDiff, Int.reduceToNat, reduceCtorEq, f0, f2, f3, f4, f5, e93, hcl1]) | (refine qA ?_ ?_; (first | omega | (simp only [qL]; omega) | (simp only [qD] at *; omega))))
        exact Mid.mk ⟨by simp [upd, f0], by simp [upd, f2], by simp [upd, f3], by simp [upd, f4], h2.drew⟩
    clear f0 f2 f3 f4 f5 h2 hcl e93 hlta
    rintro F w4 ⟨f0, f2, f3, f4, h2⟩
    repeat (first | refine qS ?_ | refine qB ?_ | refine qT rfl ?_ | refine qF rfl ?_ | ((first | refine qR rfl ?_ | refine qK ?_ | refine qE ?_ | refine qW ?_ | refine qM ?_); try simp -dsimp (maxSteps := 2000000) (disch := first | omega | (simp only [qZ] <;> omega) | fail) only [push_cast, ↓qP, ↓reduceIte, Nat.reduceEqDiff, Nat.reduceAdd, Nat.reduceMul, Nat.reduceSub, Nat.reduceLeDiff, Int.reduceToNat, reduceCtorEq, f0, f3]) | (refine qA ?_ ?_; (first | omega | (simp only [qL]; omega) | (simp only [qD] at *; omega))))
    refine CallV.of isCall_101 (item3_any h2.at_ h2.g h2.len hl hlt2) ?_
    rintro _ w5 ⟨rfl, h3, hg3, k3⟩
    obtain ⟨q1, q2, q3, q4⟩ := item3_facts l s' set hlt2
    have q5 := item3_more l s' set hlt2 hf0
    have h4 := h2.item h3 hg3 q4 k3
    have q6 : (item3 l s' set).2.1.length = 256 := q4.trans h2.len
    clear h2 h3 hg3 k3
    generalize item3 l s' set = r1 at *
    obtain ⟨⟨lo, single⟩, set1, s1⟩ := r1
    simp only at hit1 h4 q1 q2 q3 q4 q5 q6
    have hlta := h4.at_.lt
    have hltr := h4.r.lt
    have hrr := h4.r.rdc
    have hrz := h4.r.fz
    have hhi := hi
    rcases Bool.eq_false_or_eq_true (s1.f != 0) with hf1 | hf1
    · rw [if_pos (by simpa using hf1)] at hit1
      refine Sm.out ?_
      repeat (first | refine qS ?_ | refine qB ?_ | refine qT rfl ?_ | refine qF rfl ?_ | ((first | refine qR rfl ?_ | refine qK ?_ | refine qE ?_ | refine qW ?_ | refine qM ?_); try simp -dsimp (maxSteps := 2000000) (disch := first | omega | (simp only [qZ] <;> omega) | fail) only [push_cast, ↓qP, ↓reduceIte, Nat.reduceEqDiff, Nat.reduceAdd, Nat.reduceMul, Nat.reduceSub, Nat.reduceLeDiff, Int.reduceToNat, reduceCtorEq, f0, f2, f3, h4.at_.rdc, hf1, hrr, hrz]) | (refine qA ?_ ?_; (first | omega | (simp only [qL]; omega) | (simp only [qD] at *; omega))))
      exact h4.out (t := Re.zero) (cs := zRe) (by rw [hbr.out, hit1]) (by simp [upd, f2]) rfl (fun w' => zRe_is _ _)
    rw [if_neg (by simpa using hf1)] at hit1
    have hs1 : s1.f = 0 := by simpa using hf1
    have q5' := q5 hs1
    clear q5
    have hix : ((s1.i : Int) + 1).toNat = s1.i + 1 := by omega
    have e45 : (((byteAt l s1.i).toNat : Int) == 45) = (byteAt l s1.i == 45) := u8_eq' _ 45
    have e93 : (((byteAt l (s1.i + 1)).toNat : Int) != 93) = !(byteAt l (s1.i + 1) == 93) := congrArg (! ·) (u8_eq' (byteAt l (s1.i + 1)) 93)
    refine Sm.out ?_
    repeat (first | ((fail_if_success (first | refine qY (n := 19) ?_ | refine qV (n := 19) ?_)); refine qS ?_) | refine qB ?_ | refine qT rfl ?_ | refine qF rfl ?_ | ((first | refine qR rfl ?_ | refine qK ?_ | refine qE ?_ | refine qW ?_ | refine qM ?_); try simp -dsimp (maxSteps := 2000000) (disch := first | omega | (simp only [qZ] <;> omega) | fail) only [push_cast, ↓qP, ↓reduceIte, Nat.reduceEqDiff, Nat.reduceAdd, Nat.reduceMul, Nat.reduceSub, Nat.reduceLeDiff, Int.reduceToNat, reduceCtorEq, f0, f2, f3, h4.at_.rdc, hf1]) | (refine qA ?_ ?_; (first | omega | (simp only [qL]; omega) | (simp only [qD] at *; omega))))
    refine Wp.cutQ (fun F w4 => F 0 = .pointer (some ⟨a, 0, none⟩) ∧ F 2 = .pointer (some ⟨w.heap.size, 0, none⟩) ∧ F 3 = .slice (some ⟨w.heap.size + 1, 0, none⟩) 256 256 ∧ F 4 = .bool nt ∧ F 6 = .int .u8 (lo.toNat : Int) ∧ F 7 = .bool single ∧ Br w a l s1 set1 w4 ∧
      R = items3 l k false (if single = true then set1.set lo.toNat true else set1) s1) ?_ ?_
    · rcases Bool.eq_false_or_eq_true (decide ((s1.i : Int) + 1 < (l.length : Int)) && byteAt l s1.i == 45 && !(byteAt l (s1.i + 1) == 93)) with hr | hr
      · rw [if_pos hr] at hit1
        simp only [Bool.and_eq_true] at hr
        obtain ⟨⟨c1, c2⟩, c3⟩ := hr
        have c1' : s1.i + 1 < l.length := by simp at c1; omega
        refine Wp.seq (Wp.draw [0, 1, 3, 7, 15, 0, 32, 96, 224, 480, 1023, 2047, 4095, 8191, 16383, 32767, 4095, 69631, 200703, 462847, 1048575, 2097151, 4194303, 8388607, 16777215, 33554431, 67108863, 134217727, 16777215, 285212671, 822083583, 1895825407, 4043309055, 8589934591, 17179869183, 34359738367] [] (.op 0 false false [] <| .op 1 false false [] <| .op 2 false false [] <| .op 3 false false [] <| .op 4 false false [] <| .op 5 false false [] <| .op 6 false false [] <| .op 7 false false [] <| .op 8 false false [] <| .op 9 false false [] <| .op 10 false false [] <| .op 11 false false [] <| .op 12 false false [] <| .op 13 false false [] <| .op 14 false false [] <| .op 15 false false [] <| .op 16 false false [] <| .op 17 false false [] <| .op 18 false false [] <| .op 19 false false [] <| .op 20 false false [] <| .op 21 false false [] <| .op 22 false false [] <| .op 23 false false [] <| .op 24 false false [] <| .op 25 false false [] <| .op 26 false false [] <| .op 27 false false [] <| .op 28 false false [] <| .op 29 false false [] <| .op 30 false false [] <| .op 31 false false [] <| .op 32 false false [] <| .op 33 false false [] <| .op 34 false false [] <| .op 35 false false [] <| .nil) mixed (by kernel_rfl) ?_)
        simp -dsimp (maxSteps := 2000000) (disch := first | omega | (simp only [qZ] <;> omega) | fail) only [push_cast, ↓qP, ↓reduceIte, Nat.reduceEqDiff, Nat.reduceAdd, Nat.reduceMul, Nat.reduceSub, Nat.reduceLeDiff, Int.reduceToNat, reduceCtorEq, h4.at_.rdc, f0, c1, e45, e93, c2, c3, hix]
        refine ⟨by omega, ?_⟩
        refine Sm.out ?_
        repeat (first | refine qS ?_ | refine qB ?_ | refine qT rfl ?_ | refine qF rfl ?_ | ((first | refine qR rfl ?_ | refine qK ?_ | refine qE ?_ | refine qW ?_ | refine qM ?_); try simp -dsimp (maxSteps := 2000000) (disch := first | omega | (simp only [qZ] <;> omega) | fail) only [push_cast, ↓qP, ↓reduceIte, Nat.reduceEqDiff, Nat.reduceAdd, Nat.reduceMul, Nat.reduceSub, Nat.reduceLeDiff, Int.reduceToNat, reduceCtorEq, f0, f2, f3, h4.at_.rdc, c1, c2, c3, e93, e45, hix]) | (refine qA ?_ ?_; (first | omega | (simp only [qL]; omega) | (simp only [qD] at *; omega))))
        have h5 := h4.drew
        cases single with
        | false =>
          rw [if_pos (show (!false) = true from rfl)] at hit1
          refine Sm.out ?_
          repeat (first | refine qS ?_ | refine qB ?_ | refine qT rfl ?_ | refine qF rfl ?_ | ((first | refine qR rfl ?_ | refine qK ?_ | refine qE ?_ | refine qW ?_ | refine qM ?_); try simp -dsimp (maxSteps := 2000000) (disch := first | omega | (simp only [qZ] <;> omega) | fail) only [push_cast, ↓qP, ↓reduceIte, Nat.reduceEqDiff, Nat.reduceAdd, Nat.reduceMul, Nat.reduceSub, Nat.reduceLeDiff, Int.reduceToNat, reduceCtorEq, f0, f2, f3]) | (refine qA ?_ ?_; (first | omega | (simp only [qL]; omega) | (simp only [qD] at *; omega))))
          refine CallV.of isCall_50 (fail3 h5.at_ 2) ?_
          rintro _ w6 ⟨rfl, h6, k6⟩
          have h7 := h5.keep h6 k6
          have hltr := h7.r.lt
          have hrr := h7.r.rdc
          have hrz := h7.r.fz
          refine Sm.out ?_
          repeat (first | refine qS ?_ | refine qB ?_ | refine qT rfl ?_ | refine qF rfl ?_ | ((first | refine qR rfl ?_ | refine qK ?_ | refine qE ?_ | refine qW ?_ | refine qM ?_); try simp -dsimp (maxSteps := 2000000) (disch := first | omega | (simp only [qZ] <;> omega) | fail) only [push_cast, ↓qP, ↓reduceIte, Nat.reduceEqDiff, Nat.reduceAdd, Nat.reduceMul, Nat.reduceSub, Nat.reduceLeDiff, Int.reduceToNat, reduceCtorEq, f0, f2, hrr, hrz]) | (refine qA ?_ ?_; (first | omega | (simp only [qL]; omega) | (simp only [qD] at *; omega))))
          exact h7.out (t := Re.zero) (cs := zRe) (by rw [hbr.out, hit1]) (by simp [upd, f2]) rfl (fun w' => zRe_is _ _)
        | true =>
          rw [if_neg (by simp)] at hit1
          refine Sm.out ?_
          repeat (first | ((fail_if_success (first | refine qY (n := 24) ?_ | refine qV (n := 24) ?_)); refine qS ?_) | refine qB ?_ | refine qT rfl ?_ | refine qF rfl ?_ | ((first | refine qR rfl ?_ | refine qK ?_ | refine qE ?_ | refine qW ?_ | refine qM ?_); try simp -dsimp (maxSteps := 2000000) (disch := first | omega | (simp only [qZ] <;> omega) | fail) only [push_cast, ↓qP, ↓reduceIte, Nat.reduceEqDiff, Nat.reduceAdd, Nat.reduceMul, Nat.reduceSub, Nat.reduceLeDiff, Int.reduceToNat, reduceCtorEq, f0, f2, f3, h4.at_.rdc, h4.at_.fz]) | (refine qA ?_ ?_; (first | omega | (simp only [qL]; omega) | (simp only [qD] at *; omega))))
          have h5 : Br w a l s1.on set1 (w5.drew.setCell ⟨a, 1, none⟩ (.int .i64 ((s1.i : Int) + 1))) := h5.seta (h5.at_.set 1 _)
          have e5 : (w5.drew.setCell ⟨a, 1, none⟩ (.int .i64 ((s1.i : Int) + 1))).heap.size = w5.heap.size := by simp
          clear hltr hrr hrz h4
          generalize (w5.drew.setCell ⟨a, 1, none⟩ (.int .i64 ((s1.i : Int) + 1))) = w6 at *
          rw [← e5] at hlta
          repeat (first | refine qS ?_ | refine qB ?_ | refine qT rfl ?_ | refine qF rfl ?_ | ((first | refine qR rfl ?_ | refine qK ?_ | refine qE ?_ | refine qW ?_ | refine qM ?_); try simp -dsimp (maxSteps := 2000000) (disch := first | omega | (simp only [qZ] <;> omega) | fail) only [push_cast, ↓qP, ↓reduceIte, Nat.reduceEqDiff, Nat.reduceAdd, Nat.reduceMul, Nat.reduceSub, Nat.reduceLeDiff, Int.reduceToNat, reduceCtorEq, f0, f2, f3]) | (refine qA ?_ ?_; (first | omega | (simp only [qL]; omega) | (simp only [qD] at *; omega))))
          have hson : s1.on.i = s1.i + 1 := rfl
          have hnew : Blk (w6.alloc (.cells (zeros [.bool false] 256).toArray 4)) w6.heap.size 4 (bools noSet) := by
            have := Blk.new w6 4 (zeros [.bool false] 256)
            simpa [zeros_one, bools, noSet] using this
          refine CallV.of isCall_101 (item3_any (h5.at_.alloc _) hnew rfl hl (by rw [hson]; exact c1')) ?_
          rintro _ w7 ⟨rfl, h6, _, k6⟩
          obtain ⟨q7, q8, q9, q10⟩ := item3_facts l s1.on noSet (by rw [hson]; exact c1')
          have h7 := h5.item2 rfl h6 k6
          clear h5 h6 k6 hnew e5
          rw [hson] at q7
          generalize item3 l s1.on noSet = r2 at *
          obtain ⟨⟨hi2, one⟩, set2, s3⟩ := r2
          simp only at hit1 h7 q7 q8 q9 q10
          have hltr := h7.r.lt
          have hrr := h7.r.rdc
          have hrz := h7.r.fz
          have hlta := h7.at_.lt
          refine Sm.out ?_
          repeat (first | ((fail_if_success (first | refine qY (n := 25) ?_ | refine qV (n := 25) ?_)); refine qS ?_) | refine qB ?_ | refine qT rfl ?_ | refine qF rfl ?_ | ((first | refine qR rfl ?_ | refine qK ?_ | refine qE ?_ | refine qW ?_ | refine qM ?_); try simp -dsimp (maxSteps := 2000000) (disch := first | omega | (simp only [qZ] <;> omega) | fail) only [push_cast, ↓qP, ↓reduceIte, Nat.reduceEqDiff, Nat.reduceAdd, Nat.reduceMul, Nat.reduceSub, Nat.reduceLeDiff, Int.reduceToNat, reduceCtorEq, f0, f2, f3]) | (refine qA ?_ ?_; (first | omega | (simp only [qL]; omega) | (simp only [qD] at *; omega))))
          rcases Bool.eq_false_or_eq_true (s3.f != 0) with hf2 | hf2
          · rw [if_pos (by simpa using hf2)] at hit1
            repeat (first | refine qS ?_ | refine qB ?_ | refine qT rfl ?_ | refine qF rfl ?_ | ((first | refine qR rfl ?_ | refine qK ?_ | refine qE ?_ | refine qW ?_ | refine qM ?_); try simp -dsimp (maxSteps := 2000000) (disch := first | omega | (simp only [qZ] <;> omega) | fail) only [push_cast, ↓qP, ↓reduceIte, Nat.reduceEqDiff, Nat.reduceAdd, Nat.reduceMul, Nat.reduceSub, Nat.reduceLeDiff, Int.reduceToNat, reduceCtorEq, f0, f2, f3, h7.at_.rdc, hf2, hrr, hrz]) | (refine qA ?_ ?_; (first | omega | (simp only [qL]; omega) | (simp only [qD] at *; omega))))
            exact h7.out (t := Re.zero) (cs := zRe) (by rw [hbr.out, hit1]) (by simp [upd, f2]) rfl (fun w' => zRe_is _ _)
          rw [if_neg (by simpa using hf2)] at hit1
          refine Sm.out ?_
          repeat (first | ((fail_if_success (first | refine qY (n := 27) ?_ | refine qV (n := 27) ?_)); refine qS ?_) | refine qB ?_ | refine qT rfl ?_ | refine qF rfl ?_ | ((first | refine qR rfl ?_ | refine qK ?_ | refine qE ?_ | refine qW ?_ | refine qM ?_); try simp -dsimp (maxSteps := 2000000) (disch := first | omega | (simp only [qZ] <;> omega) | fail) only [push_cast, ↓qP, ↓reduceIte, Nat.reduceEqDiff, Nat.reduceAdd, Nat.reduceMul, Nat.reduceSub, Nat.reduceLeDiff, Int.reduceToNat, reduceCtorEq, f0, f2, f3, h7.at_.rdc, hf2, by8]) | (refine qA ?_ ?_; (first | omega | (simp only [qL]; omega) | (simp only [qD] at *; omega))))
          have egt : decide ((lo.toNat : Int) > (hi2.toNat : Int)) = decide ((lo.toNat : Int) > (hi2.toNat : Int)) := rfl
          rcases Bool.eq_false_or_eq_true (!one || decide ((lo.toNat : Int) > (hi2.toNat : Int))) with hbad | hbad
          · rw [if_pos hbad] at hit1
            have hbad' : one = false ∨ (one = true ∧ decide ((lo.toNat : Int) > (hi2.toNat : Int)) = true) := by
              cases one <;> simp at hbad ⊢ <;> exact hbad
            clear hbad
            rcases hbad' with rfl | ⟨rfl, hbad⟩
            · repeat (first | refine qS ?_ | refine qB ?_ | refine qT rfl ?_ | refine qF rfl ?_ | ((first | refine qR rfl ?_ | refine qK ?_ | refine qE ?_ | refine qW ?_ | refine qM ?_); try simp -dsimp (maxSteps := 2000000) (disch := first | omega | (simp only [qZ] <;> omega) | fail) only [push_cast, ↓qP, ↓reduceIte, Nat.reduceEqDiff, Nat.reduceAdd, Nat.reduceMul, Nat.reduceSub, Nat.reduceLeDiff, Int.reduceToNat, reduceCtorEq, f0, f2, f3, by8]) | (refine qA ?_ ?_; (first | omega | (simp only [qL]; omega) | (simp only [qD] at *; omega))))
              refine CallV.of isCall_50 (fail3 h7.at_ 2) ?_
              rintro _ w8 ⟨rfl, h8, k8⟩
              have h9 := h7.keep h8 k8
              have hltr := h9.r.lt
              have hrr := h9.r.rdc
              have hrz := h9.r.fz
              refine Sm.out ?_
              repeat (first | refine qS ?_ | refine qB ?_ | refine qT rfl ?_ | refine qF rfl ?_ | ((first | refine qR rfl ?_ | refine qK ?_ | refine qE ?_ | refine qW ?_ | refine qM ?_); try simp -dsimp (maxSteps := 2000000) (disch := first | omega | (simp only [qZ] <;> omega) | fail) only [push_cast, ↓qP, ↓reduceIte, Nat.reduceEqDiff, Nat.reduceAdd, Nat.reduceMul, Nat.reduceSub, Nat.reduceLeDiff, Int.reduceToNat, reduceCtorEq, f0, f2, hrr, hrz]) | (refine qA ?_ ?_; (first | omega | (simp only [qL]; omega) | (simp only [qD] at *; omega))))
              exact h9.out (t := Re.zero) (cs := zRe) (by rw [hbr.out, hit1]) (by simp [upd, f2]) rfl (fun w' => zRe_is _ _)
            · repeat (first | refine qS ?_ | refine qB ?_ | refine qT rfl ?_ | refine qF rfl ?_ | ((first | refine qR rfl ?_ | refine qK ?_ | refine qE ?_ | refine qW ?_ | refine qM ?_); try simp -dsimp (maxSteps := 2000000) (disch := first | omega | (simp only [qZ] <;> omega) | fail) only [push_cast, ↓qP, ↓reduceIte, Nat.reduceEqDiff, Nat.reduceAdd, Nat.reduceMul, Nat.reduceSub, Nat.reduceLeDiff, Int.reduceToNat, reduceCtorEq, f0, f2, f3, hbad, by8]) | (refine qA ?_ ?_; (first | omega | (simp only [qL]; omega) | (simp only [qD] at *; omega))))
              refine CallV.of isCall_50 (fail3 h7.at_ 2) ?_
              rintro _ w8 ⟨rfl, h8, k8⟩
              have h9 := h7.keep h8 k8
              have hltr := h9.r.lt
              have hrr := h9.r.rdc
              have hrz := h9.r.fz
              refine Sm.out ?_
              repeat (first | refine qS ?_ | refine qB ?_ | refine qT rfl ?_ | refine qF rfl ?_ | ((first | refine qR rfl ?_ | refine qK ?_ | refine qE ?_ | refine qW ?_ | refine qM ?_); try simp -dsimp (maxSteps := 2000000) (disch := first | omega | (simp only [qZ] <;> omega) | fail) only [push_cast, ↓qP, ↓reduceIte, Nat.reduceEqDiff, Nat.reduceAdd, Nat.reduceMul, Nat.reduceSub, Nat.reduceLeDiff, Int.reduceToNat, reduceCtorEq, f0, f2, hrr, hrz]) | (refine qA ?_ ?_; (first | omega | (simp only [qL]; omega) | (simp only [qD] at *; omega))))
              exact h9.out (t := Re.zero) (cs := zRe) (by rw [hbr.out, hit1]) (by simp [upd, f2]) rfl (fun w' => zRe_is _ _)
          · rw [if_neg (by rw [hbad]; simp)] at hit1
            simp only [Bool.or_eq_false_iff, Bool.not_eq_false'] at hbad
            obtain ⟨rfl, hle⟩ := hbad
            have hle' : lo.toNat ≤ hi2.toNat := by simp at hle; omega
            have hlo := lo.toNat_lt
            have hhi2 := hi2.toNat_lt
            repeat (first | refine qS ?_ | refine qB ?_ | refine qT rfl ?_ | refine qF rfl ?_ | ((first | refine qR rfl ?_ | refine qK ?_ | refine qE ?_ | refine qW ?_ | refine qM ?_); try simp -dsimp (maxSteps := 2000000) (disch := first | omega | (simp only [qZ] <;> omega) | fail) only [push_cast, ↓qP, ↓reduceIte, Nat.reduceEqDiff, Nat.reduceAdd, Nat.reduceMul, Nat.reduceSub, Nat.reduceLeDiff, Int.reduceToNat, reduceCtorEq, f0, f2, f3, hle, by8]) | (refine qA ?_ ?_; (first | omega | (simp only [qL]; omega) | (simp only [qD] at *; omega))))
            refine Wp.loop (α := Nat) (fun k F w8 => F 0 = .pointer (some ⟨a, 0, none⟩) ∧ F 2 = .pointer (some ⟨w.heap.size, 0, none⟩) ∧ F 3 = .slice (some ⟨w.heap.size + 1, 0, none⟩) 256 256 ∧ F 4 = .bool nt ∧ F 8 = .int .u8 (hi2.toNat : Int) ∧ F 10 = .int .i64 k ∧ lo.toNat ≤ k ∧ k ≤ hi2.toNat + 1 ∧ Br w a l s3 (putK set1 lo.toNat k) w8) (fun k => hi2.toNat + 1 - k) lo.toNat
              ⟨by simp [upd, f0], by simp [upd, f2], by simp [upd, f3], by simp [upd, f4], by simp [upd], by simp [upd], by omega, by omega, by rw [putK_zero]; exact h7⟩ ?_
            clear f0 f2 f3 f4 h7 hltr hrr hrz hlta
            rintro k' F w8 ⟨f0, f2, f3, f4, f8, f10, hk1, hk2, h8⟩
            have hltg := h8.g.lt
            have hkl : k' < (putK set1 lo.toNat k').length ∨ 256 ≤ k' := by rw [putK_len, q6]; omega
            rcases Nat.lt_or_ge hi2.toNat k' with hend | hend
            · obtain rfl : k' = hi2.toNat + 1 := by omega
              have c1 : decide ((hi2.toNat : Int) + 1 ≤ (hi2.toNat : Int)) = false := decide_eq_false (by omega)
              rw [putK_all] at h8
              repeat (first | refine qS ?_ | refine qB ?_ | refine qT rfl ?_ | refine qF rfl ?_ | ((first | refine qR rfl ?_ | refine qK ?_ | refine qE ?_ | refine qW ?_ | refine qM ?_); try simp -dsimp (maxSteps := 2000000) (disch := first | omega | (simp only [qZ] <;> omega) | fail) only [push_cast, ↓qP, ↓reduceIte, Nat.reduceEqDiff, Nat.reduceAdd, Nat.reduceMul, Nat.reduceSub, Nat.reduceLeDiff, Int.reduceToNat, reduceCtorEq, f0, f2, f3, f4, f8, f10, c1]) | (refine qA ?_ ?_; (first | omega | (simp only [qL]; omega) | (simp only [qD] at *; omega))))
              refine Again.mk k ⟨by simp [upd, f0], by simp [upd, f2], by simp [upd, f3], by simp [upd, f4], false, _, s3, by simp [upd], h8, by omega, by omega, ⟨hit1.symm⟩⟩ (by omega)
            · have c1 : decide ((k' : Int) ≤ (hi2.toNat : Int)) = true := decide_eq_true (by omega)
              have hcell : rdc w8 (w.heap.size + 1) k' = some (.bool ((putK set1 lo.toNat k').getD k' false)) := by
                rw [h8.g.rdc]; exact bools_get _ _ (by rw [putK_len, q6]; omega)
              repeat (first | refine qS ?_ | refine qB ?_ | refine qT rfl ?_ | refine qF rfl ?_ | ((first | refine qR rfl ?_ | refine qK ?_ | refine qE ?_ | refine qW ?_ | refine qM ?_); try simp -dsimp (maxSteps := 2000000) (disch := first | omega | (simp only [qZ] <;> omega) | fail) only [push_cast, ↓qP, ↓reduceIte, Nat.reduceEqDiff, Nat.reduceAdd, Nat.reduceMul, Nat.reduceSub, Nat.reduceLeDiff, Int.reduceToNat, reduceCtorEq, f0, f2, f3, f4, f8, f10, c1, hcell, h8.g.fz]) | (refine qA ?_ ?_; (first | omega | (simp only [qL]; omega) | (simp only [qD] at *; omega))))
              refine Again.mk (k' + 1) ⟨by simp [upd, f0], by simp [upd, f2], by simp [upd, f3], by simp [upd, f4], by simp [upd, f8], by simp [upd], by omega, by omega, ?_⟩ (by omega)
              rw [putK_succ _ _ _ (by rw [q6]; omega) hk1]
              exact h8.setg k' true
      · rw [if_neg (by rw [hr]; simp)] at hit1
        rcases Bool.eq_false_or_eq_true (decide ((s1.i : Int) + 1 < (l.length : Int))) with c1 | c1
        · rcases Bool.eq_false_or_eq_true (byteAt l s1.i == 45) with c2 | c2
          · have c3 : (byteAt l (s1.i + 1) == 93) = true := by rw [c1, c2] at hr; simpa using hr
            refine Wp.seq (Wp.draw [0, 1, 3, 7, 15, 0, 32, 96, 224, 480, 1023, 2047, 4095, 8191, 16383, 32767, 4095, 69631, 200703, 462847, 1048575, 2097151, 4194303, 8388607, 16777215, 33554431, 67108863, 134217727, 16777215, 285212671, 822083583, 1895825407, 4043309055, 8589934591, 17179869183, 34359738367] [] (.op 0 false false [] <| .op 1 false false [] <| .op 2 false false [] <| .op 3 false false [] <| .op 4 false false [] <| .op 5 false false [] <| .op 6 false false [] <| .op 7 false false [] <| .op 8 false false [] <| .op 9 false false [] <| .op 10 false false [] <| .op 11 false false [] <| .op 12 false false [] <| .op 13 false false [] <| .op 14 false false [] <| .op 15 false false [] <| .op 16 false false [] <| .op 17 false false [] <| .op 18 false false [] <| .op 19 false false [] <| .op 20 false false [] <| .op 21 false false [] <| .op 22 false false [] <| .op 23 false false [] <| .op 24 false false [] <| .op 25 false false [] <| .op 26 false false [] <| .op 27 false false [] <| .op 28 false false [] <| .op 29 false false [] <| .op 30 false false [] <| .op 31 false false [] <| .op 32 false false [] <| .op 33 false false [] <| .op 34 false false [] <| .op 35 false false [] <| .nil) mixed (by kernel_rfl) ?_)
            simp -dsimp (maxSteps := 2000000) (disch := first | omega | (simp only [qZ] <;> omega) | fail) only [push_cast, ↓qP, ↓reduceIte, Nat.reduceEqDiff, Nat.reduceAdd, Nat.reduceMul, Nat.reduceSub, Nat.reduceLeDiff, Int.reduceToNat, reduceCtorEq, h4.at_.rdc, f0, c1, e45, e93, c2, c3, hix]
            refine ⟨by simp at c1; omega, ?_⟩
            refine Sm.out ?_
            repeat (first | refine qS ?_ | refine qB ?_ | refine qT rfl ?_ | refine qF rfl ?_ | ((first | refine qR rfl ?_ | refine qK ?_ | refine qE ?_ | refine qW ?_ | refine qM ?_); try simp -dsimp (maxSteps := 2000000) (disch := first | omega | (simp only [qZ] <;> omega) | fail) only [push_cast, ↓qP, ↓reduceIte, Nat.reduceEqDiff, Nat.reduceAdd, Nat.reduceMul, Nat.reduceSub, Nat.reduceLeDiff, Int.reduceToNat, reduceCtorEq, f0, f2, f3, h4.at_.rdc, c1, c2, c3, e93, e45, hix]) | (refine qA ?_ ?_; (first | omega | (simp only [qL]; omega) | (simp only [qD] at *; omega))))
            exact Mid.mk ⟨by simp [upd, f0], by simp [upd, f2], by simp [upd, f3], by simp [upd, f4], by simp [upd, by8], by simp [upd], h4.drew, hit1⟩
          · refine Wp.seq (Wp.draw [0, 1, 3, 7, 15, 0, 32, 96, 224, 480, 1023, 2047, 4095, 8191, 16383, 32767, 4095, 69631, 200703, 462847, 1048575, 2097151, 4194303, 8388607, 16777215, 33554431, 67108863, 134217727, 16777215, 285212671, 822083583, 1895825407, 4043309055, 8589934591, 17179869183, 34359738367] [] (.op 0 false false [] <| .op 1 false false [] <| .op 2 false false [] <| .op 3 false false [] <| .op 4 false false [] <| .op 5 false false [] <| .op 6 false false [] <| .op 7 false false [] <| .op 8 false false [] <| .op 9 false false [] <| .op 10 false false [] <| .op 11 false false [] <| .op 12 false false [] <| .op 13 false false [] <| .op 14 false false [] <| .op 15 false false [] <| .op 16 false false [] <| .op 17 false false [] <| .op 18 false false [] <| .op 19 false false [] <| .op 20 false false [] <| .op 21 false false [] <| .op 22 false false [] <| .op 23 false false [] <| .op 24 false false [] <| .op 25 false false [] <| .op 26 false false [] <| .op 27 false false [] <| .op 28 false false [] <| .op 29 false false [] <| .op 30 false false [] <| .op 31 false false [] <| .op 32 false false [] <| .op 33 false false [] <| .op 34 false false [] <| .op 35 false false [] <| .nil) mixed (by kernel_rfl) ?_)
            simp -dsimp (maxSteps := 2000000) (disch := first | omega | (simp only [qZ] <;> omega) | fail) only [push_cast, ↓qP, ↓reduceIte, Nat.reduceEqDiff, Nat.reduceAdd, Nat.reduceMul, Nat.reduceSub, Nat.reduceLeDiff, Int.reduceToNat, reduceCtorEq, h4.at_.rdc, f0, c1, e45, e93, c2, hix]
            refine ⟨by simp at c1; omega, ?_⟩
            refine Sm.out ?_
            repeat (first | refine qS ?_ | refine qB ?_ | refine qT rfl ?_ | refine qF rfl ?_ | ((first | refine qR rfl ?_ | refine qK ?_ | refine qE ?_ | refine qW ?_ | refine qM ?_); try simp -dsimp (maxSteps := 2000000) (disch := first | omega | (simp only [qZ] <;> omega) | fail) only [push_cast, ↓qP, ↓reduceIte, Nat.reduceEqDiff, Nat.reduceAdd, Nat.reduceMul, Nat.reduceSub, Nat.reduceLeDiff, Int.reduceToNat, reduceCtorEq, f0, f2, f3, h4.at_.rdc, c1, c2, e93, e45, hix]) | (refine qA ?_ ?_; (first | omega | (simp only [qL]; omega) | (simp only [qD] at *; omega))))
            exact Mid.mk ⟨by simp [upd, f0], by simp [upd, f2], by simp [upd, f3], by simp [upd, f4], by simp [upd, by8], by simp [upd], h4.drew, hit1⟩
        · refine Wp.seq (Wp.draw [0, 1, 3, 7, 15, 0, 32, 96, 224, 480, 1023, 2047, 4095, 8191, 16383, 32767, 4095, 69631, 200703, 462847, 1048575, 2097151, 4194303, 8388607, 16777215, 33554431, 67108863, 134217727, 16777215, 285212671, 822083583, 1895825407, 4043309055, 8589934591, 17179869183, 34359738367] [] (.op 0 false false [] <| .op 1 false false [] <| .op 2 false false [] <| .op 3 false false [] <| .op 4 false false [] <| .op 5 false false [] <| .op 6 false false [] <| .op 7 false false [] <| .op 8 false false [] <| .op 9 false false [] <| .op 10 false false [] <| .op 11 false false [] <| .op 12 false false [] <| .op 13 false false [] <| .op 14 false false [] <| .op 15 false false [] <| .op 16 false false [] <| .op 17 false false [] <| .op 18 false false [] <| .op 19 false false [] <| .op 20 false false [] <| .op 21 false false [] <| .op 22 false false [] <| .op 23 false false [] <| .op 24 false false [] <| .op 25 false false [] <| .op 26 false false [] <| .op 27 false false [] <| .op 28 false false [] <| .op 29 false false [] <| .op 30 false false [] <| .op 31 false false [] <| .op 32 false false [] <| .op 33 false false [] <| .op 34 false false [] <| .op 35 false false [] <| .nil) mixed (by kernel_rfl) ?_)
          simp -dsimp (maxSteps := 2000000) (disch := first | omega | (simp only [qZ] <;> omega) | fail) only [push_cast, ↓qP, ↓reduceIte, Nat.reduceEqDiff, Nat.reduceAdd, Nat.reduceMul, Nat.reduceSub, Nat.reduceLeDiff, Int.reduceToNat, reduceCtorEq, h4.at_.rdc, f0, c1]
          refine Sm.out ?_
          repeat (first | refine qS ?_ | refine qB ?_ | refine qT rfl ?_ | refine qF rfl ?_ | ((first | refine qR rfl ?_ | refine qK ?_ | refine qE ?_ | refine qW ?_ | refine qM ?_); try simp -dsimp (maxSteps := 2000000) (disch := first | omega | (simp only [qZ] <;> omega) | fail) only [push_cast, ↓qP, ↓reduceIte, Nat.reduceEqDiff, Nat.reduceAdd, Nat.reduceMul, Nat.reduceSub, Nat.reduceLeDiff, Int.reduceToNat, reduceCtorEq, f0, f2, f3, h4.at_.rdc, c1]) | (refine qA ?_ ?_; (first | omega | (simp only [qL]; omega) | (simp only [qD] at *; omega))))
          exact Mid.mk ⟨by simp [upd, f0], by simp [upd, f2], by simp [upd, f3], by simp [upd, f4], by simp [upd, by8], by simp [upd], h4.drew, hit1⟩
    clear f0 f2 f3 f4
    intro F w4 hM
    obtain ⟨f0, f2, f3, f4, f6, f7, h5, hit2⟩ := hM.out
    have hlo := lo.toNat_lt
    have hltg := h5.g.lt
    have hcell : rdc w4 (w.heap.size + 1) lo.toNat = some (.bool (set1.getD lo.toNat false)) := by
      rw [h5.g.rdc]; exact bools_get _ _ (by rw [q6]; omega)
    cases single with
    | true =>
      repeat (first | refine qS ?_ | refine qB ?_ | refine qT rfl ?_ | refine qF rfl ?_ | ((first | refine qR rfl ?_ | refine qK ?_ | refine qE ?_ | refine qW ?_ | refine qM ?_); try simp -dsimp (maxSteps := 2000000) (disch := first | omega | (simp only [qZ] <;> omega) | fail) only [push_cast, ↓qP, ↓reduceIte, Nat.reduceEqDiff, Nat.reduceAdd, Nat.reduceMul, Nat.reduceSub, Nat.reduceLeDiff, Int.reduceToNat, reduceCtorEq, f0, f2, f3, f4, f6, f7, hcell, h5.g.fz]) | (refine qA ?_ ?_; (first | omega | (simp only [qL]; omega) | (simp only [qD] at *; omega))))
      exact Again.mk k ⟨by simp [upd, f0], by simp [upd, f2], by simp [upd, f3], by simp [upd, f4], false, _, s1, by simp [upd], h5.setg lo.toNat true, by omega, by omega, ⟨hit2.symm⟩⟩ (by omega)
    | false =>
      repeat (first | refine qS ?_ | refine qB ?_ | refine qT rfl ?_ | refine qF rfl ?_ | ((first | refine qR rfl ?_ | refine qK ?_ | refine qE ?_ | refine qW ?_ | refine qM ?_); try simp -dsimp (maxSteps := 2000000) (disch := first | omega | (simp only [qZ] <;> omega) | fail) only [push_cast, ↓qP, ↓reduceIte, Nat.reduceEqDiff, Nat.reduceAdd, Nat.reduceMul, Nat.reduceSub, Nat.reduceLeDiff, Int.reduceToNat, reduceCtorEq, f0, f2, f3, f4, f6, f7]) | (refine qA ?_ ?_; (first | omega | (simp only [qL]; omega) | (simp only [qD] at *; omega))))
      exact Again.mk k ⟨by simp [upd, f0], by simp [upd, f2], by simp [upd, f3], by simp [upd, f4], false, _, s1, by simp [upd], h5, by omega, by omega, ⟨hit2.symm⟩⟩ (by omega)
  clear f0 f2 f3 f4 h1
  intro F w1 hM
  obtain ⟨f2, f3, f4, set, s3, rfl, h1⟩ := hM.out
  repeat (first | refine qS ?_ | refine qB ?_ | refine qT rfl ?_ | refine qF rfl ?_ | ((first | refine qR rfl ?_ | refine qK ?_ | refine qE ?_ | refine qW ?_ | refine qM ?_); try simp -dsimp (maxSteps := 2000000) (disch := first | omega | (simp only [qZ] <;> omega) | fail) only [push_cast, ↓qP, ↓reduceIte, Nat.reduceEqDiff, Nat.reduceAdd, Nat.reduceMul, Nat.reduceSub, Nat.reduceLeDiff, Int.reduceToNat, reduceCtorEq, f2, f3, f4]) | (refine qA ?_ ?_; (first | omega | (simp only [qL]; omega) | (simp only [qD] at *; omega))))
  refine Wp.loop (α := Nat) (fun k F w2 => ∃ A n cap, F 2 = .pointer (some ⟨w.heap.size, 0, none⟩) ∧ F 3 = .slice (some ⟨w.heap.size + 1, 0, none⟩) 256 256 ∧ F 4 = .bool nt ∧ F 11 = .slice A n cap ∧ F 12 = .int .i64 k ∧ k ≤ 256 ∧
      Own w2 5 1 A n cap (by8s (bytesK set nt k)) ∧ n = (bytesK set nt k).length ∧ (∀ g, bk A = some g → w.heap.size + 1 < g) ∧ Br w a l s3 set w2) (fun k => 256 - k) 0
    ⟨none, 0, 0, by simp [upd, f2], by simp [upd, f3], by simp [upd, f4], by simp [upd], by simp [upd], by omega, Own.nil _ _ _, rfl, by simp [bk], h1⟩ ?_
  clear f2 f3 f4 h1
  rintro k F w2 ⟨A, n, cap, f2, f3, f4, f11, f12, hk, hown, hn, hnew, h1⟩
  have hltg := h1.g.lt
  by_cases hlt256 : k < 256
  · have c1 : decide ((k : Int) < 256) = true := decide_eq_true (by omega)
    have hcell : rdc w2 (w.heap.size + 1) k = some (.bool (set.getD k false)) := by
      rw [h1.g.rdc]; exact bools_get _ _ (by rw [h1.len]; omega)
    have hsucc := bytesK_succ set nt k
    have hnl := bytesK_len set nt k
    rcases Bool.eq_false_or_eq_true (!(set.getD k false == nt)) with hc | hc
    · rw [if_pos (show (set.getD k false != nt) = true from hc)] at hsucc
      repeat (first | refine qS ?_ | refine qB ?_ | refine qT rfl ?_ | refine qF rfl ?_ | ((first | refine qR rfl ?_ | refine qK ?_ | refine qE ?_ | refine qW ?_ | refine qM ?_); try simp -dsimp (maxSteps := 2000000) (disch := first | omega | (simp only [qZ] <;> omega) | fail) only [push_cast, ↓qP, ↓reduceIte, Nat.reduceEqDiff, Nat.reduceAdd, Nat.reduceMul, Nat.reduceSub, Nat.reduceLeDiff, Int.reduceToNat, reduceCtorEq, f2, f3, f4, f11, f12, c1, hcell, hc]) | (refine qA ?_ ?_; (first | omega | (simp only [qL]; omega) | (simp only [qD] at *; omega))))
      refine V_append (m := 1) _ _ _ rfl mk_63 rfl (hown.alloc _) rfl [.int .u8 k] ?r rfl (by omega) (by omega) ?kk
      case r => simp -dsimp (maxSteps := 2000000) (disch := first | omega | (simp only [qZ] <;> omega) | fail) only [push_cast, ↓qP, ↓reduceIte, Nat.reduceEqDiff, Nat.reduceAdd, Nat.reduceMul, Nat.reduceSub, Nat.reduceLeDiff, Int.reduceToNat, reduceCtorEq]
      case kk =>
        intro A' cap' w3 hown' hgrow hat
        have h2 := h1.grown hgrow hnew
        have hu : by8s [UInt8.ofNat k] = [.int .u8 k] := by simp [by8s, by8]; omega
        refine Sm.out ?_
        repeat (first | refine qS ?_ | refine qB ?_ | refine qT rfl ?_ | refine qF rfl ?_ | ((first | refine qR rfl ?_ | refine qK ?_ | refine qE ?_ | refine qW ?_ | refine qM ?_); try simp -dsimp (maxSteps := 2000000) (disch := first | omega | (simp only [qZ] <;> omega) | fail) only [push_cast, ↓qP, ↓reduceIte, Nat.reduceEqDiff, Nat.reduceAdd, Nat.reduceMul, Nat.reduceSub, Nat.reduceLeDiff, Int.reduceToNat, reduceCtorEq, f2, f3, f4, f11, f12]) | (refine qA ?_ ?_; (first | omega | (simp only [qL]; omega) | (simp only [qD] at *; omega))))
        refine Again.mk (k + 1) ⟨A', n + 1, cap', by simp [upd, f2], by simp [upd, f3], by simp [upd, f4], by simp [upd], by simp [upd], by omega, ?_, by rw [hsucc]; simp; omega, ?_, h2⟩ (by omega)
        · rw [hsucc, by8s_append, hu]; exact hown'
        · intro g hg
          rcases hat with h | h
          · exact hnew g (h ▸ hg)
          · rw [h] at hg; simp at hg; subst hg; omega
    · rw [if_neg (show ¬ (set.getD k false != nt) = true from by rw [show (set.getD k false != nt) = false from hc]; simp)] at hsucc
      repeat (first | refine qS ?_ | refine qB ?_ | refine qT rfl ?_ | refine qF rfl ?_ | ((first | refine qR rfl ?_ | refine qK ?_ | refine qE ?_ | refine qW ?_ | refine qM ?_); try simp -dsimp (maxSteps := 2000000) (disch := first | omega | (simp only [qZ] <;> omega) | fail) only [push_cast, ↓qP, ↓reduceIte, Nat.reduceEqDiff, Nat.reduceAdd, Nat.reduceMul, Nat.reduceSub, Nat.reduceLeDiff, Int.reduceToNat, reduceCtorEq, f2, f3, f4, f11, f12, c1, hcell, hc]) | (refine qA ?_ ?_; (first | omega | (simp only [qL]; omega) | (simp only [qD] at *; omega))))
      exact Again.mk (k + 1) ⟨A, n, cap, by simp [upd, f2], by simp [upd, f3], by simp [upd, f4], by simp [upd, f11], by simp [upd], by omega, by rw [hsucc]; exact hown, by rw [hsucc]; exact hn, hnew, h1⟩ (by omega)
  · have c1 : decide ((k : Int) < 256) = false := decide_eq_false (by omega)
    have hkb : bytesK set nt k = bytesOf set nt := by rw [show k = 256 by omega]; rfl
    rw [hkb] at hown hn
    have hltr := h1.r.lt
    have hrr := h1.r.rdc
    have hrz := h1.r.fz
    repeat (first | refine qS ?_ | refine qB ?_ | refine qT rfl ?_ | refine qF rfl ?_ | ((first | refine qR rfl ?_ | refine qK ?_ | refine qE ?_ | refine qW ?_ | refine qM ?_); try simp -dsimp (maxSteps := 2000000) (disch := first | omega | (simp only [qZ] <;> omega) | fail) only [push_cast, ↓qP, ↓reduceIte, Nat.reduceEqDiff, Nat.reduceAdd, Nat.reduceMul, Nat.reduceSub, Nat.reduceLeDiff, Int.reduceToNat, reduceCtorEq, f2, f3, f4, f11, f12, c1]) | (refine qA ?_ ?_; (first | omega | (simp only [qL]; omega) | (simp only [qD] at *; omega))))
    refine V_str 63 9 _ rfl se_63 ik_5 isStr_9 (bytesOf set nt) rfl hn (by8s_str hown hn) ?_
    refine Sm.out ?_
    repeat (first | refine qS ?_ | refine qB ?_ | refine qT rfl ?_ | refine qF rfl ?_ | ((first | refine qR rfl ?_ | refine qK ?_ | refine qE ?_ | refine qW ?_ | refine qM ?_); try simp -dsimp (maxSteps := 2000000) (disch := first | omega | (simp only [qZ] <;> omega) | fail) only [push_cast, ↓qP, ↓reduceIte, Nat.reduceEqDiff, Nat.reduceAdd, Nat.reduceMul, Nat.reduceSub, Nat.reduceLeDiff, Int.reduceToNat, reduceCtorEq, f2, hrr, hrz]) | (refine qA ?_ ?_; (first | omega | (simp only [qL]; omega) | (simp only [qD] at *; omega))))
    exact h1.out (t := .node opSet (bytesOf set nt) [] 0 0) (cs := [.string (B opSet), .string (B (bytesOf set nt)), .slice none 0 0, .int .i64 0, .int .i64 0]) hbr (by simp [upd, f2]) rfl (fun w' => set_is _ _ _ _)
end
end Go.Proofs.Ytddichibegppjaa
